/- Part of a proof of pruneShows_holds. -/
import Derived.Test.YthhbkabdhkdafaaGreatUBhQ
set_option linter.unusedSimpArgs false
set_option linter.unusedVariables false
set_option maxRecDepth 100000
set_option maxHeartbeats 16000000
namespace Go.Proofs.YthhbkabdhkdafaaGreat
section
open Go.RowKit
theorem flat_set2 {α : Type} (E : α → List Value) (n : Nat) (hE : ∀ x, (E x).length = n) (i j : Nat) (hi : i < n) (hj : j < n) (a b : Value) : ∀ (ps : List α) (k : Nat) (hk : k < ps.length) (q : α), E q = ((E ps[k]).set i a).set j b → ((ps.flatMap E).set (k * n + i) a).set (k * n + j) b = (ps.set k q).flatMap E
 | x :: r, 0, hk, q, e => by
   simp only [List.flatMap_cons, Nat.zero_mul, Nat.zero_add, List.set_cons_zero]
   rw [List.set_append_left _ _ (by rw [hE]; exact hi), List.set_append_left _ _ (by rw [List.length_set, hE]; exact hj), e]
   rfl
 | x :: r, k + 1, hk, q, e => by
   have ih := flat_set2 E n hE i j hi hj a b r k (by simpa using hk) q (by simpa using e)
   simp only [List.flatMap_cons, List.set_cons_succ]
   rw [List.set_append_right _ _ (by rw [hE, Nat.succ_mul]; omega), List.set_append_right _ _ (by rw [hE, Nat.succ_mul]; omega), hE, show (k + 1) * n + i - n = k * n + i by rw [Nat.succ_mul]; omega, show (k + 1) * n + j - n = k * n + j by rw [Nat.succ_mul]; omega, ih]
def swR (q : RR) : RR := (⟨q.1.nm, q.1.fr, q.1.tz, q.1.give, q.1.need⟩, q.2.2, q.2.1)
theorem RulO.swap {w W : World} {B g L c k : Nat} {ps : List RR} (h : RulO w B (.slice (some ⟨g, 0, none⟩) L c) ps) (hl : ps.length = L) (hk : k < ps.length) (a b : Value) (ha : ps[k].2.1 = b) (hb : ps[k].2.2 = a)
   (hW : W = (w.setCell ⟨g, k * 14 + 3, none⟩ a).setCell ⟨g, k * 14 + 4, none⟩ b ∨ W = (w.setCell ⟨g, k * 14 + 4, none⟩ b).setCell ⟨g, k * 14 + 3, none⟩ a) :
   RulO W B (.slice (some ⟨g, 0, none⟩) L c) (ps.set k (swR ps[k])) ∧ w.grownBy W (some g) := by
 subst hl
 have key : W.ownsRow B 75 14 (.slice (some ⟨g, 0, none⟩) ps.length c) ps.length (((ps.flatMap encR.enc).set (k * 14 + 3) a).set (k * 14 + 4) b) ∧ w.grownBy W (some g) := by
   rcases hW with rfl | rfl
   · have h1 := h.own.stored (k * 14 + 3) a
     have h2 := h1.1.stored (k * 14 + 4) b
     exact ⟨h2.1, grownBy_trans h1.2 h2.2⟩
   · have h1 := h.own.stored (k * 14 + 4) b
     have h2 := h1.1.stored (k * 14 + 3) a
     rw [List.set_comm _ _ (by omega)] at h2
     exact ⟨h2.1, grownBy_trans h1.2 h2.2⟩
 obtain ⟨h1, h2⟩ := key
 rw [flat_set2 encR.enc 14 (fun x => encR.len x) 3 4 (by decide) (by decide) a b ps k hk (swR ps[k]) (by subst ha hb; rfl)] at h1
 refine ⟨⟨by rw [List.length_set]; exact h1, fun q hq => ?_⟩, h2⟩
 have kp : ∀ {n : Nat} {v : Value} {xs : List Value}, w.ownsRow B 3 1 v n xs → W.ownsRow B 3 1 v n xs := fun ho => own_kept_grow ho h.own (by decide) h2
 rcases List.mem_or_eq_of_mem_set hq with hq | rfl
 · exact ⟨kp (h.int q hq).1, kp (h.int q hq).2⟩
 · have hi := h.int ps[k] (List.getElem_mem hk)
   exact ⟨kp hi.2, kp hi.1⟩
theorem own_lit {w : World} {B e n size : Nat} {v : Value} {xs : List Value} (h : w.ownsRow B e size v n xs) (hn : 1 ≤ n) : ∃ g c, v = .slice (some ⟨g, 0, none⟩) n c := by
 obtain ⟨g, cap, cur, h1, -⟩ := h.2.resolve_left (fun h => by omega)
 exact ⟨g, cap, h1⟩
structure StI (W1 wr : World) (g L n1 n2 B c : Nat) (ps : List RR) : Prop where
 r : RulO wr B (.slice (some ⟨g, 0, none⟩) L c) ps
 len : ps.length = L
 nm : (ps.map (·.1)).map Rul.nm = nmR.take L
 ok : ∀ q ∈ ps, CtR n1 n2 q.1
 g : W1.grownBy wr (some g)
theorem StI.swap {W1 w W : World} {g L n1 n2 B c k : Nat} {ps : List RR} (h : StI W1 w g L n1 n2 B c ps) (hk : k < ps.length) (a b : Value) (ha : ps[k].2.1 = b) (hb : ps[k].2.2 = a)
   (hW : W = (w.setCell ⟨g, k * 14 + 3, none⟩ a).setCell ⟨g, k * 14 + 4, none⟩ b ∨ W = (w.setCell ⟨g, k * 14 + 4, none⟩ b).setCell ⟨g, k * 14 + 3, none⟩ a) : StI W1 W g L n1 n2 B c (ps.set k (swR ps[k])) := by
 obtain ⟨h1, h2⟩ := h.r.swap h.len hk a b ha hb hW
 refine ⟨h1, by rw [List.length_set]; exact h.len, ?_, fun q hq => ?_, grownBy_trans h.g h2⟩
 · rw [← h.nm, List.map_set, List.map_set]
   apply List.ext_getElem (by simp)
   intro i p q
   rw [List.getElem_set]
   split
   · subst_vars; simp [swR]
   · rfl
 · rcases List.mem_or_eq_of_mem_set hq with hq | rfl
   · exact h.ok q hq
   · have := h.ok ps[k] (List.getElem_mem hk)
     exact ⟨this.fr, this.tz, this.gl, this.nl, this.g2, this.n2⟩
theorem StI.bw {W1 w W : World} {g L n1 n2 B c : Nat} {ps : List RR} (h : StI W1 w g L n1 n2 B c ps) (k : Bw w W) : StI W1 W g L n1 n2 B c ps := ⟨h.r.bw k, h.len, h.nm, h.ok, gb_bw h.g k⟩
def SteadyPost (w : World) (b : Nat) (e : Ending) (w' : World) : Prop := ∃ (m : Mdl) (sv pv rv kv : Value), e = .returned (aggM sv pv rv kv) ∧ CtOk m ∧ MAt w' (fun g => w.heap.size ≤ g ∧ g < w'.heap.size) sv pv rv kv m ∧ DiceOk w' b ∧ w.grownBy w' (some b)
theorem psteady_any (w : World) (b : Nat) (hd : DiceOk w b) : Calls Tryz.prog 8 #[.pointer (some ⟨b, 0, none⟩)] w (SteadyPost w b) := by
 have hbl := hd.lt
 have CT : Hid (∀ W, DiceOk W b → Calls Tryz.prog 25 #[.pointer (some ⟨b, 0, none⟩), .bool false] W (CounterPost W b)) := Lib.hid (fun W h => pcounter_any W b h)
 have HD := Lib.hid hd
 clear hd
 go_enter Tryz.func8, Tryz.ntmps8
 go_upto_region 2 with (go_at_call 25; go_must (refine (CT.out _ (HD.out.al _)).mono ?_; rintro e w1 ⟨m, sv, pv, rv, kv, ps, B, rfl, hct, hs, hp, hr, hB, hpm, hk, hd1, hg1⟩; (obtain ⟨gr, rc, rfl⟩ : ∃ gr rc, rv = .slice (some ⟨gr, 0, none⟩) ps.length rc := own_lit hr.own (by rw [← List.length_map (f := (·.1)), hpm]; exact hct.r1.1)); (obtain ⟨SA, sn, sc, rfl, -⟩ := hs.form); (obtain ⟨PA, pn, pc, rfl, -⟩ := hp.form); (obtain ⟨KA, kn, kc, rfl, -⟩ := hk.form); (have HC := Lib.hid (And.intro hct (And.intro hs (And.intro hp (And.intro hr (And.intro hB (And.intro hpm (And.intro hk (And.intro hd1 hg1))))))))); clear hct hs hp hr hB hpm hk hd1 hg1))
 have hgr : w.heap.size < gr ∧ gr < w1.heap.size := by
   have h1 := HC.out.2.2.2.1.own.lt gr rfl
   have h2 := HC.out.2.2.2.2.1
   simp at h2
   omega
 have hL : ps.length = m.rs.length := by rw [← HC.out.2.2.2.2.2.1, List.length_map]
 have hL1 := HC.out.1.r1
 have hz1 := HC.out.2.2.2.2.2.2.2.2.size
 simp at hz1
 refine wp_world (fun W => Hid (Blk W w1.heap.size 33 (mdA (.slice SA sn sc) (.slice PA pn pc) (.slice (some ⟨gr, 0, none⟩) ps.length rc) (.slice KA kn kc)) ∧ Bw w1 W ∧ StI W W gr ps.length m.ss.length m.ps.length B rc ps)) (Lib.hid ⟨Blk.new w1 _ _, (Bw.refl _).alloc _, HC.out.2.2.2.1.bw ((Bw.refl _).alloc _), rfl, by rw [HC.out.2.2.2.2.2.1, hL]; exact HC.out.1.rn, fun q hq => HC.out.1.ru q.1 (by rw [← HC.out.2.2.2.2.2.1]; exact List.mem_map.2 ⟨q, hq, rfl⟩), World.grownBy.refl _ _⟩) ?_
 intro W1 HW1
 have hL3 : 1 ≤ ps.length ∧ ps.length ≤ 3 := by omega
 have HQ : Hid (StI W1 W1 gr ps.length m.ss.length m.ps.length B rc ps) := Lib.hid HW1.out.2.2
 have hpl := HC.out.1.pl
 have hsl := HC.out.1.sl
 have HL : Hid (ps.length = m.rs.length) := Lib.hid hL
 clear hL hL1
 generalize hLL : ps.length = L at *
 have hg3 : gr ≠ w1.heap.size := by omega
 go_wp2_with fail
 go_loopw [4] (fun i wr => ∃ k : Nat, k ≤ L ∧ i = .int .i64 k ∧ Hid (∃ ps', StI W1 wr gr L m.ss.length m.ps.length B rc ps')) (fun i _ => L - (intOf i).toNat)
 case atStart => exact ⟨0, by omega, rfl, Lib.hid ⟨ps, HQ.out⟩⟩
 case round =>
   obtain ⟨wo, hwo⟩ : ∃ wo, wo = wr := ⟨_, rfl⟩
   subst hwo
   obtain ⟨k, hk, rfl, HR⟩ := hrel
   obtain ⟨ps', hI⟩ := HR.out
   have hm := gb_blk HW1.out.1 hI.g (Ne.symm hg3)
   have m7 := hm.cell 7
   have hml := hm.lt
   by_cases hlt : k < L
   · have hlt' : (k : Int) < (L : Int) := by omega
     have hlp : k < ps'.length := by rw [hI.len]; exact hlt
     obtain ⟨A1, c1, e1⟩ := own_form (hI.r.int _ (List.getElem_mem hlp)).1
     obtain ⟨A2, c2, e2⟩ := own_form (hI.r.int _ (List.getElem_mem hlp)).2
     have hok := hI.ok _ (List.getElem_mem hlp)
     rw [hok.nl] at e1
     rw [hok.gl] at e2
     have hcell : ∀ j, j < 14 → wo.cell? ⟨gr, k * 14 + j, none⟩ = (rlCells ps'[k].1 ps'[k].2.1 ps'[k].2.2)[j]? := fun j hj => by
       have h1 := hI.r.own
       rw [hI.len] at h1
       exact (h1.cellAt (k * 14 + j) (by omega)).trans (flat_get encR hlp hj)
     rw [e1, e2] at hcell
     have x0 : wo.cell? ⟨gr, k * 14, none⟩ = some (.string ps'[k].1.nm) := hcell 0 (by decide)
     have x1 : wo.cell? ⟨gr, k * 14 + 1, none⟩ = some (.int .i64 ps'[k].1.fr) := hcell 1 (by decide)
     have x2 : wo.cell? ⟨gr, k * 14 + 2, none⟩ = some (.int .i64 ps'[k].1.tz) := hcell 2 (by decide)
     have x3 : wo.cell? ⟨gr, k * 14 + 3, none⟩ = some (.slice A1 m.ps.length c1) := hcell 3 (by decide)
     have x4 : wo.cell? ⟨gr, k * 14 + 4, none⟩ = some (.slice A2 m.ps.length c2) := hcell 4 (by decide)
     have x5 : wo.cell? ⟨gr, k * 14 + 5, none⟩ = some (.slice none 0 0) := hcell 5 (by decide)
     have x6 : wo.cell? ⟨gr, k * 14 + 6, none⟩ = some (.int .i64 0) := hcell 6 (by decide)
     have x7 : wo.cell? ⟨gr, k * 14 + 7, none⟩ = some (.int .i64 0) := hcell 7 (by decide)
     have x8 : wo.cell? ⟨gr, k * 14 + 8, none⟩ = some (.int .i64 0) := hcell 8 (by decide)
     have x9 : wo.cell? ⟨gr, k * 14 + 9, none⟩ = some (.slice none 0 0) := hcell 9 (by decide)
     have x10 : wo.cell? ⟨gr, k * 14 + 10, none⟩ = some (.slice none 0 0) := hcell 10 (by decide)
     have x11 : wo.cell? ⟨gr, k * 14 + 11, none⟩ = some (.slice none 0 0) := hcell 11 (by decide)
     have x12 : wo.cell? ⟨gr, k * 14 + 12, none⟩ = some (.slice none 0 0) := hcell 12 (by decide)
     have x13 : wo.cell? ⟨gr, k * 14 + 13, none⟩ = some (.int .i64 0) := hcell 13 (by decide)
     have HE : Hid (ps'[k].2.1 = .slice A1 m.ps.length c1 ∧ ps'[k].2.2 = .slice A2 m.ps.length c2) := Lib.hid ⟨e1, e2⟩
     have hgl := (hI.r.own.lt gr rfl).2
     have HI := Lib.hid hI
     have HM := Lib.hid hm
     have HOK := Lib.hid hok
     have HLP := Lib.hid hlp
     clear hI hm hok HR hcell e1 e2 HQ
     have hIA1 := own_iat2 (HI.out.r.int _ (List.getElem_mem hlp)).1
     have hIA2 := own_iat2 (HI.out.r.int _ (List.getElem_mem hlp)).2
     rw [HE.out.1] at hIA1
     rw [HE.out.2] at hIA2
     have HIA := Lib.hid (And.intro hIA1 hIA2)
     have hB := HC.out.2.2.2.2.1
     have HCT := Lib.hid (And.intro HOK.out.nl HOK.out.gl)
     clear hIA1 hIA2
     generalize hnm : ps'[k].1.nm = nm at *
     generalize hfr : ps'[k].1.fr = fr at *
     generalize htt : ps'[k].1.tz = tt at *
     generalize hnd : ps'[k].1.need = nd at *
     generalize hgv : ps'[k].1.give = gv at *
     go_upto_region 8 with fail
     refine wp_world (fun W => Hid (Blk W wo.heap.size 75 #[.string nm, .int .i64 fr, .int .i64 tt, .slice A1 m.ps.length c1, .slice A2 m.ps.length c2, .slice none 0 0, .int .i64 0, .int .i64 0, .int .i64 0, .slice none 0 0, .slice none 0 0, .slice none 0 0, .slice none 0 0, .int .i64 0] ∧ Bw wo W)) (Lib.hid ⟨Blk.new wo _ _, (Bw.refl _).alloc _⟩) ?_
     clear x0 x1 x2 x3 x4 x5 x6 x7 x8 x9 x10 x11 x12 x13 m7 hml hgl
     intro W2 HW2
     have HW2P : Hid (Bw wo W2) := Lib.hid HW2.out.2
     go_loopw [6, 7, 8] (fun x y j wi => ∃ (jn : Nat) (a c : Int), jn ≤ m.ps.length ∧ x = .int .i64 a ∧ y = .int .i64 c ∧ j = .int .i64 jn ∧ Hid (Bw W2 wi)) (fun _ _ j _ => m.ps.length - (intOf j).toNat)
     case atStart => exact ⟨0, 0, 0, by omega, rfl, rfl, rfl, Lib.hid (Bw.refl _)⟩
     case round =>
       obtain ⟨wi0, hwi⟩ : ∃ wi0, wi0 = wr := ⟨_, rfl⟩
       subst hwi
       obtain ⟨jn, a, c, hjn, rfl, rfl, rfl, HB⟩ := hrel
       have hb := HW2.out.1.below HB.out.b HW2.out.1.lt
       have y3 : wi0.cell? ⟨wo.heap.size, 3, none⟩ = some (.slice A1 m.ps.length c1) := hb.cell 3
       have y4 : wi0.cell? ⟨wo.heap.size, 4, none⟩ = some (.slice A2 m.ps.length c2) := hb.cell 4
       have yl := hb.lt
       have HX := Lib.hid hb
       clear hb
       by_cases hj : jn < m.ps.length
       · have hj' : (jn : Int) < (m.ps.length : Int) := by omega
         obtain ⟨ad1, rfl, hb1, z1⟩ := HIA.out.1.at_ (k := jn) (by rw [HCT.out.1]; exact hj)
         obtain ⟨ad2, rfl, hb2, z2⟩ := HIA.out.2.at_ (k := jn) (by rw [HCT.out.2]; exact hj)
         have hbw := HW2.out.2.trans HB.out
         have z1 := (hbw.b.cell (p := ad1.add jn) (by rw [add_block]; exact hb1.2)).trans z1
         have z2 := (hbw.b.cell (p := ad2.add jn) (by rw [add_block]; exact hb2.2)).trans z2
         generalize nd[jn]'_ = d1 at z1
         generalize gv[jn]'_ = d2 at z2
         clear hbw hb1 hb2 HIA
         go_wp2_with fail
         go_quiet (fail)
         go_wp2_with fail
         go_roundw
         case rel => exact ⟨jn + 1, _, _, by omega, rfl, rfl, by go_num, Lib.hid (HB.out.drewN _)⟩
         case measure => simp [intOf]; omega
       · clear HIA
         have hI2 := (HI.out.bw HW2.out.2).bw HB.out
         have hm2 := gb_blk HW1.out.1 hI2.g (Ne.symm hg3)
         have m7 : wi0.cell? ⟨w1.heap.size, 7, none⟩ = some (.slice (some ⟨gr, 0, none⟩) L rc) := hm2.cell 7
         have ml := hm2.lt
         have own2 := hI2.r.own
         rw [hI2.len] at own2
         have fz3 := own2.frozenAt (k * 14 + 3)
         have fz4 := own2.frozenAt (k * 14 + 4)
         have w3 : wi0.cell? ⟨gr, k * 14 + 3, none⟩ = some (.slice A1 m.ps.length c1) := (own2.cellAt (k * 14 + 3) (by omega)).trans ((flat_get encR hlp (j := 3) (by decide)).trans (by show some _ = _; rw [HE.out.1]))
         have w4 : wi0.cell? ⟨gr, k * 14 + 4, none⟩ = some (.slice A2 m.ps.length c2) := (own2.cellAt (k * 14 + 4) (by omega)).trans ((flat_get encR hlp (j := 4) (by decide)).trans (by show some _ = _; rw [HE.out.2]))
         have gl2 := (own2.lt gr rfl).2
         have hgo : gr < wo.heap.size := (HI.out.r.own.lt gr rfl).2
         have ne1 : gr ≠ wo.heap.size := by omega
         have ne2 : wo.heap.size ≠ gr := by omega
         have ne3 : w1.heap.size ≠ gr := Ne.symm hg3
         have HI2 := Lib.hid hI2
         have hlp2 := HLP.out
         clear hI2 hm2 own2 HI HM HX HW2P CT
         go_wp2_with fail
         · clear HB HW2 HCT HOK HC HD hnm hfr htt hnd hgv
           go_region
           all_goals
             go_wp2_with fail
             refine ⟨⟨k + 1, by omega, by go_num, ?_⟩, by simp [intOf]; omega⟩
             first
               | exact Lib.hid ⟨_, ((HI2.out.bw ((Bw.refl _).drewN _)).swap hlp2 _ _ HE.out.1 HE.out.2 (.inl rfl))⟩
               | exact Lib.hid ⟨_, ((HI2.out.bw ((Bw.refl _).drewN _)).swap hlp2 _ _ HE.out.1 HE.out.2 (.inr rfl))⟩
         · exact ⟨⟨k + 1, by omega, by go_num, Lib.hid ⟨_, HI2.out⟩⟩, by simp [intOf]; omega⟩
   · clear HQ HR
     have hw0 : DiceOk w b := HD.out
     obtain ⟨bl, b0, b1, b2, b3, b4, b5, b6, b7, b8, b9⟩ := hm.c10
     have hz1' : w.heap.size < w1.heap.size := by omega
     have hr1 : Blk w1 w.heap.size 33 zM10 := gb_blk (Blk.new w _ _) HC.out.2.2.2.2.2.2.2.2 (by omega)
     have hres := gb_blk (hr1.below HW1.out.2.1.b hr1.lt) hI.g (by omega)
     obtain ⟨rl, r0, r1, r2, r3, r4, r5, r6, r7, r8, r9⟩ := hres.c10
     have f0 := hres.frozen 0
     have f1 := hres.frozen 1
     have f2 := hres.frozen 2
     have f3 := hres.frozen 3
     have f4 := hres.frozen 4
     have f5 := hres.frozen 5
     have f6 := hres.frozen 6
     have f7 := hres.frozen 7
     have f8 := hres.frozen 8
     have f9 := hres.frozen 9
     have HRES := Lib.hid hres
     have HI := Lib.hid hI
     clear hres hr1 hI hm m7
     go_wp2
     have hst := blk10 (v0 := .int .i64 1) (v1 := .slice SA sn sc) (v2 := .slice PA pn pc) (v3 := .slice none 0 0) (v4 := .slice none 0 0) (v5 := .int .i64 0) (v6 := .int .i64 0) (v7 := .slice (some ⟨gr, 0, none⟩) L rc) (v8 := .int .i64 0) (v9 := .slice KA kn kc) HRES.out
     refine bodyPost_ret (results_cell_row (p := 2) (ty := 33) rfl _ _ w.heap.size 33 _ (0, 0) _ rfl hst.1 Tryz.underlying33 rfl (by kernel_rfl)) rfl ?_
     have hgf := hst.2
     have hz5 := hgf.size
     have hz4 := HI.out.g.size
     have hz3 := HW1.out.2.1.size
     obtain ⟨c1, c2, c3, c4, c5, c6, c7, c8, c9⟩ := HC.out
     have hB1 := c5
     simp only [World.size_alloc] at hB1
     have key : ∀ q : Addr, w.heap.size < q.block → q.block < w1.heap.size → gr ≠ q.block → _ = w1.cell? q := fun q h1 h2 h3 => (World.cell?_of_block (hgf.block q.block (by omega) (fun e => by injection e with e; omega))).trans ((World.cell?_of_block (HI.out.g.block q.block (by omega) (fun e => by injection e with e; exact h3 e.symm))).trans (HW1.out.2.1.b.cell h2))
     refine ⟨⟨m.ss, m.ps, ps'.map (·.1), m.st, m.cs⟩, _, _, _, _, rfl, ⟨c1.ss, c1.ps, ?_, ?_, ?_, c1.st, c1.cl, c1.c3⟩, ⟨?_, ?_, ?_, ?_⟩, ?_, ?_⟩
     · dsimp only; rw [HI.out.nm, List.length_map, HI.out.len]
     · dsimp only; rw [List.length_map, HI.out.len]; exact hL3
     · intro r hr
       obtain ⟨q, hq, rfl⟩ := List.mem_map.1 hr
       exact HI.out.ok q hq
     · exact c2.keep (fun g hg => by simp only [World.size_alloc] at hg; exact ⟨by omega, by omega⟩) (fun q hq => by simp only [World.size_alloc] at hq; exact key q (by omega) hq.2.1 (fun e => hq.2.2 (congrArg some e)))
     · exact c3.keep (fun g hg => by simp only [World.size_alloc] at hg; exact ⟨by omega, by omega⟩) (fun q hq => by simp only [World.size_alloc] at hq; exact key q (by omega) hq.2.1 (fun e => hq.2.2 (congrArg some e)))
     · exact ((HI.out.r.put hgf (by omega)).at_).keep (fun g hg => ⟨by omega, hg.2⟩) (fun _ _ => rfl)
     · exact c7.keep (fun g hg => by simp only [World.size_alloc] at hg; exact ⟨by omega, by omega⟩) (fun q hq => by simp only [World.size_alloc] at hq; exact key q (by omega) hq.2.1 (fun e => hq.2.2 (congrArg some e)))
     · exact ((((c8.bw HW1.out.2.1).grown HI.out.g (fun r e => by injection e with e; omega))).grown hgf (fun r e => by injection e with e; omega))
     · exact gb_past (gb_past (gb_bw (grownBy_trans (grownBy_alloc (World.grownBy.refl w (some b)) _) c9) HW1.out.2.1) HI.out.g (fun r e => by injection e with e; omega)) hgf (fun r e => by injection e with e; omega)
end
end Go.Proofs.YthhbkabdhkdafaaGreat
