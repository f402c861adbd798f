/- Part of a proof of basisSets_holds. -/
import Derived.Test.YtbmheekaclmibaaGreatXMgdAQ
set_option maxRecDepth 100000
set_option maxHeartbeats 16000000
namespace Go.Proofs.YtbmheekaclmibaaGreat
open Go.RowKit
set_option linter.unusedSimpArgs false
set_option linter.unusedVariables false

def mtP (t : T) (x y : V) : List V × Int := meetP (aboveP 8 t) t x y
def allM (t : T) (a b : List V) : List V := a.flatMap fun x => b.flatMap fun y => (mtP t x y).1
def ItsOut (t : T) (a b l : List V) (er : Int) : Prop := (er = 0 ∧ (∀ x ∈ a, ∀ y ∈ b, (mtP t x y).2 = 0) ∧ l = minimalP (belowP 8 t) (allM t a b) ∧ l.length ≤ 256) ∨ (er ≠ 0 ∧ (er = 1 ∨ ∃ x ∈ a, ∃ y ∈ b, er = (mtP t x y).2))
def ItsPost (t : T) (a b : List V) (w : World) (e : Ending) (w' : World) : Prop := ∃ s l er, e = .returned (.tuple #[s, .int .i64 er]) ∧ KAt w' (fun q => w.heap.size ≤ q ∧ q < w'.heap.size) s l ∧ Bw w w' ∧ ItsOut t a b l er
theorem lim_len (l : List V) : (limP l).1.length ≤ 256 := by
 unfold limP
 split
 · simp
 · simp only; omega
theorem meet_len (t : T) (x y : V) : (mtP t x y).1.length ≤ 256 := by
 unfold mtP meetP
 repeat' split
 all_goals first | simp | exact lim_len _
theorem lim_ok {l : List V} (h : (limP l).2 = 0) : (limP l).1 = l := by
 unfold limP at h ⊢
 split at h
 · cases h
 · rename_i h2; rw [if_neg h2]
theorem lim_er (l : List V) : (limP l).2 = 0 ∨ (limP l).2 = 1 := by
 unfold limP
 split
 · exact .inr rfl
 · exact .inl rfl
theorem meet_one {t : T} {x y : V} (h : (mtP t x y).2 = 0) : rightP 8 t = true ∧ meetsP 8 t false = true ∧ validP t x = true ∧ validP t y = true ∧ pairP 8 t x y = true ∧ (aboveP 8 t x y).2 = false ∧ (∀ v ∈ (mtP t x y).1, validP t v = true) ∧ (mtP t x y).1 = minimalP (belowP 8 t) (aboveP 8 t x y).1 := by
 unfold mtP meetP at h ⊢
 by_cases hr : rightP 8 t = true
 · rw [if_pos hr] at h ⊢
   by_cases hm : meetsP 8 t false = true
   · rw [if_pos hm] at h ⊢
     by_cases hv : (validP t x && validP t y) = true
     · rw [if_pos hv] at h ⊢
       by_cases hs : shortP 8 t x y = true
       · rw [if_pos hs] at h ⊢
         by_cases h2 : (aboveP 8 t x y).2 = true
         · rw [if_pos h2] at h; cases h
         · rw [if_neg h2] at h ⊢
           by_cases ha : (aboveP 8 t x y).1.all (validP t) = true
           · rw [if_pos ha] at h ⊢
             simp only [Bool.and_eq_true] at hv
             have e := lim_ok h
             rw [e]
             have hp : pairP 8 t x y = true := pair_iff.2 ⟨validP_one hv.1, validP_one hv.2, hs⟩
             refine ⟨hr, hm, hv.1, hv.2, hp, by simpa using h2, fun v hv' => ?_, rfl⟩
             exact List.all_eq_true.1 ha v ((minP_spec (below_ord hr) (fun z hz => validP_one (List.all_eq_true.1 ha z hz))).2.1 v hv')
           · rw [if_neg ha] at h; cases h
       · rw [if_neg hs] at h; cases h
     · rw [if_neg hv] at h; cases h
   · rw [if_neg hm] at h; cases h
 · rw [if_neg hr] at h; cases h
theorem allM_take {t : T} {a b : List V} {k : Nat} (h : k < a.length) : allM t (a.take (k + 1)) b = allM t (a.take k) b ++ b.flatMap fun y => (mtP t a[k] y).1 := by
 unfold allM
 rw [List.take_succ_eq_append_getElem h, List.flatMap_append]; simp
theorem flat_take_ {t : T} {x : V} {b : List V} {k : Nat} (h : k < b.length) : ((b.take (k + 1)).flatMap fun y => (mtP t x y).1) = ((b.take k).flatMap fun y => (mtP t x y).1) ++ (mtP t x b[k]).1 := by
 rw [List.take_succ_eq_append_getElem h, List.flatMap_append]; simp
theorem flat_len (t : T) (x : V) (b : List V) : (b.flatMap fun y => (mtP t x y).1).length ≤ 256 * b.length := by
 induction b with
 | nil => simp
 | cons y r ih =>
   rw [List.flatMap_cons, List.length_append, List.length_cons]
   have := meet_len t x y
   omega
theorem allM_len (t : T) (a b : List V) : (allM t a b).length ≤ 256 * b.length * a.length := by
 induction a with
 | nil => simp [allM]
 | cons x r ih =>
   unfold allM at ih ⊢
   rw [List.flatMap_cons, List.length_append, List.length_cons, Nat.mul_succ]
   have := flat_len t x b
   omega
theorem bIntersect_any (t : T) (a b : List V) (hc : checkAB t a b = 0) (ha9 : a.length ≤ 10) (hb9 : b.length ≤ 10) (rv pv s s2 : Value) (w : World) (hT : TB w w.heap.size rv pv t) (h : KB w w.heap.size s a) (h2 : KB w w.heap.size s2 b) :
   Calls Tryz.prog 35 #[.agg #[.int .i64 t.kind, .int .i64 t.size, rv, pv], s, s2] w (ItsPost t a b w) := by
 obtain ⟨A, n, c, rfl, ln, bn, mn⟩ := h.form
 obtain ⟨B, m, e, rfl, lm, bm, mm⟩ := h2.form
 obtain ⟨A1, rn, c1, rfl, _, _⟩ := hT.1.form'
 obtain ⟨A2, pn, c2, rfl, _, _, _⟩ := hT.2.form
 obtain ⟨za, zb⟩ := checkAB_zero hc
 have za := checkB_zero.1 za
 have zb := checkB_zero.1 zb
 obtain ⟨i0, hi, hz0, hz1, hz2⟩ := info_parts infoVal
 have CK : Hid (∀ W, Bw w W → Calls Tryz.prog 47 #[.agg #[.int .i64 t.kind, .int .i64 t.size, .slice A1 rn c1, .slice A2 pn c2], .slice A n c, .slice B m e] W (NumPost W 0)) := Lib.hid (fun W g => by
   have := bcheck_any t a b _ _ _ _ W (TAt.bw hT g) (h.bw g) (h2.bw g)
   rwa [hc] at this)
 have CM : Hid (∀ (k : Nat) (hk : k < a.length) (j : Nat) (hj : j < b.length) (s1 s2 : Value) W, Bw w W → KB W W.heap.size s1 a[k].ks → KB W W.heap.size s2 b[j].ks → Calls Tryz.prog 32 #[.agg #[.int .i64 t.kind, .int .i64 t.size, .slice A1 rn c1, .slice A2 pn c2], .agg #[.int .i64 a[k].n, s1], .agg #[.int .i64 b[j].n, s2]] W (ValsErr W (mtP t a[k] b[j]).1 (mtP t a[k] b[j]).2)) := Lib.hid (fun k hk j hj s1 s2 W g h1 h2 => bMeetA_any t a[k] b[j] _ _ _ _ W (TAt.bw hT g) h1 h2 ⟨validP_one (za.2.2.1 _ (List.getElem_mem hk)), validP_one (zb.2.2.1 _ (List.getElem_mem hj))⟩)
 have CN : Hid ((∀ x ∈ a, ∀ y ∈ b, (mtP t x y).2 = 0) → ∀ s' W, Bw w W → KB W W.heap.size s' (allM t a b) → Calls Tryz.prog 43 #[.agg #[.int .i64 t.kind, .int .i64 t.size, .slice A1 rn c1, .slice A2 pn c2], s'] W (MinPost W (minimalP (belowP 8 t) (allM t a b)))) := Lib.hid (fun h0 s' W g hk => bminimal_any t za.1 (allM t a b) (fun z hz => by
   unfold allM at hz
   obtain ⟨x, hx, hz⟩ := List.mem_flatMap.1 hz
   obtain ⟨y, hy, hz⟩ := List.mem_flatMap.1 hz
   exact validP_one ((meet_one (h0 x hx y hy)).2.2.2.2.2.2.1 z hz)) (by have := allM_len t a b; have h3 : 256 * b.length * a.length ≤ 256 * 10 * 10 := Nat.mul_le_mul (by omega) ha9; omega) _ _ _ W (TAt.bw hT g) hk)
 have CL : Hid ((∀ x ∈ a, ∀ y ∈ b, (mtP t x y).2 = 0) → ∀ s' W, KB W W.heap.size s' (minimalP (belowP 8 t) (allM t a b)) → Calls Tryz.prog 42 #[s'] W (ValsErr W (limP (minimalP (belowP 8 t) (allM t a b))).1 (limP (minimalP (belowP 8 t) (allM t a b))).2)) := Lib.hid (fun h0 s' W hk => by
   have hv : ∀ z ∈ allM t a b, validP t z = true := fun z hz => by
     unfold allM at hz
     obtain ⟨x, hx, hz⟩ := List.mem_flatMap.1 hz
     obtain ⟨y, hy, hz⟩ := List.mem_flatMap.1 hz
     exact (meet_one (h0 x hx y hy)).2.2.2.2.2.2.1 z hz
   exact blimited_any _ (fun x hx => validP_size (hv x ((minP_spec (below_ord za.1) (fun z hz => validP_one (hv z hz))).2.1 x hx))) s' W hk)
 have TX := Lib.hid (tbox (w := w) (kd := t.kind) (z := t.size) (r := .slice A1 rn c1) (p := .slice A2 pn c2))
 have HB1 : Hid (Bw w (w.alloc (.cells #[.int .i64 t.kind, .int .i64 t.size, .slice A1 rn c1, .slice A2 pn c2] 29))) := Lib.hid ((Bw.refl _).alloc _)
 have HA := Lib.hid h
 have HB := Lib.hid h2
 have LN := Lib.hid (And.intro ln lm)
 have hn10 : n ≤ 10 := by omega
 have hm10 : m ≤ 10 := by omega
 unfold ItsPost
 clear hT h h2 hc za zb ln lm ha9 hb9
 generalize t.kind = kd at *
 generalize t.size = z at *
 unfold MinPost at CN
 unfold ValsErr at CL CM
 go_enter Tryz.func35, Tryz.ntmps35
 go_wp2_with (go_at_call 47; go_must ((with_reducible refine (CK.out _ HB1.out).mono ?_); rintro e6 w6 ⟨rfl, hg6⟩; (have HG6 := Lib.hid hg6); clear hg6))
 go_loopw [9, 25] (fun s9 i wr => ∃ k : Nat, k ≤ n ∧ i = .int .i64 k ∧ Hid (∃ ps, PRow wr (w.heap.size + 1) s9 ps ∧ ps.map (·.1) = allM t (a.take k) b ∧ (∀ x ∈ a.take k, ∀ y ∈ b, (mtP t x y).2 = 0) ∧ Bw (w.alloc (.cells #[.int .i64 kd, .int .i64 z, .slice A1 rn c1, .slice A2 pn c2] 29)) wr)) (fun _ i _ => n - (intOf i).toNat)
 case atStart => exact ⟨0, by omega, by go_num, Lib.hid ⟨[], PRow.nil _ _, by simp [allM], by simp, HG6.out⟩⟩
 case round =>
   obtain ⟨k, hk, rfl, HR⟩ := hrel
   obtain ⟨ps, hp, hpm, h0, hg⟩ := HR.out
   obtain ⟨VA, vc, rfl, _, _⟩ := hp.form
   have hwr : Bw w wr := HB1.out.trans hg
   have HP := Lib.hid hp
   have HPM := Lib.hid hpm
   have H0 := Lib.hid h0
   have HG := Lib.hid hg
   clear HR
   by_cases hlt : k < n
   rotate_left
   · obtain rfl : k = n := by omega
     have ea : a.take k = a := List.take_of_length_le (by rw [LN.out.1]; omega)
     rw [ea] at hpm h0
     have CN2 := Lib.hid (CN.out h0)
     have CL2 := Lib.hid (CL.out h0)
     have HKB : Hid (KB wr wr.heap.size (.slice VA ps.length vc) (allM t a b)) := Lib.hid (by have := hp.kb; rwa [hpm] at this)
     have HWR := Lib.hid hwr
     have HZ0 := Lib.hid h0
     obtain ⟨y0, -, y1, y2, y3, y4⟩ := TX.out wr hg
     clear hp hpm h0 hg hwr CN CL CM CK
     go_wp2_with (first
       | (go_at_call 43; go_must ((with_reducible refine (CN2.out _ _ HWR.out HKB.out).mono ?_); rintro e7 w7 ⟨s7, qs, rfl, hm7, he7, hg7⟩; obtain ⟨A7, c7, rfl, _, _⟩ := hm7.form; (have HK7 : Hid (KB w7 w7.heap.size (.slice A7 qs.length c7) (minimalP (belowP 8 t) (allM t a b))) := Lib.hid (by have := hm7.kb hg7.size; rwa [he7] at this)); (have HG7 : Hid (Bw w w7) := Lib.hid (HWR.out.trans hg7)); clear hm7 he7 hg7))
       | (go_at_call 42; go_must ((with_reducible refine (CL2.out _ _ HK7.out).mono ?_); rintro e8 w8 ⟨s8, rfl, hk8, hg8⟩; obtain ⟨A8, n8, c8, rfl, _, _, _⟩ := hk8.form; (have HK8 := Lib.hid hk8); (have HG8 := Lib.hid hg8); clear hk8 hg8)))
     go_ret2
     have hsz := HG7.out.size
     refine ⟨_, _, _, rfl, HK8.out.keep (fun q hq => ⟨by omega, hq.2⟩) (fun _ _ => rfl), HG7.out.trans HG8.out, ?_⟩
     rcases lim_er (minimalP (belowP 8 t) (allM t a b)) with hz | hz
     · exact .inl ⟨hz, HZ0.out, lim_ok hz, lim_len _⟩
     · exact .inr ⟨by omega, .inl hz⟩
   have e1 : k < a.length := by rw [LN.out.1]; exact hlt
   obtain ⟨ad, sA, sn, sc, rfl, hb0, qq0, qq1, sl, hs⟩ := HA.out.at_ e1
   have q0 := (hwr.b.cell (p := ad.add (k * 2)) (by rw [add_block]; exact hb0)).trans qq0
   have q1 := (hwr.b.cell (p := ⟨(ad.add (k * 2)).block, (ad.add (k * 2)).off + 1, none⟩) (by show (ad.add (k * 2)).block < _; rw [add_block]; exact hb0)).trans qq1
   have hb : ad.block < wr.heap.size := Nat.lt_of_lt_of_le hb0 hwr.size
   have HS := Lib.hid hs
   have HWR := Lib.hid hwr
   have H1 : Hid (allM t (a.take (k + 1)) b = allM t (a.take k) b ++ b.flatMap fun y => (mtP t a[k] y).1) := Lib.hid (allM_take e1)
   have CM2 := Lib.hid (CM.out k e1)
   have H2 : Hid ((∀ y ∈ b, (mtP t a[k] y).2 = 0) → ∀ x ∈ a.take (k + 1), ∀ y ∈ b, (mtP t x y).2 = 0) := Lib.hid (fun hy x hx => by
     rw [List.take_succ_eq_append_getElem e1] at hx
     rcases List.mem_append.1 hx with hx | hx
     · exact H0.out x hx
     · obtain rfl := List.mem_singleton.1 hx; exact hy)
   have H3 : Hid (a[k] ∈ a) := Lib.hid (List.getElem_mem e1)
   have dz0 : (0 : Int) ≤ (k : Int) := by omega
   have dz1 : (k : Int) < (n : Int) := by omega
   have HOO : Hid (∀ q, (Value.slice VA ps.length vc).ownBlock = some q → q < wr.heap.size) := Lib.hid (fun q e => (hp.own.lt q e).2)
   clear hp hpm h0 hg hwr hs sl CN CL CM CK qq0 qq1 hb0
   generalize hx : a[k] = x at *
   generalize hxn : x.n = xn at *
   have HXN := Lib.hid hxn
   clear hx hxn
   obtain ⟨wo, rfl⟩ : ∃ wo : World, wo = wr := ⟨_, rfl⟩
   go_wp2_with fail
   go_loopw [9, 31] (fun s9 i wi => ∃ j : Nat, j ≤ m ∧ i = .int .i64 j ∧ Hid (∃ ps, PRow wi (w.heap.size + 1) s9 ps ∧ ps.map (·.1) = allM t (a.take k) b ++ ((b.take j).flatMap fun y => (mtP t x y).1) ∧ (∀ y ∈ b.take j, (mtP t x y).2 = 0) ∧ Bw (w.alloc (.cells #[.int .i64 kd, .int .i64 z, .slice A1 rn c1, .slice A2 pn c2] 29)) wi ∧ Blk wi wo.heap.size 39 #[.int .i64 xn, .slice sA sn sc] ∧ ∀ q, s9.ownBlock = some q → q ≠ wo.heap.size)) (fun _ i _ => m - (intOf i).toNat)
   case atStart => exact ⟨0, by omega, by go_num, Lib.hid ⟨ps, HP.out.bw ((Bw.refl _).alloc _), by rw [HPM.out]; simp, by simp, HG.out.alloc _, Blk.new _ _ _, fun q e => by have := HOO.out q e; omega⟩⟩
   case round =>
     clear HP HPM q0 q1 hb
     obtain ⟨j, hj, rfl, HR⟩ := hrel
     obtain ⟨ps2, hp, hpm, h0, hg, hbX, hne⟩ := HR.out
     obtain ⟨VB, vd, rfl, _, _⟩ := hp.form
     have hgo : Bw w wr := HB1.out.trans hg
     have HBX := Lib.hid hbX
     have HNE := Lib.hid hne
     have HP := Lib.hid hp
     have HPM := Lib.hid hpm
     have HZ := Lib.hid h0
     have HGO := Lib.hid hgo
     have HGI := Lib.hid hg
     clear HR
     by_cases hltj : j < m
     rotate_left
     · obtain rfl : j = m := by omega
       have eb : b.take j = b := List.take_of_length_le (by rw [LN.out.2]; omega)
       rw [eb] at hpm h0
       have HF := Lib.hid (And.intro hpm h0)
       clear hp hpm h0 hg hgo hbX hne
       generalize ps2.length = pl at *
       go_wp2_with fail
       go_roundw
       case rel => exact ⟨k + 1, by omega, by go_num, Lib.hid ⟨ps2, HP.out, by rw [HF.out.1, H1.out], H2.out HF.out.2, HGI.out⟩⟩
       case measure => simp [intOf]; omega
     have e2 : j < b.length := by rw [LN.out.2]; exact hltj
     obtain ⟨ad2, tA, tn, tc, rfl, hb2, r0, r1, tl, ht⟩ := (HB.out.bw hgo).at_ e2
     have CM3 := Lib.hid (fun W (g : Bw wr W) => CM2.out j e2 (.slice sA sn sc) (.slice tA tn tc) W (hgo.trans g) (HS.out.bw (hgo.trans g)) (ht.bw g))
     have H4 : Hid ((b.take (j + 1)).flatMap (fun y => (mtP t x y).1) = (b.take j).flatMap (fun y => (mtP t x y).1) ++ (mtP t x b[j]).1) := Lib.hid (flat_take_ e2)
     have H5 : Hid (b[j] ∈ b ∧ ((mtP t x b[j]).2 = 0 → ∀ y ∈ b.take (j + 1), (mtP t x y).2 = 0)) := Lib.hid ⟨List.getElem_mem e2, fun hz y hy => by
       rw [List.take_succ_eq_append_getElem e2] at hy
       rcases List.mem_append.1 hy with hy | hy
       · exact HZ.out y hy
       · obtain rfl := List.mem_singleton.1 hy; exact hz⟩
     have HLL : Hid (ps2.length ≤ 256 * 10 * 10 + 256 * 10) := Lib.hid (by
       have h1 := congrArg List.length hpm
       rw [List.length_map, List.length_append] at h1
       have h2 := allM_len t (a.take k) b
       have h3 := flat_len t x (b.take j)
       have h4 : (a.take k).length ≤ 10 := by rw [List.length_take]; omega
       have h5 : (b.take j).length ≤ 10 := by rw [List.length_take]; omega
       have h6 : b.length ≤ 10 := by rw [LN.out.2]; exact hm10
       have h7 : 256 * b.length * (a.take k).length ≤ 256 * 10 * 10 := Nat.mul_le_mul (by omega) h4
       omega)
     have HML : Hid ((mtP t x b[j]).1.length ≤ 256) := Lib.hid (meet_len t x _)
     have hll := HLL.out
     have KS : Hid (∀ o, (wr.alloc o).cell? ⟨w.heap.size, 0, none⟩ = some (.int .i64 kd) ∧ (wr.alloc o).cell? ⟨w.heap.size, 1, none⟩ = some (.int .i64 z) ∧ (wr.alloc o).cell? ⟨w.heap.size, 2, none⟩ = some (.slice A1 rn c1) ∧ (wr.alloc o).cell? ⟨w.heap.size, 3, none⟩ = some (.slice A2 pn c2) ∧ (wr.alloc o).cell? ⟨wo.heap.size, 0, none⟩ = some (.int .i64 xn) ∧ (wr.alloc o).cell? ⟨wo.heap.size, 1, none⟩ = some (.slice sA sn sc)) := Lib.hid (fun o => by
       obtain ⟨_, _, k1, k2, k3, k4⟩ := TX.out (wr.alloc o) (hg.trans ((Bw.refl wr).alloc o))
       have := hbX.alloc o
       exact ⟨k1, k2, k3, k4, this.cell 0, this.cell 1⟩)
     have g0 := fun o => (KS.out o).1
     have g1 := fun o => (KS.out o).2.1
     have g2 := fun o => (KS.out o).2.2.1
     have g3 := fun o => (KS.out o).2.2.2.1
     have g4 := fun o => (KS.out o).2.2.2.2.1
     have g5 := fun o => (KS.out o).2.2.2.2.2
     have hxl := hbX.lt
     have dz2 : (0 : Int) ≤ (j : Int) := by omega
     have dz3 : (j : Int) < (m : Int) := by omega
     have hbb : (ad2.add (j * 2)).block < wr.heap.size := by rw [add_block]; exact hb2
     clear hp hpm h0 hg hgo ht tl hbX hne KS CM2 HS hb2
     generalize hy : b[j] = y at *
     generalize hyn : y.n = yn at *
     clear hy hyn
     generalize hmt : mtP t x y = mt at *
     have HMT := Lib.hid hmt
     clear hmt
     obtain ⟨ml, me⟩ := mt
     simp only at CM3 H4 H5 HML
     by_cases hme : me = 0
     rotate_left
     · have d1 : (me != 0) = true := by simpa using hme
       have d2 : (me == 0) = false := by simpa using hme
       go_wp2_with (go_at_call 32; go_must ((with_reducible refine (CM3.out _ ((Bw.refl wr).alloc _)).mono ?_); rintro e7 w7 ⟨s7, rfl, hk7, hg7⟩; obtain ⟨A7, n7, c7, rfl, _, _, _⟩ := hk7.form; (have HG7 := Lib.hid hg7); clear hk7 hg7))
       go_ret2
       exact ⟨_, [], _, rfl, KAt.nil _ _ (Nat.zero_le _), HGO.out.trans (((Bw.refl wr).alloc _).trans HG7.out), .inr ⟨hme, .inr ⟨x, H3.out, y, H5.out.1, by rw [HMT.out]⟩⟩⟩
     subst hme
     have HOW : Hid (∀ q, (Value.slice VB ps2.length vd).ownBlock = some q → w.heap.size + 1 ≤ q ∧ q < wr.heap.size) := Lib.hid (fun q e => HP.out.own.lt q e)
     go_wp2_with (first
       | (go_at_call 32; (with_reducible refine (CM3.out _ ((Bw.refl wr).alloc _)).mono ?_); rintro e7 w7 ⟨s7, rfl, hk7, hg7⟩; obtain ⟨A7, n7, c7, rfl, l7, _, _⟩ := hk7.form; obtain ⟨qs, hq1, hq2, hq3, hq4⟩ := KAt.reads (B := w7.heap.size) hk7 (fun q hq => hq.2); (have HG7 := Lib.hid hg7); (have HWB : Hid (Bw wr w7) := Lib.hid (((Bw.refl wr).alloc _).trans hg7)); (have HQ1 := Lib.hid hq1); (have HQ2 := Lib.hid hq2); (have HQ3 := Lib.hid hq3); (have HQ4 := Lib.hid hq4); (have hn7 : n7 ≤ 256 := by rw [← l7]; exact HML.out); (have HQL : Hid (qs.length = n7) := Lib.hid (by rw [← l7, ← hq1]; simp)); (have HWS : Hid (w.heap.size + 1 ≤ w7.heap.size) := Lib.hid (by have := (HGI.out.trans HWB.out).size; simpa using this)); clear hq1 hq2 hq3 hq4 hk7 hg7 l7)
       | (at_builtin; refine wpList_append_any _ rfl _ _ 31 rfl (w.heap.size + 1) 39 i0 _ 2 32 Tryz.underlying31 hi hz0 hz1 hz2 rfl (by decide) (.slice VB ps2.length vd) ps2.length (pCells ps2) rfl (HP.out.bw HWB.out).own w7.heap.size A7 n7 c7 (pCells qs) rfl HQ2.out HQ4.out (by unfold maxLen; omega) (by omega) HWS.out ?_; intro v8 w8 hown8 hgr8 hl8; obtain ⟨A8, c8, rfl⟩ := own_form hown8; (have HO8 := Lib.hid hown8); (have HG8 := Lib.hid hgr8); (have HL8 := Lib.hid hl8); clear hown8 hgr8 hl8))
     have HP8 : Hid (PRow w8 (w.heap.size + 1) (.slice A8 (ps2.length + n7) c8) (ps2 ++ qs)) := Lib.hid ((HP.out.bw HWB.out).app (qs := qs) (fun p hp => (HQ3.out p hp).keep (fun q hq => ⟨hq.2, fun e => by
       have h1 := HOW.out q e
       have h2 : (wr.alloc (.cells #[.int .i64 yn, .slice tA tn tc] 39)).heap.size ≤ q := hq.1
       simp at h2
       omega⟩) (fun _ _ => rfl)) (by rw [HQL.out]; exact HO8.out) HG8.out HL8.out)
     go_roundw
     case rel =>
       refine ⟨j + 1, by omega, by go_num, Lib.hid ⟨ps2 ++ qs, ?_, ?_, H5.out.2 (by trivial), ?_, ?_, ?_⟩⟩
       · have := HP8.out
         exact this
       · rw [List.map_append, HPM.out, HQ1.out, H4.out, List.append_assoc]
       · refine Below.grown (HGI.out.trans HWB.out) HG8.out (HGI.out.trans HWB.out).size (fun r e => ?_)
         have h1 := HOW.out r e
         simp; omega
       · exact (HBX.out.below HWB.out.b HBX.out.lt).grown HG8.out (fun e => HNE.out _ e.symm rfl)
       · intro q e
         rcases HL8.out with e2 | e2
         · rw [e2] at e; exact HNE.out q e
         · rw [e2] at e
           injection e with e
           have h1 := HBX.out.lt
           have h2 := HWB.out.size
           omega
     case measure => simp [intOf]; omega
end Go.Proofs.YtbmheekaclmibaaGreat
