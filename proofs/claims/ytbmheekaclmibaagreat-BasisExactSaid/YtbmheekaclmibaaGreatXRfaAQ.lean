/- Part of a proof of basisExact_holds. -/
import Derived.Test.YtbmheekaclmibaaGreatXPrwAQ
set_option maxRecDepth 100000
set_option maxHeartbeats 16000000
namespace Go.Proofs.YtbmheekaclmibaaGreat
open Go.RowKit
set_option linter.unusedSimpArgs false
set_option linter.unusedVariables false
def BelX (t : T) (ok : V → Bool) (f : V → V → Bool) : Prop := ∀ (a b : V), ok a = true → ok b = true → ∀ (rv pv s1 s2 : Value) (W : World), TB W W.heap.size rv pv t → KB W W.heap.size s1 a.ks → KB W W.heap.size s2 b.ks → Calls Tryz.prog 54 #[aggT t rv pv, aggV a s1, aggV b s2] W (BoolPost W (f a b))
theorem tvbx {w : World} {kd z x : Int} {r p s : Value} : Bw w ((w.alloc (.cells #[.int .i64 kd, .int .i64 z, r, p] 29)).alloc (.cells #[.int .i64 x, s] 39)) ∧ ∀ W, Bw ((w.alloc (.cells #[.int .i64 kd, .int .i64 z, r, p] 29)).alloc (.cells #[.int .i64 x, s] 39)) W →
   w.heap.size + 1 < W.heap.size ∧ Bw w W ∧ W.cell? ⟨w.heap.size, 0, none⟩ = some (.int .i64 kd) ∧ W.cell? ⟨w.heap.size, 1, none⟩ = some (.int .i64 z) ∧ W.cell? ⟨w.heap.size, 2, none⟩ = some r ∧ W.cell? ⟨w.heap.size, 3, none⟩ = some p ∧ W.cell? ⟨w.heap.size + 1, 0, none⟩ = some (.int .i64 x) ∧ W.cell? ⟨w.heap.size + 1, 1, none⟩ = some s := by
 have b1 := (Blk.new w 29 #[.int .i64 kd, .int .i64 z, r, p]).alloc (.cells #[.int .i64 x, s] 39)
 have b2 := Blk.new (w.alloc (.cells #[.int .i64 kd, .int .i64 z, r, p] 29)) 39 #[.int .i64 x, s]
 rw [World.size_alloc] at b2
 have b0 : Bw w ((w.alloc (.cells #[.int .i64 kd, .int .i64 z, r, p] 29)).alloc (.cells #[.int .i64 x, s] 39)) := ((Bw.refl _).alloc _).alloc _
 refine ⟨b0, fun W g => ?_⟩
 have b3 := b1.below g.b b1.lt
 have b4 := b2.below g.b b2.lt
 exact ⟨b4.lt, b0.trans g, b3.cell 0, b3.cell 1, b3.cell 2, b3.cell 3, b4.cell 0, b4.cell 1⟩
theorem take_succ_all {p : V → Prop} {l : List V} {k : Nat} (h : ∀ x ∈ l.take k, p x) (hk : k < l.length) (h2 : p l[k]) : ∀ x ∈ l.take (k + 1), p x := fun x hx => by
 rw [List.take_add_one, List.getElem?_eq_getElem hk] at hx
 simp only [Option.toList_some, List.mem_append, List.mem_singleton] at hx
 rcases hx with hx | rfl
 · exact h x hx
 · exact h2
theorem any_of_take {p : V → Bool} {l : List V} {n : Nat} (hn : l.length ≤ n) (h : ∀ x ∈ l.take n, p x = false) : l.any p = false := by
 rw [List.take_of_length_le hn] at h
 exact List.any_eq_false.2 (fun x hx => by simp [h x hx])
theorem r7has_any (t : T) (ok : V → Bool) (f : V → V → Bool) (HBL : BelX t ok f) (l : List V) (v : V) (hl : ∀ x ∈ l, ok x = true) (hv : ok v = true) (rv pv s s2 : Value) (w : World) (hT : TB w w.heap.size rv pv t) (h : KB w w.heap.size s l) (h2 : KB w w.heap.size s2 v.ks) :
   Calls Tryz.prog 58 #[.agg #[.int .i64 t.kind, .int .i64 t.size, rv, pv], s, .agg #[.int .i64 v.n, s2]] w (BoolPost w (l.any fun x => f x v)) := by
 obtain ⟨A, n, c, rfl, ln, bn, mn⟩ := h.form
 obtain ⟨B, m, e, rfl, _, _, _⟩ := h2.form
 obtain ⟨A1, rn, c1, rfl, _, _⟩ := hT.1.form'
 obtain ⟨A2, pn, c2, rfl, _, _, _⟩ := hT.2.form
 unfold maxLen at mn
 have TX := Lib.hid (tvbx (w := w) (kd := t.kind) (z := t.size) (x := v.n) (r := .slice A1 rn c1) (p := .slice A2 pn c2) (s := .slice B m e))
 have CB : Hid (∀ (k : Nat) (hk : k < l.length) (sk : Value) (W : World), Bw w W → KB W W.heap.size sk l[k].ks → Calls Tryz.prog 54 #[.agg #[.int .i64 t.kind, .int .i64 t.size, .slice A1 rn c1, .slice A2 pn c2], .agg #[.int .i64 l[k].n, sk], .agg #[.int .i64 v.n, .slice B m e]] W (BoolPost W (f l[k] v))) := Lib.hid (fun k hk sk W g hs => HBL _ _ (hl _ (List.getElem_mem hk)) hv _ _ _ _ W (TAt.bw hT g) hs (h2.bw g))
 have HT : Hid (∀ (k : Nat) (hk : k < l.length), f l[k] v = true → (l.any fun x => f x v) = true) := Lib.hid (fun k hk e => List.any_eq_true.2 ⟨_, List.getElem_mem hk, e⟩)
 have HF : Hid ((∀ x ∈ l.take n, f x v = false) → (l.any fun x => f x v) = false) := Lib.hid (fun hh => any_of_take (by omega) hh)
 have HK := Lib.hid h
 have LN := Lib.hid ln
 unfold BoolPost at CB
 clear hT h h2 ln hl hv HBL
 generalize (l.any fun x => f x v) = q at *
 generalize t.kind = kd at *
 generalize t.size = z at *
 generalize v.n = vx at *
 go_enter Tryz.func58, Tryz.ntmps58
 go_wp2_with fail
 go_loopw [7] (fun i wr => ∃ k : Nat, k ≤ n ∧ i = .int .i64 k ∧ Hid (Bw ((w.alloc (.cells #[.int .i64 kd, .int .i64 z, .slice A1 rn c1, .slice A2 pn c2] 29)).alloc (.cells #[.int .i64 vx, .slice B m e] 39)) wr ∧ ∀ x ∈ l.take k, f x v = false)) (fun i _ => n - (intOf i).toNat)
 case atStart => exact ⟨0, by omega, rfl, Lib.hid ⟨Bw.refl _, fun x hx => by simp at hx⟩⟩
 case round =>
   obtain ⟨k, hk, rfl, HR⟩ := hrel
   obtain ⟨hg, hall⟩ := HR.out
   have HG := Lib.hid hg
   have HALL := Lib.hid hall
   by_cases hlt : k < n
   · have e1 : k < l.length := by rw [LN.out]; exact hlt
     have hwr : Bw w wr := TX.out.1.trans hg
     obtain ⟨ad, sA, sn, sc, rfl, hb, q0, q1, sl, hs⟩ := (HK.out.bw hwr).at_ e1
     obtain ⟨y0, -, y1, y2, y3, y4, y5, y6⟩ := TX.out.2 wr hg
     have CB2 := Lib.hid (fun W (g : Bw wr W) => CB.out k e1 _ W (hwr.trans g) (hs.bw g))
     have HST : Hid (f l[k] v = false → ∀ x ∈ l.take (k + 1), f x v = false) := Lib.hid (fun hc => take_succ_all (p := fun x => f x v = false) hall e1 hc)
     have HT2 := Lib.hid (HT.out k e1)
     clear hs sl hb HR hg hall hwr HT
     generalize hcc : f l[k] v = cc at CB2 HST HT2
     generalize hkn : l[k].n = kx at *
     go_wp2_with fail
     go_region_law (go_simp; go_at_call 54; refine (CB2.out _ (by exact (Bw.refl wr).drewN _)).mono ?_; rintro e w5 ⟨rfl, hg5⟩; (have HG5 := Lib.hid (HG.out.trans (((Bw.refl wr).drewN _).trans hg5))); clear hg5)
     all_goals
       rcases cc with _ | _
       · go_wp2_with fail
         go_roundw
         case rel => exact ⟨k + 1, by omega, by go_num, Lib.hid ⟨HG5.out, HST.out rfl⟩⟩
         case measure => simp [intOf]; omega
       · obtain rfl := HT2.out rfl
         go_wp2_with fail
         go_ret
         exact ⟨rfl, TX.out.1.trans HG5.out⟩
   · obtain rfl : k = n := by omega
     obtain rfl := HF.out hall
     clear HR hg hall
     go_wp2_with fail
     go_ret
     exact ⟨rfl, TX.out.1.trans HG.out⟩
theorem r7add_any (t : T) (ok : V → Bool) (f : V → V → Bool) (HBL : BelX t ok f) (l : List V) (v : V) (h9 : l.length ≤ 1000) (hv9 : v.size ≤ 1000000) (hl : ∀ x ∈ l, ok x = true) (hv : ok v = true) (rv pv s s2 : Value) (w : World) (hT : TB w w.heap.size rv pv t) (h : KB w w.heap.size s l) (h2 : KB w w.heap.size s2 v.ks) :
   Calls Tryz.prog 96 #[.agg #[.int .i64 t.kind, .int .i64 t.size, rv, pv], s, .agg #[.int .i64 v.n, s2]] w (KbPost w (addR f l v)) := by
 obtain ⟨A, n, c, rfl, ln, bn, mn⟩ := h.form
 obtain ⟨B, m, e, rfl, _, _, _⟩ := h2.form
 obtain ⟨A1, rn, c1, rfl, _, _⟩ := hT.1.form'
 obtain ⟨A2, pn, c2, rfl, _, _, _⟩ := hT.2.form
 unfold maxLen at mn
 have hn9 : n ≤ 1000 := by omega
 obtain ⟨i0, hi, hz0, hz1, hz2⟩ := info_parts infoVal
 have TX := Lib.hid (tvbx (w := w) (kd := t.kind) (z := t.size) (x := v.n) (r := .slice A1 rn c1) (p := .slice A2 pn c2) (s := .slice B m e))
 have CB : Hid (∀ (k : Nat) (hk : k < l.length) (sk : Value) (W : World), Bw w W → KB W W.heap.size sk l[k].ks → Calls Tryz.prog 54 #[.agg #[.int .i64 t.kind, .int .i64 t.size, .slice A1 rn c1, .slice A2 pn c2], .agg #[.int .i64 l[k].n, sk], .agg #[.int .i64 v.n, .slice B m e]] W (BoolPost W (f l[k] v))) := Lib.hid (fun k hk sk W g hs => HBL _ _ (hl _ (List.getElem_mem hk)) hv _ _ _ _ W (TAt.bw hT g) hs (h2.bw g))
 have CD : Hid (∀ (k : Nat) (hk : k < l.length) (sk : Value) (W : World), Bw w W → KB W W.heap.size sk l[k].ks → Calls Tryz.prog 54 #[.agg #[.int .i64 t.kind, .int .i64 t.size, .slice A1 rn c1, .slice A2 pn c2], .agg #[.int .i64 v.n, .slice B m e], .agg #[.int .i64 l[k].n, sk]] W (BoolPost W (f v l[k]))) := Lib.hid (fun k hk sk W g hs => HBL _ _ hv (hl _ (List.getElem_mem hk)) _ _ _ _ W (TAt.bw hT g) (h2.bw g) hs)
 have HT : Hid (∀ (k : Nat) (hk : k < l.length), f l[k] v = true → addR f l v = l) := Lib.hid (fun k hk e => if_pos (List.any_eq_true.2 ⟨_, List.getElem_mem hk, e⟩))
 have HF : Hid ((∀ x ∈ l.take n, f x v = false) → addR f l v = putV v (l.filter fun x => !f v x)) := Lib.hid (fun hh => if_neg (by rw [any_of_take (p := fun x => f x v) (by omega) hh]; simp))
 have CPU : Hid (∀ (s' : Value) (W : World), Bw w W → KB W W.heap.size s' (l.filter fun x => !f v x) → Calls Tryz.prog 124 #[s', .agg #[.int .i64 v.n, .slice B m e]] W (KbPost W (putV v (l.filter fun x => !f v x)))) := Lib.hid (fun s' W g hk => r6Put_any _ v (Nat.le_trans (List.length_filter_le _ _) h9) hv9 _ _ W hk (h2.bw g))
 have HTK : Hid (∀ (k : Nat) (hk : k < l.length), (l.take (k + 1)).filter (fun x => !f v x) = (l.take k).filter (fun x => !f v x) ++ (if f v l[k] then [] else [l[k]])) := Lib.hid (fun k hk => by
   rw [List.take_add_one, List.getElem?_eq_getElem hk, List.filter_append]
   congr 1
   cases hfv : f v l[k] <;> simp [hfv])
 have HTN : Hid (l.take n = l) := Lib.hid (List.take_of_length_le (by omega))
 have HK := Lib.hid h
 have LN := Lib.hid ln
 unfold BoolPost at CB CD
 unfold KbPost at CPU ⊢
 clear hT h h2 ln hl hv HBL h9 hv9
 generalize addR f l v = q at *
 generalize t.kind = kd at *
 generalize t.size = z at *
 generalize v.n = vx at *
 go_enter Tryz.func96, Tryz.ntmps96
 go_wp2_with fail
 go_loopw [8] (fun i wr => ∃ k : Nat, k ≤ n ∧ i = .int .i64 k ∧ Hid (Bw ((w.alloc (.cells #[.int .i64 kd, .int .i64 z, .slice A1 rn c1, .slice A2 pn c2] 29)).alloc (.cells #[.int .i64 vx, .slice B m e] 39)) wr ∧ ∀ x ∈ l.take k, f x v = false)) (fun i _ => n - (intOf i).toNat)
 case atStart => exact ⟨0, by omega, rfl, Lib.hid ⟨Bw.refl _, fun x hx => by simp at hx⟩⟩
 case round =>
   obtain ⟨k, hk, rfl, HR⟩ := hrel
   obtain ⟨hg, hall⟩ := HR.out
   have HG := Lib.hid hg
   have HALL := Lib.hid hall
   by_cases hlt : k < n
   · have e1 : k < l.length := by rw [LN.out]; exact hlt
     have hwr : Bw w wr := TX.out.1.trans hg
     have HKW := Lib.hid (HK.out.bw hwr)
     obtain ⟨ad, sA, sn, sc, rfl, hb, q0, q1, sl, hs⟩ := HKW.out.at_ e1
     obtain ⟨y0, -, y1, y2, y3, y4, y5, y6⟩ := TX.out.2 wr hg
     have CB2 := Lib.hid (fun W (g : Bw wr W) => CB.out k e1 _ W (hwr.trans g) (hs.bw g))
     have HST : Hid (f l[k] v = false → ∀ x ∈ l.take (k + 1), f x v = false) := Lib.hid (fun hc => take_succ_all (p := fun x => f x v = false) hall e1 hc)
     have HT2 := Lib.hid (HT.out k e1)
     clear hs sl hb HR hg hall hwr HT CD CPU HTK
     generalize hcc : f l[k] v = cc at CB2 HST HT2
     generalize hkn : l[k].n = kx at *
     go_wp2_with fail
     go_region_law (go_simp; go_at_call 54; refine (CB2.out _ (by exact (Bw.refl wr).drewN _)).mono ?_; rintro e w5 ⟨rfl, hg5⟩; (have HG5 := Lib.hid (HG.out.trans (((Bw.refl wr).drewN _).trans hg5))); (have HK5 := Lib.hid (HKW.out.bw (((Bw.refl wr).drewN _).trans hg5))); clear hg5)
     all_goals
       rcases cc with _ | _
       · go_wp2_with fail
         go_roundw
         case rel => exact ⟨k + 1, by omega, by go_num, Lib.hid ⟨HG5.out, HST.out rfl⟩⟩
         case measure => simp [intOf]; omega
       · have HQ := Lib.hid (HT2.out rfl)
         go_wp2_with fail
         go_ret
         refine ⟨.slice (some ad) n c, rfl, ?_, TX.out.1.trans HG5.out⟩
         rw [HQ.out]
         exact HK5.out
   · obtain rfl : k = n := by omega
     have HQ := Lib.hid (HF.out hall)
     clear HR hg hall HT HF CB HALL
     go_wp2_with fail
     go_loopw [7, 9] (fun s7 i wr => ∃ j : Nat, j ≤ k ∧ i = .int .i64 j ∧ Hid (Bw ((w.alloc (.cells #[.int .i64 kd, .int .i64 z, .slice A1 rn c1, .slice A2 pn c2] 29)).alloc (.cells #[.int .i64 vx, .slice B m e] 39)) wr ∧ ∃ ps : List VS, MRow wr (w.heap.size + 1 + 1) s7 ps ∧ ps.length ≤ j ∧ ps.map (·.1) = (l.take j).filter fun x => !f v x)) (fun _ i _ => k - (intOf i).toNat)
     case atStart => exact ⟨0, by omega, rfl, Lib.hid ⟨HG.out, [], MRow.nil _ _, by simp, by simp⟩⟩
     case round =>
       obtain ⟨j, hj, rfl, HR⟩ := hrel
       obtain ⟨hg, ps, hm, hpl, hps⟩ := HR.out
       obtain ⟨VA, vc, rfl, _, _⟩ := hm.form
       have HG2 := Lib.hid hg
       have HM := Lib.hid hm
       have HPS := Lib.hid hps
       have HPL := Lib.hid hpl
       have hwr : Bw w wr := TX.out.1.trans hg
       have HWR := Lib.hid hwr
       obtain ⟨y0, -, y1, y2, y3, y4, y5, y6⟩ := TX.out.2 wr hg
       have hp9 : ps.length ≤ 1000 := by omega
       by_cases hlt2 : j < k
       · have e1 : j < l.length := by rw [LN.out]; exact hlt2
         obtain ⟨ad, sA, sn, sc, rfl, hb, q0, q1, sl, hs⟩ := HK.out.at_ e1
         have HCE : Hid (∀ W', Bw w W' → W'.cell? (ad.add (j * 2)) = some (.int .i64 l[j].n) ∧ W'.cell? ⟨(ad.add (j * 2)).block, (ad.add (j * 2)).off + 1, none⟩ = some (.slice sA sn sc) ∧ KAt W' (· < w.heap.size + 1 + 1) (.slice sA sn sc) l[j].ks) := Lib.hid (fun W' g => ⟨(g.b.cell (by rw [add_block]; exact hb)).trans q0, (g.b.cell (by show (ad.add (j * 2)).block < _; rw [add_block]; exact hb)).trans q1, (hs.under g.b).keep (fun b hb => by omega) (fun _ _ => rfl)⟩)
         have CD2 := Lib.hid (fun W (g : Bw wr W) => CD.out j e1 _ W (hwr.trans g) (hs.bw (hwr.trans g)))
         have HTJ := Lib.hid (HTK.out j e1)
         obtain ⟨z0, z1, -⟩ := HCE.out wr hwr
         obtain ⟨x, hx⟩ : ∃ x, x = l[j] := ⟨_, rfl⟩
         rw [← hx] at HCE CD2 HTJ z0
         clear hs sl hb HR hg hm hps hpl hwr CD CPU HTK q0 q1 HQ
         generalize hcc : f v x = cc at CD2 HTJ
         generalize hkn : x.n = kx at *
         go_wp2_with fail
         go_region_law (go_simp; go_at_call 54; refine (CD2.out _ (by exact (Bw.refl wr).drewN _)).mono ?_; rintro e w5 ⟨rfl, hg5⟩; (have HG5 : Hid (Bw wr w5) := Lib.hid (((Bw.refl wr).drewN _).trans hg5)); (obtain ⟨u0, u1, -⟩ := HCE.out _ (HWR.out.trans HG5.out)); clear hg5)
         all_goals
           have HM5 := Lib.hid (HM.out.bw HG5.out (by omega))
           rcases cc with _ | _
           · go_wp2_with (at_builtin; go_must (refine wpList_append_any _ rfl _ _ 31 rfl (w.heap.size + 1 + 1) 39 i0 _ 2 32 Tryz.underlying31 hi hz0 hz1 hz2 rfl (by decide) (.slice VA ps.length vc) ps.length (pCells ps) rfl (HM5.out.own.alloc (.cells #[.int .i64 kx, .slice sA sn sc] 39)) (w5.heap.size + 1) (some ⟨w5.heap.size, 0, none⟩) 1 1 [.int .i64 kx, .slice sA sn sc] rfl (reads_new2 w5 _ _ _) (one2 _ _ _ _) (by unfold maxLen; omega) (by omega) (by simp; have := HG5.out.size; omega) ?_; intro v7 w7 hown7 hgr7 hl7; obtain ⟨A7, c7, rfl⟩ := own_form hown7; (have HO7 := Lib.hid hown7); (have HG7 := Lib.hid hgr7); (have HL7 := Lib.hid hl7); clear hown7 hgr7 hl7))
             go_roundw
             case rel =>
               have hsz : w.heap.size + 1 + 1 ≤ w5.heap.size := by have := HG5.out.size; omega
               have hown0 := (HM5.out.own.alloc (.cells #[.int .i64 kx, .slice sA sn sc] 39))
               have hm0 := HM5.out.bw ((Bw.refl w5).alloc (.cells #[.int .i64 kx, .slice sA sn sc] 39)) hsz
               refine ⟨j + 1, by omega, by go_num, Lib.hid ⟨?_, ps ++ [(x, .slice sA sn sc)], hm0.push (x := (x, .slice sA sn sc)) (by simp; omega) ((HCE.out _ ((HWR.out.trans HG5.out).alloc _)).2.2) (by rw [hkn]; exact HO7.out) HG7.out, by have := HPL.out; simp; omega, ?_⟩⟩
               · refine Below.grown (HG2.out.trans (HG5.out.alloc _)) HG7.out (by simp; omega) (fun r e => ?_)
                 have := (hown0.lt r e).1
                 simpa using this
               · rw [HTJ.out, List.map_append, HPS.out]; simp
             case measure => simp [intOf]; omega
           · go_wp2_with fail
             go_roundw
             case rel => exact ⟨j + 1, by omega, by go_num, Lib.hid ⟨HG2.out.trans HG5.out, ps, HM5.out, by have := HPL.out; omega, by rw [HTJ.out, HPS.out]; simp⟩⟩
             case measure => simp [intOf]; omega
       · obtain rfl : j = k := by omega
         have HKB : Hid (KB wr wr.heap.size (.slice VA ps.length vc) (l.filter fun x => !f v x)) := Lib.hid (by
           have := hm.kb (by omega)
           rwa [hps, HTN.out] at this)
         clear HR hg hm hps hpl hwr CD HTK
         go_wp2_with (go_at_call 124; go_must (refine (CPU.out _ _ HWR.out HKB.out).mono ?_; rintro e w8 ⟨s8, rfl, hk8, hg8⟩; (have HK8 := Lib.hid hk8); (have HG8 := Lib.hid hg8); clear hk8 hg8))
         go_ret
         refine ⟨s8, rfl, ?_, HWR.out.trans HG8.out⟩
         rw [HQ.out]
         exact HK8.out
theorem addR_len (f : V → V → Bool) (b : List V) (v : V) : (addR f b v).length ≤ b.length + 1 := by
 unfold addR
 split
 · omega
 · have h1 := putV_size v (b.filter fun x => !f v x)
   have h2 := List.length_filter_le (fun x => !f v x) b
   omega
theorem foldR_len (f : V → V → Bool) : ∀ (l out : List V), (l.foldl (addR f) out).length ≤ out.length + l.length
 | [], out => by simp
 | v :: l, out => by
   have h1 := foldR_len f l (addR f out v)
   have h2 := addR_len f out v
   simp only [List.foldl_cons, List.length_cons]
   omega
theorem foldR_mem (f : V → V → Bool) : ∀ {l out : List V} {x : V}, x ∈ l.foldl (addR f) out → x ∈ out ∨ x ∈ l
 | [], out, x, h => .inl h
 | v :: l, out, x, h => by
   rcases foldR_mem f (l := l) h with h | h
   · rcases addR_mem h with h | rfl
     · exact .inl h
     · exact .inr (by simp)
   · exact .inr (by simp [h])
theorem foldR_take {f : V → V → Bool} {l : List V} {k : Nat} (hk : k < l.length) : (l.take (k + 1)).foldl (addR f) [] = addR f ((l.take k).foldl (addR f) []) l[k] := by
 rw [List.take_add_one, List.getElem?_eq_getElem hk, List.foldl_append]
 rfl
theorem tbx {w : World} {kd z : Int} {r p : Value} : ∀ W, Bw (w.alloc (.cells #[.int .i64 kd, .int .i64 z, r, p] 29)) W → w.heap.size < W.heap.size ∧ Bw w W ∧ W.cell? ⟨w.heap.size, 0, none⟩ = some (.int .i64 kd) ∧ W.cell? ⟨w.heap.size, 1, none⟩ = some (.int .i64 z) ∧ W.cell? ⟨w.heap.size, 2, none⟩ = some r ∧ W.cell? ⟨w.heap.size, 3, none⟩ = some p := by
 intro W g
 have b := (Blk.new w 29 #[.int .i64 kd, .int .i64 z, r, p]).below g.b (by simp)
 exact ⟨b.lt, ((Bw.refl w).alloc _).trans g, b.cell 0, b.cell 1, b.cell 2, b.cell 3⟩
theorem r7Least_any (t : T) (ok : V → Bool) (f : V → V → Bool) (HBL : BelX t ok f) (l : List V) (h9 : l.length ≤ 1000) (hs9 : ∀ x ∈ l, x.size ≤ 1000000) (hl : ∀ x ∈ l, ok x = true) (rv pv s : Value) (w : World) (hT : TB w w.heap.size rv pv t) (h : KB w w.heap.size s l) :
   Calls Tryz.prog 56 #[.agg #[.int .i64 t.kind, .int .i64 t.size, rv, pv], s] w (KbPost w (leastR f l)) := by
 obtain ⟨A, n, c, rfl, ln, bn, mn⟩ := h.form
 obtain ⟨A1, rn, c1, rfl, _, _⟩ := hT.1.form'
 obtain ⟨A2, pn, c2, rfl, _, _, _⟩ := hT.2.form
 unfold maxLen at mn
 have hn9 : n ≤ 1000 := by omega
 have TX := Lib.hid (tbx (w := w) (kd := t.kind) (z := t.size) (r := .slice A1 rn c1) (p := .slice A2 pn c2))
 have HB1 : Hid (Bw w (w.alloc (.cells #[.int .i64 t.kind, .int .i64 t.size, .slice A1 rn c1, .slice A2 pn c2] 29))) := Lib.hid ((Bw.refl _).alloc _)
 have CA : Hid (∀ (k : Nat) (hk : k < l.length) (so sk : Value) (W : World), Bw w W → KB W W.heap.size so ((l.take k).foldl (addR f) []) → KB W W.heap.size sk l[k].ks → Calls Tryz.prog 96 #[.agg #[.int .i64 t.kind, .int .i64 t.size, .slice A1 rn c1, .slice A2 pn c2], so, .agg #[.int .i64 l[k].n, sk]] W (KbPost W ((l.take (k + 1)).foldl (addR f) []))) := Lib.hid (fun k hk so sk W g ho hs => by
   rw [foldR_take hk]
   refine r7add_any t ok f HBL _ _ ?_ (hs9 _ (List.getElem_mem hk)) (fun x hx => ?_) (hl _ (List.getElem_mem hk)) _ _ _ _ W (TAt.bw hT g) ho hs
   · have := foldR_len f (l.take k) []
     simp at this
     omega
   · rcases foldR_mem f hx with hx | hx
     · simp at hx
     · exact hl x (List.mem_of_mem_take hx))
 have HE : Hid (leastR f l = (l.take n).foldl (addR f) []) := Lib.hid (by rw [List.take_of_length_le (by omega)]; rfl)
 have HK := Lib.hid h
 have LN := Lib.hid ln
 unfold KbPost at CA ⊢
 clear hT h ln hl HBL h9 hs9
 generalize t.kind = kd at *
 generalize t.size = z at *
 generalize leastR f l = q at *
 go_enter Tryz.func56, Tryz.ntmps56
 go_wp2_with fail
 go_loopw [5, 6] (fun s5 i wr => ∃ k : Nat, k ≤ n ∧ i = .int .i64 k ∧ Hid (Bw (w.alloc (.cells #[.int .i64 kd, .int .i64 z, .slice A1 rn c1, .slice A2 pn c2] 29)) wr ∧ KB wr wr.heap.size s5 ((l.take k).foldl (addR f) []))) (fun _ i _ => n - (intOf i).toNat)
 case atStart => exact ⟨0, by omega, rfl, Lib.hid ⟨Bw.refl _, KAt.nil _ _ (Nat.zero_le _)⟩⟩
 case round =>
   obtain ⟨k, hk, rfl, HR⟩ := hrel
   obtain ⟨hg, ho⟩ := HR.out
   obtain ⟨OA, on, oc, rfl, -, -, -⟩ := ho.form
   have HG := Lib.hid hg
   have HO := Lib.hid ho
   have hwr : Bw w wr := HB1.out.trans hg
   by_cases hlt : k < n
   · have e1 : k < l.length := by rw [LN.out]; exact hlt
     obtain ⟨ad, sA, sn, sc, rfl, hb, q0, q1, sl, hs⟩ := (HK.out.bw hwr).at_ e1
     obtain ⟨y0, -, y1, y2, y3, y4⟩ := TX.out wr hg
     have CA2 := Lib.hid (fun W (g : Bw wr W) => CA.out k e1 _ _ W (hwr.trans g) (ho.bw g) (hs.bw g))
     clear hs sl hb HR hg ho hwr CA
     generalize hkn : l[k].n = kx at *
     go_wp2_with fail
     go_region_law (go_simp; go_at_call 96; refine (CA2.out _ (by exact (Bw.refl wr).drewN _)).mono ?_; rintro e w5 ⟨s5, rfl, hk5, hg5⟩; (have HK5 := Lib.hid hk5); (have HG5 := Lib.hid (HG.out.trans (((Bw.refl wr).drewN _).trans hg5))); clear hg5 hk5)
     all_goals
       go_wp2_with fail
       go_roundw
       case rel => exact ⟨k + 1, by omega, by go_num, Lib.hid ⟨HG5.out, HK5.out⟩⟩
       case measure => simp [intOf]; omega
   · obtain rfl : k = n := by omega
     have HWR := Lib.hid hwr
     clear HR hg ho CA hwr
     go_wp2_with fail
     go_ret
     refine ⟨.slice OA on oc, rfl, ?_, HWR.out⟩
     rw [HE.out]
     exact HO.out
def Apart (f : V → V → Bool) (l : List V) (i k : Nat) : Prop := ∀ (hi : i < l.length) (hk : k < l.length), i ≠ k → f l[i] l[k] = false
theorem anti_all {f : V → V → Bool} {l : List V} (h : ∀ i, i < l.length → ∀ k, k < l.length → Apart f l i k) : antiB f l = true := by
 unfold antiB
 rw [List.all_eq_true]
 intro i hi
 rw [List.all_eq_true]
 intro k hk
 have hi := List.mem_range.1 hi
 have hk := List.mem_range.1 hk
 simp only [List.getD_eq_getElem?_getD, List.getElem?_eq_getElem hi, List.getElem?_eq_getElem hk, Option.getD_some]
 by_cases e : i = k
 · simp [e]
 · rw [h i hi k hk hi hk e]; simp
theorem anti_not {f : V → V → Bool} {l : List V} {i k : Nat} (hi : i < l.length) (hk : k < l.length) (e : i ≠ k) (h : f l[i] l[k] = true) : antiB f l = false := by
 rw [← Bool.not_eq_true]
 intro ha
 unfold antiB at ha
 have h1 := List.all_eq_true.1 (List.all_eq_true.1 ha i (List.mem_range.2 hi)) k (List.mem_range.2 hk)
 simp only [List.getD_eq_getElem?_getD, List.getElem?_eq_getElem hi, List.getElem?_eq_getElem hk, Option.getD_some, h] at h1
 simp [e] at h1
theorem r7antichain_any (t : T) (ok : V → Bool) (f : V → V → Bool) (HBL : BelX t ok f) (l : List V) (hl : ∀ x ∈ l, ok x = true) (rv pv s : Value) (w : World) (hT : TB w w.heap.size rv pv t) (h : KB w w.heap.size s l) :
   Calls Tryz.prog 57 #[.agg #[.int .i64 t.kind, .int .i64 t.size, rv, pv], s] w (BoolPost w (antiB f l)) := by
 obtain ⟨A, n, c, rfl, ln, bn, mn⟩ := h.form
 obtain ⟨A1, rn, c1, rfl, _, _⟩ := hT.1.form'
 obtain ⟨A2, pn, c2, rfl, _, _, _⟩ := hT.2.form
 unfold maxLen at mn
 have TX := Lib.hid (tbx (w := w) (kd := t.kind) (z := t.size) (r := .slice A1 rn c1) (p := .slice A2 pn c2))
 have HB1 : Hid (Bw w (w.alloc (.cells #[.int .i64 t.kind, .int .i64 t.size, .slice A1 rn c1, .slice A2 pn c2] 29))) := Lib.hid ((Bw.refl _).alloc _)
 have CB : Hid (∀ (i k : Nat) (hi : i < l.length) (hk : k < l.length) (si sk : Value) (W : World), Bw w W → KB W W.heap.size si l[i].ks → KB W W.heap.size sk l[k].ks → Calls Tryz.prog 54 #[.agg #[.int .i64 t.kind, .int .i64 t.size, .slice A1 rn c1, .slice A2 pn c2], .agg #[.int .i64 l[i].n, si], .agg #[.int .i64 l[k].n, sk]] W (BoolPost W (f l[i] l[k]))) := Lib.hid (fun i k hi hk si sk W g h1 h2 => HBL _ _ (hl _ (List.getElem_mem hi)) (hl _ (List.getElem_mem hk)) _ _ _ _ W (TAt.bw hT g) h1 h2)
 have HT : Hid (∀ (i k : Nat) (hi : i < l.length) (hk : k < l.length), i ≠ k → f l[i] l[k] = true → antiB f l = false) := Lib.hid (fun i k hi hk e h => anti_not hi hk e h)
 have HF : Hid ((∀ i, i < n → ∀ k, k < n → Apart f l i k) → antiB f l = true) := Lib.hid (fun h => anti_all (fun i hi k hk => h i (by omega) k (by omega)))
 have HK := Lib.hid h
 have LN := Lib.hid ln
 unfold BoolPost at CB
 clear hT h ln hl HBL
 generalize antiB f l = q at *
 generalize t.kind = kd at *
 generalize t.size = z at *
 go_enter Tryz.func57, Tryz.ntmps57
 go_wp2_with fail
 go_loopw [5] (fun i wr => ∃ k : Nat, k ≤ n ∧ i = .int .i64 k ∧ Hid (Bw (w.alloc (.cells #[.int .i64 kd, .int .i64 z, .slice A1 rn c1, .slice A2 pn c2] 29)) wr ∧ ∀ i, i < k → ∀ j, j < n → Apart f l i j)) (fun i _ => n - (intOf i).toNat)
 case atStart => exact ⟨0, by omega, rfl, Lib.hid ⟨Bw.refl _, fun i hi => absurd hi (by omega)⟩⟩
 case round =>
   obtain ⟨i, hi, rfl, HR⟩ := hrel
   obtain ⟨hg, hall⟩ := HR.out
   have HG := Lib.hid hg
   have HALL := Lib.hid hall
   by_cases hlt : i < n
   · have HI : Hid (i < l.length) := Lib.hid (by rw [LN.out]; exact hlt)
     clear HR hg hall HF
     go_wp2_with fail
     go_loopw [6] (fun s6 wq => ∃ k : Nat, k ≤ n ∧ s6 = .int .i64 k ∧ Hid (Bw (w.alloc (.cells #[.int .i64 kd, .int .i64 z, .slice A1 rn c1, .slice A2 pn c2] 29)) wq ∧ ∀ j, j < k → Apart f l i j)) (fun s6 _ => n - (intOf s6).toNat)
     case atStart => exact ⟨0, by omega, rfl, Lib.hid ⟨HG.out, fun j hj => absurd hj (by omega)⟩⟩
     case round =>
       obtain ⟨k, hk, rfl, HR2⟩ := hrel
       obtain ⟨hg2, hall2⟩ := HR2.out
       have HG2 := Lib.hid hg2
       have HALL2 := Lib.hid hall2
       have hwq : Bw w wr := HB1.out.trans hg2
       by_cases hlt2 : k < n
       · have HKL : Hid (k < l.length) := Lib.hid (by rw [LN.out]; exact hlt2)
         by_cases hik : i = k
         · subst hik
           have HST : Hid (∀ j, j < i + 1 → Apart f l i j) := Lib.hid (fun j hj => by
             rcases Nat.lt_or_ge j i with h | h
             · exact hall2 j h
             · obtain rfl : j = i := by omega
               exact fun _ _ e => absurd rfl e)
           clear HR2 hg2 hall2 hwq
           have d1 : ((i : Int) != (i : Int)) = false := by simp
           go_wp2_with fail
           go_quiet (fail)
           go_wp2_with fail
           go_roundw
           case rel => exact ⟨i + 1, by omega, by go_num, Lib.hid ⟨HG2.out.trans ((Bw.refl _).drewN _), HST.out⟩⟩
           case measure => simp [intOf]; omega
         · have e0 := HI.out
           have e1 := HKL.out
           obtain ⟨ad, sA, sn, sc, rfl, hb, q0, q1, sl, hs⟩ := (HK.out.bw hwq).at_ e0
           obtain ⟨ad', tA, tn, tc, ea, hb', q2, q3, tl, ht⟩ := (HK.out.bw hwq).at_ e1
           obtain rfl : ad = ad' := Option.some.inj ea
           obtain ⟨y0, -, y1, y2, y3, y4⟩ := TX.out wr hg2
           have CB2 := Lib.hid (fun W (g : Bw wr W) => CB.out i k e0 e1 _ _ W (hwq.trans g) (hs.bw g) (ht.bw g))
           have HST : Hid (f l[i] l[k] = false → ∀ j, j < k + 1 → Apart f l i j) := Lib.hid (fun hf j hj => by
             rcases Nat.lt_or_ge j k with h | h
             · exact hall2 j h
             · obtain rfl : j = k := by omega
               exact fun _ _ _ => hf)
           have HT2 := Lib.hid (HT.out i k e0 e1 hik)
           have HWQ := Lib.hid hwq
           have d1 : ((i : Int) != (k : Int)) = true := by simp; omega
           have d2 : ((i : Int) == (k : Int)) = false := by simp; omega
           have KS : Hid (∀ w', Bw wr w' → w'.cell? ⟨w.heap.size, 0, none⟩ = some (.int .i64 kd) ∧ w'.cell? ⟨w.heap.size, 1, none⟩ = some (.int .i64 z) ∧ w'.cell? ⟨w.heap.size, 2, none⟩ = some (.slice A1 rn c1) ∧ w'.cell? ⟨w.heap.size, 3, none⟩ = some (.slice A2 pn c2) ∧ w'.cell? (ad.add (i * 2)) = some (.int .i64 l[i].n) ∧ w'.cell? ⟨(ad.add (i * 2)).block, (ad.add (i * 2)).off + 1, none⟩ = some (.slice sA sn sc) ∧ w'.cell? (ad.add (k * 2)) = some (.int .i64 l[k].n) ∧ w'.cell? ⟨(ad.add (k * 2)).block, (ad.add (k * 2)).off + 1, none⟩ = some (.slice tA tn tc) ∧ Bw wr w') := Lib.hid (fun w' h => by
             obtain ⟨-, -, v1, v2, v3, v4⟩ := TX.out w' (hg2.trans h)
             exact ⟨v1, v2, v3, v4, (h.b.cell (by rw [add_block]; exact hb)).trans q0, (h.b.cell (by simp only [add_block]; exact hb)).trans q1, (h.b.cell (by rw [add_block]; exact hb)).trans q2, (h.b.cell (by simp only [add_block]; exact hb)).trans q3, h⟩)
           clear hs sl hb ht tl hb' ea HR2 hg2 hall2 hwq CB HT q0 q1 q2 q3 y0 y1 y2 y3 y4 TX
           generalize hcc : f l[i] l[k] = cc at CB2 HST HT2
           generalize hin : l[i].n = ix at *
           generalize hkn : l[k].n = kx at *
           generalize w.heap.size = zz at *
           go_wp2_with fail
           go_region_held3 (fun w' => w'.cell? ⟨zz, 0, none⟩ = some (.int .i64 kd) ∧ w'.cell? ⟨zz, 1, none⟩ = some (.int .i64 z) ∧ w'.cell? ⟨zz, 2, none⟩ = some (.slice A1 rn c1) ∧ w'.cell? ⟨zz, 3, none⟩ = some (.slice A2 pn c2) ∧ w'.cell? (ad.add (i * 2)) = some (.int .i64 ix) ∧ w'.cell? ⟨(ad.add (i * 2)).block, (ad.add (i * 2)).off + 1, none⟩ = some (.slice sA sn sc) ∧ w'.cell? (ad.add (k * 2)) = some (.int .i64 kx) ∧ w'.cell? ⟨(ad.add (k * 2)).block, (ad.add (k * 2)).off + 1, none⟩ = some (.slice tA tn tc) ∧ Bw wr w') (first | (refine KS.out _ ?_; first | exact (Bw.refl _).drew | exact (Bw.refl _).drew.trans hg6)) (first | (go_at_call 54; (with_reducible refine (CB2.out _ (Bw.refl _).drew).mono ?_); rintro e w' ⟨rfl, hg6⟩))
           have HG5 : Hid (Bw (w.alloc (.cells #[.int .i64 kd, .int .i64 z, .slice A1 rn c1, .slice A2 pn c2] 29)) w') := Lib.hid (HG2.out.trans ((Bw.refl _).drew.trans hg6))
           rcases cc with _ | _
           · go_wp2
             refine ⟨⟨k + 1, by omega, by go_num, Lib.hid ⟨HG5.out, HST.out rfl⟩⟩, by simp [intOf]; omega⟩
           · obtain rfl := HT2.out rfl
             go_wp2
             go_ret
             exact ⟨rfl, HB1.out.trans HG5.out⟩
       · obtain rfl : k = n := by omega
         have HST : Hid (∀ j, j < i + 1 → ∀ m, m < k → Apart f l j m) := Lib.hid (fun j hj => by
           rcases Nat.lt_or_ge j i with h | h
           · exact HALL.out j h
           · obtain rfl : j = i := by omega
             exact hall2)
         clear HR2 hg2 hall2 hwq CB HT
         go_wp2_with fail
         go_roundw
         case rel => exact ⟨i + 1, by omega, by go_num, Lib.hid ⟨HG2.out, HST.out⟩⟩
         case measure => simp [intOf]; omega
   · obtain rfl : i = n := by omega
     obtain rfl := HF.out hall
     clear HR hg hall CB HT
     go_wp2_with fail
     go_ret
     exact ⟨rfl, HB1.out.trans HG.out⟩
def KbErr (w : World) (l : List V) (er : Int) (e : Ending) (w' : World) : Prop := ∃ s, e = .returned (.tuple #[s, .int .i64 er]) ∧ KB w' w'.heap.size s l ∧ Bw w w'
def limR (l : List V) : List V × Int := if 256 < l.length then ([], 1) else (l, 0)
theorem limR_big {l : List V} (h : 256 < l.length) : limR l = ([], 1) := if_pos h
theorem limR_ok {l : List V} (h : ¬ 256 < l.length) : limR l = (l, 0) := if_neg h
theorem r7limited_any (l : List V) (s : Value) (w : World) (h : KB w w.heap.size s l) : Calls Tryz.prog 55 #[s] w (KbErr w (limR l).1 (limR l).2) := by
 obtain ⟨A, n, c, rfl, ln, bn, mn⟩ := h.form
 unfold maxLen at mn
 have HK := Lib.hid h
 by_cases h1 : 256 < l.length
 · rw [limR_big h1]
   rw [ln] at h1
   clear h ln
   go_enter Tryz.func55, Tryz.ntmps55
   go_wp2
   go_ret2
   exact ⟨_, rfl, KAt.nil _ _ (Nat.zero_le _), Bw.refl _⟩
 · rw [limR_ok h1]
   rw [ln] at h1
   clear h ln
   go_enter Tryz.func55, Tryz.ntmps55
   go_wp2
   go_ret2
   exact ⟨_, rfl, HK.out, Bw.refl _⟩
end Go.Proofs.YtbmheekaclmibaaGreat
