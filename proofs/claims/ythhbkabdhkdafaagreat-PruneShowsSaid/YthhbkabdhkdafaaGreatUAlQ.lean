/- Part of a proof of pruneShows_holds. -/
import Derived.Test.YthhbkabdhkdafaaGreatUAjQ
set_option linter.unusedSimpArgs false
set_option linter.unusedVariables false
set_option maxRecDepth 100000
set_option maxHeartbeats 16000000
namespace Go.Proofs.YthhbkabdhkdafaaGreat
section
open Go.RowKit
def FlatT (t : T) : Prop := t.kind = 3 ∧ ∀ p ∈ t.parts, p.kind = 1 ∨ p.kind = 2
def BelSays (t : T) (ok : V → Bool) (f : V → V → Bool) : Prop := ∀ (a b : V), ok a = true → ok b = true → ∀ (rv pv s1 s2 : Value) (W : World), TB W W.heap.size rv pv t → KB W W.heap.size s1 a.ks → KB W W.heap.size s2 b.ks → Calls Tryz.prog 245 #[aggT t rv pv, aggV a s1, aggV b s2] W (BoolPost W (f a b))
theorem boxes3 (w : World) (a0 a1 a2 a3 b0 b1 d0 d1 : Value) : Bw w (((w.alloc (.cells #[a0, a1, a2, a3] 50)).alloc (.cells #[b0, b1] 31)).alloc (.cells #[d0, d1] 31)) ∧ Blk (((w.alloc (.cells #[a0, a1, a2, a3] 50)).alloc (.cells #[b0, b1] 31)).alloc (.cells #[d0, d1] 31)) w.heap.size 50 #[a0, a1, a2, a3] ∧
   Blk (((w.alloc (.cells #[a0, a1, a2, a3] 50)).alloc (.cells #[b0, b1] 31)).alloc (.cells #[d0, d1] 31)) (w.heap.size + 1) 31 #[b0, b1] ∧ Blk (((w.alloc (.cells #[a0, a1, a2, a3] 50)).alloc (.cells #[b0, b1] 31)).alloc (.cells #[d0, d1] 31)) (w.heap.size + 2) 31 #[d0, d1] := by
 obtain ⟨h1, h2, h3⟩ := boxes w a0 a1 a2 a3 b0 b1
 refine ⟨h1.alloc _, h2.alloc _, h3.alloc _, ?_⟩
 have := Blk.new ((w.alloc (.cells #[a0, a1, a2, a3] 50)).alloc (.cells #[b0, b1] 31)) 31 #[d0, d1]
 simpa only [World.size_alloc] using this
theorem obelow_k1 (t : T) (ok : V → Bool) (hk : t.kind = 1) : BelSays t ok (fun a b => decide (a.n ≤ b.n)) := by
 intro a b _ _ rv pv s1 s2 w hT h1 h2
 obtain ⟨A, n, c, rfl, _, _, _⟩ := h1.form
 obtain ⟨B, m, e, rfl, _, _, _⟩ := h2.form
 obtain ⟨A1, rn, c1, rfl, _, _⟩ := hT.1.form'
 obtain ⟨A2, pn, c2, rfl, _, _, _⟩ := hT.2.form
 show Calls _ _ _ _ (BoolPost w (decide (a.n ≤ b.n)))
 unfold aggT aggV
 rw [hk]
 have HB := Lib.hid (boxes3 w (.int .i64 1) (.int .i64 t.size) (.slice A1 rn c1) (.slice A2 pn c2) (.int .i64 a.n) (.slice A n c) (.int .i64 b.n) (.slice B m e)).1
 clear h1 h2 hT hk
 generalize a.n = x at *
 generalize b.n = y at *
 generalize t.size = z at *
 go_enter Tryz.func245, Tryz.ntmps245
 go_wp2
 go_ret
 exact ⟨rfl, HB.out⟩
theorem obelow_k2 (t : T) (ok : V → Bool) (hk : t.kind = 2) : BelSays t ok (fun a b => a.n == b.n) := by
 intro a b _ _ rv pv s1 s2 w hT h1 h2
 obtain ⟨A, n, c, rfl, _, _, _⟩ := h1.form
 obtain ⟨B, m, e, rfl, _, _, _⟩ := h2.form
 obtain ⟨A1, rn, c1, rfl, _, _⟩ := hT.1.form'
 obtain ⟨A2, pn, c2, rfl, _, _, _⟩ := hT.2.form
 show Calls _ _ _ _ (BoolPost w (a.n == b.n))
 unfold aggT aggV
 rw [hk]
 have HB := Lib.hid (boxes3 w (.int .i64 2) (.int .i64 t.size) (.slice A1 rn c1) (.slice A2 pn c2) (.int .i64 a.n) (.slice A n c) (.int .i64 b.n) (.slice B m e)).1
 clear h1 h2 hT hk
 generalize a.n = x at *
 generalize b.n = y at *
 generalize t.size = z at *
 go_enter Tryz.func245, Tryz.ntmps245
 go_wp2
 go_ret
 exact ⟨rfl, HB.out⟩
theorem belZ_step {f : T → V → V → Bool} {ps : List T} {xs ys : List V} {k : Nat} (h1 : k < ps.length) (h2 : k < xs.length) (h3 : k < ys.length) : belZ f (ps.drop k) (xs.drop k) (ys.drop k) = (f ps[k] xs[k] ys[k] && belZ f (ps.drop (k + 1)) (xs.drop (k + 1)) (ys.drop (k + 1))) := by
 rw [List.drop_eq_getElem_cons h1, List.drop_eq_getElem_cons h2, List.drop_eq_getElem_cons h3]
 rfl
theorem obelow_k3 (t : T) (ok : V → Bool) (ok' : T → V → Bool) (f : T → V → V → Bool) (hk : t.kind = 3)
   (hok : ∀ v, ok v = true → v.ks.length = t.parts.length ∧ ∀ k (h : k < t.parts.length) (h' : k < v.ks.length), ok' t.parts[k] v.ks[k] = true) (ih : ∀ p ∈ t.parts, BelSays p (ok' p) (f p)) : BelSays t ok (fun a b => belZ f t.parts a.ks b.ks) := by
 intro a b ha hb rv pv s1 s2 w hT h1 h2
 obtain ⟨la, oa⟩ := hok a ha
 obtain ⟨lb, ob⟩ := hok b hb
 obtain ⟨A, n, c, rfl, ln1, _, mn1⟩ := h1.form
 obtain ⟨B, m, e, rfl, ln2, _, mn2⟩ := h2.form
 obtain ⟨A1, rn, c1, rfl, _, _⟩ := hT.1.form'
 obtain ⟨A2, pn, c2, rfl, ln3, _, mn3⟩ := hT.2.form
 unfold maxLen at mn1 mn2 mn3
 obtain rfl : n = pn := by omega
 obtain rfl : m = n := by omega
 have HIH := Lib.hid ih
 have HP := Lib.hid hT.2
 have HK1 := Lib.hid h1
 have HK2 := Lib.hid h2
 have LN1 := Lib.hid ln1
 have LN2 := Lib.hid ln2
 have LN3 := Lib.hid ln3
 have HOA := Lib.hid oa
 have HOB := Lib.hid ob
 have HB := Lib.hid (boxes3 w (.int .i64 3) (.int .i64 t.size) (.slice A1 rn c1) (.slice A2 m c2) (.int .i64 a.n) (.slice A m c) (.int .i64 b.n) (.slice B m e))
 show Calls _ _ _ _ (BoolPost w (belZ f t.parts a.ks b.ks))
 unfold aggT aggV
 rw [hk]
 have HZ : Hid (belZ f t.parts a.ks b.ks = belZ f (t.parts.drop 0) (a.ks.drop 0) (b.ks.drop 0)) := Lib.hid rfl
 clear h1 h2 hT ln1 ln2 ln3 hk ih la lb oa ob hok ha hb
 generalize hz : belZ f t.parts a.ks b.ks = q at *
 clear hz
 generalize a.n = x at *
 generalize b.n = y at *
 generalize t.size = z at *
 go_enter Tryz.func245, Tryz.ntmps245
 go_wp2
 go_loopw [30] (fun i wr => ∃ k : Nat, k ≤ m ∧ i = .int .i64 k ∧ Hid (Bw (((w.alloc (.cells #[.int .i64 3, .int .i64 z, .slice A1 rn c1, .slice A2 m c2] 50)).alloc (.cells #[.int .i64 x, .slice A m c] 31)).alloc (.cells #[.int .i64 y, .slice B m e] 31)) wr ∧ q = belZ f (t.parts.drop k) (a.ks.drop k) (b.ks.drop k))) (fun i _ => m - (intOf i).toNat)
 case atStart => exact ⟨0, by omega, rfl, Lib.hid ⟨Bw.refl _, HZ.out⟩⟩
 case round =>
   obtain ⟨k, hk, rfl, HR⟩ := hrel
   obtain ⟨hg, hq⟩ := HR.out
   obtain ⟨hw, b1, b2, b3⟩ := HB.out
   have hgw := hw.trans hg
   have k2' := b2.below hg.b b2.lt
   have k3' := b3.below hg.b b3.lt
   have HW := Lib.hid hgw
   have HG := Lib.hid hg
   by_cases hlt : k < m
   · have e1 : k < a.ks.length := by rw [LN1.out]; exact hlt
     have e2 : k < b.ks.length := by rw [LN2.out]; exact hlt
     have e3 : k < t.parts.length := by rw [LN3.out]; exact hlt
     obtain ⟨ad, sA, sn, sc, rfl, hb, q0, q1, _, hs⟩ := (HK1.out.bw hgw).at_ e1
     obtain ⟨ae, sB, sm, se, rfl, hb3, r0, r1, _, hs2⟩ := (HK2.out.bw hgw).at_ e2
     obtain ⟨ad2, A3, n3, c3, A4, n4, c4, rfl, hb2, y0, y1, y2, y3, hT2⟩ := (HP.out.bw hgw).at_ e3
     have CM : Hid (∀ W, Bw wr W → Calls Tryz.prog 245 #[.agg #[.int .i64 t.parts[k].kind, .int .i64 t.parts[k].size, .slice A3 n3 c3, .slice A4 n4 c4], .agg #[.int .i64 a.ks[k].n, .slice sA sn sc], .agg #[.int .i64 b.ks[k].n, .slice sB sm se]] W (BoolPost W (f t.parts[k] a.ks[k] b.ks[k]))) := Lib.hid (fun W g => HIH.out _ (List.getElem_mem e3) _ _ (HOA.out k e3 e1) (HOB.out k e3 e2) _ _ _ _ _ (TAt.bw hT2 g) (hs.bw g) (hs2.bw g))
     have HZ2 : Hid (q = (f t.parts[k] a.ks[k] b.ks[k] && belZ f (t.parts.drop (k + 1)) (a.ks.drop (k + 1)) (b.ks.drop (k + 1)))) := Lib.hid (by rw [hq]; exact belZ_step e3 e1 e2)
     have p2 := k2'.cell 1
     have p3 := k3'.cell 1
     have z2 := k2'.lt
     have z3 := k3'.lt
     clear hs hs2 hT2 hq b1 b2 b3 hgw hw HR k2' k3'
     generalize f t.parts[k] a.ks[k] b.ks[k] = r at *
     generalize a.ks[k].n = xk at *
     generalize b.ks[k].n = yk at *
     generalize t.parts[k].kind = pk at *
     generalize t.parts[k].size = pz at *
     clear hg
     go_wp2_with fail
     refine wp_world (fun W => Hid (Bw wr W ∧ Blk W wr.heap.size 50 #[.int .i64 pk, .int .i64 pz, .slice A3 n3 c3, .slice A4 n4 c4])) (Lib.hid ⟨(Bw.refl _).alloc _, Blk.new _ _ _⟩) ?_
     intro W HW2
     obtain ⟨hg, k3⟩ := HW2.out
     have hs1 := hg.size
     have z4 := k3.lt
     have KS : Hid (∀ w', Bw W w' → w'.cell? ⟨w.heap.size + 1, 1, none⟩ = some (.slice (some ad) m c) ∧ w'.cell? ⟨w.heap.size + 2, 1, none⟩ = some (.slice (some ae) m e) ∧ w'.cell? ⟨wr.heap.size, 0, none⟩ = some (.int .i64 pk) ∧ w'.cell? ⟨wr.heap.size, 1, none⟩ = some (.int .i64 pz) ∧ w'.cell? ⟨wr.heap.size, 2, none⟩ = some (.slice A3 n3 c3) ∧ w'.cell? ⟨wr.heap.size, 3, none⟩ = some (.slice A4 n4 c4) ∧
         w'.cell? (ad.add (k * 2)) = some (.int .i64 xk) ∧ w'.cell? ⟨(ad.add (k * 2)).block, (ad.add (k * 2)).off + 1, none⟩ = some (.slice sA sn sc) ∧ w'.cell? (ae.add (k * 2)) = some (.int .i64 yk) ∧ w'.cell? ⟨(ae.add (k * 2)).block, (ae.add (k * 2)).off + 1, none⟩ = some (.slice sB sm se) ∧ Bw W w') := Lib.hid (fun w' g =>
       ⟨((hg.trans g).b.cell (p := ⟨w.heap.size + 1, 1, none⟩) z2).trans p2, ((hg.trans g).b.cell (p := ⟨w.heap.size + 2, 1, none⟩) z3).trans p3, (g.b.cell (p := ⟨wr.heap.size, 0, none⟩) z4).trans (k3.cell 0), (g.b.cell (p := ⟨wr.heap.size, 1, none⟩) z4).trans (k3.cell 1), (g.b.cell (p := ⟨wr.heap.size, 2, none⟩) z4).trans (k3.cell 2), (g.b.cell (p := ⟨wr.heap.size, 3, none⟩) z4).trans (k3.cell 3),
        ((hg.trans g).b.cell (by rw [add_block]; exact hb)).trans q0, ((hg.trans g).b.cell (by simp only [add_block]; exact hb)).trans q1, ((hg.trans g).b.cell (by rw [add_block]; exact hb3)).trans r0, ((hg.trans g).b.cell (by simp only [add_block]; exact hb3)).trans r1, g⟩)
     have CM2 : Hid (∀ W', Bw W W' → Calls Tryz.prog 245 #[.agg #[.int .i64 pk, .int .i64 pz, .slice A3 n3 c3, .slice A4 n4 c4], .agg #[.int .i64 xk, .slice sA sn sc], .agg #[.int .i64 yk, .slice sB sm se]] W' (BoolPost W' r)) := Lib.hid (fun W' g => CM.out _ (hg.trans g))
     have HG2 := Lib.hid hg
     clear hg k3 HW2 p2 p3 q0 q1 r0 r1 y0 y1 y2 y3 CM
     generalize hzz : wr.heap.size = yy at *
     have HZZ := Lib.hid hzz
     clear hzz
     go_region_held3 (fun w' => w'.cell? ⟨w.heap.size + 1, 1, none⟩ = some (.slice (some ad) m c) ∧ w'.cell? ⟨w.heap.size + 2, 1, none⟩ = some (.slice (some ae) m e) ∧ w'.cell? ⟨yy, 0, none⟩ = some (.int .i64 pk) ∧ w'.cell? ⟨yy, 1, none⟩ = some (.int .i64 pz) ∧ w'.cell? ⟨yy, 2, none⟩ = some (.slice A3 n3 c3) ∧ w'.cell? ⟨yy, 3, none⟩ = some (.slice A4 n4 c4) ∧
         w'.cell? (ad.add (k * 2)) = some (.int .i64 xk) ∧ w'.cell? ⟨(ad.add (k * 2)).block, (ad.add (k * 2)).off + 1, none⟩ = some (.slice sA sn sc) ∧ w'.cell? (ae.add (k * 2)) = some (.int .i64 yk) ∧ w'.cell? ⟨(ae.add (k * 2)).block, (ae.add (k * 2)).off + 1, none⟩ = some (.slice sB sm se) ∧ Bw W w') (first | (refine KS.out _ ?_; first | exact (Bw.refl _).drew | exact (Bw.refl _).drew.trans hg6)) (first | (go_at_call 245; (with_reducible refine (CM2.out _ (Bw.refl _).drew).mono ?_); rintro e w' ⟨rfl, hg6⟩))
     have HG6 : Hid (Bw wr w') := Lib.hid (HG2.out.trans ((Bw.refl _).drew.trans hg6))
     clear hg6
     rcases r with _ | _
     · have HF2 : Hid (q = false) := Lib.hid (by rw [HZ2.out]; rfl)
       go_wp2
       go_ret
       exact ⟨ret_bool (by rw [HF2.out]), HW.out.trans HG6.out⟩
     · have HF2 : Hid (q = belZ f (t.parts.drop (k + 1)) (a.ks.drop (k + 1)) (b.ks.drop (k + 1))) := Lib.hid (by rw [HZ2.out]; rfl)
       go_wp2
       go_roundw
       case rel => exact ⟨k + 1, by omega, by go_num, Lib.hid ⟨HG.out.trans HG6.out, HF2.out⟩⟩
       case measure => simp [intOf]; omega
   · obtain rfl : k = m := by omega
     have HF2 : Hid (q = true) := Lib.hid (by rw [hq, List.drop_eq_nil_of_le (by rw [LN3.out]; omega)]; rfl)
     go_wp2
     go_ret
     exact ⟨ret_bool (by rw [HF2.out]), HW.out⟩
theorem BelSays.of_eq {t : T} {ok : V → Bool} {f g : V → V → Bool} (h : BelSays t ok f) (e : ∀ a b, f a b = g a b) : BelSays t ok g := by
 have : f = g := funext fun a => funext fun b => e a b
 rwa [← this]
theorem oneZ_get {f : T → V → Bool} : ∀ {ps : List T} {vs : List V}, oneZ f ps vs = true → ∀ k (h : k < ps.length) (h' : k < vs.length), f ps[k] vs[k] = true
 | [], _, _, k, h, _ => by simp at h
 | _ :: _, [], _, k, _, h => by simp at h
 | p :: ps, v :: vs, h, k, h1, h2 => by
   simp only [oneZ, Bool.and_eq_true] at h
   cases k with
   | zero => exact h.1
   | succ k => exact oneZ_get h.2 k (by simpa using h1) (by simpa using h2)
theorem obelow_flat (d : Nat) (t : T) [hF : Nonempty (FlatT t)] (hr : rightP (d + 2) t = true) : BelSays t (oneP (d + 2) t) (belowP (d + 2) t) := by
 obtain ⟨⟨k3, hp⟩⟩ := hF
 have k1 : ¬ t.kind = 1 := by omega
 have k2 : ¬ t.kind = 2 := by omega
 refine (obelow_k3 t _ (oneP (d + 1)) (belowP (d + 1)) k3 (fun v hv => ?_) (fun p h => ?_)).of_eq fun a b => by simp only [belowP.eq_2 (d := d + 1)]; rw [if_neg k1, if_neg k2, if_pos k3]
 · rw [oneP.eq_2 (d := d + 1)] at hv
   rw [if_neg k1, if_neg k2, if_pos k3] at hv
   simp only [Bool.and_eq_true, beq_iff_eq] at hv
   exact ⟨hv.1.2, oneZ_get hv.2⟩
 · rcases hp p h with h1 | h2
   · exact (obelow_k1 p _ h1).of_eq fun a b => by simp only [belowP]; rw [if_pos h1]
   · exact (obelow_k2 p _ h2).of_eq fun a b => by simp only [belowP]; rw [if_neg (show ¬ p.kind = 1 by omega), if_pos h2]
theorem oBelow_any (d : Nat) (t : T) [Nonempty (FlatT t)] (ht : rightP (d + 2) t = true) (a b : V) (ha : oneP (d + 2) t a = true) (hb : oneP (d + 2) t b = true) (rv pv s1 s2 : Value) (w : World) (hT : TB w w.heap.size rv pv t) (h1 : KB w w.heap.size s1 a.ks) (h2 : KB w w.heap.size s2 b.ks) :
   Calls Tryz.prog 180 #[aggT t rv pv, aggV a s1, aggV b s2] w (BoolPost w (belowP (d + 2) t a b)) := by
 obtain ⟨A, n, c, rfl, _, _, _⟩ := h1.form
 obtain ⟨B, m, e, rfl, _, _, _⟩ := h2.form
 obtain ⟨A1, rn, c1, rfl, _, _⟩ := hT.1.form'
 obtain ⟨A2, pn, c2, rfl, _, _, _⟩ := hT.2.form
 have CM : Hid (∀ W, Bw w W → Calls Tryz.prog 245 #[.agg #[.int .i64 t.kind, .int .i64 t.size, .slice A1 rn c1, .slice A2 pn c2], .agg #[.int .i64 a.n, .slice A n c], .agg #[.int .i64 b.n, .slice B m e]] W (BoolPost W (belowP (d + 2) t a b))) := Lib.hid (fun W g => obelow_flat d t ht a b ha hb _ _ _ _ W (TAt.bw hT g) (h1.bw g) (h2.bw g))
 have HB := Lib.hid (boxes3 w (.int .i64 t.kind) (.int .i64 t.size) (.slice A1 rn c1) (.slice A2 pn c2) (.int .i64 a.n) (.slice A n c) (.int .i64 b.n) (.slice B m e)).1
 unfold aggT aggV
 clear ht ha hb hT h1 h2
 generalize belowP (d + 2) t a b = q at *
 generalize a.n = x at *
 generalize b.n = y at *
 generalize t.size = z at *
 generalize t.kind = k at *
 go_enter Tryz.func180, Tryz.ntmps180
 go_wp2_with (go_at_call 245; go_must (refine (CM.out _ HB.out).mono ?_; rintro e w6 ⟨rfl, hg6⟩; have HG6 := Lib.hid hg6; clear hg6))
 go_ret
 exact ⟨rfl, HB.out.trans HG6.out⟩
end
end Go.Proofs.YthhbkabdhkdafaaGreat
