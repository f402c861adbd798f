/- Part of a proof of basisSets_holds. -/
import Derived.Test.YtbmheekaclmibaaGreatXEmbAQ
set_option maxRecDepth 100000
set_option maxHeartbeats 16000000
namespace Go.Proofs.YtbmheekaclmibaaGreat
open Go.RowKit
set_option linter.unusedSimpArgs false
set_option linter.unusedVariables false
def BelSays (t : T) (ok : V → Bool) (f : V → V → Bool) : Prop := ∀ (a b : V), ok a = true → ok b = true → ∀ (rv pv s1 s2 : Value) (W : World), TB W W.heap.size rv pv t → KB W W.heap.size s1 a.ks → KB W W.heap.size s2 b.ks → Calls Tryz.prog 107 #[aggT t rv pv, aggV a s1, aggV b s2] W (BoolPost W (f a b))
theorem boxes3 (w : World) (a0 a1 a2 a3 b0 b1 d0 d1 : Value) : Bw w (((w.alloc (.cells #[a0, a1, a2, a3] 29)).alloc (.cells #[b0, b1] 39)).alloc (.cells #[d0, d1] 39)) ∧ Blk (((w.alloc (.cells #[a0, a1, a2, a3] 29)).alloc (.cells #[b0, b1] 39)).alloc (.cells #[d0, d1] 39)) w.heap.size 29 #[a0, a1, a2, a3] ∧
   Blk (((w.alloc (.cells #[a0, a1, a2, a3] 29)).alloc (.cells #[b0, b1] 39)).alloc (.cells #[d0, d1] 39)) (w.heap.size + 1) 39 #[b0, b1] ∧ Blk (((w.alloc (.cells #[a0, a1, a2, a3] 29)).alloc (.cells #[b0, b1] 39)).alloc (.cells #[d0, d1] 39)) (w.heap.size + 2) 39 #[d0, d1] := by
 obtain ⟨h1, h2, h3⟩ := boxes w a0 a1 a2 a3 b0 b1
 refine ⟨h1.alloc _, h2.alloc _, h3.alloc _, ?_⟩
 have := Blk.new ((w.alloc (.cells #[a0, a1, a2, a3] 29)).alloc (.cells #[b0, b1] 39)) 39 #[d0, d1]
 simpa only [World.size_alloc] using this
theorem obelow_k1 (t : T) (ok : V → Bool) (hk : t.kind = 1) : BelSays t ok (fun a b => decide (a.n ≤ b.n)) := by
 intro a b _ _ rv pv s1 s2 w hT h1 h2
 obtain ⟨A, n, c, rfl, _, _, _⟩ := h1.form
 obtain ⟨B, m, e, rfl, _, _, _⟩ := h2.form
 obtain ⟨A1, rn, c1, rfl, _, _⟩ := hT.1.form'
 obtain ⟨A2, pn, c2, rfl, _, _, _⟩ := hT.2.form
 show Calls _ _ _ _ (BoolPost w (decide (a.n ≤ b.n)))
 unfold aggT aggV
 rw [hk]
 have HB := Lib.hid (boxes3 w (.int .i64 1) (.int .i64 t.size) (.slice A1 rn c1) (.slice A2 pn c2) (.int .i64 a.n) (.slice A n c) (.int .i64 b.n) (.slice B m e)).1
 clear h1 h2 hT hk
 generalize a.n = x at *
 generalize b.n = y at *
 generalize t.size = z at *
 go_enter Tryz.func107, Tryz.ntmps107
 go_wp2
 go_ret
 exact ⟨rfl, HB.out⟩
theorem obelow_k2 (t : T) (ok : V → Bool) (hk : t.kind = 2) : BelSays t ok (fun a b => a.n == b.n) := by
 intro a b _ _ rv pv s1 s2 w hT h1 h2
 obtain ⟨A, n, c, rfl, _, _, _⟩ := h1.form
 obtain ⟨B, m, e, rfl, _, _, _⟩ := h2.form
 obtain ⟨A1, rn, c1, rfl, _, _⟩ := hT.1.form'
 obtain ⟨A2, pn, c2, rfl, _, _, _⟩ := hT.2.form
 show Calls _ _ _ _ (BoolPost w (a.n == b.n))
 unfold aggT aggV
 rw [hk]
 have HB := Lib.hid (boxes3 w (.int .i64 2) (.int .i64 t.size) (.slice A1 rn c1) (.slice A2 pn c2) (.int .i64 a.n) (.slice A n c) (.int .i64 b.n) (.slice B m e)).1
 clear h1 h2 hT hk
 generalize a.n = x at *
 generalize b.n = y at *
 generalize t.size = z at *
 go_enter Tryz.func107, Tryz.ntmps107
 go_wp2
 go_ret
 exact ⟨rfl, HB.out⟩
theorem obelow_k4 (t p : T) (ok : V → Bool) (ok' : V → Bool) (f : V → V → Bool) (hk : t.kind = 4) (hp : t.parts = [p]) (hok : ∀ v, ok v = true → v.ks.length ≤ 12 ∧ v.ks.all ok' = true) (ih : BelSays p ok' f) : BelSays t ok (fun a b => embG f a.ks b.ks) := by
 intro a b ha hb rv pv s1 s2 w hT h1 h2
 obtain ⟨A, n, c, rfl, _, _, _⟩ := h1.form
 obtain ⟨B, m, e, rfl, _, _, _⟩ := h2.form
 obtain ⟨A1, rn, c1, rfl, _, _⟩ := hT.1.form'
 obtain ⟨A2, pn, c2, rfl, _, _, _⟩ := hT.2.form
 have hP := hT.2
 rw [hp] at hP
 obtain ⟨rfl, ad, A3, n3, c3, A4, n4, c4, rfl, hab, q0, q1, q2, q3, hT2⟩ := hP.at0
 have EM : Hid (∀ W, Bw w W → Calls Tryz.prog 133 #[.agg #[.int .i64 p.kind, .int .i64 p.size, .slice A3 n3 c3, .slice A4 n4 c4], .slice A n c, .slice B m e] W (BoolPost W (embG f a.ks b.ks))) := Lib.hid (fun W hg =>
   oembeds_any f a.ks b.ks _ _ _ _ _ _ _ _ _ _ W (h1.bw hg) (h2.bw hg) (fun x hx y hy s1 s2 W' g k1 k2 => ih x y (List.all_eq_true.1 (hok a ha).2 x hx) (List.all_eq_true.1 (hok b hb).2 y hy) _ _ _ _ W' (TAt.bw hT2 (hg.trans g)) k1 k2))
 show Calls _ _ _ _ (BoolPost w (embG f a.ks b.ks))
 unfold aggT aggV
 rw [hk]
 clear h1 h2 hT hk hp ih hP hT2 hok ha hb
 generalize embG f a.ks b.ks = q at *
 generalize a.n = x at *
 generalize b.n = y at *
 generalize t.size = z at *
 generalize p.kind = pk at *
 generalize p.size = pz at *
 go_enter Tryz.func107, Tryz.ntmps107
 go_wp2_with fail
 refine wp_world (fun W => Hid (Bw w W ∧ Blk W w.heap.size 29 #[.int .i64 4, .int .i64 z, .slice A1 rn c1, .slice (some ad) 1 c2] ∧ Blk W (w.heap.size + 1) 39 #[.int .i64 x, .slice A n c] ∧ Blk W (w.heap.size + 2) 39 #[.int .i64 y, .slice B m e])) (Lib.hid (boxes3 _ _ _ _ _ _ _ _ _)) ?_
 intro W HW
 obtain ⟨hg, k1, k2, k3⟩ := HW.out
 have p0 := k1.cell 3
 have p1 := k2.cell 1
 have p2 := k3.cell 1
 have z1 := k1.lt
 have z2 := k2.lt
 have z3 := k3.lt
 have hs0 := hg.size
 have KS : Hid (∀ w', Bw W w' → w'.cell? ⟨w.heap.size, 3, none⟩ = some (.slice (some ad) 1 c2) ∧ w'.cell? ⟨w.heap.size + 1, 1, none⟩ = some (.slice A n c) ∧ w'.cell? ⟨w.heap.size + 2, 1, none⟩ = some (.slice B m e) ∧ w'.cell? ad = some (.int .i64 pk) ∧ w'.cell? ⟨ad.block, ad.off + 1, none⟩ = some (.int .i64 pz) ∧ w'.cell? ⟨ad.block, ad.off + 2, none⟩ = some (.slice A3 n3 c3) ∧ w'.cell? ⟨ad.block, ad.off + 3, none⟩ = some (.slice A4 n4 c4) ∧ Bw W w') := Lib.hid (fun w' g =>
   ⟨(g.b.cell (p := ⟨w.heap.size, 3, none⟩) z1).trans p0, (g.b.cell (p := ⟨w.heap.size + 1, 1, none⟩) z2).trans p1, (g.b.cell (p := ⟨w.heap.size + 2, 1, none⟩) z3).trans p2, ((hg.trans g).b.cell (p := ad) hab).trans q0, ((hg.trans g).b.cell (p := ⟨ad.block, ad.off + 1, none⟩) hab).trans q1, ((hg.trans g).b.cell (p := ⟨ad.block, ad.off + 2, none⟩) hab).trans q2, ((hg.trans g).b.cell (p := ⟨ad.block, ad.off + 3, none⟩) hab).trans q3, g⟩)
 have HG := Lib.hid hg
 have EM2 : Hid (∀ W', Bw W W' → Calls Tryz.prog 133 #[.agg #[.int .i64 pk, .int .i64 pz, .slice A3 n3 c3, .slice A4 n4 c4], .slice A n c, .slice B m e] W' (BoolPost W' q)) := Lib.hid (fun W' g => EM.out _ (hg.trans g))
 clear hg k1 k2 k3 HW p0 p1 p2 q0 q1 q2 q3 EM
 generalize w.heap.size = yy at *
 go_region_held3 (fun w' => w'.cell? ⟨yy, 3, none⟩ = some (.slice (some ad) 1 c2) ∧ w'.cell? ⟨yy + 1, 1, none⟩ = some (.slice A n c) ∧ w'.cell? ⟨yy + 2, 1, none⟩ = some (.slice B m e) ∧ w'.cell? ad = some (.int .i64 pk) ∧ w'.cell? ⟨ad.block, ad.off + 1, none⟩ = some (.int .i64 pz) ∧ w'.cell? ⟨ad.block, ad.off + 2, none⟩ = some (.slice A3 n3 c3) ∧ w'.cell? ⟨ad.block, ad.off + 3, none⟩ = some (.slice A4 n4 c4) ∧ Bw W w') (first | (refine KS.out _ ?_; first | exact (Bw.refl _).drew | exact (Bw.refl _).drew.trans hg6)) (first | (go_at_call 133; (with_reducible refine (EM2.out _ (Bw.refl _).drew).mono ?_); rintro e w' ⟨rfl, hg6⟩))
 go_wp2
 go_ret
 exact ⟨rfl, HG.out.trans ((Bw.refl _).drew.trans hg6)⟩
theorem obelow_k5 (t p : T) (ok : V → Bool) (ok' : V → Bool) (f : V → V → Bool) (hk : t.kind = 5) (hp : t.parts = [p]) (hok : ∀ v, ok v = true → v.ks.length ≤ 12 ∧ v.ks.all ok' = true) (ih : BelSays p ok' f) : BelSays t ok (fun a b => domG f a.ks b.ks) := by
 intro a b ha hb rv pv s1 s2 w hT h1 h2
 obtain ⟨A, n, c, rfl, _, _, _⟩ := h1.form
 obtain ⟨B, m, e, rfl, _, _, _⟩ := h2.form
 obtain ⟨A1, rn, c1, rfl, _, _⟩ := hT.1.form'
 obtain ⟨A2, pn, c2, rfl, _, _, _⟩ := hT.2.form
 have hP := hT.2
 rw [hp] at hP
 obtain ⟨rfl, ad, A3, n3, c3, A4, n4, c4, rfl, hab, q0, q1, q2, q3, hT2⟩ := hP.at0
 have EM : Hid (∀ W, Bw w W → Calls Tryz.prog 134 #[.agg #[.int .i64 p.kind, .int .i64 p.size, .slice A3 n3 c3, .slice A4 n4 c4], .slice A n c, .slice B m e] W (BoolPost W (domG f a.ks b.ks))) := Lib.hid (fun W hg =>
   odominates_any f a.ks b.ks (hok a ha).1 (hok b hb).1 _ _ _ _ _ _ _ _ _ _ W (h1.bw hg) (h2.bw hg) (fun x hx y hy s1 s2 W' g k1 k2 => ih x y (List.all_eq_true.1 (hok a ha).2 x hx) (List.all_eq_true.1 (hok b hb).2 y hy) _ _ _ _ W' (TAt.bw hT2 (hg.trans g)) k1 k2))
 show Calls _ _ _ _ (BoolPost w (domG f a.ks b.ks))
 unfold aggT aggV
 rw [hk]
 clear h1 h2 hT hk hp ih hP hT2 hok ha hb
 generalize domG f a.ks b.ks = q at *
 generalize a.n = x at *
 generalize b.n = y at *
 generalize t.size = z at *
 generalize p.kind = pk at *
 generalize p.size = pz at *
 go_enter Tryz.func107, Tryz.ntmps107
 go_wp2_with fail
 refine wp_world (fun W => Hid (Bw w W ∧ Blk W w.heap.size 29 #[.int .i64 5, .int .i64 z, .slice A1 rn c1, .slice (some ad) 1 c2] ∧ Blk W (w.heap.size + 1) 39 #[.int .i64 x, .slice A n c] ∧ Blk W (w.heap.size + 2) 39 #[.int .i64 y, .slice B m e])) (Lib.hid (boxes3 _ _ _ _ _ _ _ _ _)) ?_
 intro W HW
 obtain ⟨hg, k1, k2, k3⟩ := HW.out
 have p0 := k1.cell 3
 have p1 := k2.cell 1
 have p2 := k3.cell 1
 have z1 := k1.lt
 have z2 := k2.lt
 have z3 := k3.lt
 have hs0 := hg.size
 have KS : Hid (∀ w', Bw W w' → w'.cell? ⟨w.heap.size, 3, none⟩ = some (.slice (some ad) 1 c2) ∧ w'.cell? ⟨w.heap.size + 1, 1, none⟩ = some (.slice A n c) ∧ w'.cell? ⟨w.heap.size + 2, 1, none⟩ = some (.slice B m e) ∧ w'.cell? ad = some (.int .i64 pk) ∧ w'.cell? ⟨ad.block, ad.off + 1, none⟩ = some (.int .i64 pz) ∧ w'.cell? ⟨ad.block, ad.off + 2, none⟩ = some (.slice A3 n3 c3) ∧ w'.cell? ⟨ad.block, ad.off + 3, none⟩ = some (.slice A4 n4 c4) ∧ Bw W w') := Lib.hid (fun w' g =>
   ⟨(g.b.cell (p := ⟨w.heap.size, 3, none⟩) z1).trans p0, (g.b.cell (p := ⟨w.heap.size + 1, 1, none⟩) z2).trans p1, (g.b.cell (p := ⟨w.heap.size + 2, 1, none⟩) z3).trans p2, ((hg.trans g).b.cell (p := ad) hab).trans q0, ((hg.trans g).b.cell (p := ⟨ad.block, ad.off + 1, none⟩) hab).trans q1, ((hg.trans g).b.cell (p := ⟨ad.block, ad.off + 2, none⟩) hab).trans q2, ((hg.trans g).b.cell (p := ⟨ad.block, ad.off + 3, none⟩) hab).trans q3, g⟩)
 have HG := Lib.hid hg
 have EM2 : Hid (∀ W', Bw W W' → Calls Tryz.prog 134 #[.agg #[.int .i64 pk, .int .i64 pz, .slice A3 n3 c3, .slice A4 n4 c4], .slice A n c, .slice B m e] W' (BoolPost W' q)) := Lib.hid (fun W' g => EM.out _ (hg.trans g))
 clear hg k1 k2 k3 HW p0 p1 p2 q0 q1 q2 q3 EM
 generalize w.heap.size = yy at *
 go_region_held3 (fun w' => w'.cell? ⟨yy, 3, none⟩ = some (.slice (some ad) 1 c2) ∧ w'.cell? ⟨yy + 1, 1, none⟩ = some (.slice A n c) ∧ w'.cell? ⟨yy + 2, 1, none⟩ = some (.slice B m e) ∧ w'.cell? ad = some (.int .i64 pk) ∧ w'.cell? ⟨ad.block, ad.off + 1, none⟩ = some (.int .i64 pz) ∧ w'.cell? ⟨ad.block, ad.off + 2, none⟩ = some (.slice A3 n3 c3) ∧ w'.cell? ⟨ad.block, ad.off + 3, none⟩ = some (.slice A4 n4 c4) ∧ Bw W w') (first | (refine KS.out _ ?_; first | exact (Bw.refl _).drew | exact (Bw.refl _).drew.trans hg6)) (first | (go_at_call 134; (with_reducible refine (EM2.out _ (Bw.refl _).drew).mono ?_); rintro e w' ⟨rfl, hg6⟩))
 go_wp2
 go_ret
 exact ⟨rfl, HG.out.trans ((Bw.refl _).drew.trans hg6)⟩
theorem belZ_step {f : T → V → V → Bool} {ps : List T} {xs ys : List V} {k : Nat} (h1 : k < ps.length) (h2 : k < xs.length) (h3 : k < ys.length) : belZ f (ps.drop k) (xs.drop k) (ys.drop k) = (f ps[k] xs[k] ys[k] && belZ f (ps.drop (k + 1)) (xs.drop (k + 1)) (ys.drop (k + 1))) := by
 rw [List.drop_eq_getElem_cons h1, List.drop_eq_getElem_cons h2, List.drop_eq_getElem_cons h3]
 rfl
theorem obelow_k3 (t : T) (ok : V → Bool) (ok' : T → V → Bool) (f : T → V → V → Bool) (hk : t.kind = 3)
   (hok : ∀ v, ok v = true → v.ks.length = t.parts.length ∧ ∀ k (h : k < t.parts.length) (h' : k < v.ks.length), ok' t.parts[k] v.ks[k] = true) (ih : ∀ p ∈ t.parts, BelSays p (ok' p) (f p)) : BelSays t ok (fun a b => belZ f t.parts a.ks b.ks) := by
 intro a b ha hb rv pv s1 s2 w hT h1 h2
 obtain ⟨la, oa⟩ := hok a ha
 obtain ⟨lb, ob⟩ := hok b hb
 obtain ⟨A, n, c, rfl, ln1, _, mn1⟩ := h1.form
 obtain ⟨B, m, e, rfl, ln2, _, mn2⟩ := h2.form
 obtain ⟨A1, rn, c1, rfl, _, _⟩ := hT.1.form'
 obtain ⟨A2, pn, c2, rfl, ln3, _, mn3⟩ := hT.2.form
 unfold maxLen at mn1 mn2 mn3
 obtain rfl : n = pn := by omega
 obtain rfl : m = n := by omega
 have HIH := Lib.hid ih
 have HP := Lib.hid hT.2
 have HK1 := Lib.hid h1
 have HK2 := Lib.hid h2
 have LN1 := Lib.hid ln1
 have LN2 := Lib.hid ln2
 have LN3 := Lib.hid ln3
 have HOA := Lib.hid oa
 have HOB := Lib.hid ob
 have HB := Lib.hid (boxes3 w (.int .i64 3) (.int .i64 t.size) (.slice A1 rn c1) (.slice A2 m c2) (.int .i64 a.n) (.slice A m c) (.int .i64 b.n) (.slice B m e))
 show Calls _ _ _ _ (BoolPost w (belZ f t.parts a.ks b.ks))
 unfold aggT aggV
 rw [hk]
 have HZ : Hid (belZ f t.parts a.ks b.ks = belZ f (t.parts.drop 0) (a.ks.drop 0) (b.ks.drop 0)) := Lib.hid rfl
 clear h1 h2 hT ln1 ln2 ln3 hk ih la lb oa ob hok ha hb
 generalize hz : belZ f t.parts a.ks b.ks = q at *
 clear hz
 generalize a.n = x at *
 generalize b.n = y at *
 generalize t.size = z at *
 go_enter Tryz.func107, Tryz.ntmps107
 go_wp2
 go_loopw [30] (fun i wr => ∃ k : Nat, k ≤ m ∧ i = .int .i64 k ∧ Hid (Bw (((w.alloc (.cells #[.int .i64 3, .int .i64 z, .slice A1 rn c1, .slice A2 m c2] 29)).alloc (.cells #[.int .i64 x, .slice A m c] 39)).alloc (.cells #[.int .i64 y, .slice B m e] 39)) wr ∧ q = belZ f (t.parts.drop k) (a.ks.drop k) (b.ks.drop k))) (fun i _ => m - (intOf i).toNat)
 case atStart => exact ⟨0, by omega, rfl, Lib.hid ⟨Bw.refl _, HZ.out⟩⟩
 case round =>
   obtain ⟨k, hk, rfl, HR⟩ := hrel
   obtain ⟨hg, hq⟩ := HR.out
   obtain ⟨hw, b1, b2, b3⟩ := HB.out
   have hgw := hw.trans hg
   have k2' := b2.below hg.b b2.lt
   have k3' := b3.below hg.b b3.lt
   have HW := Lib.hid hgw
   have HG := Lib.hid hg
   by_cases hlt : k < m
   · have e1 : k < a.ks.length := by rw [LN1.out]; exact hlt
     have e2 : k < b.ks.length := by rw [LN2.out]; exact hlt
     have e3 : k < t.parts.length := by rw [LN3.out]; exact hlt
     obtain ⟨ad, sA, sn, sc, rfl, hb, q0, q1, _, hs⟩ := (HK1.out.bw hgw).at_ e1
     obtain ⟨ae, sB, sm, se, rfl, hb3, r0, r1, _, hs2⟩ := (HK2.out.bw hgw).at_ e2
     obtain ⟨ad2, A3, n3, c3, A4, n4, c4, rfl, hb2, y0, y1, y2, y3, hT2⟩ := (HP.out.bw hgw).at_ e3
     have CM : Hid (∀ W, Bw wr W → Calls Tryz.prog 107 #[.agg #[.int .i64 t.parts[k].kind, .int .i64 t.parts[k].size, .slice A3 n3 c3, .slice A4 n4 c4], .agg #[.int .i64 a.ks[k].n, .slice sA sn sc], .agg #[.int .i64 b.ks[k].n, .slice sB sm se]] W (BoolPost W (f t.parts[k] a.ks[k] b.ks[k]))) := Lib.hid (fun W g => HIH.out _ (List.getElem_mem e3) _ _ (HOA.out k e3 e1) (HOB.out k e3 e2) _ _ _ _ _ (TAt.bw hT2 g) (hs.bw g) (hs2.bw g))
     have HZ2 : Hid (q = (f t.parts[k] a.ks[k] b.ks[k] && belZ f (t.parts.drop (k + 1)) (a.ks.drop (k + 1)) (b.ks.drop (k + 1)))) := Lib.hid (by rw [hq]; exact belZ_step e3 e1 e2)
     have p2 := k2'.cell 1
     have p3 := k3'.cell 1
     have z2 := k2'.lt
     have z3 := k3'.lt
     clear hs hs2 hT2 hq b1 b2 b3 hgw hw HR k2' k3'
     generalize f t.parts[k] a.ks[k] b.ks[k] = r at *
     generalize a.ks[k].n = xk at *
     generalize b.ks[k].n = yk at *
     generalize t.parts[k].kind = pk at *
     generalize t.parts[k].size = pz at *
     clear hg
     go_wp2_with fail
     refine wp_world (fun W => Hid (Bw wr W ∧ Blk W wr.heap.size 29 #[.int .i64 pk, .int .i64 pz, .slice A3 n3 c3, .slice A4 n4 c4])) (Lib.hid ⟨(Bw.refl _).alloc _, Blk.new _ _ _⟩) ?_
     intro W HW2
     obtain ⟨hg, k3⟩ := HW2.out
     have hs1 := hg.size
     have z4 := k3.lt
     have KS : Hid (∀ w', Bw W w' → w'.cell? ⟨w.heap.size + 1, 1, none⟩ = some (.slice (some ad) m c) ∧ w'.cell? ⟨w.heap.size + 2, 1, none⟩ = some (.slice (some ae) m e) ∧ w'.cell? ⟨wr.heap.size, 0, none⟩ = some (.int .i64 pk) ∧ w'.cell? ⟨wr.heap.size, 1, none⟩ = some (.int .i64 pz) ∧ w'.cell? ⟨wr.heap.size, 2, none⟩ = some (.slice A3 n3 c3) ∧ w'.cell? ⟨wr.heap.size, 3, none⟩ = some (.slice A4 n4 c4) ∧
         w'.cell? (ad.add (k * 2)) = some (.int .i64 xk) ∧ w'.cell? ⟨(ad.add (k * 2)).block, (ad.add (k * 2)).off + 1, none⟩ = some (.slice sA sn sc) ∧ w'.cell? (ae.add (k * 2)) = some (.int .i64 yk) ∧ w'.cell? ⟨(ae.add (k * 2)).block, (ae.add (k * 2)).off + 1, none⟩ = some (.slice sB sm se) ∧ Bw W w') := Lib.hid (fun w' g =>
       ⟨((hg.trans g).b.cell (p := ⟨w.heap.size + 1, 1, none⟩) z2).trans p2, ((hg.trans g).b.cell (p := ⟨w.heap.size + 2, 1, none⟩) z3).trans p3, (g.b.cell (p := ⟨wr.heap.size, 0, none⟩) z4).trans (k3.cell 0), (g.b.cell (p := ⟨wr.heap.size, 1, none⟩) z4).trans (k3.cell 1), (g.b.cell (p := ⟨wr.heap.size, 2, none⟩) z4).trans (k3.cell 2), (g.b.cell (p := ⟨wr.heap.size, 3, none⟩) z4).trans (k3.cell 3),
        ((hg.trans g).b.cell (by rw [add_block]; exact hb)).trans q0, ((hg.trans g).b.cell (by simp only [add_block]; exact hb)).trans q1, ((hg.trans g).b.cell (by rw [add_block]; exact hb3)).trans r0, ((hg.trans g).b.cell (by simp only [add_block]; exact hb3)).trans r1, g⟩)
     have CM2 : Hid (∀ W', Bw W W' → Calls Tryz.prog 107 #[.agg #[.int .i64 pk, .int .i64 pz, .slice A3 n3 c3, .slice A4 n4 c4], .agg #[.int .i64 xk, .slice sA sn sc], .agg #[.int .i64 yk, .slice sB sm se]] W' (BoolPost W' r)) := Lib.hid (fun W' g => CM.out _ (hg.trans g))
     have HG2 := Lib.hid hg
     clear hg k3 HW2 p2 p3 q0 q1 r0 r1 y0 y1 y2 y3 CM
     generalize hzz : wr.heap.size = yy at *
     have HZZ := Lib.hid hzz
     clear hzz
     go_region_held3 (fun w' => w'.cell? ⟨w.heap.size + 1, 1, none⟩ = some (.slice (some ad) m c) ∧ w'.cell? ⟨w.heap.size + 2, 1, none⟩ = some (.slice (some ae) m e) ∧ w'.cell? ⟨yy, 0, none⟩ = some (.int .i64 pk) ∧ w'.cell? ⟨yy, 1, none⟩ = some (.int .i64 pz) ∧ w'.cell? ⟨yy, 2, none⟩ = some (.slice A3 n3 c3) ∧ w'.cell? ⟨yy, 3, none⟩ = some (.slice A4 n4 c4) ∧
         w'.cell? (ad.add (k * 2)) = some (.int .i64 xk) ∧ w'.cell? ⟨(ad.add (k * 2)).block, (ad.add (k * 2)).off + 1, none⟩ = some (.slice sA sn sc) ∧ w'.cell? (ae.add (k * 2)) = some (.int .i64 yk) ∧ w'.cell? ⟨(ae.add (k * 2)).block, (ae.add (k * 2)).off + 1, none⟩ = some (.slice sB sm se) ∧ Bw W w') (first | (refine KS.out _ ?_; first | exact (Bw.refl _).drew | exact (Bw.refl _).drew.trans hg6)) (first | (go_at_call 107; (with_reducible refine (CM2.out _ (Bw.refl _).drew).mono ?_); rintro e w' ⟨rfl, hg6⟩))
     have HG6 : Hid (Bw wr w') := Lib.hid (HG2.out.trans ((Bw.refl _).drew.trans hg6))
     clear hg6
     rcases r with _ | _
     · have HF2 : Hid (q = false) := Lib.hid (by rw [HZ2.out]; rfl)
       go_wp2
       go_ret
       exact ⟨ret_bool (by rw [HF2.out]), HW.out.trans HG6.out⟩
     · have HF2 : Hid (q = belZ f (t.parts.drop (k + 1)) (a.ks.drop (k + 1)) (b.ks.drop (k + 1))) := Lib.hid (by rw [HZ2.out]; rfl)
       go_wp2
       go_roundw
       case rel => exact ⟨k + 1, by omega, by go_num, Lib.hid ⟨HG.out.trans HG6.out, HF2.out⟩⟩
       case measure => simp [intOf]; omega
   · obtain rfl : k = m := by omega
     have HF2 : Hid (q = true) := Lib.hid (by rw [hq, List.drop_eq_nil_of_le (by rw [LN3.out]; omega)]; rfl)
     go_wp2
     go_ret
     exact ⟨ret_bool (by rw [HF2.out]), HW.out⟩
end Go.Proofs.YtbmheekaclmibaaGreat
