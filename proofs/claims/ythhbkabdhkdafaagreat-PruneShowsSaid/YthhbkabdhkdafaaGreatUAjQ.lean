/- Part of a proof of pruneShows_holds. -/
import Derived.Test.YthhbkabdhkdafaaGreatUAiQ
set_option linter.unusedSimpArgs false
set_option linter.unusedVariables false
set_option maxRecDepth 100000
set_option maxHeartbeats 16000000
namespace Go.Proofs.YthhbkabdhkdafaaGreat
section
open Go.RowKit
theorem boxes (w : World) (a0 a1 a2 a3 b0 b1 : Value) : Bw w ((w.alloc (.cells #[a0, a1, a2, a3] 50)).alloc (.cells #[b0, b1] 31)) ∧ Blk ((w.alloc (.cells #[a0, a1, a2, a3] 50)).alloc (.cells #[b0, b1] 31)) w.heap.size 50 #[a0, a1, a2, a3] ∧
   Blk ((w.alloc (.cells #[a0, a1, a2, a3] 50)).alloc (.cells #[b0, b1] 31)) (w.heap.size + 1) 31 #[b0, b1] :=
 ⟨((Bw.refl _).alloc _).alloc _, (Blk.new _ _ _).alloc _, by have := Blk.new (w.alloc (.cells #[a0, a1, a2, a3] 50)) 31 #[b0, b1]; simpa only [World.size_alloc] using this⟩
theorem PAt.at0 {w : World} {S : Nat → Prop} {A : Option Addr} {n c : Nat} {p : T} (h : PAt w S (.slice A n c) [p]) : n = 1 ∧ ∃ ad A' n' c' A'' n'' c'', A = some ad ∧ S ad.block ∧ w.cell? ad = some (.int .i64 p.kind) ∧
   w.cell? ⟨ad.block, ad.off + 1, none⟩ = some (.int .i64 p.size) ∧ w.cell? ⟨ad.block, ad.off + 2, none⟩ = some (.slice A' n' c') ∧ w.cell? ⟨ad.block, ad.off + 3, none⟩ = some (.slice A'' n'' c'') ∧ TAt w S (.slice A' n' c') (.slice A'' n'' c'') p := by
 obtain ⟨A0, n0, c0, e, hl, _⟩ := h.form
 injection e with e1 e2 e3
 subst e1 e2 e3
 obtain ⟨ad, A', n', c', A'', n'', c'', h1, h2, h3, h4, h5, h6, h7⟩ := h.at_ (k := 0) (by simp)
 have e : ad.add (0 * 4) = ad := by unfold Addr.add; simp
 rw [e] at h3 h4 h5 h6
 exact ⟨by simpa using hl.symm, ad, A', n', c', A'', n'', c'', h1, h2, h3, h4, h5, h6, h7⟩
theorem oone_k4 (t p : T) (f : V → Bool) (hk : t.kind = 4) (hp : t.parts = [p]) (ih : OneSays p f) : OneSays t (listB f) := by
 intro v rv pv s w hT h
 obtain ⟨A, n, c, rfl, ln, bn, mn⟩ := h.form
 obtain ⟨A1, rn, c1, rfl, _, _⟩ := hT.1.form'
 obtain ⟨A2, pn, c2, rfl, _, _, _⟩ := hT.2.form
 have hP := hT.2
 rw [hp] at hP
 obtain ⟨rfl, ad, A3, n3, c3, A4, n4, c4, rfl, hab, q0, q1, q2, q3, hT2⟩ := hP.at0
 have LS : Hid (∀ W, Bw w W → Calls Tryz.prog 170 #[.agg #[.int .i64 v.n, .slice A n c], .agg #[.int .i64 p.kind, .int .i64 p.size, .slice A3 n3 c3, .slice A4 n4 c4]] W (BoolPost W (listB f v))) := Lib.hid (fun W hg => olist_any p f ih v _ _ _ W (TAt.bw hT2 hg) (h.bw hg))
 unfold aggT aggV
 rw [hk]
 clear h hT ln hk hp ih hP hT2
 generalize listB f v = q at *
 generalize v.n = x at *
 generalize t.size = z at *
 generalize p.kind = pk at *
 generalize p.size = pz at *
 go_enter Tryz.func103, Tryz.ntmps103
 go_wp2_with fail
 refine wp_world (fun W => Hid (Bw w W ∧ Blk W w.heap.size 50 #[.int .i64 4, .int .i64 z, .slice A1 rn c1, .slice (some ad) 1 c2] ∧ Blk W (w.heap.size + 1) 31 #[.int .i64 x, .slice A n c])) (Lib.hid (boxes _ _ _ _ _ _ _)) ?_
 intro W HW
 obtain ⟨hg, k1, k2⟩ := HW.out
 have p0 := k1.cell 3
 have p1 := k2.cell 0
 have p2 := k2.cell 1
 have z1 := k1.lt
 have z2 := k2.lt
 have hs0 := hg.size
 have KS : Hid (∀ w', Bw W w' → w'.cell? ⟨w.heap.size, 3, none⟩ = some (.slice (some ad) 1 c2) ∧ w'.cell? ⟨w.heap.size + 1, 0, none⟩ = some (.int .i64 x) ∧ w'.cell? ⟨w.heap.size + 1, 1, none⟩ = some (.slice A n c) ∧ w'.cell? ad = some (.int .i64 pk) ∧ w'.cell? ⟨ad.block, ad.off + 1, none⟩ = some (.int .i64 pz) ∧ w'.cell? ⟨ad.block, ad.off + 2, none⟩ = some (.slice A3 n3 c3) ∧ w'.cell? ⟨ad.block, ad.off + 3, none⟩ = some (.slice A4 n4 c4) ∧ Bw W w') := Lib.hid (fun w' g =>
   ⟨(g.b.cell (p := ⟨w.heap.size, 3, none⟩) z1).trans p0, (g.b.cell (p := ⟨w.heap.size + 1, 0, none⟩) z2).trans p1, (g.b.cell (p := ⟨w.heap.size + 1, 1, none⟩) z2).trans p2, ((hg.trans g).b.cell (p := ad) hab).trans q0, ((hg.trans g).b.cell (p := ⟨ad.block, ad.off + 1, none⟩) hab).trans q1, ((hg.trans g).b.cell (p := ⟨ad.block, ad.off + 2, none⟩) hab).trans q2, ((hg.trans g).b.cell (p := ⟨ad.block, ad.off + 3, none⟩) hab).trans q3, g⟩)
 have HG := Lib.hid hg
 have LS2 : Hid (∀ W', Bw W W' → Calls Tryz.prog 170 #[.agg #[.int .i64 x, .slice A n c], .agg #[.int .i64 pk, .int .i64 pz, .slice A3 n3 c3, .slice A4 n4 c4]] W' (BoolPost W' q)) := Lib.hid (fun W' g => LS.out _ (hg.trans g))
 clear hg k1 k2 HW p0 p1 p2 q0 q1 q2 q3 LS
 generalize w.heap.size = y at *
 go_region_held3 (fun w' => w'.cell? ⟨y, 3, none⟩ = some (.slice (some ad) 1 c2) ∧ w'.cell? ⟨y + 1, 0, none⟩ = some (.int .i64 x) ∧ w'.cell? ⟨y + 1, 1, none⟩ = some (.slice A n c) ∧ w'.cell? ad = some (.int .i64 pk) ∧ w'.cell? ⟨ad.block, ad.off + 1, none⟩ = some (.int .i64 pz) ∧ w'.cell? ⟨ad.block, ad.off + 2, none⟩ = some (.slice A3 n3 c3) ∧ w'.cell? ⟨ad.block, ad.off + 3, none⟩ = some (.slice A4 n4 c4) ∧ Bw W w') (first | (refine KS.out _ ?_; first | exact (Bw.refl _).drew | exact (Bw.refl _).drew.trans hg6)) (first | (go_at_call 170; (with_reducible refine (LS2.out _ (Bw.refl _).drew).mono ?_); rintro e w' ⟨rfl, hg6⟩))
 go_wp2
 go_ret
 exact ⟨rfl, HG.out.trans ((Bw.refl _).drew.trans hg6)⟩
theorem oone_k5 (t p : T) (f : V → Bool) (hk : t.kind = 5) (hp : t.parts = [p]) (ih : OneSays p f) : OneSays t (fun v => listB f v && sortedB v.ks) := by
 intro v rv pv s w hT h
 obtain ⟨A, n, c, rfl, ln, bn, mn⟩ := h.form
 obtain ⟨A1, rn, c1, rfl, _, _⟩ := hT.1.form'
 obtain ⟨A2, pn, c2, rfl, _, _, _⟩ := hT.2.form
 have hP := hT.2
 rw [hp] at hP
 obtain ⟨rfl, ad, A3, n3, c3, A4, n4, c4, rfl, hab, q0, q1, q2, q3, hT2⟩ := hP.at0
 have LS : Hid (∀ W, Bw w W → Calls Tryz.prog 170 #[.agg #[.int .i64 v.n, .slice A n c], .agg #[.int .i64 p.kind, .int .i64 p.size, .slice A3 n3 c3, .slice A4 n4 c4]] W (BoolPost W (listB f v))) := Lib.hid (fun W hg => olist_any p f ih v _ _ _ W (TAt.bw hT2 hg) (h.bw hg))
 have SO : Hid (∀ W, Bw w W → Calls Tryz.prog 171 #[.slice A n c, .func (.func 172) #[] #[]] W (BoolPost W (sortedB v.ks))) := Lib.hid (fun W hg => isSorted_any v.ks _ W (h.bw hg))
 show Calls _ _ _ _ (BoolPost w (listB f v && sortedB v.ks))
 unfold aggT aggV
 rw [hk]
 clear h hT ln hk hp ih hP hT2
 generalize listB f v = q at *
 generalize sortedB v.ks = q5 at *
 generalize v.n = x at *
 generalize t.size = z at *
 generalize p.kind = pk at *
 generalize p.size = pz at *
 go_enter Tryz.func103, Tryz.ntmps103
 go_wp2_with fail
 refine wp_world (fun W => Hid (Bw w W ∧ Blk W w.heap.size 50 #[.int .i64 5, .int .i64 z, .slice A1 rn c1, .slice (some ad) 1 c2] ∧ Blk W (w.heap.size + 1) 31 #[.int .i64 x, .slice A n c])) (Lib.hid (boxes _ _ _ _ _ _ _)) ?_
 intro W HW
 obtain ⟨hg, k1, k2⟩ := HW.out
 have p0 := k1.cell 3
 have p1 := k2.cell 0
 have p2 := k2.cell 1
 have z1 := k1.lt
 have z2 := k2.lt
 have hs0 := hg.size
 have KS : Hid (∀ w', Bw W w' → w'.cell? ⟨w.heap.size, 3, none⟩ = some (.slice (some ad) 1 c2) ∧ w'.cell? ⟨w.heap.size + 1, 0, none⟩ = some (.int .i64 x) ∧ w'.cell? ⟨w.heap.size + 1, 1, none⟩ = some (.slice A n c) ∧ w'.cell? ad = some (.int .i64 pk) ∧ w'.cell? ⟨ad.block, ad.off + 1, none⟩ = some (.int .i64 pz) ∧ w'.cell? ⟨ad.block, ad.off + 2, none⟩ = some (.slice A3 n3 c3) ∧ w'.cell? ⟨ad.block, ad.off + 3, none⟩ = some (.slice A4 n4 c4) ∧ Bw W w') := Lib.hid (fun w' g =>
   ⟨(g.b.cell (p := ⟨w.heap.size, 3, none⟩) z1).trans p0, (g.b.cell (p := ⟨w.heap.size + 1, 0, none⟩) z2).trans p1, (g.b.cell (p := ⟨w.heap.size + 1, 1, none⟩) z2).trans p2, ((hg.trans g).b.cell (p := ad) hab).trans q0, ((hg.trans g).b.cell (p := ⟨ad.block, ad.off + 1, none⟩) hab).trans q1, ((hg.trans g).b.cell (p := ⟨ad.block, ad.off + 2, none⟩) hab).trans q2, ((hg.trans g).b.cell (p := ⟨ad.block, ad.off + 3, none⟩) hab).trans q3, g⟩)
 have HG := Lib.hid hg
 have LS2 : Hid (∀ W', Bw W W' → Calls Tryz.prog 170 #[.agg #[.int .i64 x, .slice A n c], .agg #[.int .i64 pk, .int .i64 pz, .slice A3 n3 c3, .slice A4 n4 c4]] W' (BoolPost W' q)) := Lib.hid (fun W' g => LS.out _ (hg.trans g))
 have SO2 : Hid (∀ W', Bw W W' → Calls Tryz.prog 171 #[.slice A n c, .func (.func 172) #[] #[]] W' (BoolPost W' q5)) := Lib.hid (fun W' g => SO.out _ (hg.trans g))
 clear hg k1 k2 HW p0 p1 p2 q0 q1 q2 q3 LS SO
 generalize w.heap.size = y at *
 rcases q with _ | _
 · obtain ⟨p0, p1, p2, q0, q1, q2, q3, _⟩ := KS.out W (Bw.refl _)
   first | (go_region_with ((go_at_call 170; refine (LS2.out _ (Bw.refl _).drew).mono ?_; rintro e w' ⟨rfl, hg6⟩))) | fail
   all_goals
     go_wp2
     go_ret
     exact ⟨rfl, HG.out.trans ((Bw.refl _).drew.trans hg6)⟩
 · go_region_held3 (fun w' => w'.cell? ⟨y, 3, none⟩ = some (.slice (some ad) 1 c2) ∧ w'.cell? ⟨y + 1, 0, none⟩ = some (.int .i64 x) ∧ w'.cell? ⟨y + 1, 1, none⟩ = some (.slice A n c) ∧ w'.cell? ad = some (.int .i64 pk) ∧ w'.cell? ⟨ad.block, ad.off + 1, none⟩ = some (.int .i64 pz) ∧ w'.cell? ⟨ad.block, ad.off + 2, none⟩ = some (.slice A3 n3 c3) ∧ w'.cell? ⟨ad.block, ad.off + 3, none⟩ = some (.slice A4 n4 c4) ∧ Bw W w') (first | (refine KS.out _ ?_; first | exact (Bw.refl _).drew | exact (Bw.refl _).drew.trans hg6 | exact ((Bw.refl _).drew.trans hg6).trans hg7)) (first | (go_at_call 170; (with_reducible refine (LS2.out _ (Bw.refl _).drew).mono ?_); rintro e w' ⟨rfl, hg6⟩) | (go_at_call 171; (with_reducible refine (SO2.out _ ((Bw.refl _).drew.trans hg6)).mono ?_); rintro e w'' ⟨rfl, hg7⟩))
   go_wp2
   go_ret
   exact ⟨rfl, HG.out.trans (((Bw.refl _).drew.trans hg6).trans hg7)⟩

theorem oneZ_step {f : T → V → Bool} {ps : List T} {vs : List V} {k : Nat} (h1 : k < ps.length) (h2 : k < vs.length) : oneZ f (ps.drop k) (vs.drop k) = (f ps[k] vs[k] && oneZ f (ps.drop (k + 1)) (vs.drop (k + 1))) := by
 rw [List.drop_eq_getElem_cons h1, List.drop_eq_getElem_cons h2]; rfl
def oneK3 (f : T → V → Bool) (ps : List T) (v : V) : Bool := v.n == 0 && v.ks.length == ps.length && oneZ f ps v.ks
theorem oone_k3 (t : T) (f : T → V → Bool) (hk : t.kind = 3) (ih : ∀ p ∈ t.parts, OneSays p (f p)) : OneSays t (oneK3 f t.parts) := by
 intro v rv pv s w hT h
 obtain ⟨A, n, c, rfl, ln, bn, mn⟩ := h.form
 obtain ⟨A1, rn, c1, rfl, _, _⟩ := hT.1.form'
 obtain ⟨A2, pn, c2, rfl, ln2, bn2, mn2⟩ := hT.2.form
 unfold maxLen at mn mn2
 have HIH := Lib.hid ih
 have HP := Lib.hid hT.2
 have HK := Lib.hid h
 have LN := Lib.hid ln
 have LN2 := Lib.hid ln2
 have HB := Lib.hid (boxes w (.int .i64 3) (.int .i64 t.size) (.slice A1 rn c1) (.slice A2 pn c2) (.int .i64 v.n) (.slice A n c))
 show Calls _ _ _ _ (BoolPost w (v.n == 0 && v.ks.length == t.parts.length && oneZ f t.parts v.ks))
 unfold aggT aggV
 rw [hk, ln, ln2]
 clear h hT ln hk ih ln2
 have HZ : Hid (oneZ f t.parts v.ks = oneZ f (t.parts.drop 0) (v.ks.drop 0)) := Lib.hid rfl
 generalize hz : oneZ f t.parts v.ks = q at *
 clear hz
 generalize v.n = x at *
 generalize t.size = z at *
 by_cases hx : x = 0
 rotate_left
 · have d0 : (x == 0) = false := by simpa using hx
   have HF : Hid ((x == 0 && n == pn && q) = false) := Lib.hid (by rw [d0]; rfl)
   go_enter Tryz.func103, Tryz.ntmps103
   go_wp2
   go_ret
   exact ⟨ret_bool (by first | rfl | exact HF.out.symm), HB.out.1⟩
 subst hx
 by_cases hn : n = pn
 rotate_left
 · have HF : Hid (((0 : Int) == 0 && n == pn && q) = false) := Lib.hid (by simp [hn])
   have d1 : ((n : Int) == (pn : Int)) = false := by simp; omega
   go_enter Tryz.func103, Tryz.ntmps103
   go_wp2
   go_ret
   exact ⟨ret_bool (by first | rfl | exact HF.out.symm), HB.out.1⟩
 subst hn
 have HF : Hid (((0 : Int) == 0 && n == n && q) = q) := Lib.hid (by simp)
 go_enter Tryz.func103, Tryz.ntmps103
 go_wp2
 go_loopw [48] (fun i wr => ∃ k : Nat, k ≤ n ∧ i = .int .i64 k ∧ Hid (Bw ((w.alloc (.cells #[.int .i64 3, .int .i64 z, .slice A1 rn c1, .slice A2 n c2] 50)).alloc (.cells #[.int .i64 0, .slice A n c] 31)) wr ∧ q = oneZ f (t.parts.drop k) (v.ks.drop k))) (fun i _ => n - (intOf i).toNat)
 case atStart => exact ⟨0, by omega, rfl, Lib.hid ⟨Bw.refl _, HZ.out⟩⟩
 case round =>
   obtain ⟨k, hk, rfl, HR⟩ := hrel
   obtain ⟨hg, hq⟩ := HR.out
   obtain ⟨hw, k1, k2⟩ := HB.out
   have hgw := hw.trans hg
   have k1' := k1.below hg.b k1.lt
   have k2' := k2.below hg.b k2.lt
   have HW := Lib.hid hgw
   have HQ := Lib.hid hq
   have HG := Lib.hid hg
   by_cases hlt : k < n
   · have e1 : k < v.ks.length := by rw [LN.out]; exact hlt
     have e2 : k < t.parts.length := by rw [LN2.out]; exact hlt
     obtain ⟨ad, sA, sn, sc, rfl, hb, q0, q1, sl, hs⟩ := (HK.out.bw hgw).at_ e1
     obtain ⟨ad2, A3, n3, c3, A4, n4, c4, rfl, hb2, y0, y1, y2, y3, hT2⟩ := (HP.out.bw hgw).at_ e2
     have CM : Hid (∀ W, Bw wr W → Calls Tryz.prog 103 #[.agg #[.int .i64 t.parts[k].kind, .int .i64 t.parts[k].size, .slice A3 n3 c3, .slice A4 n4 c4], .agg #[.int .i64 v.ks[k].n, .slice sA sn sc]] W (BoolPost W (f t.parts[k] v.ks[k]))) := Lib.hid (fun W g => HIH.out _ (List.getElem_mem e2) _ _ _ _ _ (TAt.bw hT2 g) (hs.bw g))
     have HZ2 : Hid (q = (f t.parts[k] v.ks[k] && oneZ f (t.parts.drop (k + 1)) (v.ks.drop (k + 1)))) := Lib.hid (by rw [hq]; exact oneZ_step e2 e1)
     have p3 := k1'.cell 3
     have z1 := k1'.lt
     clear hs sl hT2 hq HQ k1 k2 hgw hw HR k2'
     generalize f t.parts[k] v.ks[k] = r at *
     generalize v.ks[k].n = x at *
     generalize t.parts[k].kind = pk at *
     generalize t.parts[k].size = pz at *
     clear hg
     go_wp2_with fail
     refine wp_world (fun W => Hid (Bw wr W ∧ Blk W wr.heap.size 31 #[.int .i64 x, .slice sA sn sc])) (Lib.hid ⟨(Bw.refl _).alloc _, Blk.new _ _ _⟩) ?_
     intro W HW2
     obtain ⟨hg, k3⟩ := HW2.out
     have hs1 := hg.size
     have z3 := k3.lt
     have KS : Hid (∀ w', Bw W w' → w'.cell? ⟨w.heap.size, 3, none⟩ = some (.slice (some ad2) n c2) ∧ w'.cell? ⟨wr.heap.size, 0, none⟩ = some (.int .i64 x) ∧ w'.cell? ⟨wr.heap.size, 1, none⟩ = some (.slice sA sn sc) ∧ w'.cell? (ad2.add (k * 4)) = some (.int .i64 pk) ∧ w'.cell? ⟨(ad2.add (k * 4)).block, (ad2.add (k * 4)).off + 1, none⟩ = some (.int .i64 pz) ∧ w'.cell? ⟨(ad2.add (k * 4)).block, (ad2.add (k * 4)).off + 2, none⟩ = some (.slice A3 n3 c3) ∧ w'.cell? ⟨(ad2.add (k * 4)).block, (ad2.add (k * 4)).off + 3, none⟩ = some (.slice A4 n4 c4) ∧ Bw W w') := Lib.hid (fun w' g =>
       ⟨((hg.trans g).b.cell (p := ⟨w.heap.size, 3, none⟩) z1).trans p3, (g.b.cell (p := ⟨wr.heap.size, 0, none⟩) z3).trans (k3.cell 0), (g.b.cell (p := ⟨wr.heap.size, 1, none⟩) z3).trans (k3.cell 1), ((hg.trans g).b.cell (by rw [add_block]; exact hb2)).trans y0, ((hg.trans g).b.cell (by simp only [add_block]; exact hb2)).trans y1, ((hg.trans g).b.cell (by simp only [add_block]; exact hb2)).trans y2, ((hg.trans g).b.cell (by simp only [add_block]; exact hb2)).trans y3, g⟩)
     have CM2 : Hid (∀ W', Bw W W' → Calls Tryz.prog 103 #[.agg #[.int .i64 pk, .int .i64 pz, .slice A3 n3 c3, .slice A4 n4 c4], .agg #[.int .i64 x, .slice sA sn sc]] W' (BoolPost W' r)) := Lib.hid (fun W' g => CM.out _ (hg.trans g))
     have HG2 := Lib.hid hg
     clear hg k3 HW2 p3 q0 q1 y0 y1 y2 y3 CM
     generalize hzz : wr.heap.size = yy at *
     have HZZ := Lib.hid hzz
     clear hzz
     go_region_held3 (fun w' => w'.cell? ⟨w.heap.size, 3, none⟩ = some (.slice (some ad2) n c2) ∧ w'.cell? ⟨yy, 0, none⟩ = some (.int .i64 x) ∧ w'.cell? ⟨yy, 1, none⟩ = some (.slice sA sn sc) ∧ w'.cell? (ad2.add (k * 4)) = some (.int .i64 pk) ∧ w'.cell? ⟨(ad2.add (k * 4)).block, (ad2.add (k * 4)).off + 1, none⟩ = some (.int .i64 pz) ∧ w'.cell? ⟨(ad2.add (k * 4)).block, (ad2.add (k * 4)).off + 2, none⟩ = some (.slice A3 n3 c3) ∧ w'.cell? ⟨(ad2.add (k * 4)).block, (ad2.add (k * 4)).off + 3, none⟩ = some (.slice A4 n4 c4) ∧ Bw W w') (first | (refine KS.out _ ?_; first | exact (Bw.refl _).drew | exact (Bw.refl _).drew.trans hg6)) (first | (go_at_call 103; (with_reducible refine (CM2.out _ (Bw.refl _).drew).mono ?_); rintro e w' ⟨rfl, hg6⟩))
     have HG6 : Hid (Bw wr w') := Lib.hid (HG2.out.trans ((Bw.refl _).drew.trans hg6))
     clear hg6
     rcases r with _ | _
     · have HF2 : Hid (q = false) := Lib.hid (by rw [HZ2.out]; rfl)
       go_wp2
       go_ret
       exact ⟨ret_bool (by rw [HF.out, HF2.out]), HW.out.trans HG6.out⟩
     · have HF2 : Hid (q = oneZ f (t.parts.drop (k + 1)) (v.ks.drop (k + 1))) := Lib.hid (by rw [HZ2.out]; rfl)
       go_wp2
       go_roundw
       case rel => exact ⟨k + 1, by omega, by go_num, Lib.hid ⟨HG.out.trans HG6.out, HF2.out⟩⟩
       case measure => simp [intOf]; omega
   · obtain rfl : k = n := by omega
     have HF2 : Hid (q = true) := Lib.hid (by rw [HQ.out, List.drop_eq_nil_of_le (by rw [LN2.out]; omega), List.drop_eq_nil_of_le (by rw [LN.out]; omega)]; rfl)
     clear hq HQ k1 k2 hgw hw HR k2' k1' hg
     go_wp2
     go_ret
     exact ⟨ret_bool (by rw [HF.out, HF2.out]), HW.out⟩

theorem OneSays.of_eq {t : T} {f g : V → Bool} (h : OneSays t f) (e : ∀ v, f v = g v) : OneSays t g := by
 have : f = g := funext e
 rwa [← this]
theorem oone_any (d : Nat) : ∀ t, rightP d t = true → OneSays t (oneP d t) := by
 induction d with
 | zero => intro t h; simp [rightP] at h
 | succ d ih =>
   intro t hr
   by_cases k1 : t.kind = 1
   · exact (oone_k1 t k1).of_eq fun v => by simp only [oneP]; rw [if_pos k1]; rfl
   by_cases k2 : t.kind = 2
   · exact (oone_k2 t k2).of_eq fun v => by simp only [oneP]; rw [if_neg k1, if_pos k2]
   by_cases k3 : t.kind = 3
   · exact (oone_k3 t (oneP d) k3 (fun p hp => ih p (List.all_eq_true.1 (parts_right hr k3).1 p hp))).of_eq fun v => by simp only [oneP]; rw [if_neg k1, if_neg k2, if_pos k3]; rfl
   by_cases k4 : t.kind = 4
   · exact (oone_k4 t t.p0 (oneP d t.p0) k4 (p0_right hr (.inl k4)).2 (ih _ (p0_right hr (.inl k4)).1)).of_eq fun v => by simp only [oneP]; rw [if_neg k1, if_neg k2, if_neg k3, if_pos k4]; rfl
   by_cases k5 : t.kind = 5
   · exact (oone_k5 t t.p0 (oneP d t.p0) k5 (p0_right hr (.inr k5)).2 (ih _ (p0_right hr (.inr k5)).1)).of_eq fun v => by simp only [oneP]; rw [if_neg k1, if_neg k2, if_neg k3, if_neg k4, if_pos k5]; rfl
   by_cases k6 : t.kind = 6
   · exact (oone_k6 t k6).of_eq fun v => by simp only [oneP]; rw [if_neg k1, if_neg k2, if_neg k3, if_neg k4, if_neg k5, if_pos k6]; rfl
   have k7 : t.kind = 7 := by
     simp only [rightP, Bool.and_eq_true] at hr
     have hr := hr.2
     by_cases k7 : t.kind = 7
     · exact k7
     · rw [if_neg k1, if_neg (by omega), if_neg k7, if_neg k3, if_neg (by omega)] at hr; cases hr
   exact (oone_k7 t k7).of_eq fun v => by simp only [oneP]; rw [if_neg k1, if_neg k2, if_neg k3, if_neg k4, if_neg k5, if_neg k6]; rfl
theorem ovalid_any (t : T) (v : V) (rv pv s : Value) (w : World) (hT : TB w w.heap.size rv pv t) (h : KB w w.heap.size s v.ks) (b : Bool) (hb : validP t v = b) :
   Calls Tryz.prog 54 #[.agg #[.int .i64 t.kind, .int .i64 t.size, rv, pv], .agg #[.int .i64 v.n, s]] w (BoolPost w b) := by
 subst hb
 obtain ⟨A, n, c, rfl, ln, bn, mn⟩ := h.form
 obtain ⟨A1, rn, c1, rfl, _, _⟩ := hT.1.form'
 obtain ⟨A2, pn, c2, rfl, _, _, _⟩ := hT.2.form
 have CK : Hid (∀ W, Bw w W → Calls Tryz.prog 101 #[.agg #[.int .i64 t.kind, .int .i64 t.size, .slice A1 rn c1, .slice A2 pn c2]] W (NumPost W (if rightP 8 t then 0 else 6))) := Lib.hid (fun W g => ocheck_any t _ _ W (TAt.bw hT g) _ rfl)
 have SZ : Hid (∀ W, Bw w W → Calls Tryz.prog 102 #[.agg #[.int .i64 v.n, .slice A n c]] W (NumPost W (min (v.size : Int) 129))) := Lib.hid (fun W g => osize_any v _ W (h.bw g))
 have ON : Hid (rightP 8 t = true → ∀ W, Bw w W → Calls Tryz.prog 103 #[.agg #[.int .i64 t.kind, .int .i64 t.size, .slice A1 rn c1, .slice A2 pn c2], .agg #[.int .i64 v.n, .slice A n c]] W (BoolPost W (oneP 8 t v))) := Lib.hid (fun hr W g => oone_any 8 t hr v _ _ _ W (TAt.bw hT g) (h.bw g))
 have HB := Lib.hid (boxes w (.int .i64 t.kind) (.int .i64 t.size) (.slice A1 rn c1) (.slice A2 pn c2) (.int .i64 v.n) (.slice A n c))
 unfold validP
 clear h hT ln
 generalize hq : oneP 8 t v = q at *
 clear hq
 have hsz : decide (v.size ≤ 128) = decide (min (v.size : Int) 129 ≤ 128) := by rw [Bool.eq_iff_iff]; simp; omega
 rw [hsz]
 have hm1 : min (v.size : Int) 129 ≤ 129 := by omega
 generalize min (v.size : Int) 129 = m at *
 clear hsz
 generalize v.n = x at *
 generalize t.kind = kd at *
 generalize t.size = z at *
 have HW2 : Hid (∀ W, Bw ((w.alloc (.cells #[.int .i64 kd, .int .i64 z, .slice A1 rn c1, .slice A2 pn c2] 50)).alloc (.cells #[.int .i64 x, .slice A n c] 31)) W → w.heap.size + 1 < W.heap.size ∧ Bw w W ∧ W.cell? ⟨w.heap.size, 0, none⟩ = some (.int .i64 kd) ∧ W.cell? ⟨w.heap.size, 1, none⟩ = some (.int .i64 z) ∧ W.cell? ⟨w.heap.size, 2, none⟩ = some (.slice A1 rn c1) ∧ W.cell? ⟨w.heap.size, 3, none⟩ = some (.slice A2 pn c2) ∧ W.cell? ⟨w.heap.size + 1, 0, none⟩ = some (.int .i64 x) ∧ W.cell? ⟨w.heap.size + 1, 1, none⟩ = some (.slice A n c)) := Lib.hid (fun W g => by
   obtain ⟨b0, b1, b2⟩ := HB.out
   have b3 := b1.below g.b b1.lt
   have b4 := b2.below g.b b2.lt
   exact ⟨b4.lt, b0.trans g, b3.cell 0, b3.cell 1, b3.cell 2, b3.cell 3, b4.cell 0, b4.cell 1⟩)
 have HB1 : Hid (Bw w ((w.alloc (.cells #[.int .i64 kd, .int .i64 z, .slice A1 rn c1, .slice A2 pn c2] 50)).alloc (.cells #[.int .i64 x, .slice A n c] 31))) := Lib.hid HB.out.1
 clear HB
 rcases hr : rightP 8 t with _ | _
 · have CK2 : Hid (∀ W, Bw w W → Calls Tryz.prog 101 #[.agg #[.int .i64 kd, .int .i64 z, .slice A1 rn c1, .slice A2 pn c2]] W (NumPost W 6)) := Lib.hid (by have := CK.out; rw [hr] at this; exact this)
   clear CK hr ON SZ
   go_enter Tryz.func54, Tryz.ntmps54
   go_wp2_with (go_at_call 101; go_must (refine (CK2.out _ HB1.out).mono ?_; rintro e w6 ⟨rfl, hg6⟩; (have HG6 := Lib.hid hg6); clear hg6))
   go_ret
   exact ⟨rfl, HB1.out.trans HG6.out⟩
 · have CK2 : Hid (∀ W, Bw w W → Calls Tryz.prog 101 #[.agg #[.int .i64 kd, .int .i64 z, .slice A1 rn c1, .slice A2 pn c2]] W (NumPost W 0)) := Lib.hid (by have := CK.out; rw [hr] at this; exact this)
   have ON2 : Hid (∀ W, Bw w W → Calls Tryz.prog 103 #[.agg #[.int .i64 kd, .int .i64 z, .slice A1 rn c1, .slice A2 pn c2], .agg #[.int .i64 x, .slice A n c]] W (BoolPost W q)) := Lib.hid (ON.out hr)
   clear CK hr ON
   by_cases h2 : m ≤ 128
   · have d2 : decide (m ≤ 128) = true := by simpa using h2
     have HF : Hid ((true && decide (m ≤ 128) && q) = q) := Lib.hid (by rw [d2]; rfl)
     go_enter Tryz.func54, Tryz.ntmps54
     go_wp2_with (first | (go_at_call 101; go_must (refine (CK2.out _ HB1.out).mono ?_; rintro e w6 ⟨rfl, hg6⟩; (have HG6 := Lib.hid hg6); (obtain ⟨y0, _, y1, y2, y3, y4, y5, y6⟩ := HW2.out _ hg6); clear hg6)) | (go_at_call 102; go_must (refine (SZ.out _ (HB1.out.trans HG6.out)).mono ?_; rintro e w7 ⟨rfl, hg7⟩; (have HG7 : Hid (Bw ((w.alloc (.cells #[.int .i64 kd, .int .i64 z, .slice A1 rn c1, .slice A2 pn c2] 50)).alloc (.cells #[.int .i64 x, .slice A n c] 31)) w7) := Lib.hid (HG6.out.trans hg7)); (obtain ⟨u0, _, u1, u2, u3, u4, u5, u6⟩ := HW2.out _ HG7.out); clear hg7)) | (go_at_call 103; go_must (refine (ON2.out _ (HB1.out.trans HG7.out)).mono ?_; rintro e w8 ⟨rfl, hg8⟩; (have HG8 := Lib.hid hg8); clear hg8)))
     go_ret
     exact ⟨ret_bool (by first | rfl | exact HF.out.symm), HB1.out.trans (HG7.out.trans HG8.out)⟩
   · have d2 : decide (m ≤ 128) = false := by simpa using h2
     have HF : Hid ((true && decide (m ≤ 128) && q) = false) := Lib.hid (by rw [d2]; rfl)
     go_enter Tryz.func54, Tryz.ntmps54
     go_wp2_with (first | (go_at_call 101; go_must (refine (CK2.out _ HB1.out).mono ?_; rintro e w6 ⟨rfl, hg6⟩; (have HG6 := Lib.hid hg6); (obtain ⟨y0, _, y1, y2, y3, y4, y5, y6⟩ := HW2.out _ hg6); clear hg6)) | (go_at_call 102; go_must (refine (SZ.out _ (HB1.out.trans HG6.out)).mono ?_; rintro e w7 ⟨rfl, hg7⟩; (have HG7 : Hid (Bw ((w.alloc (.cells #[.int .i64 kd, .int .i64 z, .slice A1 rn c1, .slice A2 pn c2] 50)).alloc (.cells #[.int .i64 x, .slice A n c] 31)) w7) := Lib.hid (HG6.out.trans hg7)); clear hg7)))
     go_ret
     exact ⟨ret_bool (by first | rfl | exact HF.out.symm), HB1.out.trans HG7.out⟩
end
end Go.Proofs.YthhbkabdhkdafaaGreat
