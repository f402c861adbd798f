/- Part of a proof of pruneShows_holds. -/
import Derived.Test.YthhbkabdhkdafaaGreatUAzQ
set_option linter.unusedSimpArgs false
set_option linter.unusedVariables false
set_option maxRecDepth 100000
set_option maxHeartbeats 16000000
namespace Go.Proofs.YthhbkabdhkdafaaGreat
section
open Go.RowKit
def TypeErr (w : World) (t : T) (e : Ending) (w' : World) : Prop := ∃ pv, e = .returned (.tuple #[.agg #[.int .i64 3, .int .i64 0, .slice none 0 0, pv], .int .i64 0]) ∧ PAt w' (fun b => w.heap.size ≤ b ∧ b < w'.heap.size) pv t.parts ∧ Bw w w'
theorem blk4 {W : World} {b : Nat} {t : TypeId} {u0 u1 u2 u3 v0 v1 v2 v3 : Value} (h : Blk W b t #[u0, u1, u2, u3]) : Blk ((((W.setCell ⟨b, 0, none⟩ v0).setCell ⟨b, 1, none⟩ v1).setCell ⟨b, 2, none⟩ v2).setCell ⟨b, 3, none⟩ v3) b t #[v0, v1, v2, v3] ∧ W.grownBy ((((W.setCell ⟨b, 0, none⟩ v0).setCell ⟨b, 1, none⟩ v1).setCell ⟨b, 2, none⟩ v2).setCell ⟨b, 3, none⟩ v3) (some b) :=
 ⟨blk_set (i := 3) v3 (blk_set (i := 2) v2 (blk_set (i := 1) v1 (blk_set (i := 0) v0 h))),
  grownBy_setCell (p := ⟨b, 3, none⟩) (grownBy_setCell (p := ⟨b, 2, none⟩) (grownBy_setCell (p := ⟨b, 1, none⟩) (grownBy_setCell (p := ⟨b, 0, none⟩) (World.grownBy.refl W (some b)) (.inl rfl) v0) (.inl rfl) v1) (.inl rfl) v2) (.inl rfl) v3⟩
theorem mdType_any (m : Mdl) (hm : MdlOk m) (hn : NmOk m) (sv pv rv kv : Value) (w : World) (h : MB w w.heap.size sv pv rv kv m) : Calls Tryz.prog 65 #[aggM sv pv rv kv] w (TypeErr w m.t) := by
 obtain ⟨A1, c1, A2, c2, A3, c3, A4, c4, rfl, rfl, rfl, rfl⟩ := h.form
 have CK : Hid (∀ W, Bw w W → Calls Tryz.prog 53 #[aggM (.slice A1 m.ss.length c1) (.slice A2 m.ps.length c2) (.slice A3 m.rs.length c3) (.slice A4 (1 + m.cs.length) c4)] W (NumPost W 0)) := Lib.hid (fun W g => mdCheck_any m hm hn _ _ _ _ W (h.bw g))
 have CT : Hid (∀ W, Bw w W → Calls Tryz.prog 55 #[aggM (.slice A1 m.ss.length c1) (.slice A2 m.ps.length c2) (.slice A3 m.rs.length c3) (.slice A4 (1 + m.cs.length) c4)] W (TypePost W m.t)) := Lib.hid (fun W g => typed_any m hm _ _ _ _ W (h.bw g))
 clear h hm hn
 unfold aggM at *
 unfold TypePost at CT
 unfold TypeErr
 generalize m.ss.length = n at *
 generalize m.ps.length = k at *
 generalize m.rs.length = q at *
 generalize 1 + m.cs.length = z at *
 have TX := Lib.hid (mdbox (w := w) (sv := .slice A1 n c1) (pv := .slice A2 k c2) (rv := .slice A3 q c3) (kv := .slice A4 z c4))
 have HB : Hid (Bw w ((w.alloc (.cells #[.int .i64 1, .slice A1 n c1, .slice A2 k c2, .slice none 0 0, .slice none 0 0, .int .i64 0, .int .i64 0, .slice A3 q c3, .int .i64 0, .slice A4 z c4] 33)).alloc (.cells #[.int .i64 0, .int .i64 0, .slice none 0 0, .slice none 0 0] 50))) := Lib.hid (((Bw.refl _).alloc _).alloc _)
 have HR : Hid (∀ W, Bw ((w.alloc (.cells #[.int .i64 1, .slice A1 n c1, .slice A2 k c2, .slice none 0 0, .slice none 0 0, .int .i64 0, .int .i64 0, .slice A3 q c3, .int .i64 0, .slice A4 z c4] 33)).alloc (.cells #[.int .i64 0, .int .i64 0, .slice none 0 0, .slice none 0 0] 50)) W → Blk W (w.heap.size + 1) 50 #[.int .i64 0, .int .i64 0, .slice none 0 0, .slice none 0 0]) := Lib.hid (fun W g => by
   have h1 := Blk.new (w.alloc (.cells #[.int .i64 1, .slice A1 n c1, .slice A2 k c2, .slice none 0 0, .slice none 0 0, .int .i64 0, .int .i64 0, .slice A3 q c3, .int .i64 0, .slice A4 z c4] 33)) 50 #[.int .i64 0, .int .i64 0, .slice none 0 0, .slice none 0 0]
   rw [World.size_alloc] at h1
   exact h1.below g.b h1.lt)
 go_enter Tryz.func65, Tryz.ntmps65
 go_wp2_with (first
   | (go_at_call 53; go_must (refine (CK.out _ HB.out).mono ?_; rintro e w1 ⟨rfl, hg⟩; (obtain ⟨y0, -, y1, y2, y3, y4, y5, y6, y7, y8, y9, y10⟩ := TX.out _ (((Bw.refl _).alloc _).trans hg)); (have HG1 := Lib.hid hg); clear hg))
   | (go_at_call 55; go_must (refine (CT.out _ (HB.out.trans HG1.out)).mono ?_; rintro e w2 ⟨pv2, rfl, hp2, hg⟩; obtain ⟨A6, n6, c6, rfl, _, _, _⟩ := hp2.form; (have hg2 := HG1.out.trans hg); (have hb := HR.out _ hg2); (have f0 := hb.cell 0); (have f1 := hb.cell 1); (have f2 := hb.cell 2); (have f3 := hb.cell 3); (have g0 := hb.frozen 0); (have g1 := hb.frozen 1); (have g2 := hb.frozen 2); (have g3 := hb.frozen 3); (have hl := hb.lt); (have HB2 := Lib.hid hb); (have HP2 := Lib.hid hp2); (have HG2 := Lib.hid hg2); (have HGG := Lib.hid hg); clear hg hg2 hb hp2)))
 obtain ⟨hbb, hgr⟩ := blk4 (v0 := .int .i64 3) (v1 := .int .i64 0) (v2 := .slice none 0 0) (v3 := .slice A6 n6 c6) HB2.out
 refine bodyPost_ret (rrow1 (p := 2) (q := 3) (ty := 50) rfl _ _ (w.heap.size + 1) _ _ rfl (run_loadVar_row _ _ 50 50 _ (0, 0) _ hbb Tryz.underlying50 rfl (by kernel_rfl)) rfl) rfl ?_
 have hbw : Bw w w2 := HB.out.trans HG2.out
 have hz1 : w.heap.size + 2 ≤ w1.heap.size := by have := HG1.out.size; simpa using this
 have hsz := hgr.size
 refine ⟨_, rfl, HP2.out.keep (fun b hb => ⟨by omega, Nat.lt_of_lt_of_le hb.2 hsz⟩) (fun p hp => World.cell?_of_block (hgr.block p.block hp.2 (fun e => by injection e with e; omega))), Below.grown hbw hgr hbw.size (fun r e => by injection e with e; omega)⟩
theorem mdValid_any (m : Mdl) (hm : MdlOk m) (hn : NmOk m) (v : V) (sv pv rv kv s : Value) (w : World) (h : MB w w.heap.size sv pv rv kv m) (hv : KB w w.heap.size s v.ks) : Calls Tryz.prog 27 #[aggM sv pv rv kv, .agg #[.int .i64 v.n, s]] w (BoolPost w (validP m.t v)) := by
 obtain ⟨A1, c1, A2, c2, A3, c3, A4, c4, rfl, rfl, rfl, rfl⟩ := h.form
 obtain ⟨A5, n5, c5, rfl, _, _, _⟩ := hv.form
 have CK : Hid (∀ W, Bw w W → Calls Tryz.prog 53 #[aggM (.slice A1 m.ss.length c1) (.slice A2 m.ps.length c2) (.slice A3 m.rs.length c3) (.slice A4 (1 + m.cs.length) c4)] W (NumPost W 0)) := Lib.hid (fun W g => mdCheck_any m hm hn _ _ _ _ W (h.bw g))
 have CT : Hid (∀ W, Bw w W → Calls Tryz.prog 55 #[aggM (.slice A1 m.ss.length c1) (.slice A2 m.ps.length c2) (.slice A3 m.rs.length c3) (.slice A4 (1 + m.cs.length) c4)] W (TypePost W m.t)) := Lib.hid (fun W g => typed_any m hm _ _ _ _ W (h.bw g))
 have CV : Hid (∀ W pv', Bw w W → TB W W.heap.size (.slice none 0 0) pv' m.t → Calls Tryz.prog 54 #[.agg #[.int .i64 3, .int .i64 0, .slice none 0 0, pv'], .agg #[.int .i64 v.n, .slice A5 n5 c5]] W (BoolPost W (validP m.t v))) := Lib.hid (fun W pv' g hT => ovalid_any m.t v (.slice none 0 0) pv' (.slice A5 n5 c5) W hT (hv.bw g) _ rfl)
 clear h hm hn hv
 unfold aggM at *
 unfold TypePost at CT
 generalize validP m.t v = bb at *
 generalize v.n = x at *
 generalize m.ss.length = n at *
 generalize m.ps.length = k0 at *
 generalize m.rs.length = q at *
 generalize 1 + m.cs.length = z at *
 have TX := Lib.hid (mdbox (w := w) (sv := .slice A1 n c1) (pv := .slice A2 k0 c2) (rv := .slice A3 q c3) (kv := .slice A4 z c4))
 go_enter Tryz.func27, Tryz.ntmps27
 go_wp2_with fail
 refine wp_world (fun W => Hid (Bw (w.alloc (.cells #[.int .i64 1, .slice A1 n c1, .slice A2 k0 c2, .slice none 0 0, .slice none 0 0, .int .i64 0, .int .i64 0, .slice A3 q c3, .int .i64 0, .slice A4 z c4] 33)) W ∧ Blk W (w.heap.size + 1) 31 #[.int .i64 x, .slice A5 n5 c5])) (Lib.hid ⟨(Bw.refl _).alloc _, by have := Blk.new (w.alloc (.cells #[.int .i64 1, .slice A1 n c1, .slice A2 k0 c2, .slice none 0 0, .slice none 0 0, .int .i64 0, .int .i64 0, .slice A3 q c3, .int .i64 0, .slice A4 z c4] 33)) 31 #[.int .i64 x, .slice A5 n5 c5]; simpa only [World.size_alloc] using this⟩) ?_
 intro W HW
 have KS : Hid (∀ w', Bw W w' → w'.cell? ⟨w.heap.size, 0, none⟩ = some (.int .i64 1) ∧ w'.cell? ⟨w.heap.size, 1, none⟩ = some (.slice A1 n c1) ∧ w'.cell? ⟨w.heap.size, 2, none⟩ = some (.slice A2 k0 c2) ∧ w'.cell? ⟨w.heap.size, 3, none⟩ = some (.slice none 0 0) ∧ w'.cell? ⟨w.heap.size, 4, none⟩ = some (.slice none 0 0) ∧
     w'.cell? ⟨w.heap.size, 5, none⟩ = some (.int .i64 0) ∧ w'.cell? ⟨w.heap.size, 6, none⟩ = some (.int .i64 0) ∧ w'.cell? ⟨w.heap.size, 7, none⟩ = some (.slice A3 q c3) ∧ w'.cell? ⟨w.heap.size, 8, none⟩ = some (.int .i64 0) ∧ w'.cell? ⟨w.heap.size, 9, none⟩ = some (.slice A4 z c4) ∧ w'.cell? ⟨w.heap.size + 1, 0, none⟩ = some (.int .i64 x) ∧ w'.cell? ⟨w.heap.size + 1, 1, none⟩ = some (.slice A5 n5 c5) ∧ Bw W w') := Lib.hid (fun w' g => by
   obtain ⟨_, _, a0, a1, a2, a3, a4, a5, a6, a7, a8, a9⟩ := TX.out w' (HW.out.1.trans g)
   have hb := HW.out.2.below g.b HW.out.2.lt
   exact ⟨a0, a1, a2, a3, a4, a5, a6, a7, a8, a9, hb.cell 0, hb.cell 1, g⟩)
 have HBW : Hid (∀ w', Bw W w' → Bw w w') := Lib.hid (fun w' g => (TX.out w' (HW.out.1.trans g)).2.1)
 clear TX HW
 generalize w.heap.size = y at *
 go_region_held3 (fun w' => w'.cell? ⟨y, 0, none⟩ = some (.int .i64 1) ∧ w'.cell? ⟨y, 1, none⟩ = some (.slice A1 n c1) ∧ w'.cell? ⟨y, 2, none⟩ = some (.slice A2 k0 c2) ∧ w'.cell? ⟨y, 3, none⟩ = some (.slice none 0 0) ∧ w'.cell? ⟨y, 4, none⟩ = some (.slice none 0 0) ∧ w'.cell? ⟨y, 5, none⟩ = some (.int .i64 0) ∧ w'.cell? ⟨y, 6, none⟩ = some (.int .i64 0) ∧ w'.cell? ⟨y, 7, none⟩ = some (.slice A3 q c3) ∧ w'.cell? ⟨y, 8, none⟩ = some (.int .i64 0) ∧ w'.cell? ⟨y, 9, none⟩ = some (.slice A4 z c4) ∧ w'.cell? ⟨y + 1, 0, none⟩ = some (.int .i64 x) ∧ w'.cell? ⟨y + 1, 1, none⟩ = some (.slice A5 n5 c5) ∧ Bw W w')
   (first | (refine KS.out _ ?_; first | exact (Bw.refl _).drew | exact (Bw.refl _).drew.trans hg5 | exact ((Bw.refl _).drew.trans hg5).trans hg6 | exact (((Bw.refl _).drew.trans hg5).trans hg6).trans hg7))
   (first
     | (go_at_call 53; (with_reducible refine (CK.out _ (HBW.out _ (Bw.refl _).drew)).mono ?_); rintro e5 w5 ⟨rfl, hg5⟩)
     | (go_at_call 55; (with_reducible refine (CT.out _ (HBW.out _ ((Bw.refl _).drew.trans hg5))).mono ?_); rintro e6 w6 ⟨pv6, rfl, hp6, hg6⟩; obtain ⟨A6, n6, c6, rfl, _, _, _⟩ := hp6.form)
     | (go_at_call 54; (with_reducible refine (CV.out _ _ (HBW.out _ (((Bw.refl _).drew.trans hg5).trans hg6)) (TypePost.tb hp6)).mono ?_); rintro e7 w7 ⟨rfl, hg7⟩))
 go_wp2
 go_ret
 exact ⟨rfl, HBW.out _ ((((Bw.refl _).drew.trans hg5).trans hg6).trans hg7)⟩
theorem walks_any (m : Mdl) (hm : MdlOk m) (hn : NmOk m) (sv pv rv kv : Value) (w : World) (h : MB w w.heap.size sv pv rv kv m) : Calls Tryz.prog 64 #[aggM sv pv rv kv] w (NumPost w 0) := by
 obtain ⟨A1, c1, A2, c2, A3, c3, A4, c4, rfl, rfl, rfl, rfl⟩ := h.form
 have CK : Hid (∀ W, Bw w W → Calls Tryz.prog 53 #[aggM (.slice A1 m.ss.length c1) (.slice A2 m.ps.length c2) (.slice A3 m.rs.length c3) (.slice A4 (1 + m.cs.length) c4)] W (NumPost W 0)) := Lib.hid (fun W g => mdCheck_any m hm hn _ _ _ _ W (h.bw g))
 clear h hm hn
 unfold aggM at *
 generalize m.ss.length = n at *
 generalize m.ps.length = k at *
 generalize m.rs.length = q at *
 generalize 1 + m.cs.length = z at *
 have BX : Hid (Bw w (w.alloc (.cells #[.int .i64 1, .slice A1 n c1, .slice A2 k c2, .slice none 0 0, .slice none 0 0, .int .i64 0, .int .i64 0, .slice A3 q c3, .int .i64 0, .slice A4 z c4] 33)) ∧ ∀ W, Bw (w.alloc (.cells #[.int .i64 1, .slice A1 n c1, .slice A2 k c2, .slice none 0 0, .slice none 0 0, .int .i64 0, .int .i64 0, .slice A3 q c3, .int .i64 0, .slice A4 z c4] 33)) W → Bw w W ∧ w.heap.size < W.heap.size ∧ W.cell? ⟨w.heap.size, 0, none⟩ = some (.int .i64 1) ∧ W.cell? ⟨w.heap.size, 1, none⟩ = some (.slice A1 n c1) ∧ W.cell? ⟨w.heap.size, 2, none⟩ = some (.slice A2 k c2) ∧ W.cell? ⟨w.heap.size, 3, none⟩ = some (.slice none 0 0) ∧ W.cell? ⟨w.heap.size, 4, none⟩ = some (.slice none 0 0) ∧ W.cell? ⟨w.heap.size, 5, none⟩ = some (.int .i64 0) ∧ W.cell? ⟨w.heap.size, 6, none⟩ = some (.int .i64 0) ∧ W.cell? ⟨w.heap.size, 7, none⟩ = some (.slice A3 q c3) ∧ W.cell? ⟨w.heap.size, 8, none⟩ = some (.int .i64 0) ∧ W.cell? ⟨w.heap.size, 9, none⟩ = some (.slice A4 z c4)) := Lib.hid ⟨((Bw.refl _).alloc _), fun W g => by
   have h0 := (Blk.new w 33 #[.int .i64 1, .slice A1 n c1, .slice A2 k c2, .slice none 0 0, .slice none 0 0, .int .i64 0, .int .i64 0, .slice A3 q c3, .int .i64 0, .slice A4 z c4])
   have k0 := h0.below g.b h0.lt
   exact ⟨((Bw.refl _).alloc _).trans g, k0.lt, k0.cell 0, k0.cell 1, k0.cell 2, k0.cell 3, k0.cell 4, k0.cell 5, k0.cell 6, k0.cell 7, k0.cell 8, k0.cell 9⟩⟩
 go_enter Tryz.func64, Tryz.ntmps64
 go_wp2_with (go_at_call 53; go_must (refine (CK.out _ BX.out.1).mono ?_; rintro e w1 ⟨rfl, hg⟩; (obtain ⟨-, ylt0, y0_0, y0_1, y0_2, y0_3, y0_4, y0_5, y0_6, y0_7, y0_8, y0_9⟩ := BX.out.2 _ hg); (have HG1 := Lib.hid hg); clear hg))
 go_ret
 exact ⟨rfl, BX.out.1.trans HG1.out⟩
end
end Go.Proofs.YthhbkabdhkdafaaGreat
