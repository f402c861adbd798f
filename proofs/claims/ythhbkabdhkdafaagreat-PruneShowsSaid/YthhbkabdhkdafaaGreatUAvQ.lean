/- Part of a proof of pruneShows_holds. -/
import Derived.Test.YthhbkabdhkdafaaGreatUAuQ
set_option linter.unusedSimpArgs false
set_option linter.unusedVariables false
set_option maxRecDepth 100000
set_option maxHeartbeats 16000000
namespace Go.Proofs.YthhbkabdhkdafaaGreat
section
open Go.RowKit
theorem mright_any (m : Mdl) (hm : MdlOk m) (r : Rul) (hr : RulOk m.ss.length m.ps.length r) (sv pv rv kv nd gv : Value) (w : World) (h : MB w w.heap.size sv pv rv kv m) (h1 : IB w w.heap.size nd r.need) (h2 : IB w w.heap.size gv r.give) :
   Calls Tryz.prog 99 #[aggM sv pv rv kv, aggR r nd gv] w (BoolPost w true) := by
 obtain ⟨A1, c1, A2, c2, A3, c3, A4, c4, rfl, rfl, rfl, rfl⟩ := h.form
 obtain ⟨B1, n1, d1, rfl, l1, _, _⟩ := h1.form
 obtain ⟨B2, n2, d2, rfl, l2, _, _⟩ := h2.form
 have CC : Hid (∀ W, Bw w W → Calls Tryz.prog 159 #[aggM (.slice A1 m.ss.length c1) (.slice A2 m.ps.length c2) (.slice A3 m.rs.length c3) (.slice A4 (1 + m.cs.length) c4), aggR r (.slice B1 n1 d1) (.slice B2 n2 d2)] W (BoolPost W true)) := Lib.hid (fun W g => changes_any m r hr hm.k1.2 _ _ _ _ _ _ W (h.bw g) (h1.bw g) (h2.bw g))
 have CM : Hid (∀ W, Calls Tryz.prog 160 #[aggM (.slice A1 m.ss.length c1) (.slice A2 m.ps.length c2) (.slice A3 m.rs.length c3) (.slice A4 (1 + m.cs.length) c4), aggR r (.slice B1 n1 d1) (.slice B2 n2 d2)] W (BoolPost W true)) := Lib.hid (fun W => moves_any _ _ _ _ _ _ r _ _ W)
 have CS : Hid (∀ W, Bw w W → Calls Tryz.prog 166 #[aggR r (.slice B1 n1 d1) (.slice B2 n2 d2), aggR r (.slice B1 n1 d1) (.slice B2 n2 d2)] W (BoolPost W true)) := Lib.hid (fun W g => same_self r _ _ W (h1.bw g) (h2.bw g) (by have := hr.nl; have := hm.k1.2; omega) (by have := hr.gl; have := hm.k1.2; omega))
 obtain ⟨t0, t1⟩ := hr.tz
 obtain ⟨f0, f1⟩ := hr.fr
 have hs := hm.n1.2
 clear h h1 h2 l1 l2 hr hm
 unfold aggR aggM at *
 generalize r.nm = nm at *
 generalize r.fr = fr at *
 generalize r.tz = t9 at *
 generalize m.ss.length = n at *
 generalize m.ps.length = k at *
 generalize m.rs.length = q at *
 generalize 1 + m.cs.length = z at *
 have TX := Lib.hid (mrbox (w := w) (sv := .slice A1 n c1) (pv := .slice A2 k c2) (rv := .slice A3 q c3) (kv := .slice A4 z c4) (nm := nm) (fr := fr) (tz := t9) (nd := .slice B1 n1 d1) (gv := .slice B2 n2 d2))
 have OX : Hid (∀ W, Bw (((w.alloc (.cells #[.int .i64 1, .slice A1 n c1, .slice A2 k c2, .slice none 0 0, .slice none 0 0, .int .i64 0, .int .i64 0, .slice A3 q c3, .int .i64 0, .slice A4 z c4] 33)).alloc (.cells #[.string nm, .int .i64 fr, .int .i64 t9, .slice B1 n1 d1, .slice B2 n2 d2, .slice none 0 0, .int .i64 0, .int .i64 0, .int .i64 0, .slice none 0 0, .slice none 0 0, .slice none 0 0, .slice none 0 0, .int .i64 0] 75)).alloc (.cells #[.string nm, .int .i64 fr, .int .i64 t9, .slice B1 n1 d1, .slice B2 n2 d2, .slice none 0 0, .int .i64 0, .int .i64 0, .int .i64 0, .slice none 0 0, .slice none 0 0, .slice none 0 0, .slice none 0 0, .int .i64 0] 75)) W → w.heap.size + 1 + 1 < W.heap.size ∧ W.cell? ⟨w.heap.size + 1 + 1, 0, none⟩ = some (.string nm) ∧ W.cell? ⟨w.heap.size + 1 + 1, 1, none⟩ = some (.int .i64 fr) ∧ W.cell? ⟨w.heap.size + 1 + 1, 2, none⟩ = some (.int .i64 t9) ∧ W.cell? ⟨w.heap.size + 1 + 1, 3, none⟩ = some (.slice B1 n1 d1) ∧ W.cell? ⟨w.heap.size + 1 + 1, 4, none⟩ = some (.slice B2 n2 d2) ∧ W.cell? ⟨w.heap.size + 1 + 1, 5, none⟩ = some (.slice none 0 0) ∧
     W.cell? ⟨w.heap.size + 1 + 1, 6, none⟩ = some (.int .i64 0) ∧ W.cell? ⟨w.heap.size + 1 + 1, 7, none⟩ = some (.int .i64 0) ∧ W.cell? ⟨w.heap.size + 1 + 1, 8, none⟩ = some (.int .i64 0) ∧ W.cell? ⟨w.heap.size + 1 + 1, 9, none⟩ = some (.slice none 0 0) ∧ W.cell? ⟨w.heap.size + 1 + 1, 10, none⟩ = some (.slice none 0 0) ∧
     W.cell? ⟨w.heap.size + 1 + 1, 11, none⟩ = some (.slice none 0 0) ∧ W.cell? ⟨w.heap.size + 1 + 1, 12, none⟩ = some (.slice none 0 0) ∧ W.cell? ⟨w.heap.size + 1 + 1, 13, none⟩ = some (.int .i64 0)) := Lib.hid (fun W g => by
   have h2 := rlbox (w := (w.alloc (.cells #[.int .i64 1, .slice A1 n c1, .slice A2 k c2, .slice none 0 0, .slice none 0 0, .int .i64 0, .int .i64 0, .slice A3 q c3, .int .i64 0, .slice A4 z c4] 33)).alloc (.cells #[.string nm, .int .i64 fr, .int .i64 t9, .slice B1 n1 d1, .slice B2 n2 d2, .slice none 0 0, .int .i64 0, .int .i64 0, .int .i64 0, .slice none 0 0, .slice none 0 0, .slice none 0 0, .slice none 0 0, .int .i64 0] 75)) W g
   rw [World.size_alloc, World.size_alloc] at h2
   exact ⟨h2.1, h2.2.2⟩)
 go_enter Tryz.func99, Tryz.ntmps99
 go_wp2_with (go_at_call 158; go_must (refine (index_in _ _ _ (by omega) (by omega) (by omega)).mono ?_; rintro e w' ⟨rfl, rfl⟩))
 go_region
 all_goals
   go_wp2_with (first
     | (go_at_call 159; go_must (refine (CC.out _ (TX.out.1.trans (((Bw.refl _).alloc _).drew))).mono ?_; rintro e w6 ⟨rfl, hg6⟩; (have hg6 := ((Bw.refl _).drew).trans hg6); (obtain ⟨y0, -, ⟨y1, y2, y3, y4, y5, y6, y7, y8, y9, y10⟩, ⟨x0, x1, x2, x3, x4, x5, x6, x7, x8, x9, x10, x11, x12, x13⟩⟩ := TX.out.2 _ (((Bw.refl _).alloc _).trans hg6)); (obtain ⟨o0, o1, o2, o3, o4, o5, o6, o7, o8, o9, o10, o11, o12, o13, o14⟩ := OX.out _ hg6); (have HG6 := Lib.hid hg6); clear hg6))
     | (go_at_call 160; go_must (refine (CM.out _).mono ?_; rintro e w7 ⟨rfl, hg7⟩; (have hg7 := HG6.out.trans hg7); (obtain ⟨u0, -, ⟨u1, u2, u3, u4, u5, u6, u7, u8, u9, u10⟩, ⟨v0, v1, v2, v3, v4, v5, v6, v7, v8, v9, v10, v11, v12, v13⟩⟩ := TX.out.2 _ (((Bw.refl _).alloc _).trans hg7)); (obtain ⟨p0, p1, p2, p3, p4, p5, p6, p7, p8, p9, p10, p11, p12, p13, p14⟩ := OX.out _ hg7); (have HG7 := Lib.hid hg7); clear hg7))
     | (go_at_call 166; go_must (refine (CS.out _ (TX.out.1.trans (((Bw.refl _).alloc _).trans HG7.out))).mono ?_; rintro e w8 ⟨rfl, hg8⟩; (have HG8 := Lib.hid (HG7.out.trans hg8)); clear hg8)))
   go_ret
   exact ⟨rfl, TX.out.1.trans (((Bw.refl _).alloc _).trans HG8.out)⟩
end
end Go.Proofs.YthhbkabdhkdafaaGreat
