/- Part of a proof of pruneShows_holds. -/
import Derived.Test.YthhbkabdhkdafaaGreatUAkQ
set_option linter.unusedSimpArgs false
set_option linter.unusedVariables false
set_option maxRecDepth 100000
set_option maxHeartbeats 16000000
namespace Go.Proofs.YthhbkabdhkdafaaGreat
section
open Go.RowKit
theorem mdbox {w : World} {sv pv rv kv : Value} : ∀ W, Bw (w.alloc (.cells #[.int .i64 1, sv, pv, .slice none 0 0, .slice none 0 0, .int .i64 0, .int .i64 0, rv, .int .i64 0, kv] 33)) W → w.heap.size < W.heap.size ∧ Bw w W ∧
   W.cell? ⟨w.heap.size, 0, none⟩ = some (.int .i64 1) ∧ W.cell? ⟨w.heap.size, 1, none⟩ = some sv ∧ W.cell? ⟨w.heap.size, 2, none⟩ = some pv ∧ W.cell? ⟨w.heap.size, 3, none⟩ = some (.slice none 0 0) ∧ W.cell? ⟨w.heap.size, 4, none⟩ = some (.slice none 0 0) ∧
   W.cell? ⟨w.heap.size, 5, none⟩ = some (.int .i64 0) ∧ W.cell? ⟨w.heap.size, 6, none⟩ = some (.int .i64 0) ∧ W.cell? ⟨w.heap.size, 7, none⟩ = some rv ∧ W.cell? ⟨w.heap.size, 8, none⟩ = some (.int .i64 0) ∧ W.cell? ⟨w.heap.size, 9, none⟩ = some kv := by
 intro W g
 have b := (Blk.new w 33 #[.int .i64 1, sv, pv, .slice none 0 0, .slice none 0 0, .int .i64 0, .int .i64 0, rv, .int .i64 0, kv]).below g.b (by simp)
 exact ⟨b.lt, ((Bw.refl w).alloc _).trans g, b.cell 0, b.cell 1, b.cell 2, b.cell 3, b.cell 4, b.cell 5, b.cell 6, b.cell 7, b.cell 8, b.cell 9⟩
theorem between_in (x lo hi : Int) (w : World) (h0 : lo ≤ x) (h1 : x ≤ hi) : Calls Tryz.prog 93 #[.int .i64 x, .int .i64 lo, .int .i64 hi] w fun e w' => e = .returned (.bool true) ∧ w = w' := by
 have d0 : decide (lo ≤ x) = true := by simpa using h0
 have d1 : decide (x ≤ hi) = true := by simpa using h1
 go_enter Tryz.func93, Tryz.ntmps93
 go_wp2
 go_ret
 exact ⟨rfl, rfl⟩
theorem index_in (x : Int) (n : Nat) (w : World) (h0 : 0 ≤ x) (h1 : x < n) (hn : n ≤ 1000) : Calls Tryz.prog 158 #[.int .i64 x, .int .i64 (n : Int)] w fun e w' => e = .returned (.bool true) ∧ w = w' := by
 go_enter Tryz.func158, Tryz.ntmps158
 go_wp2_with (go_at_call 93; go_must (refine (between_in _ _ _ _ (by omega) (by omega)).mono ?_; rintro e w' ⟨rfl, rfl⟩))
 go_ret
 exact ⟨rfl, rfl⟩
theorem label_any (n : Nat) (w : World) : Calls Tryz.prog 104 #[.int .i64 (n : Int)] w fun e w' => e = .returned (.agg #[.int .i64 2, .int .i64 (n : Int), .slice none 0 0, .slice none 0 0]) ∧ Bw w w' := by
 go_enter Tryz.func104, Tryz.ntmps104
 go_wp2
 have HBB : Blk _ w.heap.size 50 #[.int .i64 2, .int .i64 (n : Int), .slice none 0 0, .slice none 0 0] := Blk.new w _ _
 refine bodyPost_ret (results_cell_row (p := 2) (ty := 50) rfl _ _ w.heap.size 50 _ (0, 0) _ rfl HBB Tryz.underlying50 rfl (by kernel_rfl)) rfl ?_
 exact ⟨rfl, (Bw.refl _).alloc _⟩
theorem mof_one (w : World) : Calls Tryz.prog 152 #[.int .i64 1] w fun e w' => e = .returned (.agg #[.int .i64 1, .int .i64 6, .int .i64 0, .int .i64 0, .int .i64 0, .int .i64 0, .int .i64 0, .int .i64 0]) ∧ Bw w w' := by
 go_enter Tryz.func152, Tryz.ntmps152
 go_wp2
 have HBB : Blk _ w.heap.size 179 #[.int .i64 1, .int .i64 6, .int .i64 0, .int .i64 0, .int .i64 0, .int .i64 0, .int .i64 0, .int .i64 0] := (Blk.new w 179 #[.int .i64 1, .int .i64 6, .int .i64 0, .int .i64 0, .int .i64 0, .int .i64 0, .int .i64 0, .int .i64 0]).alloc (.cells #[.int .i64 1, .int .i64 6, .int .i64 0, .int .i64 0, .int .i64 0, .int .i64 0, .int .i64 0, .int .i64 0] 179)
 refine bodyPost_ret (results_cell_row (p := 2) (ty := 179) rfl _ _ w.heap.size 179 _ (0, 0) _ rfl HBB Tryz.underlying179 rfl (by kernel_rfl)) rfl ?_
 exact ⟨rfl, ((Bw.refl _).alloc _).alloc _⟩
theorem ranked_one (sv pv rv kv : Value) (w : World) : Calls Tryz.prog 95 #[.agg #[.int .i64 1, sv, pv, .slice none 0 0, .slice none 0 0, .int .i64 0, .int .i64 0, rv, .int .i64 0, kv]] w (BoolPost w true) := by
 go_enter Tryz.func95, Tryz.ntmps95
 go_wp2
 go_ret
 exact ⟨rfl, (Bw.refl _).alloc _⟩
theorem sized_any (m : Mdl) (hm : MdlOk m) (h12 : m.rs.length ≤ 12) (sv pv rv kv : Value) (w : World) (h : MB w w.heap.size sv pv rv kv m) : Calls Tryz.prog 94 #[aggM sv pv rv kv] w (BoolPost w true) := by
 obtain ⟨A1, c1, A2, c2, A3, c3, A4, c4, rfl, rfl, rfl, rfl⟩ := h.form
 obtain ⟨n1, n8⟩ := hm.n1
 obtain ⟨k1, k6⟩ := hm.k1
 clear h hm
 generalize m.ss.length = n at *
 generalize m.ps.length = k at *
 generalize m.rs.length = r at *
 generalize 1 + m.cs.length = q at *
 have TX := Lib.hid (mdbox (w := w) (sv := .slice A1 n c1) (pv := .slice A2 k c2) (rv := .slice A3 r c3) (kv := .slice A4 q c4))
 have d1 : decide ((r : Int) ≤ 12) = true := by simp; omega
 go_enter Tryz.func94, Tryz.ntmps94
 go_wp2_with (first
   | (go_at_call 152; go_must (refine (mof_one _).mono ?_; rintro e w6 ⟨rfl, hg6⟩; (obtain ⟨y0, -, y1, y2, y3, y4, y5, y6, y7, y8, y9, y10⟩ := TX.out _ hg6); (have HG6 := Lib.hid hg6); clear hg6))
   | (go_at_call 93; go_must (refine (between_in _ _ _ _ (by omega) (by omega)).mono ?_; rintro e w' ⟨rfl, rfl⟩)))
 go_ret
 exact ⟨rfl, ((TX.out _ HG6.out).2.1).alloc _⟩
end
end Go.Proofs.YthhbkabdhkdafaaGreat
