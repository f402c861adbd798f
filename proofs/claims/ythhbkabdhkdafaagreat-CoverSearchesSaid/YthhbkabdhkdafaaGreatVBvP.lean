/- Part of a proof of coverSearches_holds. -/
import Derived.Test.YthhbkabdhkdafaaGreatVBuP
import Derived.Test.YthhbkabdhkdafaaGreatVBpP
import Derived.Test.YthhbkabdhkdafaaGreatVBrP
set_option linter.unusedSimpArgs false
set_option linter.unusedVariables false
set_option maxRecDepth 100000
set_option maxHeartbeats 16000000
namespace Go.Proofs.YthhbkabdhkdafaaGreat
section
open Go.RowKit
def m27 : Mdl := ⟨[⟨#[97]⟩], [⟨#[120]⟩], [], 0, [2]⟩
theorem m27_ok : MdlOk m27 := by
 refine ⟨by simp [m27], by simp [m27], fun r hr => by simp [m27] at hr, ?_⟩
 exact one_flat.2 ⟨0, [2], rfl, by decide, by decide, rfl, fun c hc => by simp at hc; omega⟩
theorem m27_nm : NmOk m27 := by
 refine ⟨?_, by decide, by decide⟩
 decide
theorem m27_yes : decideS m27 [cfgV 0 [1]] 9 = (⟨true, true, [], [], 0⟩, 0) := by
 kernel_rfl
theorem m27_no : decideS m27 [cfgV 0 [3]] 9 = (⟨true, false, [], [cfgV 0 [3]], 1⟩, 0) := by
 kernel_rfl
theorem kat_two (w : World) (x y : Int) : KAt (w.alloc (.cells #[.int .i64 x, .slice none 0 0, .int .i64 y, .slice none 0 0] 31)) (fun b => w.heap.size ≤ b ∧ b < (w.alloc (.cells #[.int .i64 x, .slice none 0 0, .int .i64 y, .slice none 0 0] 31)).heap.size) (.slice (some ⟨w.heap.size, 0, none⟩) 2 2) [.mk x [], .mk y []] :=
 VRow.kat (B := w.heap.size) (ss := [.slice none 0 0, .slice none 0 0]) ⟨own_new w 31 #[.int .i64 x, .slice none 0 0, .int .i64 y, .slice none 0 0] 2 (n := 2) rfl rfl, rfl, fun k h1 h2 => by
   rcases (by simp at h1; omega : k = 0 ∨ k = 1) with rfl | rfl <;> exact KAt.nil _ _ (Nat.zero_le _)⟩ (Nat.le_refl _)
theorem kat_tgt (w : World) (x : Int) : KB ((w.alloc (.cells #[.int .i64 0, .slice none 0 0, .int .i64 x, .slice none 0 0] 31)).alloc (.cells #[.int .i64 0, .slice (some ⟨w.heap.size, 0, none⟩) 2 2] 31)) ((w.alloc (.cells #[.int .i64 0, .slice none 0 0, .int .i64 x, .slice none 0 0] 31)).alloc (.cells #[.int .i64 0, .slice (some ⟨w.heap.size, 0, none⟩) 2 2] 31)).heap.size (.slice (some ⟨w.heap.size + 1, 0, none⟩) 1 1) [cfgV 0 [x]] := by
 have h := kat_oneW (x := cfgV 0 [x]) (s := .slice (some ⟨w.heap.size, 0, none⟩) 2 2) (w := w.alloc (.cells #[.int .i64 0, .slice none 0 0, .int .i64 x, .slice none 0 0] 31)) (L := w.heap.size) (by simp) (kat_two w 0 x)
 simp only [World.size_alloc] at h ⊢
 exact h.keep (fun b hb => hb.2) (fun _ _ => rfl)
theorem mb27 (w : World) : MB ((((w.alloc (.cells #[.string ⟨#[97]⟩] 9)).alloc (.cells #[.string ⟨#[120]⟩] 9)).alloc (.cells #[.int .i64 0, .slice none 0 0, .int .i64 2, .slice none 0 0] 31)).alloc (.cells (mdA (.slice (some ⟨w.heap.size, 0, none⟩) 1 1) (.slice (some ⟨w.heap.size + 1, 0, none⟩) 1 1) (.slice none 0 0) (.slice (some ⟨w.heap.size + 1 + 1, 0, none⟩) 2 2)) 33)) (w.heap.size + 4) (.slice (some ⟨w.heap.size, 0, none⟩) 1 1) (.slice (some ⟨w.heap.size + 1, 0, none⟩) 1 1) (.slice none 0 0) (.slice (some ⟨w.heap.size + 1 + 1, 0, none⟩) 2 2) m27 := by
 have h0 := own_StrB (l := [⟨#[97]⟩]) (own_new w 9 #[.string ⟨#[97]⟩] 1 (n := 1) (xs := strVs [⟨#[97]⟩]) rfl rfl) rfl
 have h1 := own_StrB (l := [⟨#[120]⟩]) (own_new (w.alloc (.cells #[.string ⟨#[97]⟩] 9)) 9 #[.string ⟨#[120]⟩] 1 (n := 1) (xs := strVs [⟨#[120]⟩]) rfl rfl) rfl
 have h2 := kat_two ((w.alloc (.cells #[.string ⟨#[97]⟩] 9)).alloc (.cells #[.string ⟨#[120]⟩] 9)) 0 2
 simp only [World.size_alloc] at h0 h1 h2
 have g1 := (Bw.refl (w.alloc (.cells #[.string ⟨#[97]⟩] 9))).alloc (.cells #[.string ⟨#[120]⟩] 9) |>.alloc (.cells #[.int .i64 0, .slice none 0 0, .int .i64 2, .slice none 0 0] 31) |>.alloc (.cells (mdA (.slice (some ⟨w.heap.size, 0, none⟩) 1 1) (.slice (some ⟨w.heap.size + 1, 0, none⟩) 1 1) (.slice none 0 0) (.slice (some ⟨w.heap.size + 1 + 1, 0, none⟩) 2 2)) 33)
 have g2 := (Bw.refl ((w.alloc (.cells #[.string ⟨#[97]⟩] 9)).alloc (.cells #[.string ⟨#[120]⟩] 9))).alloc (.cells #[.int .i64 0, .slice none 0 0, .int .i64 2, .slice none 0 0] 31) |>.alloc (.cells (mdA (.slice (some ⟨w.heap.size, 0, none⟩) 1 1) (.slice (some ⟨w.heap.size + 1, 0, none⟩) 1 1) (.slice none 0 0) (.slice (some ⟨w.heap.size + 1 + 1, 0, none⟩) 2 2)) 33)
 have g3 := (Bw.refl (((w.alloc (.cells #[.string ⟨#[97]⟩] 9)).alloc (.cells #[.string ⟨#[120]⟩] 9)).alloc (.cells #[.int .i64 0, .slice none 0 0, .int .i64 2, .slice none 0 0] 31))).alloc (.cells (mdA (.slice (some ⟨w.heap.size, 0, none⟩) 1 1) (.slice (some ⟨w.heap.size + 1, 0, none⟩) 1 1) (.slice none 0 0) (.slice (some ⟨w.heap.size + 1 + 1, 0, none⟩) 2 2)) 33)
 exact ⟨h0.keep (fun b hb => by omega) (fun p hp => g1.b.cell (by simp; omega)), h1.keep (fun b hb => by omega) (fun p hp => g2.b.cell (by simp; omega)), (RulO.nil _ 0).at_.keep (fun b hb => by have := hb.2; simp at this; omega) (fun _ _ => rfl), h2.keep (fun b hb => by omega) (fun p hp => g3.b.cell (by simp; omega))⟩
theorem sane27_any (w : World) : Calls Tryz.prog 15 #[] w fun e w' => e = .returned (.bool true) ∧ Bw w w' := by
 have HMB := Lib.hid (mb27 w)
 have CD : Hid (∀ W sv pv rv kv sl x r, MB W W.heap.size sv pv rv kv m27 → KB W W.heap.size sl [cfgV 0 [x]] → 0 ≤ x → x ≤ 9 → decideS m27 [cfgV 0 [x]] 9 = r → Calls Tryz.prog 18 #[aggM sv pv rv kv, sl, .int .i64 9] W (FinPost W r)) := Lib.hid (fun W sv pv rv kv sl x r h1 h2 h3 h4 e => by
   have := cvdec_any m27 m27_ok m27_nm (addSays m27 m27_ok) [cfgV 0 [x]] (fun v hv => by
     rw [List.mem_singleton.1 hv]
     exact one_flat.2 ⟨0, [x], rfl, by decide, by decide, rfl, fun c hc => by simp at hc; omega⟩) (by simp) 9 (by decide) sv pv rv kv sl W h1 h2
   rw [e] at this
   exact this)
 have HY := Lib.hid m27_yes
 have HN := Lib.hid m27_no
 have HT := Lib.hid kat_tgt
 unfold aggM at CD
 unfold mdA at HMB
 go_enter Tryz.func15, Tryz.ntmps15
 go_upto_region 2 with fail
 refine wp_world (fun W => Hid (MB W W.heap.size (.slice (some ⟨w.heap.size, 0, none⟩) 1 1) (.slice (some ⟨w.heap.size + 1, 0, none⟩) 1 1) (.slice none 0 0) (.slice (some ⟨w.heap.size + 1 + 1, 0, none⟩) 2 2) m27 ∧ Blk W (w.heap.size + 1 + 1 + 1) 33 (mdA (.slice (some ⟨w.heap.size, 0, none⟩) 1 1) (.slice (some ⟨w.heap.size + 1, 0, none⟩) 1 1) (.slice none 0 0) (.slice (some ⟨w.heap.size + 1 + 1, 0, none⟩) 2 2)) ∧ Bw w W)) (Lib.hid ⟨by have := HMB.out; simpa using this, by have := Blk.new (((w.alloc (.cells #[.string ⟨#[97]⟩] 9)).alloc (.cells #[.string ⟨#[120]⟩] 9)).alloc (.cells #[.int .i64 0, .slice none 0 0, .int .i64 2, .slice none 0 0] 31)) 33 (mdA (.slice (some ⟨w.heap.size, 0, none⟩) 1 1) (.slice (some ⟨w.heap.size + 1, 0, none⟩) 1 1) (.slice none 0 0) (.slice (some ⟨w.heap.size + 1 + 1, 0, none⟩) 2 2)); simpa using this, (((((Bw.refl _).alloc _).alloc _).alloc _).alloc _)⟩) ?_
 clear HMB
 intro W0 HW0
 obtain ⟨bl, b0, b1, b2, b3, b4, b5, b6, b7, b8, b9⟩ := HW0.out.2.1.c10
 go_upto_region 3 with (go_at_call 18; go_must (refine (CD.out _ _ _ _ _ _ 1 _ (MAt.bw HW0.out.1 (((Bw.refl W0).alloc _).alloc _)) (HT.out W0 1) (by decide) (by decide) HY.out).mono ?_; rintro e w1 ⟨v, rfl, hc, hb⟩; obtain ⟨RA, rn, rc, BA, bn, bc, rfl⟩ := hc.form; (have HX : Hid (Bw W0 w1) := Lib.hid (((Bw.refl W0).alloc _ |>.alloc _).trans hb)); clear hc hb))
 refine wp_world (fun W => Hid (Blk W w1.heap.size 55 #[.bool true, .bool true, .slice RA rn rc, .slice BA bn bc, .int .i64 0] ∧ Bw W0 W)) (Lib.hid ⟨Blk.new w1 _ _, HX.out.alloc _⟩) ?_
 clear bl b0 b1 b2 b3 b4 b5 b6 b7 b8 b9
 intro W1 HW1
 have hb1 := HW0.out.2.1.below HW1.out.2.b HW0.out.2.1.lt
 obtain ⟨bl, b0, b1, b2, b3, b4, b5, b6, b7, b8, b9⟩ := hb1.c10
 clear hb1
 go_upto_region 4 with (go_at_call 18; go_must (refine (CD.out _ _ _ _ _ _ 3 _ (MAt.bw HW0.out.1 (HW1.out.2.trans (((Bw.refl W1).alloc _).alloc _))) (HT.out W1 3) (by decide) (by decide) HN.out).mono ?_; rintro e w2 ⟨v, rfl, hc, hb⟩; obtain ⟨rv, bv, ps, rfl, hc1, hc2, hc3⟩ := hc; obtain ⟨BA2, bn2, bc2, rfl, hl, -⟩ := hc3.form; obtain ⟨RA2, rc2, rfl, -⟩ := hc1.form; (obtain rfl : bn2 = 1 := by simpa using hl.symm); (have HX2 : Hid (Bw W1 w2) := Lib.hid (((Bw.refl W1).alloc _ |>.alloc _).trans hb)); clear hc1 hc2 hc3 hb hl))
 have hq := (HW1.out.1.below HX2.out.b HW1.out.1.lt).alloc (.cells #[.bool true, .bool false, .slice RA2 ps.length rc2, .slice BA2 1 bc2, .int .i64 1] 55)
 refine wp_world (fun W => Hid (Blk W w1.heap.size 55 #[.bool true, .bool true, .slice RA rn rc, .slice BA bn bc, .int .i64 0] ∧ Blk W w2.heap.size 55 #[.bool true, .bool false, .slice RA2 ps.length rc2, .slice BA2 1 bc2, .int .i64 1] ∧ Bw W1 W)) (Lib.hid ⟨hq, Blk.new w2 _ _, HX2.out.alloc _⟩) ?_
 clear hq bl b0 b1 b2 b3 b4 b5 b6 b7 b8 b9
 intro W2 HW2
 obtain ⟨l1, x0, x1, x2, x3, x4⟩ := HW2.out.1.c5
 obtain ⟨l2, y0, y1, y2, y3, y4⟩ := HW2.out.2.1.c5
 go_wp2
 go_ret
 exact ⟨rfl, (HW0.out.2.2.trans HW1.out.2).trans HW2.out.2.2⟩
end
end Go.Proofs.YthhbkabdhkdafaaGreat
