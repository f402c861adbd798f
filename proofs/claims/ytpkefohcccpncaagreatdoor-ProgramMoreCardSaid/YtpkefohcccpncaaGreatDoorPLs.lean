/- strings.Lines: its iterator's contract. -/
import Derived.Test.YtpkefohcccpncaaGreatDoorRange
import Derived.Test.YtpkefohcccpncaaGreatDoorPRes
import Derived.RegionIn
namespace Go.Proofs.YtpkefohcccpncaaGreatDoor
open Go.RowKit
set_option linter.unusedSimpArgs false
set_option linter.unusedVariables false

theorem indexByte_bd' (l : List UInt8) (c : UInt8) : Lib.indexByte l c = -1 ∨ (0 ≤ Lib.indexByte l c ∧ Lib.indexByte l c < l.length) := by
  induction l with
  | nil => left; rfl
  | cons a l ih =>
    simp only [Lib.indexByte]
    split
    · right; simp
    · split
      · left; rfl
      · rename_i h; right
        rcases ih with h2 | h2
        · rw [h2] at h; simp at h
        · simp; omega
theorem splitLs_none : ∀ (l : List UInt8), l ≠ [] → Lib.indexByte l 10 = -1 → splitLs l = [l] := by
  intro l
  induction l with
  | nil => intro h; exact absurd rfl h
  | cons c r ih =>
    intro _ h
    simp only [Lib.indexByte] at h
    split at h
    · cases h
    · rename_i hc
      have hc' : c.toNat ≠ 10 := by
        intro e
        apply hc
        have : c = 10 := UInt8.toNat_inj.1 e
        simp [this]
      split at h
      · rename_i h2
        have h2' : Lib.indexByte r 10 = -1 := by simpa using h2
        rw [splitLs, if_neg hc']
        rcases r with _ | ⟨d, r⟩
        · rfl
        · rw [ih (by simp) h2']
      · rename_i h2
        rcases indexByte_bd' r 10 with h3 | h3
        · rw [h3] at h2; simp at h2
        · omega
theorem splitLs_some : ∀ (l : List UInt8) (j : Nat), Lib.indexByte l 10 = (j : Int) → splitLs l = l.take (j + 1) :: splitLs (l.drop (j + 1)) := by
  intro l
  induction l with
  | nil => intro j h; simp only [Lib.indexByte] at h; omega
  | cons c r ih =>
    intro j h
    simp only [Lib.indexByte] at h
    split at h
    · rename_i hc
      have hc' : c = 10 := by simpa using hc
      obtain rfl : j = 0 := by omega
      subst hc'
      rw [splitLs, if_pos (by decide)]
      rfl
    · rename_i hc
      have hc' : c.toNat ≠ 10 := by
        intro e
        apply hc
        have : c = 10 := UInt8.toNat_inj.1 e
        simp [this]
      split at h
      · omega
      · rename_i h2
        rcases indexByte_bd' r 10 with h3 | ⟨h3, _⟩
        · rw [h3] at h2; simp at h2
        · obtain ⟨i, hi⟩ : ∃ i : Nat, Lib.indexByte r 10 = (i : Int) := ⟨_, (Int.toNat_of_nonneg h3).symm⟩
          obtain rfl : j = i + 1 := by omega
          rw [splitLs, if_neg hc', ih i hi]
          rfl

def KeepB1 (b : Nat) (w w' : World) : Prop := w.heap.size ≤ w'.heap.size ∧ w'.heap[b]? = w.heap[b]?
def Box1 (w : World) (b : Nat) (s : ByteArray) : Prop := w.heap[b]? = some (.cells #[.string s] 9 (0, 0))
theorem Box1.cells {w : World} {b : Nat} {s : ByteArray} (h : Box1 w b s) : w.cell? ⟨b, 0, none⟩ = some (.string s) ∧ w.frozen? ⟨b, 0, none⟩ = false ∧ b < w.heap.size := by
  have h0 : Blk w b _ _ := h
  exact ⟨h0.cell 0, h0.frozen 0, h0.lt⟩
theorem Box1.keep {w w' : World} {b : Nat} {s : ByteArray} (h : Box1 w b s) (hk : KeepB1 b w w') : Box1 w' b s := hk.2.trans h
theorem Box1.set_ {w : World} {b : Nat} {s : ByteArray} (h : Box1 w b s) (t : ByteArray) : Box1 (w.setCell ⟨b, 0, none⟩ (.string t)) b t := blk_set (i := 0) _ h
def sizeAt1 (w : World) (b : Nat) : Nat := match w.cell? ⟨b, 0, none⟩ with
  | some (.string s) => s.size
  | _ => 0
abbrev PieceL (M : Nat) := { b : ByteArray // b.size ≤ M }
set_option maxRecDepth 100000 in
set_option maxHeartbeats 2000000 in
theorem lines1_in (M : Nat) (hM : M < 100000) (l b : Nat) (s : ByteArray) (hs : s.size ≤ M) (J Jx : List (PieceL M) → World → Prop) (hJ : AbB b 9 J)
    (hY : ∀ pre x W, J pre W → pre.length < s.size + 1 → YieldAt Fence.wide 3 Tryz.prog l #[.string x.1] W fun e W' =>
      (e = .returned (.bool true) ∧ J (pre ++ [x]) W' ∧ KeepB1 b W W') ∨ (e = .returned (.bool false) ∧ Jx (pre ++ [x]) W'))
    (W : World) (hB : Box1 W b s) (h0 : J [] W) :
    CallsIn Fence.wide 4 Tryz.prog 70 #[.func (.yield l) #[] #[], .pointer (some ⟨b, 0, none⟩)] W fun e W' => (∃ v, e = .returned v) ∧
      ((∃ ys : List (PieceL M), ys.map (·.1.data.toList) = splitLs s.data.toList ∧ J ys W') ∨ (∃ pre : List (PieceL M), pre.map (·.1.data.toList) <+: splitLs s.data.toList ∧ Jx pre W')) := by
  refine callsIn_of_wp Tryz.func70 rfl trivial ?_ rfl
  simp only [Tryz.ntmps70, List.size_toArray, List.length_cons, List.length_nil, Nat.reduceAdd, Nat.reduceSub, Array.replicate_succ, Array.replicate_zero, List.push_toArray, List.append_toArray, List.nil_append, List.cons_append]
  obtain ⟨c1, f1, hlt⟩ := hB.cells
  have HB0 := Lib.hid hB
  clear hB
  gi_wp2
  gi_loopw [3] (fun q wr => ∃ (pre : List (PieceL M)) (cur : ByteArray), cur.size + pre.length ≤ s.size ∧ pre.map (·.1.data.toList) ++ splitLs cur.data.toList = splitLs s.data.toList ∧ J pre wr ∧ Box1 wr b cur)
    (fun q wr => sizeAt1 wr b)
  case atStart => exact ⟨[], s, by simp, by simp, h0, HB0.out⟩
  case round =>
    clear c1 f1 hlt HB0
    obtain ⟨pre, cur, hsz, hln, hJs, hbx⟩ := hrel
    obtain ⟨c1, f1, hlt⟩ := hbx.cells
    have HBX := Lib.hid hbx
    clear hbx
    have IDX : Hid (∀ W : World, Calls Tryz.prog 56 #[.string cur, .int .u8 10] W fun e w' => e = .returned (.int .i64 (Lib.indexByte cur.data.toList 10)) ∧ W = w') := Lib.hid (fun W => by
      refine (Tryz.strings_IndexByte cur 10 W).mono ?_
      rintro e w' ⟨rfl, rfl⟩
      exact ⟨rfl, rfl⟩)
    by_cases hc0 : cur.size = 0
    · have hd0 : decide (0 < cur.size) = false := by simp [hc0]
      have hnil : cur.data.toList = [] := List.length_eq_zero_iff.1 (by rw [size_data]; exact hc0)
      rw [hnil] at hln
      have HLN := Lib.hid hln
      clear hln hc0 hnil
      gi_wp2
      go_end0
      exact ⟨⟨_, rfl⟩, .inl ⟨pre, by simpa [splitLs] using HLN.out, hJs⟩⟩
    · have hd0 : decide (0 < cur.size) = true := by simp; omega
      rcases indexByte_bd' cur.data.toList 10 with hi | ⟨hi0, hi1⟩
      · have hdi : decide ((0 : Int) ≤ -1) = false := by decide
        have hl1 : splitLs cur.data.toList = [cur.data.toList] := splitLs_none _ (by intro e; have := size_data cur; rw [e] at this; simp at this; omega) hi
        rw [hl1] at hln
        have hJ1 : J pre (wr.setCell ⟨b, 0, none⟩ (.string ⟨#[]⟩)) := hJ _ _ _ (some b) hJs (grownBy_setCell (p := ⟨b, 0, none⟩) (World.grownBy.refl _ _) (.inl rfl) _) (fun r e => by cases e; exact ⟨rfl, ⟨_, HBX.out⟩, _, blk_set (i := 0) _ HBX.out⟩)
        obtain ⟨fn, tmps, assign, body, hy, hR⟩ := hY pre ⟨cur, by omega⟩ _ hJ1 (by omega)
        dsimp only at hy
        have HLN := Lib.hid hln
        have HI := Lib.hid hi
        have HS0 : Hid (sizeAt1 wr b = cur.size) := Lib.hid (by unfold sizeAt1; rw [c1])
        clear hln hi hl1
        gi_wp2_with (refine ⟨trivial, ?_⟩; gi_at_call 56; go_must (refine (callsIn_wide.2 (IDX.out _)).mono ?_; rintro e w' ⟨rfl, rfl⟩; rw [HI.out]))
        refine hR.mono ?_
        rintro e W3 (⟨rfl, hJ3, hk3⟩ | ⟨rfl, hJx3⟩)
        · have HB3 := Lib.hid ((HBX.out.set_ _).keep hk3)
          gi_wp2
          go_roundw
          case rel =>
            have h0 : (⟨#[]⟩ : ByteArray).size = 0 := rfl
            refine ⟨pre ++ [⟨cur, Nat.le_trans (Nat.le_trans (Nat.le_add_right _ _) hsz) hs⟩], ⟨#[]⟩, ?_, ?_, hJ3, HB3.out⟩
            · rw [h0, List.length_append]; simp only [List.length_cons, List.length_nil]; omega
            · rw [← HLN.out, List.map_append, List.append_assoc]; rfl
          case measure =>
            have h1 : sizeAt1 W3 b = 0 := by unfold sizeAt1; rw [HB3.out.cells.1]; rfl
            rw [h1, HS0.out]; omega
        · gi_wp2
          refine bodyPost_ret (results_none rfl _ _ _) rfl ?_
          exact ⟨⟨_, rfl⟩, .inr ⟨pre ++ [⟨cur, by omega⟩], by rw [← HLN.out]; simp, hJx3⟩⟩
      · obtain ⟨j, hj⟩ : ∃ j : Nat, Lib.indexByte cur.data.toList 10 = (j : Int) := ⟨_, (Int.toNat_of_nonneg hi0).symm⟩
        have hjl : j < cur.size := by rw [hj, size_data] at hi1; omega
        have hx : (cur.extract 0 (j + 1)).size = j + 1 := by rw [ByteArray.size_extract]; omega
        have hx2 : (cur.extract (j + 1) cur.size).size = cur.size - (j + 1) := by rw [ByteArray.size_extract]; omega
        have hxM : (cur.extract 0 (j + 1)).size ≤ M := by omega
        have hl1 : splitLs cur.data.toList = (cur.extract 0 (j + 1)).data.toList :: splitLs (cur.extract (j + 1) cur.size).data.toList := by
          rw [splitLs_some _ _ hj, Lib.extract_data, Lib.extract_to_end]
          simp only [List.drop_zero, Nat.sub_zero]
        rw [hl1] at hln
        have hJ1 : J pre (wr.setCell ⟨b, 0, none⟩ (.string (cur.extract (j + 1) cur.size))).drew := hJ _ _ _ (some b) hJs (grownBy_drewN (grownBy_setCell (p := ⟨b, 0, none⟩) (World.grownBy.refl _ _) (.inl rfl) _) 1) (fun r e => by cases e; exact ⟨rfl, ⟨_, HBX.out⟩, _, blk_set (i := 0) _ HBX.out⟩)
        obtain ⟨fn, tmps, assign, body, hy, hR⟩ := hY pre ⟨cur.extract 0 (j + 1), hxM⟩ _ hJ1 (by omega)
        dsimp only at hy
        have HLN := Lib.hid hln
        have HJ := Lib.hid hj
        have HX := Lib.hid hx
        have HX2 := Lib.hid hx2
        have HS0 : Hid (sizeAt1 wr b = cur.size) := Lib.hid (by unfold sizeAt1; rw [c1])
        clear hln hi0 hi1 hl1 hj hx hx2
        gi_wp2_with (refine ⟨trivial, ?_⟩; gi_at_call 56; go_must (refine (callsIn_wide.2 (IDX.out _)).mono ?_; rintro e w' ⟨rfl, rfl⟩; rw [HJ.out]))
        gi_region
        gi_wp2
        refine hR.mono ?_
        rintro e W3 (⟨rfl, hJ3, hk3⟩ | ⟨rfl, hJx3⟩)
        · have HB3 : Hid (Box1 W3 b (cur.extract (j + 1) cur.size)) := Lib.hid (Box1.keep (show Box1 (wr.setCell ⟨b, 0, none⟩ (.string (cur.extract (j + 1) cur.size))).drew b _ from HBX.out.set_ _) hk3)
          gi_wp2
          go_roundw
          case rel =>
            refine ⟨pre ++ [⟨cur.extract 0 (j + 1), hxM⟩], cur.extract (j + 1) cur.size, ?_, ?_, hJ3, HB3.out⟩
            · rw [HX2.out, List.length_append]; simp only [List.length_cons, List.length_nil]; omega
            · rw [← HLN.out, List.map_append, List.append_assoc]; rfl
          case measure =>
            have h1 : sizeAt1 W3 b = cur.size - (j + 1) := by unfold sizeAt1; rw [HB3.out.cells.1]; exact HX2.out
            rw [h1, HS0.out]; omega
        · gi_wp2
          refine bodyPost_ret (results_none rfl _ _ _) rfl ?_
          refine ⟨⟨_, rfl⟩, .inr ⟨pre ++ [⟨cur.extract 0 (j + 1), hxM⟩], ?_, hJx3⟩⟩
          rw [← HLN.out, List.map_append]
          exact ⟨splitLs (cur.extract (j + 1) cur.size).data.toList, by rw [List.append_assoc]; rfl⟩
theorem lines_any (s : ByteArray) (w : World) : Calls Tryz.prog 53 #[.string s] w fun e w' => e = .returned (.func (.func 70) #[] #[.pointer (some ⟨w.heap.size, 0, none⟩)]) ∧ w.alloc (.cells #[.string s] 9) = w' := by
  go_enter Tryz.func53, Tryz.ntmps53
  go_wp2
  go_ret
  exact ⟨rfl, rfl⟩
theorem lines1_stops (M : Nat) (hM : M < 100000) (b : Nat) (s : ByteArray) (hs : s.size ≤ M) (w : World) (hB : Box1 w b s) :
    SeqBox Fence.wide 4 Tryz.prog 70 #[.pointer (some ⟨b, 0, none⟩)] (fun x : PieceL M => #[.string x.1]) (KeepB1 b) b 9
      (fun ys => ys.map (·.1.data.toList) = splitLs s.data.toList) (fun pre => pre.map (·.1.data.toList) <+: splitLs s.data.toList) (s.size + 1) w := fun l J Jx W hW hJ _ hY h0 =>
  lines1_in M hM l b s hs J Jx hJ hY W (hB.keep ⟨hW.size, hW.block b hB.cells.2.2⟩) h0
end Go.Proofs.YtpkefohcccpncaaGreatDoor
