/- strings.SplitSeq at one byte: its iterator's contract. -/
import Derived.Test.YtnibnkblkabalaaDoorRange
import Derived.Test.YtnibnkblkabalaaDoorShelf
namespace Go.Proofs.YtnibnkblkabalaaDoor
open Go.RowKit
set_option linter.unusedSimpArgs false
set_option linter.unusedVariables false

/-- the pieces of a text between the bytes c -/
def linesL (c : UInt8) : Nat → List UInt8 → List (List UInt8)
  | 0, l => [l]
  | f + 1, l => if Lib.indexByte l c < 0 then [l] else l.take (Lib.indexByte l c).toNat :: linesL c f (l.drop ((Lib.indexByte l c).toNat + 1))

theorem indexByte_bd (l : List UInt8) (c : UInt8) : Lib.indexByte l c = -1 ∨ (0 ≤ Lib.indexByte l c ∧ Lib.indexByte l c < l.length) := by
  induction l with
  | nil => left; rfl
  | cons a l ih =>
    simp only [Lib.indexByte]
    split
    · right; simp
    · split
      · left; rfl
      · rename_i h; right
        rcases ih with h2 | h2
        · rw [h2] at h; simp at h
        · simp; omega

theorem linesL_fuel (c : UInt8) : ∀ (f g : Nat) (l : List UInt8), l.length < f → l.length < g → linesL c f l = linesL c g l := by
  intro f
  induction f with
  | zero => intro g l h; omega
  | succ f ih =>
    intro g l hf hg
    obtain ⟨g, rfl⟩ : ∃ g', g = g' + 1 := ⟨g - 1, by omega⟩
    simp only [linesL]
    split
    · rfl
    · rcases indexByte_bd l c with h | h
      · omega
      · rw [ih g _ (by simp; omega) (by simp; omega)]

/-- what the iterator reads: its three boxes -/
def Boxes (w : World) (b : Nat) (s sep : ByteArray) : Prop :=
  w.heap[b]? = some (.cells #[.string s] 9 (0, 0)) ∧ w.heap[b + 1]? = some (.cells #[.string sep] 9 (0, 0)) ∧ w.heap[b + 2]? = some (.cells #[.int .i64 0] 3 (0, 0))
theorem Boxes.cells {w : World} {b : Nat} {s sep : ByteArray} (h : Boxes w b s sep) : w.cell? ⟨b, 0, none⟩ = some (.string s) ∧ w.frozen? ⟨b, 0, none⟩ = false ∧ w.cell? ⟨b + 1, 0, none⟩ = some (.string sep) ∧ w.cell? ⟨b + 2, 0, none⟩ = some (.int .i64 0) ∧ b + 2 < w.heap.size := by
  have h0 : Blk w b _ _ := h.1
  have h1 : Blk w (b + 1) _ _ := h.2.1
  have h2 : Blk w (b + 2) _ _ := h.2.2
  exact ⟨h0.cell 0, h0.frozen 0, h1.cell 0, h2.cell 0, h2.lt⟩
def KeepBox (b : Nat) (w w' : World) : Prop := w.heap.size ≤ w'.heap.size ∧ ∀ k, b ≤ k → k < b + 3 → w'.heap[k]? = w.heap[k]?
theorem Boxes.keep {w w' : World} {b : Nat} {s sep : ByteArray} (h : Boxes w b s sep) (hk : KeepBox b w w') : Boxes w' b s sep :=
  ⟨(hk.2 b (by omega) (by omega)).trans h.1, (hk.2 (b + 1) (by omega) (by omega)).trans h.2.1, (hk.2 (b + 2) (by omega) (by omega)).trans h.2.2⟩

def sizeAt (w : World) (b : Nat) : Nat := match w.cell? ⟨b, 0, none⟩ with
  | some (.string s) => s.size
  | _ => 0

abbrev Piece (M : Nat) := { b : ByteArray // b.size ≤ M }

set_option maxRecDepth 100000 in
set_option maxHeartbeats 2000000 in
theorem split1_in (c : UInt8) (M : Nat) (hM : M < 100000) (l b : Nat) (s : ByteArray) (hs : s.size ≤ M) (J Jx : List (Piece M) → World → Prop) (hJ : AbB b 9 J)
    (hY : ∀ pre x W, J pre W → pre.length < s.size + 1 → YieldAt Fence.wide 3 Tryd.prog l #[.string x.1] W fun e W' =>
      (e = .returned (.bool true) ∧ J (pre ++ [x]) W' ∧ KeepBox b W W') ∨ (e = .returned (.bool false) ∧ Jx (pre ++ [x]) W'))
    (W : World) (hB : Boxes W b s ⟨#[c]⟩) (h0 : J [] W) :
    CallsIn Fence.wide 4 Tryd.prog 45 #[.func (.yield l) #[] #[], .pointer (some ⟨b + 1, 0, none⟩), .pointer (some ⟨b, 0, none⟩), .pointer (some ⟨b + 2, 0, none⟩)] W fun e W' => (∃ v, e = .returned v) ∧
      ((∃ ys : List (Piece M), ys.map (·.1.data.toList) = linesL c (s.size + 1) s.data.toList ∧ J ys W') ∨ (∃ pre : List (Piece M), pre.map (·.1.data.toList) <+: linesL c (s.size + 1) s.data.toList ∧ Jx pre W')) := by
  refine callsIn_of_wp Tryd.func45 rfl trivial ?_ rfl
  simp only [Tryd.ntmps45, List.size_toArray, List.length_cons, List.length_nil, Nat.reduceAdd, Nat.reduceSub, Array.replicate_succ, Array.replicate_zero, List.push_toArray, List.append_toArray, List.nil_append, List.cons_append]
  obtain ⟨c1, f1, c2, c3, hlt⟩ := hB.cells
  have HB0 := Lib.hid hB
  clear hB
  gi_wp2
  gi_loopw [7, 8] (fun i q wr => ∃ (pre : List (Piece M)) (cur : ByteArray), cur.size + pre.length ≤ s.size ∧ pre.map (·.1.data.toList) ++ linesL c (cur.size + 1) cur.data.toList = linesL c (s.size + 1) s.data.toList ∧ J pre wr ∧ Boxes wr b cur ⟨#[c]⟩)
    (fun i q wr => sizeAt wr b)
  case atStart => exact ⟨[], s, by simp, by simp, h0, HB0.out⟩
  case round =>
    clear c1 f1 c2 c3 hlt HB0
    obtain ⟨pre, cur, hsz, hln, hJs, hbx⟩ := hrel
    obtain ⟨c1, f1, c2, c3, hlt⟩ := hbx.cells
    have HBX := Lib.hid hbx
    clear hbx
    have IDX : Hid (∀ W : World, Calls Tryd.prog 47 #[.string cur, .string ⟨#[c]⟩] W fun e w' => e = .returned (.int .i64 (Lib.indexByte cur.data.toList c)) ∧ w' = W) := Lib.hid (fun W => Tryd.strings_Index_one cur c W)
    rcases indexByte_bd cur.data.toList c with hi | ⟨hi0, hi1⟩
    · obtain ⟨fn, tmps, assign, body, hy, hR⟩ := hY pre ⟨cur, by omega⟩ wr hJs (by omega)
      dsimp only at hy
      have hl1 : linesL c (cur.size + 1) cur.data.toList = [cur.data.toList] := by simp only [linesL]; rw [if_pos (by omega)]
      rw [hl1] at hln
      have HLN := Lib.hid hln
      have HI := Lib.hid hi
      clear hln hi hl1
      gi_wp2_with (refine ⟨trivial, ?_⟩; gi_at_call 47; go_must (refine (callsIn_wide.2 (IDX.out _)).mono ?_; rintro e w' ⟨rfl, hw⟩; subst hw; rw [HI.out]))
      refine hR.mono ?_
      rintro e W3 (⟨rfl, hJ3, hk3⟩ | ⟨rfl, hJx3⟩)
      · gi_wp2
        go_end0
        exact ⟨⟨_, rfl⟩, .inl ⟨pre ++ [⟨cur, by omega⟩], by simp [← HLN.out], hJ3⟩⟩
      · gi_wp2
        go_end0
        exact ⟨⟨_, rfl⟩, .inr ⟨pre ++ [⟨cur, by omega⟩], by simp [← HLN.out], hJx3⟩⟩
    · obtain ⟨j, hj⟩ : ∃ j : Nat, Lib.indexByte cur.data.toList c = (j : Int) := ⟨_, (Int.toNat_of_nonneg hi0).symm⟩
      have hjl : j < cur.size := by rw [hj, size_data] at hi1; omega
      have hx : (cur.extract 0 j).size = j := by rw [ByteArray.size_extract]; omega
      have hx2 : (cur.extract (j + 1) cur.size).size = cur.size - (j + 1) := by rw [ByteArray.size_extract]; omega
      have hxM : (cur.extract 0 j).size ≤ M := by omega
      obtain ⟨fn, tmps, assign, body, hy, hR⟩ := hY pre ⟨cur.extract 0 j, hxM⟩ wr hJs (by omega)
      dsimp only at hy
      have hl1 : linesL c (cur.size + 1) cur.data.toList = (cur.extract 0 j).data.toList :: linesL c ((cur.extract (j + 1) cur.size).size + 1) (cur.extract (j + 1) cur.size).data.toList := by
        rw [show linesL c (cur.size + 1) cur.data.toList = cur.data.toList.take j :: linesL c cur.size (cur.data.toList.drop (j + 1)) from by
          simp only [linesL]; rw [if_neg (by omega), hj]; rfl]
        rw [Lib.extract_data, Lib.extract_to_end]
        simp only [List.drop_zero, Nat.sub_zero, List.cons.injEq, true_and]
        exact linesL_fuel _ _ _ _ (by simp; omega) (by simp [ByteArray.size_extract])
      rw [hl1] at hln
      have HS0 : Hid (sizeAt wr b = cur.size) := Lib.hid (by unfold sizeAt; rw [c1])
      have HLN := Lib.hid hln
      have HJ := Lib.hid hj
      have HX := Lib.hid hx
      have HX2 := Lib.hid hx2
      clear hln hi0 hi1 hl1 hj hx hx2
      gi_wp2_with (refine ⟨trivial, ?_⟩; gi_at_call 47; go_must (refine (callsIn_wide.2 (IDX.out _)).mono ?_; rintro e w' ⟨rfl, hw⟩; subst hw; rw [HJ.out]))
      refine hR.mono ?_
      rintro e W3 (⟨rfl, hJ3, hk3⟩ | ⟨rfl, hJx3⟩)
      · have HB3 := Lib.hid (HBX.out.keep hk3)
        obtain ⟨c1, f1, c2, c3, hlt⟩ := (HBX.out.keep hk3).cells
        gi_wp2
        go_roundw
        case rel =>
          refine ⟨pre ++ [⟨cur.extract 0 j, hxM⟩], cur.extract (j + 1) cur.size, ?_, by rw [← HLN.out]; simp, ?_, ?_⟩
          · rw [HX2.out]; simp; omega
          · exact hJ _ _ _ (some b) hJ3 (grownBy_setCell (p := ⟨b, 0, none⟩) (World.grownBy.refl _ _) (.inl rfl) _) (fun r e => by cases e; exact ⟨rfl, ⟨_, HB3.out.1⟩, _, blk_set (i := 0) _ HB3.out.1⟩)
          · exact ⟨blk_set (i := 0) _ HB3.out.1, (Below.heap_setCell _ _ _ _ (by simp)).trans HB3.out.2.1, (Below.heap_setCell _ _ _ _ (by simp)).trans HB3.out.2.2⟩
        case measure =>
          have h1 : sizeAt (W3.setCell ⟨b, 0, none⟩ (.string (cur.extract (j + 1) cur.size))) b = cur.size - (j + 1) := by
            unfold sizeAt; rw [World.cell?_setCell_same' _ _ _ (by rw [c1]; rfl)]; exact HX2.out
          rw [h1, HS0.out]; omega
      · gi_wp2
        refine bodyPost_ret (results_none rfl _ _ _) rfl ?_
        refine ⟨⟨_, rfl⟩, .inr ⟨pre ++ [⟨cur.extract 0 j, hxM⟩], ?_, hJx3⟩⟩
        rw [← HLN.out]; simp

theorem split_any (s : ByteArray) (c : UInt8) (w : World) : Calls Tryd.prog 24 #[.string s, .string ⟨#[c]⟩] w fun e w' => e = .returned (.func (.func 45) #[] #[.pointer (some ⟨w.heap.size + 1, 0, none⟩), .pointer (some ⟨w.heap.size, 0, none⟩), .pointer (some ⟨w.heap.size + 2, 0, none⟩)]) ∧
    w' = ((w.alloc (.cells #[.string s] 9)).alloc (.cells #[.string ⟨#[c]⟩] 9)).alloc (.cells #[.int .i64 0] 3) := by
  go_enter Tryd.func24, Tryd.ntmps24
  go_wp2
  go_ret
  exact ⟨rfl, rfl⟩

theorem split1_stops (c : UInt8) (M : Nat) (hM : M < 100000) (b : Nat) (s : ByteArray) (hs : s.size ≤ M) (w : World) (hB : Boxes w b s ⟨#[c]⟩) :
    SeqBox Fence.wide 4 Tryd.prog 45 #[.pointer (some ⟨b + 1, 0, none⟩), .pointer (some ⟨b, 0, none⟩), .pointer (some ⟨b + 2, 0, none⟩)] (fun x : Piece M => #[.string x.1]) (KeepBox b) b 9
      (fun ys => ys.map (·.1.data.toList) = linesL c (s.size + 1) s.data.toList) (fun pre => pre.map (·.1.data.toList) <+: linesL c (s.size + 1) s.data.toList) (s.size + 1) w := fun l J Jx W hW hJ _ hY h0 =>
  split1_in c M hM l b s hs J Jx hJ hY W (hB.keep ⟨hW.size, fun k h1 h2 => hW.block k (by have := hB.cells.2.2.2.2; omega)⟩) h0
end Go.Proofs.YtnibnkblkabalaaDoor
