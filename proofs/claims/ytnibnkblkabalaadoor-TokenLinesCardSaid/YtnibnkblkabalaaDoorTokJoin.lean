/- Join of the package token and of its reference. -/
import Derived.Test.YtnibnkblkabalaaDoorBuilder
import Derived.Test.YtnibnkblkabalaaDoorTokSpec
import Derived.Test.YtnibnkblkabalaaDoorShelf
namespace Go.Proofs.YtnibnkblkabalaaDoor
open Go.RowKit
set_option linter.unusedSimpArgs false
set_option linter.unusedVariables false

def joinL : Bool → List Tok → List UInt8
  | _, [] => []
  | b, x :: r => if x.k = 4 then 10 :: joinL false r else (if b then [32] else []) ++ x.t.data.toList ++ joinL true r

theorem joinL_drop {xs : List Tok} {k : Nat} (hk : k < xs.length) (b : Bool) : joinL b (xs.drop k) = if xs[k].k = 4 then 10 :: joinL false (xs.drop (k + 1)) else (if b then [32] else []) ++ xs[k].t.data.toList ++ joinL true (xs.drop (k + 1)) := by
  rw [List.drop_eq_getElem_cons hk]; rfl
theorem okept_blk {T : TypeId} {b k : Nat} {w w' : World} {cs : Array Value} {t : TypeId} (h : Lib.OthersKept T (some b) w w') (hk : w.heap[k]? = some (.cells cs t (0, 0))) (hb : k ≠ b) (ht : t ≠ T) : w'.heap[k]? = some (.cells cs t (0, 0)) :=
  h k _ hk (fun e => hb (by injection e)) (fun c fz e => ht (by injection e))

set_option maxHeartbeats 1000000 in
theorem join_any (A : Option Addr) (c : Nat) (xs : List Tok) (w : World) (B : Nat) (hB : B ≤ w.heap.size) (hx : Toks w B A xs) (hn : xs.length ≤ 100000) (hJ : (joinL false xs).length ≤ 100000000) :
    Calls Tryd.prog 18 #[.slice A xs.length c] w fun e w' => e = .returned (.string ⟨(joinL false xs).toArray⟩) ∧ Below w.heap.size w w' := by
  go_enter Tryd.func18, Tryd.ntmps18
  go_wp2
  go_loopw [9, 4] (fun i b wr => ∃ (k : Nat) (bb : Bool) (acc : List UInt8), k ≤ xs.length ∧ i = .int .i64 k ∧ b = .bool bb ∧ acc ++ joinL bb (xs.drop k) = joinL false xs ∧ Lib.IsBuilderF 63 5 w.heap.size w.heap.size (Lib.byteCells acc) wr ∧ Below w.heap.size w wr) (fun i _ _ => xs.length - (intOf i).toNat)
  case atStart => exact ⟨0, false, [], by omega, rfl, rfl, by simp, .of (Lib.fresh_isBuilder _ _ _), (Below.refl _ _).alloc (Nat.le_refl _) _⟩
  case round =>
    obtain ⟨k, bb, acc, hk, rfl, rfl, hacc, hbl, hbe⟩ := hrel
    have hal : acc.length ≤ 100000000 := by rw [← hacc] at hJ; simp at hJ; omega
    have hbs := hbe.size
    have hbc : (Lib.byteCells acc).length = acc.length := Lib.byteCells_length _
    by_cases hlt : k < xs.length
    · obtain ⟨ad, rfl, hab, h0, h1, h2⟩ := Toks.at_ (xs := xs) (Reads.below (Reads.more hx hB) hbe) hlt
      rw [joinL_drop hlt] at hacc
      rcases Classical.em (xs[k].k = 4) with h4 | h4
      · have hb4 : (xs[k].k == 4) = true := by simp [h4]
        rw [if_pos h4] at hacc
        have HA := Lib.hid hacc
        clear hacc h4
        go_wp2_with (go_at_call 31; refine (writeByte_any w.heap.size w.heap.size _ _ _ (hbl.alloc _) (by omega) (by simp; omega)).mono ?_; rintro e w1 ⟨rfl, hb1, hbe1, hk1⟩)
        go_roundw
        case rel => exact ⟨k + 1, false, acc ++ [10], by omega, by go_num, rfl, by rw [← HA.out]; simp, by have := IsBuilderF.at_ hb1; rw [Lib.byteCells_append]; exact this, (hbe.alloc hbs _).trans hbe1⟩
        case measure => simp [intOf]; omega
      · have hb4 : (xs[k].k == 4) = false := by simp [h4]
        rw [if_neg h4] at hacc
        have HA := Lib.hid hacc
        have hsl : xs[k].t.size + acc.length ≤ 100000000 := by rw [← hacc] at hJ; simp at hJ; omega
        clear hacc h4
        rcases bb with _ | _
        · go_wp2_with (go_at_call 32; refine (writeString_any w.heap.size w.heap.size _ _ _ (hbl.alloc _) (by omega) (by simp; omega)).mono ?_; rintro e w1 ⟨rfl, hb1, hbe1, hk1⟩)
          go_roundw
          case rel => exact ⟨k + 1, true, acc ++ xs[k].t.data.toList, by omega, by go_num, rfl, by rw [← HA.out]; simp, by have := IsBuilderF.at_ hb1; simp only [Lib.byteCells_append]; exact this, (hbe.alloc hbs _).trans hbe1⟩
          case measure => simp [intOf]; omega
        · go_wp2_with (first
            | (go_at_call 31
               refine (writeByte_any w.heap.size w.heap.size _ _ _ (hbl.alloc _) (by omega) (by simp; omega)).mono ?_
               rintro e w1 ⟨rfl, hb1, hbe1, hk1⟩
               have hc2 : w1.cell? ⟨wr.heap.size, 1, none⟩ = some (.string xs[k].t) := by simp [World.cell?, okept_blk hk1 (heap_alloc_new wr _) (by have := isBuilderF_lt hbl; omega) (by decide)]
               have hs1 : wr.heap.size + 1 ≤ w1.heap.size := by have := hbe1.size; simpa using this
               clear hk1)
            | (go_at_call 32; go_must (refine (writeString_any w.heap.size w.heap.size _ _ _ (.inr hb1) (by simp; omega) (by omega)).mono ?_; rintro e w2 ⟨rfl, hb2, hbe2, hk2⟩)))
          go_roundw
          case rel => exact ⟨k + 1, true, acc ++ [32] ++ xs[k].t.data.toList, by omega, by go_num, rfl, by rw [← HA.out]; simp, by have := IsBuilderF.at_ hb2; simp only [Lib.byteCells_append]; exact this, ((hbe.alloc hbs _).trans hbe1).trans hbe2⟩
          case measure => simp [intOf]; omega
    · have hke : k = xs.length := by omega
      have HA := Lib.hid hacc
      clear hacc
      go_wp2_with (go_at_call 33; refine (Tryd.Builder_String_any_f w.heap.size w.heap.size acc _ hbl hbs).mono ?_; rintro e w1 ⟨rfl, hb1, hbe1⟩)
      go_ret
      have he : acc = joinL false xs := by have := HA.out; rw [hke] at this; simpa [joinL] using this
      exact ⟨by rw [he]; rfl, hbe.trans hbe1⟩

def prevB (xs : List Tok) : Nat → Bool
  | 0 => false
  | k + 1 => match xs[k]? with
    | some x => decide (x.k ≠ 4)
    | none => false
theorem prevB_succ {xs : List Tok} {k : Nat} (hk : k < xs.length) : prevB xs (k + 1) = decide (xs[k].k ≠ 4) := by
  simp [prevB, List.getElem?_eq_getElem hk]
theorem append_data (a b : ByteArray) : (a ++ b).data.toList = a.data.toList ++ b.data.toList := by simp

set_option maxHeartbeats 1000000 in
theorem rjoin_any (A : Option Addr) (c : Nat) (xs : List Tok) (w : World) (B : Nat) (hx : Toks w B A xs) (hn : xs.length ≤ 100000) (hJ : (joinL false xs).length ≤ 100000000) :
    Calls Tryd.prog 19 #[.slice A xs.length c] w fun e w' => e = .returned (.string ⟨(joinL false xs).toArray⟩) ∧ ∃ n, w' = w.drewN n := by
  go_enter Tryd.func19, Tryd.ntmps19
  go_wp2
  go_loopw [3, 4] (fun s i wr => ∃ (k : Nat) (a : ByteArray) (n : Nat), k ≤ xs.length ∧ i = .int .i64 k ∧ s = .string a ∧ a.data.toList ++ joinL (prevB xs k) (xs.drop k) = joinL false xs ∧ wr = w.drewN n) (fun _ i _ => xs.length - (intOf i).toNat)
  case atStart => exact ⟨0, ⟨#[]⟩, 0, by omega, rfl, rfl, by simp [prevB], rfl⟩
  case round =>
    obtain ⟨k, a, n, hk, rfl, rfl, hacc, rfl⟩ := hrel
    have hal : a.size ≤ 100000000 := by rw [← hacc] at hJ; simp at hJ; omega
    by_cases hlt : k < xs.length
    · obtain ⟨ad, rfl, hab, h0, h1, h2⟩ := Toks.at_ (xs := xs) hx hlt
      rw [joinL_drop hlt] at hacc
      have hps := prevB_succ hlt
      rcases Classical.em (xs[k].k = 4) with h4 | h4
      · have hb4 : (xs[k].k == 4) = true := by simp [h4]
        rw [if_pos h4] at hacc
        have HA := Lib.hid hacc
        have HP : Hid (prevB xs (k + 1) = false) := Lib.hid (by rw [hps]; simp [h4])
        clear hacc h4 hps
        go_wp2
        go_roundw
        case rel => exact ⟨k + 1, _, _, by omega, by go_num, rfl, by rw [← HA.out, HP.out]; simp, rfl⟩
        case measure => simp [intOf]; omega
      · have hb4 : (xs[k].k == 4) = false := by simp [h4]
        rw [if_neg h4] at hacc
        have HA := Lib.hid hacc
        have hsl : a.size + xs[k].t.size ≤ 100000000 := by rw [← hacc] at hJ; simp at hJ; omega
        have hsl2 : a.size + 1 + xs[k].t.size ≤ 100000001 := by omega
        have HP : Hid (prevB xs (k + 1) = true) := Lib.hid (by rw [hps]; simp [h4])
        clear hacc h4 hps
        by_cases hk0 : 0 < k
        · have hm : k - 1 < xs.length := by omega
          obtain ⟨ad', he, hab', g0, g1, g2⟩ := Toks.at_ (xs := xs) hx hm
          injection he with he; subst he
          have hps2 := prevB_succ hm
          rw [show k - 1 + 1 = k from by omega] at hps2
          rcases Classical.em (xs[k - 1].k = 4) with g4 | g4
          · have hc4 : (xs[k - 1].k != 4) = false := by simp [g4]
            have HP2 : Hid (prevB xs k = false) := Lib.hid (by rw [hps2]; simp [g4])
            clear g4 hps2
            go_wp2
            go_roundw
            case rel => exact ⟨k + 1, _, _, by omega, by go_num, rfl, by rw [← HA.out, HP.out, HP2.out]; simp, rfl⟩
            case measure => simp [intOf]; omega
          · have hc4 : (xs[k - 1].k != 4) = true := by simp [g4]
            have HP2 : Hid (prevB xs k = true) := Lib.hid (by rw [hps2]; simp [g4])
            clear g4 hps2
            go_wp2
            go_roundw
            case rel => exact ⟨k + 1, _, _, by omega, by go_num, rfl, by rw [← HA.out, HP.out, HP2.out]; simp, rfl⟩
            case measure => simp [intOf]; omega
        · have HP2 : Hid (prevB xs k = false) := Lib.hid (by rw [show k = 0 from by omega]; rfl)
          go_wp2
          go_roundw
          case rel => exact ⟨k + 1, _, _, by omega, by go_num, rfl, by rw [← HA.out, HP.out, HP2.out]; simp, rfl⟩
          case measure => simp [intOf]; omega
    · have hke : k = xs.length := by omega
      have HA := Lib.hid hacc
      clear hacc
      go_wp2
      go_ret
      have he : a.data.toList = joinL false xs := by have := HA.out; rw [hke] at this; simpa [joinL] using this
      exact ⟨ret_str (bytes_ext (by rw [he])), _, rfl⟩

def sameT (x y : Tok) : Prop := x.k = y.k ∧ x.t = y.t ∧ x.line = y.line
set_option maxHeartbeats 1000000 in
theorem rsame_any (A A' : Option Addr) (c c' : Nat) (xs ys : List Tok) (w : World) (B : Nat) (hx : Toks w B A xs) (hy : Toks w B A' ys) (hn : xs.length ≤ 100000) (hn' : ys.length ≤ 100000) (heq : xs = ys) :
    Calls Tryd.prog 15 #[.slice A xs.length c, .slice A' ys.length c'] w fun e w' => e = .returned (.bool true) ∧ ∃ n, w' = w.drewN n := by
  subst heq
  go_enter Tryd.func15, Tryd.ntmps15
  go_wp2
  go_loopw [5] (fun i wr => ∃ (k : Nat) (n : Nat), k ≤ xs.length ∧ i = .int .i64 k ∧ wr = w.drewN n) (fun i _ => xs.length - (intOf i).toNat)
  case atStart => exact ⟨0, 0, by omega, rfl, rfl⟩
  case round =>
    obtain ⟨k, n, hk, rfl, rfl⟩ := hrel
    by_cases hlt : k < xs.length
    · obtain ⟨ad, rfl, hab, h0, h1, h2⟩ := Toks.at_ (xs := xs) hx hlt
      obtain ⟨ad', rfl, hab', g0, g1, g2⟩ := Toks.at_ (xs := xs) hy hlt
      go_wp2_with fail
      go_quiet (fail)
      go_wp2
      go_roundw
      case rel => exact ⟨k + 1, _, by omega, by go_num, rfl⟩
      case measure => simp [intOf]; omega
    · go_wp2
      go_ret
      exact ⟨rfl, _, rfl⟩
end Go.Proofs.YtnibnkblkabalaaDoor
