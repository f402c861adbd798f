/- The kind that a word stands for: slices.IndexFunc over the words. -/
import Derived.Test.YtpkefohcccpncaaGreatDoorNumP
namespace Go.Proofs.YtpkefohcccpncaaGreatDoor
open Go.RowKit
set_option linter.unusedSimpArgs false
set_option linter.unusedVariables false

def kindR (x : List UInt8) : Int := if kindOf x = 0 then -1 else kindOf x
theorem line1_any (t key : ByteArray) (a : Int) (kb : Nat) (w : World) (hk : w.cell? ⟨kb, 0, none⟩ = some (.string key)) (hb : kb < w.heap.size) (b : Bool) (hbb : (t.data.toList == key.data.toList && !(t.data.toList == [])) = b) :
    Calls Tryz.prog 91 #[.agg #[.string t, .int .i64 a], .pointer (some ⟨kb, 0, none⟩)] w fun e w' => e = .returned (.bool b) ∧ Below w.heap.size w w' := by
  by_cases he : t.data.toList = key.data.toList
  · have c1 : (t.toList == key.toList) = true := by rw [str_eq_dec]; simpa using he
    by_cases h0 : t.size = 0
    · have c2 := str_nil h0
      have c3 := str_empty h0
      have c4 : key.toList = [] := str_nil (by rw [← size_data, ← he, size_data]; exact h0)
      have HF : Hid (b = false) := Lib.hid (by
        rw [← hbb, show (t.data.toList == []) = true by rw [beq_iff_eq]; exact List.length_eq_zero_iff.1 (by rw [size_data]; exact h0)]; simp)
      clear hbb he h0
      go_enter Tryz.func91, Tryz.ntmps91
      go_wp2
      go_ret
      exact ⟨ret_bool HF.out.symm, (Below.refl _ _).alloc (Nat.le_refl _) _⟩
    · have c2 := str_ne h0
      have HF : Hid (b = true) := Lib.hid (by
        rw [← hbb, show (t.data.toList == []) = false by rw [beq_eq_false_iff_ne]; intro e; exact h0 (by rw [← size_data, e]; rfl)]; simp [he])
      clear hbb he h0
      go_enter Tryz.func91, Tryz.ntmps91
      go_wp2
      go_ret
      exact ⟨ret_bool HF.out.symm, (Below.refl _ _).alloc (Nat.le_refl _) _⟩
  · have c1 : (t.toList == key.toList) = false := by rw [str_eq_dec]; simpa using he
    have HF : Hid (b = false) := Lib.hid (by rw [← hbb, beq_eq_false_iff_ne.2 he]; rfl)
    clear hbb he
    go_enter Tryz.func91, Tryz.ntmps91
    go_wp2
    go_ret
    exact ⟨ret_bool HF.out.symm, (Below.refl _ _).alloc (Nat.le_refl _) _⟩
theorem kindOf_at {k : Nat} {x : List UInt8} (h1 : 1 ≤ k) (h7 : k ≤ 7) (he : kwOf k = x) : kindOf x = k := by
  rw [← he]; exact (kw_ok h1 h7).1
theorem kindOf_none {x : List UInt8} (h : ∀ k, k < 8 → (kwOf k == x && !(kwOf k == [])) = false) : kindOf x = 0 := by
  by_cases hk : kindOf x = 0
  · exact hk
  · obtain ⟨h1, h2, h3⟩ := kindOf_eq hk
    have := h (kindOf x) (by omega)
    have hne : (kwOf (kindOf x) == []) = false := by
      rcases kw_cases h2 h3 with e | e | e | e | e | e | e <;> rw [e] <;> decide
    rw [hne, h1] at this
    simp at this
set_option maxHeartbeats 1000000 in
theorem idxWord_any (key : ByteArray) (kb : Nat) (w : World) (hg : GlobP w) (hk : w.cell? ⟨kb, 0, none⟩ = some (.string key)) (hb : kb < w.heap.size) :
    Calls Tryz.prog 90 #[.slice (some ⟨0, 0, none⟩) 8 8, .func (.func 91) #[] #[.pointer (some ⟨kb, 0, none⟩)]] w fun e w' => e = .returned (.int .i64 (kindR key.data.toList)) ∧ Below w.heap.size w w' := by
  have HG := Lib.hid hg
  have HK := Lib.hid hk
  clear hg hk
  go_enter Tryz.func90, Tryz.ntmps90
  go_wp2
  go_loopw [8] (fun i wr => ∃ k : Nat, k ≤ 8 ∧ i = .int .i64 k ∧ Hid (Below w.heap.size w wr ∧ ∀ j, j < k → (kwOf j == key.data.toList && !(kwOf j == [])) = false)) (fun i _ => 8 - (intOf i).toNat)
  case atStart => exact ⟨0, by omega, rfl, Lib.hid ⟨Below.refl _ _, fun j hj => absurd hj (by omega)⟩⟩
  case round =>
    obtain ⟨k, hk8, rfl, HR⟩ := hrel
    obtain ⟨hbw, hno⟩ := HR.out
    have hwl : w.heap.size ≤ wr.heap.size := hbw.size
    by_cases hlt : k < 8
    · obtain ⟨q0, q1⟩ := (HG.out.below hbw).wd k hlt
      obtain ⟨b, hbb⟩ : ∃ b, (kwOf k == key.data.toList && !(kwOf k == [])) = b := ⟨_, rfl⟩
      have L1 : Hid (Calls Tryz.prog 91 #[.agg #[.string ⟨(kwOf k).toArray⟩, .int .i64 (argOf k)], .pointer (some ⟨kb, 0, none⟩)] wr fun e w' => e = .returned (.bool b) ∧ Below wr.heap.size wr w') := Lib.hid (line1_any ⟨(kwOf k).toArray⟩ key (argOf k) kb wr ((hbw.cell (p := ⟨kb, 0, none⟩) hb).trans HK.out) (by omega) b hbb)
      have HBW := Lib.hid hbw
      have HNO := Lib.hid hno
      have HBB := Lib.hid hbb
      clear hbw hno hbb
      generalize hkw : (⟨(kwOf k).toArray⟩ : ByteArray) = kw at *
      generalize (argOf k : Int) = ka at *
      clear hkw
      rcases b with _ | _
      · go_wp2_with (go_at_call 91; go_must (refine L1.out.mono ?_; rintro e w6 ⟨rfl, hb6⟩))
        go_roundw
        case rel =>
          refine ⟨k + 1, by omega, by go_num, Lib.hid ⟨HBW.out.trans (hb6.mono hwl), fun j hj => ?_⟩⟩
          by_cases e : j = k
          · rw [e]; exact HBB.out
          · exact HNO.out j (by omega)
        case measure => simp [intOf]; omega
      · have HF : Hid (kindR key.data.toList = k) := Lib.hid (by
          have := HBB.out
          simp only [Bool.and_eq_true, beq_iff_eq, Bool.not_eq_true', beq_eq_false_iff_ne, ne_eq] at this
          have h1 : 1 ≤ k := by
            rcases Nat.eq_zero_or_pos k with e | e
            · rw [e] at this; exact absurd rfl this.2
            · exact e
          unfold kindR
          rw [kindOf_at h1 (by omega) this.1, if_neg (by omega)])
        go_wp2_with (go_at_call 91; go_must (refine L1.out.mono ?_; rintro e w6 ⟨rfl, hb6⟩))
        go_ret
        exact ⟨ret_int HF.out.symm, HBW.out.trans (hb6.mono hwl)⟩
    · obtain rfl : k = 8 := by omega
      have HF : Hid (kindR key.data.toList = -1) := Lib.hid (by unfold kindR; rw [if_pos (kindOf_none hno)])
      have HBW := Lib.hid hbw
      clear hno hbw
      go_wp2
      go_ret
      exact ⟨ret_int HF.out.symm, HBW.out⟩
end Go.Proofs.YtpkefohcccpncaaGreatDoor
