/- The number that a text is. -/
import Derived.Test.YtpkefohcccpncaaGreatDoorSameP
import Derived.Test.YtpkefohcccpncaaGreatDoorPrgBack
import Derived.Lib.AtoiTie
import Derived.Lib.AtoiAllCases
import Derived.Lib.AtoiErrMem
namespace Go.Proofs.YtpkefohcccpncaaGreatDoor
open Go.RowKit
set_option linter.unusedSimpArgs false
set_option linter.unusedVariables false

theorem decFrom_digits : ∀ (l : List UInt8) (acc : Nat), l.all digitB = true → Lib.decFrom acc l = some (l.foldl (fun b c => 10 * b + (c.toNat - 48)) acc) := by
  intro l
  induction l with
  | nil => intro acc _; rfl
  | cons c r ih =>
    intro acc h
    rw [List.all_cons, Bool.and_eq_true] at h
    have hc : 48 ≤ c.toNat ∧ c.toNat ≤ 57 := by simpa [digitB] using h.1
    have hd : Lib.digitVal c = some (c.toNat - 48) := by unfold Lib.digitVal; rw [if_pos hc]
    rw [Lib.decFrom, hd, List.foldl_cons, Nat.mul_comm 10 acc]
    exact ih _ h.2
theorem atoi_num {l : List UInt8} (h : numL l = true) : Lib.atoiAll l = .ok (valD l) := by
  obtain ⟨h1, h2, h3, h4⟩ := numL_parts h
  rw [Lib.atoiAll_short l (by omega)]
  have h5 : Lib.atoi l = some (valD l) := by
    cases l with
    | nil => exact absurd rfl h1
    | cons c r =>
      have hc : 48 ≤ c.toNat ∧ c.toNat ≤ 57 := by
        rw [List.all_cons, Bool.and_eq_true] at h3
        simpa [digitB] using h3.1
      have n1 : (c == 45) = false := by rw [beq_eq_false_iff_ne]; intro e; subst e; exact absurd hc (by decide)
      have n2 : (c == 43) = false := by rw [beq_eq_false_iff_ne]; intro e; subst e; exact absurd hc (by decide)
      have hd := decFrom_digits (c :: r) 0 h3
      show (if (c == 45) = true then (Lib.decNat r).map fun (m : Nat) => -(m : Int) else if (c == 43) = true then (Lib.decNat r).map fun (m : Nat) => (m : Int) else (Lib.decNat (c :: r)).map fun (m : Nat) => (m : Int)) = _
      rw [n1, n2]
      simp only [Bool.false_eq_true, if_false]
      unfold Lib.decNat
      rw [if_neg (by simp), hd]
      rfl
  rw [h5]; rfl
theorem itoa_numL {v : Int} (h0 : 0 ≤ v) (h7 : (Lib.itoa v).length ≤ 7) : numL (Lib.itoa v) = true := by
  obtain ⟨u, rfl⟩ := Int.eq_ofNat_of_zero_le h0
  rw [Lib.itoa_nonneg] at *
  have hd := dec_digits u u (Nat.le_refl _)
  have hp := dec_pos u
  simp only [numL, Bool.and_eq_true, Bool.or_eq_true, decide_eq_true_eq, Bool.not_eq_true']
  refine ⟨⟨⟨?_, h7⟩, runL_all hd⟩, ?_⟩
  · rcases h : Lib.decDigits u with _ | ⟨c, r⟩
    · rw [h] at hp; simp at hp
    · rfl
  · by_cases hu : u = 0
    · subst hu; right; rw [Lib.decDigits, dif_pos (by omega)]; rfl
    · left
      intro e
      have := dec_head u u (Nat.le_refl _) hu
      rw [e] at this
      exact this (by decide)
/-- a text is a number just where Atoi takes it and Itoa gives it back -/
theorem numL_iff {l : List UInt8} {v : Int} (h : Lib.atoiAll l = .ok v) : numL l = (decide (0 ≤ v) && decide (l.length ≤ 7) && (Lib.itoa v == l)) := by
  rw [Bool.eq_iff_iff]
  constructor
  · intro hn
    have h1 := atoi_num hn
    rw [h] at h1
    injection h1 with h1
    obtain ⟨q1, q2⟩ := itoa_num hn
    obtain ⟨_, h7, _, _⟩ := numL_parts hn
    subst h1
    have : 0 ≤ valD l := by unfold valD; omega
    simp [q1, h7, this]
  · intro hn
    simp only [Bool.and_eq_true, decide_eq_true_eq, beq_iff_eq] at hn
    obtain ⟨⟨h0, h7⟩, he⟩ := hn
    rw [← he]
    exact itoa_numL h0 (by rw [he]; exact h7)
theorem numL_not {l : List UInt8} (h : ∀ v, Lib.atoiAll l ≠ .ok v) : numL l = false := by
  rcases hn : numL l with _ | _
  · rfl
  · exact absurd (atoi_num hn) (h _)
theorem atoi_ok (s : ByteArray) (w : World) (hs : s.size ≤ 100000000) (v : Int) (h : Lib.atoiAll s.data.toList = .ok v) : Calls Tryz.prog 103 #[.string s] w fun e w' => e = .returned (.tuple #[.int .i64 v, .nilIface]) ∧ Below w.heap.size w w' := by
  refine (Tryz.strconv_Atoi_ok s (by omega) v h w).mono ?_
  rintro e w' ⟨rfl, hw⟩
  refine ⟨rfl, ?_⟩
  rcases hw with rfl | ⟨t, rfl⟩
  · exact Below.refl _ _
  · exact Lib.bytesWorld_below _ _ _
def AtoiBad (w : World) (e : Ending) (w' : World) : Prop := ∃ (n : Int) (T : TypeId) (x : Value), e = .returned (.tuple #[.int .i64 n, .iface T x]) ∧ Below w.heap.size w w' ∧ -9223372036854775808 ≤ n ∧ n ≤ 9223372036854775807
theorem atoi_bad (s : ByteArray) (w : World) (hs : s.size ≤ 100000000) (hg : GlobP w) (h : ∀ v, Lib.atoiAll s.data.toList ≠ .ok v) : Calls Tryz.prog 103 #[.string s] w (AtoiBad w) := by
  obtain ⟨tp, p, he⟩ := hg.es
  obtain ⟨tp2, p2, he2⟩ := hg.er
  by_cases h2 : Lib.atoiAll s.data.toList = .range
  rotate_left
  · refine (Tryz.strconv_Atoi_syntax_var s (by omega) h h2 tp p w he).mono ?_
    rintro e w' ⟨N, rfl, _, _, hb⟩
    exact ⟨0, _, _, rfl, hb, by omega, by omega⟩
  · refine (Tryz.strconv_Atoi_range_var s (by omega) h2 tp2 p2 w he2).mono ?_
    rintro e w' ⟨N, rfl, _, _, hb⟩
    exact ⟨_, _, _, rfl, hb, (Lib.atoiSat_bounds _).1, (Lib.atoiSat_bounds _).2⟩
def NumPost (w : World) (l : List UInt8) (b : Bool) (e : Ending) (w' : World) : Prop := ∃ n : Int, e = .returned (.tuple #[.int .i64 n, .bool b]) ∧ Below w.heap.size w w' ∧ (b = true → n = valD l)
set_option maxHeartbeats 1000000 in
theorem numberP_any (s : ByteArray) (w : World) (hs : s.size ≤ 100000000) (hg : GlobP w) (b : Bool) (hb : numL s.data.toList = b) :
    Calls Tryz.prog 89 #[.string s] w (NumPost w s.data.toList b) := by
  by_cases hv : ∃ v, Lib.atoiAll s.data.toList = .ok v
  · obtain ⟨v, hv⟩ := hv
    have AT := Lib.hid (atoi_ok s w hs v hv)
    obtain ⟨v0, v1⟩ := Lib.atoiAll_bounds hv
    have hi := numL_iff hv
    have HG := Lib.hid hg
    have HVV : Hid (b = true → v = valD s.data.toList) := Lib.hid (fun h => by
      subst h
      have := atoi_num hb
      rw [hv] at this; injection this)
    have HBB : Hid (b = (decide (0 ≤ v) && decide (s.size ≤ 7) && (Lib.itoa v == s.data.toList))) := Lib.hid (by rw [← hb, hi]; rfl)
    clear hv hi hg hb
    by_cases c1 : 0 ≤ v
    · have d1 : decide (0 ≤ v) = true := decide_eq_true c1
      by_cases c2 : s.size ≤ 7
      · have d2 : decide ((s.size : Int) ≤ 7) = true := by simp; omega
        obtain ⟨si, hsi⟩ : ∃ si : ByteArray, si = ⟨(Lib.itoa v).toArray⟩ := ⟨_, rfl⟩
        have IT : Hid (∀ W, Below w.heap.size w W → Calls Tryz.prog 40 #[.int .i64 v] W fun e w' => e = .returned (.string si) ∧ Below W.heap.size W w') := Lib.hid (fun W hW => by
          rw [hsi]
          refine (Tryz.strconv_Itoa v v0 v1 W (HG.out.below hW).tab).mono ?_
          rintro e w' ⟨rfl, k, os, rfl⟩
          exact ⟨rfl, Lib.below_grow _ _ (Nat.le_refl _) _ _⟩)
        rcases c3 : (Lib.itoa v == s.data.toList) with _ | _
        · have d3 : (si.toList == s.toList) = false := by rw [str_eq_dec, hsi]; exact c3
          have HF : Hid (b = false) := Lib.hid (by rw [HBB.out, c3]; simp)
          clear hsi c3
          go_enter Tryz.func89, Tryz.ntmps89
          go_wp2_with (first
            | (go_at_call 103; go_must (refine AT.out.mono ?_; rintro e w1 ⟨rfl, hb1⟩))
            | (go_at_call 40; go_must (refine (IT.out _ hb1).mono ?_; rintro e w2 ⟨rfl, hb2⟩)))
          go_ret2
          exact ⟨v, by rw [HF.out]; rfl, hb1.trans (hb2.mono hb1.size), HVV.out⟩
        · have d3 : (si.toList == s.toList) = true := by rw [str_eq_dec, hsi]; exact c3
          have HF : Hid (b = true) := Lib.hid (by rw [HBB.out, c3, d1, decide_eq_true c2]; rfl)
          clear hsi c3
          go_enter Tryz.func89, Tryz.ntmps89
          go_wp2_with (first
            | (go_at_call 103; go_must (refine AT.out.mono ?_; rintro e w1 ⟨rfl, hb1⟩))
            | (go_at_call 40; go_must (refine (IT.out _ hb1).mono ?_; rintro e w2 ⟨rfl, hb2⟩)))
          go_ret2
          exact ⟨v, by rw [HF.out]; rfl, hb1.trans (hb2.mono hb1.size), HVV.out⟩
      · have d2 : decide ((s.size : Int) ≤ 7) = false := by simp; omega
        have HF : Hid (b = false) := Lib.hid (by rw [HBB.out, decide_eq_false c2]; simp)
        go_enter Tryz.func89, Tryz.ntmps89
        go_wp2_with (go_at_call 103; go_must (refine AT.out.mono ?_; rintro e w1 ⟨rfl, hb1⟩))
        go_ret2
        exact ⟨v, by rw [HF.out]; rfl, hb1, HVV.out⟩
    · have d1 : decide (0 ≤ v) = false := decide_eq_false c1
      have HF : Hid (b = false) := Lib.hid (by rw [HBB.out, d1]; rfl)
      go_enter Tryz.func89, Tryz.ntmps89
      go_wp2_with (go_at_call 103; go_must (refine AT.out.mono ?_; rintro e w1 ⟨rfl, hb1⟩))
      go_ret2
      exact ⟨v, by rw [HF.out]; rfl, hb1, HVV.out⟩
  · have hv' : ∀ v, Lib.atoiAll s.data.toList ≠ .ok v := fun v h => hv ⟨v, h⟩
    have AT := Lib.hid (atoi_bad s w hs hg hv')
    have HF : Hid (b = false) := Lib.hid (by rw [← hb]; exact numL_not hv')
    clear hv hv' hg hb
    go_enter Tryz.func89, Tryz.ntmps89
    go_wp2_with (go_at_call 103; go_must (refine AT.out.mono ?_; rintro e w1 ⟨n, T, x, rfl, hb1, _, _⟩))
    go_ret2
    exact ⟨n, by rw [HF.out]; rfl, hb1, fun h => by rw [HF.out] at h; cases h⟩
end Go.Proofs.YtpkefohcccpncaaGreatDoor
