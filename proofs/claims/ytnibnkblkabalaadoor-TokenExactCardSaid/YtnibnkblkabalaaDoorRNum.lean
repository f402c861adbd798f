/- The reference's text of a number. -/
import Derived.Test.YtnibnkblkabalaaDoorTok14
import Derived.Laws.IdiomStrings
import Derived.Lib.ItoaMem
import Derived.Lib.ItoaLen
import Derived.Deep.RegionWith
namespace Go.Proofs.YtnibnkblkabalaaDoor
open Go.RowKit
set_option linter.unusedSimpArgs false
set_option linter.unusedVariables false

theorem bcell {W w1 : World} (hb : Below W.heap.size W w1) : (∀ b o, b < W.heap.size → w1.cell? ⟨b, o, none⟩ = W.cell? ⟨b, o, none⟩) ∧ (∀ b o, b < W.heap.size → w1.frozen? ⟨b, o, none⟩ = W.frozen? ⟨b, o, none⟩) :=
  ⟨fun b o h => hb.cell (p := ⟨b, o, none⟩) h, fun b o h => hb.frozen (p := ⟨b, o, none⟩) h⟩
theorem below_of_drew {w w1 : World} (hb : Below w.drew.heap.size w.drew w1) : Below w.heap.size w w1 := ((Below.refl w.heap.size w).drew).trans hb
theorem below_of_alloc {w w1 : World} {o : Obj} (hb : Below (w.alloc o).drew.heap.size (w.alloc o).drew w1) : Below w.heap.size w w1 :=
  (((Below.refl w.heap.size w).alloc (Nat.le_refl _) o).drew).trans (hb.mono (by show w.heap.size ≤ (w.heap.push _).size; simp))
theorem numText_small {n : Int} (h0 : 0 ≤ n) (h1 : n < 10) : numText n = [UInt8.ofNat (48 + n.toNat)] := by
  unfold numText
  rw [if_neg (by omega)]
  obtain ⟨u, rfl⟩ := Int.eq_ofNat_of_zero_le h0
  rw [Lib.itoa_nonneg, Lib.decDigits, dif_pos (by omega)]
  rfl
theorem numText_big {n : Int} (h0 : 10 ≤ n) (h1 : n ≤ 9999999) : numText n = numText (n / 10) ++ [UInt8.ofNat (48 + (n % 10).toNat)] := by
  obtain ⟨u, rfl⟩ := Int.eq_ofNat_of_zero_le (show 0 ≤ n by omega)
  have e : ((u : Int) / 10) = ((u / 10 : Nat) : Int) := by omega
  have e2 : ((u : Int) % 10).toNat = u % 10 := by omega
  unfold numText
  rw [if_neg (by omega), if_neg (by omega), e, e2, Lib.itoa_nonneg, Lib.itoa_nonneg, Lib.decDigits, dif_neg (by omega)]
theorem conv_one (W : World) (a : Addr) (x : Int) (h0 : 0 ≤ x) (h1 : x < 256) (h : W.cell? a = some (.int .u8 x)) :
    (Go.convert 31 9 (.slice (some a) 1 1)).run Tryd.prog W = .ok (.string ⟨#[UInt8.ofNat x.toNat]⟩) W := by
  refine run_convert_bytes_back (P := Tryd.prog) W 31 9 5 a 1 [UInt8.ofNat x.toNat] Tryd.underlying31 Tryd.underlying5 Tryd.underlying9 (fun j hj => ?_)
  obtain rfl : j = 0 := by simp at hj; omega
  show W.cell? a = _
  rw [h]
  have : ((UInt8.ofNat x.toNat).toNat : Int) = x := by simp; omega
  simp only [List.getElem_cons_zero, this]

set_option maxRecDepth 100000 in
set_option maxHeartbeats 1000000 in
theorem rnum_any : ∀ (k : Nat) (n : Int) (w : World), n.toNat ≤ k → -9223372036854775808 ≤ n → n ≤ 9223372036854775807 →
    Calls Tryd.prog 22 #[.int .i64 n] w fun e w' => e = .returned (.string ⟨(numText n).toArray⟩) ∧ Below w.heap.size w w' := by
  intro k
  induction k with
  | zero => ?_
  | succ k ih => ?_
  all_goals
    intro n w hk h0 h1
    by_cases h2 : n < 0
    · have HF : Hid (numText n = []) := Lib.hid (by unfold numText; rw [if_pos (.inl h2)])
      go_enter Tryd.func22, Tryd.ntmps22
      go_wp2
      go_ret
      exact ⟨by rw [HF.out]; rfl, Below.refl _ _⟩
    by_cases h3 : 9999999 < n
    · have HF : Hid (numText n = []) := Lib.hid (by unfold numText; rw [if_pos (.inr h3)])
      go_enter Tryd.func22, Tryd.ntmps22
      go_wp2
      go_ret
      exact ⟨by rw [HF.out]; rfl, Below.refl _ _⟩
    by_cases h4 : n < 10
    · have HF : Hid (numText n = [UInt8.ofNat (48 + n).toNat]) := Lib.hid (by rw [numText_small (by omega) h4]; congr 2; omega)
      have FB : ∀ (W : World) (a : Addr), W.cell? a = some (.int .u8 (48 + n)) → (Go.convert 31 9 (.slice (some a) 1 1)).run Tryd.prog W = .ok (.string ⟨#[UInt8.ofNat (48 + n).toNat]⟩) W := fun W a h => conv_one W a (48 + n) (by omega) (by omega) h
      go_enter Tryd.func22, Tryd.ntmps22
      go_wp2

      go_ret
      exact ⟨by rw [HF.out]; rfl, (Below.refl _ _).alloc (Nat.le_refl _) _⟩
    first | (exfalso; omega) | skip
  have hU : IntKind.i64.wrap (n.tdiv 10) = n / 10 := by
    rw [Int.tdiv_eq_ediv_of_nonneg (by omega)]; simp [IntKind.wrap, IntKind.bits, IntKind.signed]; omega
  have hV : IntKind.u8.wrap (IntKind.i64.wrap (48 + n.tmod 10)) = 48 + n % 10 := by
    rw [Int.tmod_eq_emod_of_nonneg (by omega)]; simp [IntKind.wrap, IntKind.bits, IntKind.signed]; omega
  obtain ⟨s1, hs1⟩ : ∃ s1 : ByteArray, s1 = ⟨(numText (n / 10)).toArray⟩ := ⟨_, rfl⟩
  obtain ⟨s2, hs2⟩ : ∃ s2 : ByteArray, s2 = ⟨#[UInt8.ofNat (48 + n % 10).toNat]⟩ := ⟨_, rfl⟩
  have z2 : s2.size = 1 := by rw [hs2]; rfl
  have z1 : s1.size ≤ 21 := by
    rw [hs1]
    show (numText (n / 10)).length ≤ 21
    unfold numText
    rw [if_neg (by omega)]
    exact Lib.itoa_length_le _ (by omega) (by omega)
  have HF : Hid (⟨(numText n).toArray⟩ = s1 ++ s2) := Lib.hid (by rw [hs1, hs2]; refine bytes_ext ?_; rw [append_data, numText_big (by omega) (by omega)]; show _ ++ _ = _ ++ _; congr 3; omega)
  have FB : ∀ (W : World) (a : Addr), W.cell? a = some (.int .u8 (IntKind.u8.wrap (IntKind.i64.wrap (48 + n.tmod 10)))) → (Go.convert 31 9 (.slice (some a) 1 1)).run Tryd.prog W = .ok (.string s2) W := fun W a h => by rw [hs2]; exact conv_one W a (48 + n % 10) (by omega) (by omega) (by rw [← hV]; exact h)
  have IH : ∀ W : World, Calls Tryd.prog 22 #[.int .i64 (IntKind.i64.wrap (n.tdiv 10))] W fun e w' => e = .returned (.string s1) ∧ Below W.heap.size W w' := fun W => by rw [hU, hs1]; exact ih (n / 10) W (by omega) (by omega) (by omega)
  have HIH := Lib.hid IH
  have Z2 := Lib.hid z2
  have z2' : s2.size ≤ 1 := by omega
  clear IH ih hU hV hs1 hs2 z2
  go_enter Tryd.func22, Tryd.ntmps22
  go_wp2
  go_region_with (go_at_call 22; go_must (refine (HIH.out _).mono ?_; rintro e w1 ⟨rfl, hb⟩; (obtain ⟨hc, hf⟩ := bcell hb); (have hz := hb.size)))
  all_goals
    go_wp2
    go_ret
    refine ⟨by rw [HF.out]; rfl, ?_⟩
    first
      | exact below_of_drew hb
      | exact (below_of_drew hb).alloc hz _
      | exact below_of_alloc hb
end Go.Proofs.YtnibnkblkabalaaDoor
