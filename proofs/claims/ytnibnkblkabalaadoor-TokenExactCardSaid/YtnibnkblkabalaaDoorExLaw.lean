/- Plain laws for TokenExact: how much a scan can give, whatever the text. -/
import Derived.Test.YtnibnkblkabalaaDoorSpWalk
namespace Go.Proofs.YtnibnkblkabalaaDoor
open Go.RowKit
set_option linter.unusedSimpArgs false
set_option linter.unusedVariables false

theorem txt_snoc (xs : List Tok) (t : Tok) : txt (xs ++ [t]) = txt xs + t.t.data.toList.length := by simp [txt]
theorem txt_withEnd (sm : Bool) (ts : List Tok) (ln : Nat) : txt (withEnd sm ts ln) = txt ts := by
  unfold withEnd
  split
  · rw [txt_snoc]; rfl
  · rfl
theorem scanR_sz : ∀ (F : Nat) (l : List UInt8) (ln : Nat) (sm : Bool) (ts out : List Tok), scanR F l ln sm ts = .ok out → out.length ≤ ts.length + 2 * l.length + b2n sm ∧ txt out ≤ txt ts + l.length := by
  intro F
  induction F with
  | zero => intro l ln sm ts out h; obtain rfl : ts = out := by injection h
            exact ⟨by omega, by omega⟩
  | succ F ih =>
    intro l ln sm ts out h
    have hwl := withEnd_len sm ts ln
    have hwt := txt_withEnd sm ts ln
    rw [scanR] at h
    by_cases h0 : l = []
    · rw [if_pos h0] at h
      split at h
      · cases h
      · obtain rfl : withEnd sm ts ln = out := by injection h
        exact ⟨by omega, by omega⟩
    rw [if_neg h0] at h
    have hpos : 0 < l.length := List.length_pos_iff.2 h0
    by_cases h1 : (l.headD 0).toNat = 10
    · rw [if_pos h1] at h
      split at h
      · cases h
      · have := ih _ _ _ _ _ h
        rw [b2n_f, List.length_tail] at this
        omega
    rw [if_neg h1] at h
    by_cases h2 : (oneL l).1 = 0
    · rw [if_pos h2] at h; cases h
    rw [if_neg h2] at h
    have hk := oneL_le l
    by_cases h3 : (oneL l).2 > 0
    · rw [if_pos h3] at h
      split at h
      · cases h
      · have := ih _ _ _ _ _ h
        rw [b2n_t, List.length_drop, txt_snoc, List.length_append] at this
        have e : (mkTok (oneL l).2 (l.take (oneL l).1) ln).t.data.toList.length = (oneL l).1 := by
          show (l.take (oneL l).1).length = _
          rw [List.length_take]; omega
        rw [e] at this
        simp only [List.length_cons, List.length_nil] at this
        omega
    · rw [if_neg h3] at h
      have := ih _ _ _ _ _ h
      rw [List.length_drop] at this
      omega
def lnOf : SRes → Nat
  | .ok _ => 0
  | .er ln _ => ln
theorem scanR_bd (s : ByteArray) (hs : s.size ≤ 1000) : (toksOf (scanR (s.size + 1) s.data.toList 1 false [])).length ≤ 2000 ∧ (joinL false (toksOf (scanR (s.size + 1) s.data.toList 1 false []))).length ≤ 5000 := by
  have hsz : s.data.toList.length = s.size := by simp
  cases hR : scanR (s.size + 1) s.data.toList 1 false [] with
  | er ln e => exact ⟨Nat.zero_le _, Nat.zero_le _⟩
  | ok xs =>
    obtain ⟨h1, h2⟩ := scanR_sz _ _ _ _ _ _ hR
    rw [b2n_f, hsz] at h1
    rw [txt_nil, hsz] at h2
    have := joinL_len xs false
    simp only [List.length_nil] at h1
    exact ⟨by show xs.length ≤ _; omega, by show (joinL false xs).length ≤ _; omega⟩

/-- what either scan leaves: a slice that reads as the tokens, the line and the error by names of their own -/
def ScanBy (w : World) (xs : List Tok) (n ln e0 : Nat) (e : Ending) (w' : World) : Prop :=
  Below w.heap.size w w' ∧ ∃ A c, e = .returned (.tuple #[.slice A n c, .int .i64 (ln : Int), .int .i64 (e0 : Int)]) ∧ Toks w' w'.heap.size A xs
theorem ScanBy.of {w : World} {R : SRes} {xs : List Tok} {n ln e0 : Nat} {e : Ending} {w' : World} (h : ScanPost w R e w') (hx : toksOf R = xs) (hn : xs.length = n) (hl : lnOf R = ln) (he : errOf R = e0) : ScanBy w xs n ln e0 e w' := by
  subst hx; subst hn; subst he; subst hl
  obtain ⟨hb, hp⟩ := h
  cases R with
  | er ln er =>
    obtain rfl := hp
    exact ⟨hb, none, 0, rfl, Reads.none_⟩
  | ok ts =>
    obtain ⟨v, rfl, hown⟩ := hp
    obtain ⟨A, c, rfl⟩ := own_form hown
    exact ⟨hb, A, c, rfl, reads_own hown rfl⟩
end Go.Proofs.YtnibnkblkabalaaDoor
