/- Part of a proof of basisSets_holds. -/
import Derived.Test.YtbmheekaclmibaaGreatXAwkAQ
import Derived.Test.YtbmheekaclmibaaGreatXGenEQ
namespace Go.Proofs.YtbmheekaclmibaaGreat
set_option linter.unusedSimpArgs false
set_option linter.unusedVariables false
abbrev mn (t : T) (l : List V) : List V := minimalP (belowP 8 t) l
section
variable {t : T} {l : List V} {x : V}
theorem ok_all (hl : ∀ v ∈ l, validP t v = true) : ∀ v ∈ l, oneP 8 t v = true := fun v hv => validP_one (hl v hv)
theorem mn_mem (ht : rightP 8 t = true) (hl : ∀ v ∈ l, validP t v = true) {x : V} (h : x ∈ mn t l) : x ∈ l := (minP_spec (below_ord ht) (ok_all hl)).2.1 x h
theorem mn_valid (ht : rightP 8 t = true) (hl : ∀ v ∈ l, validP t v = true) : ∀ v ∈ mn t l, validP t v = true := fun v hv => hl v (mn_mem ht hl hv)
theorem mn_len (l : List V) : (mn t l).length ≤ l.length := minP_length_le l
theorem limP_small {l : List V} (h : l.length ≤ 256) : limP l = (l, 0) := if_neg (by omega)
theorem minimise_mn (ht : rightP 8 t = true) (hl : ∀ v ∈ l, validP t v = true) (hn : l.length ≤ 200) : minimiseP t l = (mn t l, 0) := by
 unfold minimiseP
 rw [if_pos ht, if_pos (List.all_eq_true.2 hl), limP_small (Nat.le_trans (mn_len (t := t) l) (by omega))]
theorem has_of (ht : rightP 8 t = true) {b : List V} {v : V} {y : V} (hy : y ∈ b) (h : belowP 8 t y v = true) : hasP t b v = true := List.any_eq_true.2 ⟨y, hy, h⟩
theorem sub_self (ht : rightP 8 t = true) (hl : ∀ v ∈ l, validP t v = true) (hn : l.length ≤ 200) : subP t (mn t l) (mn t l) = true := by
 unfold subP
 rw [checkB_min ht hl (by omega)]
 have : (mn t l).all (hasP t (mn t l)) = true := List.all_eq_true.2 (fun v hv => has_of ht hv ((below_ord ht).refl v (validP_one (mn_valid ht hl v hv))))
 rw [this]; rfl
end
end Go.Proofs.YtbmheekaclmibaaGreat
namespace Go.Proofs.YtbmheekaclmibaaGreat

end Go.Proofs.YtbmheekaclmibaaGreat
