/- Part of a proof of basisExact_holds. -/
import Derived.Test.YtbmheekaclmibaaGreatXAwkAQ
import Derived.Test.YtbmheekaclmibaaGreatXGenEQ
namespace Go.Proofs.YtbmheekaclmibaaGreat
set_option linter.unusedSimpArgs false
set_option linter.unusedVariables false
abbrev mn (t : T) (l : List V) : List V := minimalP (belowP 8 t) l
section
variable {t : T} {l : List V} {x : V}
theorem ok_all (hl : ∀ v ∈ l, validP t v = true) : ∀ v ∈ l, oneP 8 t v = true := fun v hv => validP_one (hl v hv)
theorem mn_mem (ht : rightP 8 t = true) (hl : ∀ v ∈ l, validP t v = true) {x : V} (h : x ∈ mn t l) : x ∈ l := (minP_spec (below_ord ht) (ok_all hl)).2.1 x h
theorem mn_valid (ht : rightP 8 t = true) (hl : ∀ v ∈ l, validP t v = true) : ∀ v ∈ mn t l, validP t v = true := fun v hv => hl v (mn_mem ht hl hv)
theorem has_of (ht : rightP 8 t = true) {b : List V} {v : V} {y : V} (hy : y ∈ b) (h : belowP 8 t y v = true) : hasP t b v = true := List.any_eq_true.2 ⟨y, hy, h⟩
theorem sub_self (ht : rightP 8 t = true) (hl : ∀ v ∈ l, validP t v = true) (hn : l.length ≤ 200) : subP t (mn t l) (mn t l) = true := by
 unfold subP
 rw [checkB_min ht hl (by omega)]
 have : (mn t l).all (hasP t (mn t l)) = true := List.all_eq_true.2 (fun v hv => has_of ht hv ((below_ord ht).refl v (validP_one (mn_valid ht hl v hv))))
 rw [this]; rfl
end
end Go.Proofs.YtbmheekaclmibaaGreat
namespace Go.Proofs.YtbmheekaclmibaaGreat

end Go.Proofs.YtbmheekaclmibaaGreat
namespace Go.Proofs.YtbmheekaclmibaaGreat
open Go.RowKit
set_option linter.unusedSimpArgs false
set_option linter.unusedVariables false
theorem deck_no_val {w : World} {b : Nat} (hd : DeckOk w b) {a : Addr} {x : Int} {A : Option Addr} {n c : Nat} (h0 : w.cell? a = some (.int .i64 x)) (h1 : w.cell? ⟨a.block, a.off + 1, none⟩ = some (.slice A n c)) : a.block ≠ b := by
 obtain ⟨A', n', c', zs, at_, st, h⟩ := hd
 intro e
 have hb := h.blk
 rw [← e] at hb
 obtain ⟨bk, off, sub⟩ := a
 simp only [World.cell?, hb] at h0 h1
 match off with
 | 0 => simp at h1
 | 1 => simp at h1
 | 2 => simp at h1
 | k + 3 => simp at h1
theorem kb_td {w : World} {b : Nat} (hd : DeckOk w b) {s : Value} {l : List V} (h : KAt w (· < w.heap.size) s l) : KAt w (TD b w) s l := by
 induction h with
 | mk A n c l ss hl hs hc hm ha hk ih =>
   refine .mk A n c l ss hl hs hc hm (fun hn => ?_) (fun k h1 h2 => ih k h1 h2)
   obtain ⟨ad, e, hlt, h2⟩ := ha hn
   refine ⟨ad, e, ⟨?_, hlt⟩, h2⟩
   have h3 := h2 0 (by omega) (by omega)
   obtain ⟨A', n', c', e', _⟩ := (hk 0 (by omega) (by omega)).form
   rw [e'] at h3
   have h4 := deck_no_val hd h3.1 h3.2
   rwa [add_block] at h4
end Go.Proofs.YtbmheekaclmibaaGreat
