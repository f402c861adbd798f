/- Part of a proof of source*_card. -/
import Derived.Test.YtebhoaoojgbclaaGreatDoorVAaP
set_option linter.unusedSimpArgs false
set_option linter.unusedVariables false
namespace Go.Proofs.YtebhoaoojgbclaaGreatDoor
/-! what is read has this text -/
theorem Zxa{p:UInt8->Bool}:∀{l:List UInt8},runL p l=l.length->l.all p=true:=by
 intro l
 induction l with
 |nil=>intro _;rfl
 |cons c r ih =>
  intro h
  unfold runL at h
  by_cases hc:p c=true
  ·rw[List.takeWhile_cons,if_pos hc,List.length_cons,List.length_cons]at h
   rw[List.all_cons,hc,Bool.true_and]
   exact ih (by unfold runL;omega)
  ·rw[List.takeWhile_cons,if_neg hc]at h;simp at h
end Go.Proofs.YtebhoaoojgbclaaGreatDoor
