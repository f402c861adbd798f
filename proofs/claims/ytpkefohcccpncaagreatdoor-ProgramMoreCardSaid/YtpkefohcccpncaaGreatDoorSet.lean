/- A set of texts that the call makes: map[string]bool. -/
import Derived.Test.YtpkefohcccpncaaGreatDoorPrg
import Derived.Maps.Own
import Derived.Maps.OwnSet
import Derived.Maps.Views
namespace Go.Proofs.YtpkefohcccpncaaGreatDoor
open Go.RowKit Go.WideMaps Go.Maps
set_option linter.unusedSimpArgs false
set_option linter.unusedVariables false

theorem plainElem_bool_inv {H : Type} {P : Program} {e : TypeId} (he : P.underlying e = some .bool) {v : Value} {z : DataW H × List MemPlace} (h : plainElem P e v = some z) : ∃ a, v = .bool a ∧ z = (.lit (.bool a), []) := by
  unfold plainElem at h
  rw [he] at h
  cases v <;> simp at h
  exact ⟨_, rfl, h.symm⟩
/-- block b is a map in which just the texts ns are true -/
def SetAt (w : World) (b : Nat) (ns : List (List UInt8)) : Prop := ∃ D : DataW Unit, IsMap D ∧ (∀ x : List UInt8, D.atKey (.string x) (.lit (.bool false)) = .lit (.bool (ns.contains x))) ∧ w.ownsMap Tryz.prog 9 (plainElem Tryz.prog 4) b ns.length D
theorem sKeyed : Keyed Tryz.prog 9 := string_keyed Tryz.underlying9
theorem zeroBool (w : World) : (zeroValue 4).run Tryz.prog w = .ok (.bool false) w := by kernel_rfl
theorem SetAt.new (w : World) : SetAt (w.alloc (.map #[] 0)) w.heap.size [] := ⟨.map [], isMap_empty, fun x => rfl, World.ownsMap_made _ _ _ _⟩
theorem SetAt.kept {w w' : World} {b : Nat} {ns : List (List UInt8)} {row : Option Nat} (h : SetAt w b ns) (hg : w.grownBy w' row) (hne : some b ≠ row) : SetAt w' b ns := by
  obtain ⟨D, h1, h2, h3⟩ := h
  exact ⟨D, h1, h2, h3.kept hg hne⟩
theorem SetAt.below {w w' : World} {b B : Nat} {ns : List (List UInt8)} (h : SetAt w b ns) (hb : Below B w w') (hB : b < B) : SetAt w' b ns := by
  obtain ⟨D, h1, h2, es, clock, he, F, hs, hD⟩ := h
  exact ⟨D, h1, h2, es, clock, (hb.block b hB).trans he, F, hs, hD⟩
theorem SetAt.lt {w : World} {b : Nat} {ns : List (List UInt8)} (h : SetAt w b ns) : b < w.heap.size := by
  obtain ⟨D, h1, h2, h3⟩ := h
  exact h3.lt
theorem SetAt.look {w : World} {b : Nat} {ns : List (List UInt8)} (h : SetAt w b ns) {s : ByteArray} (hs : s.size ≤ maxLen) {c : Bool} (hc : ns.contains s.data.toList = c) :
    (Instr.lookup 77 (.map (some b)) (.string s) false).run Tryz.prog w = .ok (.bool c) w := by
  obtain ⟨D, h1, h2, h3⟩ := h
  obtain ⟨v, ps, hrun, hv⟩ := h3.lookup sKeyed Tryz.underlying77 (zeroBool w) (plainElem_bool Tryz.underlying4 false) (keyOf_string_mk Tryz.underlying9 hs)
  obtain ⟨a, rfl, ha⟩ := plainElem_bool_inv Tryz.underlying4 hv
  have hd : D.atKey (.string s.data.toList) (.lit (.bool false)) = .lit (.bool a) := congrArg Prod.fst ha
  have he := (h2 s.data.toList).symm.trans hd
  have hf : ns.contains s.data.toList = a := Lit.bool.inj (DataW.lit.inj he)
  obtain rfl : c = a := hc.symm.trans hf
  exact hrun
theorem contains_snoc (ns : List (List UInt8)) (a x : List UInt8) : (ns ++ [a]).contains x = if x = a then true else ns.contains x := by
  rw [Bool.eq_iff_iff]
  by_cases h : x = a
  · simp [h]
  · rw [if_neg h]; simp [h]
theorem wpList_setPut {P : Program} (w : World) {ops : Array Oper} {rest : List Oper} {o : Oper} {a : Act} {Q : Exit → Act → World → Prop} (hP : P = Tryz.prog)
    (hg : o.guard = none) (m x v : Operand) (hop : o.op = Op.mapUpdate 77 m x v) (b : Nat) (ns : List (List UInt8))
    (hm : a.eval m = .map (some b)) (h : SetAt w b ns) (hn : ns.length < maxLen) (s : ByteArray) (hs : s.size ≤ maxLen) (hx : a.eval x = .string s) (hv : a.eval v = .bool true)
    (hK : ∀ w', SetAt w' b (ns ++ [s.data.toList]) → w.grownBy w' (some b) → wpList P ops Q rest (a.put o.dst undef) w') :
    wpList P ops Q (o :: rest) a w := by
  subst hP
  obtain ⟨D, h1, h2, h3⟩ := h
  refine wpList_mapUpdate_own w hg m x v 77 hop 9 4 sKeyed Tryz.underlying77 _ b ns.length D hm h3 hn (.string s) (.bool true) (.string s.data.toList) hx hv (keyOf_string_mk Tryz.underlying9 hs) (.lit (.bool true)) [] (plainElem_bool Tryz.underlying4 true) ?_
  intro w' r1 r2
  refine hK w' ⟨D.put (.string s.data.toList) (.lit (.bool true)), h1.put _ _, fun y => ?_, by rw [List.length_append]; exact r1⟩ r2
  rw [contains_snoc]
  by_cases hy : y = s.data.toList
  · subst hy; rw [if_pos rfl]; exact atKey_put_same (k := .string s.data.toList) h1 trivial _ _
  · rw [if_neg hy, atKey_put_other (fun e => hy (by injection e))]; exact h2 y
end Go.Proofs.YtpkefohcccpncaaGreatDoor
