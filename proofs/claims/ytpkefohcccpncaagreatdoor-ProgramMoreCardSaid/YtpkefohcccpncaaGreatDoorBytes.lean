/- '[]byte(s)' of a string, a byte of it set, and 'string(b)' back. -/
import Derived.Test.YtpkefohcccpncaaGreatDoorBase
import Derived.Laws.IdiomStrings
namespace Go.Proofs.YtpkefohcccpncaaGreatDoor
open Go.RowKit
set_option linter.unusedSimpArgs false
set_option linter.unusedVariables false

theorem wrapI64 (k : Nat) (h : k < 100000) : IntKind.i64.wrap (k : Int) = k := by
  simp [IntKind.wrap, IntKind.bits, IntKind.signed]; omega
/-- the bytes that a row holds -/
def BytesAt (w : World) (B : Nat) (l : List UInt8) : Prop := ∀ i (h : i < l.length), w.cell? ⟨B, i, none⟩ = some (.int .u8 (l[i].toNat : Int))
/-- what '[]byte(s)' leaves in the world w3 -/
structure Conv (w3 : World) (s : ByteArray) (C : Array Value) (cap : Nat) : Prop where
  cells : ∀ i (h : i < s.data.toList.length), C[i]? = some (.int .u8 (s.data.toList[i].toNat : Int))
theorem conv_pack (w3 : World) (s : ByteArray) : ∃ (C : Array Value) (cap : Nat),
    (Go.convert 9 22 (.string s)).run Tryz.prog w3 = .ok (.slice (some ⟨w3.heap.size, 0, none⟩) s.size cap) (w3.drew.alloc (.cells C 5 (C.size, C.size + 1))) ∧ Conv w3 s C cap := by
  refine ⟨bytesRow s (grownCap w3 s.size 0 5), grownCap w3 s.size 0 5, run_bytes_of_string (P := Tryz.prog) w3 9 22 5 s Tryz.underlying9 Tryz.underlying22 Tryz.underlying5, ⟨fun i h => ?_⟩⟩
  have h' : i < s.data.size := by simpa using h
  unfold bytesRow
  rw [Array.getElem?_append_left (by simpa using h'), Array.getElem?_map, Array.getElem?_eq_getElem h']
  rfl
section
variable {w3 : World} {s : ByteArray} {C : Array Value} {cap : Nat}
theorem Conv.at_ (h : Conv w3 s C cap) : BytesAt (w3.alloc (.cells C 5 (C.size, C.size + 1))) w3.heap.size s.data.toList := fun i hi => by
  rw [cell_of_row _ _ _ _ _ _ (heap_alloc_new w3 _)]; exact h.cells i hi
theorem Conv.cell (h : Conv w3 s C cap) {j : Nat} (hj : j < s.size) : ∃ v, (w3.alloc (.cells C 5 (C.size, C.size + 1))).cell? ⟨w3.heap.size, j, none⟩ = some v := ⟨_, by rw [cell_of_row _ _ _ _ _ _ (heap_alloc_new w3 _)]; exact h.cells j hj⟩
theorem Conv.frozen (h : Conv w3 s C cap) {j : Nat} (hj : j < s.size) : (w3.alloc (.cells C 5 (C.size, C.size + 1))).frozen? ⟨w3.heap.size, j, none⟩ = false := by
  have h1 := (Array.getElem?_eq_some_iff.1 (h.cells j hj)).1
  unfold World.frozen?
  simp only [heap_alloc_new]
  simp; omega
end
theorem BytesAt.set_ {w : World} {B : Nat} {l : List UInt8} (h : BytesAt w B l) {j : Nat} (hj : j < l.length) {by_ : Int} (h0 : 0 ≤ by_) (h1 : by_ ≤ 255) : BytesAt (w.setCell ⟨B, j, none⟩ (.int .u8 by_)) B (l.set j (UInt8.ofNat by_.toNat)) := by
  intro i hi
  rw [List.length_set] at hi
  by_cases hij : j = i
  · subst hij
    rw [World.cell?_setCell_same _ _ _ (h j hi), List.getElem_set_self]
    have : ((UInt8.ofNat by_.toNat).toNat : Int) = by_ := by simp; omega
    rw [this]
  · rw [World.cell?_setCell_other _ _ _ _ (by intro e; exact hij (Addr.mk.inj e).2.1), List.getElem_set_ne hij]
    exact h i hi
theorem BytesAt.back {w : World} {B : Nat} {l : List UInt8} (h : BytesAt w B l) (cap : Nat) {n : Nat} (hn : l.length = n) {s2 : ByteArray} (hs : s2.data.toList = l) :
    (Go.convert 22 9 (.slice (some ⟨B, 0, none⟩) n cap)).run Tryz.prog w = .ok (.string s2) w := by
  subst hn
  obtain rfl : (⟨l.toArray⟩ : ByteArray) = s2 := by rw [← hs]
  exact run_convert_bytes_back (P := Tryz.prog) w 22 9 5 ⟨B, 0, none⟩ cap l Tryz.underlying22 Tryz.underlying5 Tryz.underlying9 (fun i h' => by
    rw [show (⟨B, 0, none⟩ : Addr).add i = ⟨B, i, none⟩ from by by_cases hi : i = 0 <;> simp [Addr.add, hi]]
    exact h i h')
theorem BytesAt.below {w w' : World} {B : Nat} {l : List UInt8} (h : BytesAt w B l) {b : Nat} (hb : Below b w w') (hB : B < b) : BytesAt w' B l := fun i hi => (hb.cell (p := ⟨B, i, none⟩) hB).trans (h i hi)
end Go.Proofs.YtpkefohcccpncaaGreatDoor
