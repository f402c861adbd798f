/- What the reader of programs holds in memory; the frame of its steps. -/
import Derived.Test.YtpkefohcccpncaaGreatDoorIdxW
import Derived.Test.YtpkefohcccpncaaGreatDoorText
namespace Go.Proofs.YtpkefohcccpncaaGreatDoor
open Go.RowKit
set_option linter.unusedSimpArgs false
set_option linter.unusedVariables false

/-- all blocks below B but block g are as they were -/
structure FrB (B g : Nat) (w w' : World) : Prop where
  os : w'.os = w.os
  tape : w'.tape = w.tape
  output : w'.output = w.output
  size : w.heap.size ≤ w'.heap.size
  block : ∀ b, b < B → b ≠ g → w'.heap[b]? = w.heap[b]?
  nc : ∀ (k : Nat) (o : Obj), w.heap[k]? = some o → (∀ c T fz, o ≠ Obj.cells c T fz) → w'.heap[k]? = some o
theorem setCell_nc {w : World} {p : Addr} {u : Value} {k : Nat} {o : Obj} (ho : w.heap[k]? = some o) (hc : ∀ c T fz, o ≠ .cells c T fz) : (w.setCell p u).heap[k]? = some o := by
  by_cases e : k = p.block
  · subst e
    unfold World.setCell
    rw [show ({ w with heap := w.heap.modify p.block _ } : World).heap = w.heap.modify p.block _ from rfl, Array.getElem?_modify, if_pos rfl, ho, Option.map_some]
    cases o <;> first | rfl | exact absurd rfl (hc _ _ _)
  · exact (Below.heap_setCell w p u k e).trans ho
theorem FrB.refl (B g : Nat) (w : World) : FrB B g w w := ⟨rfl, rfl, rfl, Nat.le_refl _, fun _ _ _ => rfl, fun _ _ h _ => h⟩
theorem FrB.trans {B g : Nat} {a b c : World} (h : FrB B g a b) (k : FrB B g b c) : FrB B g a c :=
  ⟨k.os.trans h.os, k.tape.trans h.tape, k.output.trans h.output, Nat.le_trans h.size k.size, fun i h1 h2 => (k.block i h1 h2).trans (h.block i h1 h2), fun i o h1 h2 => k.nc i o (h.nc i o h1 h2) h2⟩
theorem FrB.of_below {B g : Nat} {w w' : World} (h : Below w.heap.size w w') (hb : B ≤ w.heap.size) : FrB B g w w' := ⟨h.os, h.tape, h.output, h.size, fun i h1 _ => h.block i (by omega), fun k o ho _ => (h.block k (Array.getElem?_eq_some_iff.1 ho).1).trans ho⟩
theorem FrB.of_grown {B g : Nat} {row : Option Nat} {w w' : World} (h : w.grownBy w' row) (hB : B ≤ w.heap.size) (hr : ∀ r, row = some r → r = g ∨ B ≤ r) (hk : ∀ r, row = some r → ∃ c T fz, w.heap[r]? = some (.cells c T fz)) : FrB B g w w' :=
  ⟨h.os, h.tape, h.output, h.size, fun i h1 h2 => h.block i (by omega) (fun e => by rcases hr i e.symm with h | h <;> omega), fun k o ho hc => (h.block k (Array.getElem?_eq_some_iff.1 ho).1 (fun e => by
    obtain ⟨c, T, fz, h3⟩ := hk k e.symm
    rw [ho] at h3; injection h3 with h3; exact hc _ _ _ h3)).trans ho⟩
theorem FrB.setCell {B g : Nat} {w w' : World} (h : FrB B g w w') {p : Addr} (hp : p.block = g ∨ B ≤ p.block) (u : Value) : FrB B g w (w'.setCell p u) :=
  h.trans ⟨rfl, rfl, rfl, by simp [World.setCell], fun i h1 h2 => Below.heap_setCell _ _ _ _ (by rcases hp with h | h <;> omega), fun k o ho hc => setCell_nc ho hc⟩
theorem FrB.alloc {B g : Nat} {w w' : World} (h : FrB B g w w') (hB : B ≤ w'.heap.size) (o : Obj) : FrB B g w (w'.alloc o) :=
  h.trans (FrB.of_below ((Below.refl _ _).alloc (Nat.le_refl _) o) hB)
theorem FrB.drewN {B g : Nat} {w w' : World} (h : FrB B g w w') (n : Nat) : FrB B g w (w'.drewN n) := ⟨h.os, h.tape, h.output, h.size, h.block, h.nc⟩
theorem FrB.cell {B g : Nat} {w w' : World} (h : FrB B g w w') {p : Addr} (hp : p.block < B) (hg : p.block ≠ g) : w'.cell? p = w.cell? p := World.cell?_of_block (h.block _ hp hg)
/-- what the code reads lies below B and is not block g -/
def GlobF (B g : Nat) : Prop := ∀ w w', GlobP w → FrB B g w w' → GlobP w'
theorem strs_cons : True := trivial

structure PsI (w : World) (B g : Nat) (st : PS) (tv nv : Value) (vs : List Value) (lim : Nat) : Prop where
  blk : Blk w g 88 #[.int .i64 st.v, tv, .bool st.op, nv]
  gB : g < B
  Bw : B ≤ w.heap.size
  nm : w.ownsRow B 9 1 nv st.ns.length (st.ns.map fun x => Value.string ⟨x.toArray⟩)
  vl : vs.length = st.ts.length
  th : w.ownsRow B 45 2 tv st.ts.length (thCells st.ts vs)
  ln : ∀ k (h : k < vs.length) (h' : k < st.ts.length), w.ownsRow B 42 3 vs[k] st.ts[k].ls.length (lnCells st.ts[k].ls)
  limw : lim ≤ w.heap.size
  pre : ∀ k (h : k < vs.length), k + 1 < vs.length → ∀ g', vs[k].ownBlock = some g' → g' < lim
  last : ∀ k (h : k < vs.length), k + 1 = vs.length → ∀ g', vs[k].ownBlock = some g' → lim ≤ g'
  dis : ∀ j k (hj : j < vs.length) (hk : k < vs.length), j < k → ∀ g', vs[j].ownBlock = some g' → vs[k].ownBlock ≠ some g'
theorem PsI.g_ne {w : World} {B g : Nat} {e size n : Nat} {v : Value} {xs : List Value} (hown : w.ownsRow B e size v n xs) (hg : g < B) : v.ownBlock ≠ some g := fun e => by have := (hown.lt _ e).1; omega
theorem PsI.below {w w' : World} {B g : Nat} {st : PS} {tv nv : Value} {vs : List Value} {lim : Nat} (h : PsI w B g st tv nv vs lim) (hb : Below w.heap.size w w') : PsI w' B g st tv nv vs lim :=
  ⟨h.blk.below hb h.blk.lt, h.gB, Nat.le_trans h.Bw hb.size, own_kept_below h.nm hb, h.vl, own_kept_below h.th hb, fun k h1 h2 => own_kept_below (h.ln k h1 h2) hb, Nat.le_trans h.limw hb.size, h.pre, h.last, h.dis⟩
theorem PsI.alloc {w : World} {B g : Nat} {st : PS} {tv nv : Value} {vs : List Value} {lim : Nat} (h : PsI w B g st tv nv vs lim) (o : Obj) : PsI (w.alloc o) B g st tv nv vs lim :=
  h.below ((Below.refl _ _).alloc (Nat.le_refl _) o)
theorem PsI.drewN {w : World} {B g : Nat} {st : PS} {tv nv : Value} {vs : List Value} {lim : Nat} (h : PsI w B g st tv nv vs lim) (q : Nat) : PsI (w.drewN q) B g st tv nv vs lim :=
  h.below (below_drewN (Below.refl _ _) q)
theorem own_set {w : World} {B g i : Nat} {e size n : Nat} {v u : Value} {xs : List Value} (hown : w.ownsRow B e size v n xs) (hg : g < B) : (w.setCell ⟨g, i, none⟩ u).ownsRow B e size v n xs :=
  hown.kept (row := some g) (grownBy_setCell (p := ⟨g, i, none⟩) (World.grownBy.refl _ _) (.inl rfl) _) (.inr (PsI.g_ne hown hg))
/-- a field of the reader is written -/
theorem PsI.set_ {w : World} {B g : Nat} {st st' : PS} {tv nv u : Value} {vs : List Value} {lim i : Nat} (h : PsI w B g st tv nv vs lim) (hts : st'.ts = st.ts) (hns : st'.ns = st.ns)
    (hc : (#[.int .i64 st.v, tv, .bool st.op, nv] : Array Value).setIfInBounds i u = #[.int .i64 st'.v, tv, .bool st'.op, nv]) : PsI (w.setCell ⟨g, i, none⟩ u) B g st' tv nv vs lim := by
  have hs : (w.setCell ⟨g, i, none⟩ u).heap.size = w.heap.size := by simp [World.setCell]
  refine ⟨?_, h.gB, by rw [hs]; exact h.Bw, ?_, by rw [hts]; exact h.vl, ?_, ?_, by rw [hs]; exact h.limw, h.pre, h.last, h.dis⟩
  · rw [← hc]; exact h.blk.set_ i u
  · rw [hns]; exact own_set h.nm h.gB
  · rw [hts]; exact own_set h.th h.gB
  · intro k h1 h2
    have h2' : k < st.ts.length := by rw [← hts]; exact h2
    have := own_set (i := i) (u := u) (h.ln k h1 h2') h.gB
    simp only [hts]; exact this
theorem PsI.cells {w : World} {B g : Nat} {st : PS} {tv nv : Value} {vs : List Value} {lim : Nat} (h : PsI w B g st tv nv vs lim) :
    w.cell? ⟨g, 0, none⟩ = some (.int .i64 st.v) ∧ w.cell? ⟨g, 1, none⟩ = some tv ∧ w.cell? ⟨g, 2, none⟩ = some (.bool st.op) ∧ w.cell? ⟨g, 3, none⟩ = some nv ∧ w.frozen? ⟨g, 0, none⟩ = false ∧ w.frozen? ⟨g, 1, none⟩ = false ∧ w.frozen? ⟨g, 2, none⟩ = false ∧ w.frozen? ⟨g, 3, none⟩ = false :=
  ⟨h.blk.cell 0, h.blk.cell 1, h.blk.cell 2, h.blk.cell 3, h.blk.frozen 0, h.blk.frozen 1, h.blk.frozen 2, h.blk.frozen 3⟩

def FirstPost (w : World) (B g : Nat) (st : PS) (tv nv : Value) (vs : List Value) (lim : Nat) (rest : List UInt8) (b : Bool) (e : Ending) (w' : World) : Prop :=
  e = .returned (.bool b) ∧ FrB B g w w' ∧ (b = true → PsI w' B g { st with v := valD rest } tv nv vs lim)
set_option maxHeartbeats 1000000 in
theorem first_any (B g : Nat) (st : PS) (tv nv : Value) (vs : List Value) (lim : Nat) (key rest : ByteArray) (w : World) (hs : rest.size ≤ 100000000) (hg : GlobP w) (h : PsI w B g st tv nv vs lim) (b : Bool)
    (hb : (key.data.toList == kwValues && numL rest.data.toList) = b) :
    Calls Tryz.prog 73 #[.pointer (some ⟨g, 0, none⟩), .string key, .string rest] w (FirstPost w B g st tv nv vs lim rest.data.toList b) := by
  obtain ⟨b2, hb2⟩ : ∃ b2, numL rest.data.toList = b2 := ⟨_, rfl⟩
  have NM := Lib.hid (numberP_any rest w hs hg b2 hb2)
  have H := Lib.hid h
  have HB2 := Lib.hid hb2
  have hlt := h.blk.lt
  rcases hk : (key.data.toList == kwValues) with _ | _
  all_goals
    have HF := Lib.hid hb
    rw [hk] at HF
    rw [hb2] at HF
    have c1 : (key.toList == (⟨#[118, 97, 108, 117, 101, 115]⟩ : ByteArray).toList) = (key.data.toList == kwValues) := str_eq_dec _ _
    rw [hk] at c1
    have c2 := c1
    rw [toList_data (⟨#[118, 97, 108, 117, 101, 115]⟩ : ByteArray)] at c2
    clear hb h hk hb2 hg
  · have HBF : Hid (b = false) := Lib.hid (by rw [← HF.out]; rfl)
    go_enter Tryz.func73, Tryz.ntmps73
    go_wp2_with (go_at_call 89; go_must (refine NM.out.mono ?_; rintro e w1 ⟨n, rfl, hb1, hn⟩; (obtain ⟨q0, q1, q2, q3, f0, f1, f2, f3⟩ := (H.out.below hb1).cells); (have HN := Lib.hid hn); (have HB1 := Lib.hid hb1); clear hn hb1))
    go_ret
    exact ⟨ret_bool HBF.out.symm, (FrB.of_below HB1.out H.out.Bw).setCell (p := ⟨g, 0, none⟩) (.inl rfl) _, fun h => by rw [HBF.out] at h; cases h⟩
  · have HBF : Hid (b = b2) := Lib.hid (by rw [← HF.out]; rfl)
    go_enter Tryz.func73, Tryz.ntmps73
    go_wp2_with (go_at_call 89; go_must (refine NM.out.mono ?_; rintro e w1 ⟨n, rfl, hb1, hn⟩; (obtain ⟨q0, q1, q2, q3, f0, f1, f2, f3⟩ := (H.out.below hb1).cells); (have HN := Lib.hid hn); (have HB1 := Lib.hid hb1); clear hn hb1))
    go_ret
    refine ⟨ret_bool HBF.out.symm, (FrB.of_below HB1.out H.out.Bw).setCell (p := ⟨g, 0, none⟩) (.inl rfl) _, fun h => ?_⟩
    rw [HBF.out] at h
    rw [← HN.out h]
    exact (H.out.below HB1.out).set_ (i := 0) (st' := { st with v := n }) rfl rfl rfl
end Go.Proofs.YtpkefohcccpncaaGreatDoor
