/- What stands in memory while a text is read. -/
import Derived.Test.YtpkefohcccpncaaGreatDoorPInv
import Derived.Test.YtpkefohcccpncaaGreatDoorCheck
namespace Go.Proofs.YtpkefohcccpncaaGreatDoor
open Go.RowKit
set_option linter.unusedSimpArgs false
set_option linter.unusedVariables false

theorem own_keep {A W : World} {row : Option Nat} {B e size n : Nat} {v : Value} {xs : List Value} (h : A.ownsRow B e size v n xs) (hg : A.grownBy W row) (hr : ∀ r, row = some r → r < B ∨ ∀ c T fz, A.heap[r]? ≠ some (.cells c T fz)) : W.ownsRow B e size v n xs := by
  refine h.kept hg ?_
  rcases ho : v.ownBlock with _ | k
  · exact .inl rfl
  · right; intro e
    obtain ⟨c, fz, hc⟩ := own_kindP h k ho
    rcases hr k e.symm with h2 | h2
    · have := (h.lt k ho).1; omega
    · exact h2 _ _ _ hc
theorem PsI.keep {A W : World} {row : Option Nat} {B g : Nat} {st : PS} {tv nv : Value} {vs : List Value} {lim : Nat} (h : PsI A B g st tv nv vs lim) (hg : A.grownBy W row) (hr : ∀ r, row = some r → r ≠ g ∧ (r < B ∨ ∀ c T fz, A.heap[r]? ≠ some (.cells c T fz))) : PsI W B g st tv nv vs lim :=
  ⟨h.blk.grown hg (fun e => (hr g e.symm).1 rfl), h.gB, Nat.le_trans h.Bw hg.size, own_keep h.nm hg (fun r e => (hr r e).2), h.vl, own_keep h.th hg (fun r e => (hr r e).2), fun k h1 h2 => own_keep (h.ln k h1 h2) hg (fun r e => (hr r e).2), Nat.le_trans h.limw hg.size, h.pre, h.last, h.dis⟩
theorem own_reads {w : World} {B e size n : Nat} {v : Value} {xs : List Value} (h : w.ownsRow B e size v n xs) {A : Option Addr} {c : Nat} (hv : v = .slice A n c) (hl : xs.length = n * size) : Reads w w.heap.size size A n xs := by
  refine ⟨hl, fun hn => ?_⟩
  obtain ⟨g, cap, e1, hb, hlt⟩ := h.form hn
  rw [hv] at e1
  injection e1 with e1 _ e2
  subst e1
  refine ⟨⟨g, 0, none⟩, rfl, hlt, fun j u hu => ?_⟩
  have hj : j < n * size := by rw [← hl]; exact (List.getElem?_eq_some_iff.1 hu).1
  rw [hv] at h
  have := h.cellAt j hj
  rw [hu] at this
  have e3 : (⟨g, 0, none⟩ : Addr).add j = ⟨g, j, none⟩ := by
    unfold Addr.add
    split
    · rename_i h0; subst h0; rfl
    · simp
  rw [e3]; exact this
theorem PsI.ths {w : World} {B g : Nat} {st : PS} {A : Option Addr} {c : Nat} {nv : Value} {vs : List Value} {lim : Nat} (h : PsI w B g st (.slice A st.ts.length c) nv vs lim) : ThsAt w w.heap.size A st.ts := by
  refine ⟨vs, h.vl, own_reads h.th rfl (thCells_length _ _ h.vl), fun k h1 h2 => ?_⟩
  have hl := h.ln k h2 h1
  obtain ⟨LA, lc, hv⟩ := own_form hl
  exact ⟨LA, lc, hv, own_reads hl hv (lnCells_length _)⟩
theorem grown_heapP {A B : World} {row : Option Nat} {k : Nat} {o : Obj} (hg : A.grownBy B row) (ho : A.heap[k]? = some o) (hk : ∀ r, row = some r → k ≠ r) : B.heap[k]? = some o :=
  (hg.block k (Array.getElem?_eq_some_iff.1 ho).1 (fun e => hk k e.symm rfl)).trans ho

structure PaR (w W : World) (v0 v1 v2 : Value) (v0' : Value) : Prop where
  r0 : W.heap[w.heap.size]? = some (.cells #[v0, v0'] 28 (0, 0))
  r1 : W.heap[w.heap.size + 1]? = some (.cells #[v1] 3 (0, 0))
  r2 : W.heap[w.heap.size + 1 + 1]? = some (.cells #[v2] 31 (0, 0))
  be : Below w.heap.size w W
structure PaI (w : World) (st : PS) (n : Nat) (W : World) : Prop where
  ps : ∃ tv nv vs lim, PsI W (w.heap.size + 1 + 1 + 1 + 1 + 1 + 1 + 1) (w.heap.size + 1 + 1 + 1) st tv nv vs lim
  rs : PaR w W (.int .i64 0) (.int .i64 0) (.int .i64 0) (.slice none 0 0)
  rp : W.heap[w.heap.size + 1 + 1 + 1 + 1]? = some (.cells #[.pointer (some ⟨w.heap.size + 1 + 1 + 1, 0, none⟩)] 86 (0, 0))
  at_ : W.heap[w.heap.size + 1 + 1 + 1 + 1 + 1]? = some (.cells #[.int .i64 n] 3 (0, 0))
  bx : ∃ c, W.heap[w.heap.size + 1 + 1 + 1 + 1 + 1 + 1]? = some (.cells c 9 (0, 0))
/-- a change of the iterator's box, or of a block behind that holds no cells -/
theorem PaR.keep {w A W : World} {v0 v1 v2 v3 : Value} {row : Option Nat} (h : PaR w A v0 v1 v2 v3) (hg : A.grownBy W row) (hr : ∀ r, row = some r → w.heap.size + 1 + 1 < r) : PaR w W v0 v1 v2 v3 :=
  have hne : ∀ k, k ≤ w.heap.size + 1 + 1 → ∀ r, row = some r → k ≠ r := fun k hk r e => by have := hr r e; omega
  ⟨grown_heapP hg h.r0 (hne _ (by omega)), grown_heapP hg h.r1 (hne _ (by omega)), grown_heapP hg h.r2 (hne _ (by omega)), h.be.grown hg h.be.size (fun k hk => by have := hr k hk; omega)⟩
theorem PaI.keep {w A W : World} {st : PS} {n : Nat} {row : Option Nat} (h : PaI w st n A) (hg : A.grownBy W row)
    (hr : ∀ r, row = some r → (w.heap.size + 1 + 1 + 1 + 1 + 1 + 1 < r ∧ ∀ c T fz, A.heap[r]? ≠ some (.cells c T fz)) ∨ (r = w.heap.size + 1 + 1 + 1 + 1 + 1 + 1 ∧ ∃ c, W.heap[r]? = some (.cells c 9 (0, 0)))) : PaI w st n W := by
  have hlt : ∀ r, row = some r → w.heap.size + 1 + 1 + 1 + 1 + 1 < r := fun r e => by rcases hr r e with h | h <;> omega
  obtain ⟨tv, nv, vs, lim, hp⟩ := h.ps
  obtain ⟨c, hc⟩ := h.bx
  refine ⟨⟨tv, nv, vs, lim, hp.keep hg (fun r e => ⟨by have := hlt r e; omega, ?_⟩)⟩, h.rs.keep hg (fun r e => by have := hlt r e; omega), grown_heapP hg h.rp (fun r e => by have := hlt r e; omega), grown_heapP hg h.at_ (fun r e => by have := hlt r e; omega), ?_⟩
  · rcases hr r e with h | h
    · exact .inr h.2
    · exact .inl (by omega)
  · by_cases e : row = some (w.heap.size + 1 + 1 + 1 + 1 + 1 + 1)
    · rcases hr _ e with h | ⟨_, hb⟩
      · omega
      · exact hb
    · exact ⟨c, grown_heapP hg hc (fun r he => by rintro rfl; exact e he)⟩
/-- one line read -/
theorem PaI.next {w W W2 : World} {st : PS} {n : Nat} (h : PaI w st n W) {m : Nat} (hf : FrB (w.heap.size + 1 + 1 + 1 + 1 + 1 + 1 + 1) (w.heap.size + 1 + 1 + 1) (W.setCell ⟨w.heap.size + 1 + 1 + 1 + 1 + 1, 0, none⟩ (.int .i64 m)) W2) :
    PaR w W2 (.int .i64 0) (.int .i64 0) (.int .i64 0) (.slice none 0 0) ∧ W2.heap[w.heap.size + 1 + 1 + 1 + 1]? = some (.cells #[.pointer (some ⟨w.heap.size + 1 + 1 + 1, 0, none⟩)] 86 (0, 0)) ∧
    W2.heap[w.heap.size + 1 + 1 + 1 + 1 + 1]? = some (.cells #[.int .i64 m] 3 (0, 0)) ∧ ∃ c, W2.heap[w.heap.size + 1 + 1 + 1 + 1 + 1 + 1]? = some (.cells c 9 (0, 0)) := by
  obtain ⟨c, hc⟩ := h.bx
  have hfar : ∀ k o, k < w.heap.size + 1 + 1 + 1 + 1 + 1 + 1 + 1 → k ≠ w.heap.size + 1 + 1 + 1 → k ≠ w.heap.size + 1 + 1 + 1 + 1 + 1 → W.heap[k]? = some o → W2.heap[k]? = some o := fun k o h1 h2 h3 ho =>
    (hf.block k h1 h2).trans ((Below.heap_setCell W _ _ k h3).trans ho)
  have hb : Below w.heap.size w W2 := by
    have h1 := h.rs.be.setCell (p := ⟨w.heap.size + 1 + 1 + 1 + 1 + 1, 0, none⟩) (by simp <;> omega) (.int .i64 m)
    exact ⟨hf.os.trans h1.os, hf.tape.trans h1.tape, hf.output.trans h1.output, Nat.le_trans h1.size hf.size, fun k hk => (hf.block k (by omega) (by omega)).trans (h1.block k hk)⟩
  refine ⟨⟨hfar _ _ (by omega) (by omega) (by omega) h.rs.r0, hfar _ _ (by omega) (by omega) (by omega) h.rs.r1, hfar _ _ (by omega) (by omega) (by omega) h.rs.r2, hb⟩, hfar _ _ (by omega) (by omega) (by omega) h.rp, ?_, c, hfar _ _ (by omega) (by omega) (by omega) hc⟩
  exact (hf.block _ (by omega) (by omega)).trans (blk_set (i := 0) (.int .i64 m) h.at_)

theorem PaR.set_ {w W : World} {v0 v1 v2 v3 : Value} (h : PaR w W v0 v1 v2 v3) (a0 a1 a2 a3 : Value) :
    PaR w ((((W.setCell ⟨w.heap.size, 0, none⟩ a0).setCell ⟨w.heap.size, 1, none⟩ a3).setCell ⟨w.heap.size + 1, 0, none⟩ a1).setCell ⟨w.heap.size + 1 + 1, 0, none⟩ a2) a0 a1 a2 a3 := by
  have k0 := blk_set (i := 1) a3 (blk_set (i := 0) a0 h.r0)
  have k1 := blk_set (i := 0) a1 ((Below.heap_setCell _ ⟨w.heap.size, 1, none⟩ a3 _ (by dsimp only; omega)).trans ((Below.heap_setCell _ ⟨w.heap.size, 0, none⟩ a0 _ (by dsimp only; omega)).trans h.r1))
  have k2 := blk_set (i := 0) a2 ((Below.heap_setCell _ ⟨w.heap.size + 1, 0, none⟩ a1 _ (by dsimp only; omega)).trans ((Below.heap_setCell _ ⟨w.heap.size, 1, none⟩ a3 _ (by dsimp only; omega)).trans ((Below.heap_setCell _ ⟨w.heap.size, 0, none⟩ a0 _ (by dsimp only; omega)).trans h.r2)))
  refine ⟨?_, ?_, k2, ?_⟩
  · exact (Below.heap_setCell _ _ _ _ (by dsimp only; omega)).trans ((Below.heap_setCell _ _ _ _ (by dsimp only; omega)).trans k0)
  · exact (Below.heap_setCell _ _ _ _ (by dsimp only; omega)).trans k1
  · exact (((h.be.setCell (p := ⟨w.heap.size, 0, none⟩) (by simp) a0).setCell (p := ⟨w.heap.size, 1, none⟩) (by simp) a3).setCell (p := ⟨w.heap.size + 1, 0, none⟩) (by simp) a1).setCell (p := ⟨w.heap.size + 1 + 1, 0, none⟩) (by simp <;> omega) a2
theorem PaR.drewN {w W : World} {v0 v1 v2 v3 : Value} (h : PaR w W v0 v1 v2 v3) (n : Nat) : PaR w (W.drewN n) v0 v1 v2 v3 := ⟨h.r0, h.r1, h.r2, below_drewN h.be n⟩
theorem PaR.cells {w W : World} {v0 v1 v2 v3 : Value} (h : PaR w W v0 v1 v2 v3) : W.cell? ⟨w.heap.size, 0, none⟩ = some v0 ∧ W.cell? ⟨w.heap.size, 1, none⟩ = some v3 ∧ W.cell? ⟨w.heap.size + 1, 0, none⟩ = some v1 ∧ W.cell? ⟨w.heap.size + 1 + 1, 0, none⟩ = some v2 ∧
    W.frozen? ⟨w.heap.size, 0, none⟩ = false ∧ W.frozen? ⟨w.heap.size, 1, none⟩ = false ∧ W.frozen? ⟨w.heap.size + 1, 0, none⟩ = false ∧ W.frozen? ⟨w.heap.size + 1 + 1, 0, none⟩ = false := by
  have h0 : Blk W _ _ _ := h.r0
  have h1 : Blk W _ _ _ := h.r1
  have h2 : Blk W _ _ _ := h.r2
  exact ⟨h0.cell 0, h0.cell 1, h1.cell 0, h2.cell 0, h0.frozen 0, h0.frozen 1, h1.frozen 0, h2.frozen 0⟩
theorem PaI.frame {w W W2 : World} {st : PS} {n : Nat} (h : PaI w st n W) (hf : FrB (w.heap.size + 1 + 1 + 1 + 1 + 1 + 1 + 1) (w.heap.size + 1 + 1 + 1) W W2) :
    PaR w W2 (.int .i64 0) (.int .i64 0) (.int .i64 0) (.slice none 0 0) ∧ W2.heap[w.heap.size + 1 + 1 + 1 + 1]? = some (.cells #[.pointer (some ⟨w.heap.size + 1 + 1 + 1, 0, none⟩)] 86 (0, 0)) := by
  have hfar : ∀ k o, k < w.heap.size + 1 + 1 + 1 + 1 + 1 + 1 + 1 → k ≠ w.heap.size + 1 + 1 + 1 → W.heap[k]? = some o → W2.heap[k]? = some o := fun k o h1 h2 ho => (hf.block k h1 h2).trans ho
  have hb : Below w.heap.size w W2 := by
    have h1 := h.rs.be
    exact ⟨hf.os.trans h1.os, hf.tape.trans h1.tape, hf.output.trans h1.output, Nat.le_trans h1.size hf.size, fun k hk => (hf.block k (by omega) (by omega)).trans (h1.block k hk)⟩
  exact ⟨⟨hfar _ _ (by omega) (by omega) h.rs.r0, hfar _ _ (by omega) (by omega) h.rs.r1, hfar _ _ (by omega) (by omega) h.rs.r2, hb⟩, hfar _ _ (by omega) (by omega) h.rp⟩
theorem PaR.below {w W W3 : World} {v0 v1 v2 v3 : Value} (h : PaR w W v0 v1 v2 v3) (hb : Below W.heap.size W W3) : PaR w W3 v0 v1 v2 v3 :=
  have k : ∀ j o, W.heap[j]? = some o → W3.heap[j]? = some o := fun j o ho => (hb.block j (Array.getElem?_eq_some_iff.1 ho).1).trans ho
  ⟨k _ _ h.r0, k _ _ h.r1, k _ _ h.r2, h.be.trans (hb.mono h.be.size)⟩
theorem PsI.set1 {w W : World} {st : PS} {tv nv : Value} {vs : List Value} {lim : Nat} (h : PsI W (w.heap.size + 1 + 1 + 1 + 1 + 1 + 1 + 1) (w.heap.size + 1 + 1 + 1) st tv nv vs lim) {p : Addr} (hp : p.block < w.heap.size + 1 + 1 + 1) (u : Value) :
    PsI (W.setCell p u) (w.heap.size + 1 + 1 + 1 + 1 + 1 + 1 + 1) (w.heap.size + 1 + 1 + 1) st tv nv vs lim :=
  h.keep (grownBy_setCell (p := p) (World.grownBy.refl _ _) (.inl rfl) _) (fun r e => by cases e; exact ⟨by omega, .inl (by omega)⟩)
theorem PsI.out_ {w W : World} {st : PS} {tv nv : Value} {vs : List Value} {lim : Nat} (h : PsI W (w.heap.size + 1 + 1 + 1 + 1 + 1 + 1 + 1) (w.heap.size + 1 + 1 + 1) st tv nv vs lim) (a0 a1 a2 a3 : Value) :
    PsI ((((W.setCell ⟨w.heap.size, 0, none⟩ a0).setCell ⟨w.heap.size, 1, none⟩ a3).setCell ⟨w.heap.size + 1, 0, none⟩ a1).setCell ⟨w.heap.size + 1 + 1, 0, none⟩ a2) (w.heap.size + 1 + 1 + 1 + 1 + 1 + 1 + 1) (w.heap.size + 1 + 1 + 1) st tv nv vs lim :=
  (((h.set1 (p := ⟨w.heap.size, 0, none⟩) (by dsimp only; omega) a0).set1 (p := ⟨w.heap.size, 1, none⟩) (by dsimp only; omega) a3).set1 (p := ⟨w.heap.size + 1, 0, none⟩) (by dsimp only; omega) a1).set1 (p := ⟨w.heap.size + 1 + 1, 0, none⟩) (by dsimp only; omega) a2
theorem splitLs_len2 : ∀ l : List UInt8, (splitLs l).length ≤ l.length
  | [] => by simp [splitLs]
  | c :: r => by
    have ih := splitLs_len2 r
    rw [splitLs]
    split
    · simp; omega
    · split
      · simp
      · rename_i h; rw [h] at ih; simp at ih ⊢; omega
theorem belowPut {w W : World} (h : Below w.heap.size w W) {D : Nat} (hD : w.heap.size ≤ D) (o : Obj) : Below w.heap.size w (W.putObj D o) :=
  ⟨h.os, h.tape, h.output, by simpa [World.putObj] using h.size, fun k hk => (World.putObj_heap_other (by omega)).trans (h.block k hk)⟩
end Go.Proofs.YtpkefohcccpncaaGreatDoor
