/- Scan of the package token. -/
import Derived.Test.YtnibnkblkabalaaDoorTokLine
import Derived.Test.YtnibnkblkabalaaDoorSplit
namespace Go.Proofs.YtnibnkblkabalaaDoor
open Go.RowKit
set_option linter.unusedSimpArgs false
set_option linter.unusedVariables false
attribute [local go_sem] Oper.semAt_some

/-- the scan of one line -/
def scanLine1 (l : List UInt8) (ln : Nat) (ts : List Tok) : List Tok × Nat := scanL (l.length + 1) (Lib.cut l [35]).1 ln false ts
/-- the scan of lines -/
def scanLs : List (List UInt8) → Nat → List Tok → SRes
  | [], _, ts => .ok ts
  | l :: r, ln, ts => if (scanLine1 l (ln + 1) ts).2 = 0 then scanLs r (ln + 1) (scanLine1 l (ln + 1) ts).1 else .er (ln + 1) (scanLine1 l (ln + 1) ts).2
def okLs : List (List UInt8) → Nat → List Tok → Option (List Tok)
  | [], _, ts => some ts
  | l :: r, ln, ts => if (scanLine1 l (ln + 1) ts).2 = 0 then okLs r (ln + 1) (scanLine1 l (ln + 1) ts).1 else none
theorem scanLs_append : ∀ (p q : List (List UInt8)) (ln : Nat) (t0 ts : List Tok), okLs p ln t0 = some ts → scanLs (p ++ q) ln t0 = scanLs q (ln + p.length) ts
  | [], q, ln, t0, ts, h => by simp [okLs] at h; subst h; simp
  | l :: p, q, ln, t0, ts, h => by
    simp only [okLs] at h
    split at h
    · rename_i h0
      simp only [List.cons_append, scanLs, if_pos h0]
      rw [scanLs_append p q _ _ _ h]
      congr 1; simp; omega
    · cases h
theorem okLs_append : ∀ (p q : List (List UInt8)) (ln : Nat) (t0 ts : List Tok), okLs p ln t0 = some ts → okLs (p ++ q) ln t0 = okLs q (ln + p.length) ts
  | [], q, ln, t0, ts, h => by simp [okLs] at h; subst h; simp
  | l :: p, q, ln, t0, ts, h => by
    simp only [okLs] at h
    split at h
    · rename_i h0
      simp only [List.cons_append, okLs, if_pos h0]
      rw [okLs_append p q _ _ _ h]
      congr 1; simp; omega
    · cases h

/-- the state between two lines -/
structure ScI (w : World) (ts : List Tok) (ln : Nat) (W : World) : Prop where
  sc : ScAt W w.heap.size (w.heap.size + 1 + 1 + 1) ts ln 0
  bx : W.heap[w.heap.size + 1 + 1 + 1 + 1]? = some (.cells #[.pointer (some ⟨w.heap.size + 1 + 1 + 1, 0, none⟩)] 50 (0, 0))
  r0 : W.heap[w.heap.size]? = some (.cells #[.slice none 0 0] 23 (0, 0))
  r1 : W.heap[w.heap.size + 1]? = some (.cells #[.int .i64 0] 3 (0, 0))
  r2 : W.heap[w.heap.size + 1 + 1]? = some (.cells #[.int .i64 0] 34 (0, 0))
  be : Below w.heap.size w W
  b5 : ∃ c, W.heap[w.heap.size + 1 + 1 + 1 + 1 + 1]? = some (.cells c 9 (0, 0))
  b6 : ∃ c, W.heap[w.heap.size + 1 + 1 + 1 + 1 + 1 + 1]? = some (.cells c 9 (0, 0))
  b7 : ∃ c, W.heap[w.heap.size + 1 + 1 + 1 + 1 + 1 + 2]? = some (.cells c 3 (0, 0))

structure ScX (w : World) (ln er : Nat) (W : World) : Prop where
  r0 : W.heap[w.heap.size]? = some (.cells #[.slice none 0 0] 23 (0, 0))
  r1 : W.heap[w.heap.size + 1]? = some (.cells #[.int .i64 ln] 3 (0, 0))
  r2 : W.heap[w.heap.size + 1 + 1]? = some (.cells #[.int .i64 er] 34 (0, 0))
  be : Below w.heap.size w W

def bytesOf {M : Nat} (pre : List (Piece M)) : List (List UInt8) := pre.map (·.1.data.toList)

def ScInv (w : World) (pre : List (Piece 4096)) (W : World) : Prop := ∃ ts, okLs (bytesOf pre) 0 [] = some ts ∧ ts.length ≤ 1024 ∧ ScI w ts pre.length W
def ScOut (w : World) (c : Code) (pre : List (Piece 4096)) (W : World) : Prop := c = .ret ∧ ∃ p x ts er, pre = p ++ [x] ∧ okLs (bytesOf p) 0 [] = some ts ∧ (scanLine1 x.1.data.toList (p.length + 1) ts).2 = er ∧ er ≠ 0 ∧ ScX w (p.length + 1) er W

theorem grown_heap {A B : World} {row : Option Nat} {k : Nat} {o : Obj} (hg : A.grownBy B row) (ho : A.heap[k]? = some o) (hk : ∀ r, row = some r → k ≠ r) : B.heap[k]? = some o :=
  (hg.block k (Array.getElem?_eq_some_iff.1 ho).1 (fun e => hk k e.symm rfl)).trans ho

/-- what a change of a block that is no row of tokens and lies behind the scanner leaves -/
theorem ScI.keep {w A B : World} {ts : List Tok} {ln : Nat} {row : Option Nat} (h : ScI w ts ln A) (hg : A.grownBy B row) (hr : ∀ r, row = some r → (w.heap.size + 1 + 1 + 1 + 1 + 1 + 2 < r ∧ ∀ c fz, A.heap[r]? ≠ some (.cells c 27 fz)) ∨
    (r = w.heap.size + 1 + 1 + 1 + 1 + 1 ∧ (∃ c, A.heap[r]? = some (.cells c 9 (0, 0))) ∧ ∃ c, B.heap[r]? = some (.cells c 9 (0, 0)))) : ScI w ts ln B := by
  have hne : ∀ k, k ≤ w.heap.size + 1 + 1 + 1 + 1 → ∀ r, row = some r → k ≠ r := fun k hk r e => by rcases hr r e with h | h <;> omega
  have hne2 : ∀ k, k = w.heap.size + 1 + 1 + 1 + 1 + 1 + 1 ∨ k = w.heap.size + 1 + 1 + 1 + 1 + 1 + 2 → ∀ r, row = some r → k ≠ r := fun k hk r e => by rcases hr r e with h | h <;> omega
  obtain ⟨hbg, v, hsc, hown⟩ := h.sc
  obtain ⟨c5, h5⟩ := h.b5
  obtain ⟨c6, h6⟩ := h.b6
  obtain ⟨c7, h7⟩ := h.b7
  refine ⟨⟨hbg, v, grown_heap hg hsc (hne _ (by omega)), hown.kept hg ?_⟩, grown_heap hg h.bx (hne _ (by omega)), grown_heap hg h.r0 (hne _ (by omega)), grown_heap hg h.r1 (hne _ (by omega)), grown_heap hg h.r2 (hne _ (by omega)), ?_, ?_, ⟨c6, grown_heap hg h6 (hne2 _ (.inl rfl))⟩, ⟨c7, grown_heap hg h7 (hne2 _ (.inr rfl))⟩⟩
  · rcases ho : v.ownBlock with _ | k
    · exact .inl rfl
    · right; intro e
      obtain ⟨c, fz, hc⟩ := own_kind hown k ho
      rcases hr k e.symm with h | ⟨_, ⟨c', hc'⟩, _⟩
      · exact h.2 c fz hc
      · rw [hc] at hc'; injection hc' with hc'; injection hc' with _ h2; exact absurd h2 (by decide)
  · exact h.be.grown hg h.be.size (fun k hk => by rcases hr k hk with h | h <;> omega)
  · by_cases e : row = some (w.heap.size + 1 + 1 + 1 + 1 + 1)
    · rcases hr _ e with h | ⟨_, _, hb⟩
      · omega
      · exact hb
    · exact ⟨c5, grown_heap hg h5 (fun r he => by rintro rfl; exact e he)⟩
theorem ScX.keep {w A B : World} {ln er : Nat} {row : Option Nat} (h : ScX w ln er A) (hg : A.grownBy B row) (hr : ∀ r, row = some r → w.heap.size + 1 + 1 + 1 + 1 < r) : ScX w ln er B := by
  have hne : ∀ k, k ≤ w.heap.size + 1 + 1 + 1 + 1 → ∀ r, row = some r → k ≠ r := fun k hk r e => by have := hr r e; omega
  exact ⟨grown_heap hg h.r0 (hne _ (by omega)), grown_heap hg h.r1 (hne _ (by omega)), grown_heap hg h.r2 (hne _ (by omega)), h.be.grown hg h.be.size (fun k hk => by have := hr k hk; omega)⟩

theorem ScX.cells {w W : World} {ln er : Nat} (h : ScX w ln er W) : W.cell? ⟨w.heap.size, 0, none⟩ = some (.slice none 0 0) ∧ W.cell? ⟨w.heap.size + 1, 0, none⟩ = some (.int .i64 ln) ∧ W.cell? ⟨w.heap.size + 1 + 1, 0, none⟩ = some (.int .i64 er) := by
  have h0 : Blk W _ _ _ := h.r0
  have h1 : Blk W _ _ _ := h.r1
  have h2 : Blk W _ _ _ := h.r2
  exact ⟨h0.cell 0, h1.cell 0, h2.cell 0⟩

theorem alloc_at (w : World) (o : Obj) (k : Nat) : (w.alloc o).heap[k]? = if k = w.heap.size then some o else w.heap[k]? := by
  by_cases h : k = w.heap.size
  · subst h; rw [if_pos rfl]; exact heap_alloc_new w o
  · rw [if_neg h]
    rcases Nat.lt_or_ge k w.heap.size with h1 | h1
    · exact Below.heap_alloc w o k h1
    · rw [Array.getElem?_eq_none (by simp; omega), Array.getElem?_eq_none (by omega)]
theorem at_old {w : World} {k : Nat} {o : Obj} (h : w.heap[k]? = some o) (o' : Obj) : (w.alloc o').heap[k]? = some o := (Below.heap_alloc w o' k (Array.getElem?_eq_some_iff.1 h).1).trans h
theorem start_at (w : World) (o0 o1 o2 o3 o4 o5 o6 o7 : Obj) (W : World) (hW : W = (((((((w.alloc o0).alloc o1).alloc o2).alloc o3).alloc o4).alloc o5).alloc o6).alloc o7) :
    W.heap[w.heap.size]? = some o0 ∧ W.heap[w.heap.size + 1]? = some o1 ∧ W.heap[w.heap.size + 1 + 1]? = some o2 ∧ W.heap[w.heap.size + 1 + 1 + 1]? = some o3 ∧ W.heap[w.heap.size + 1 + 1 + 1 + 1]? = some o4 ∧
    W.heap[w.heap.size + 1 + 1 + 1 + 1 + 1]? = some o5 ∧ W.heap[w.heap.size + 1 + 1 + 1 + 1 + 1 + 1]? = some o6 ∧ W.heap[w.heap.size + 1 + 1 + 1 + 1 + 1 + 2]? = some o7 ∧ Below w.heap.size w W := by
  subst hW
  have hb : Below w.heap.size w ((((((((w.alloc o0).alloc o1).alloc o2).alloc o3).alloc o4).alloc o5).alloc o6).alloc o7) := ((((((((Below.refl w.heap.size w).alloc (Nat.le_refl _) _).alloc (by simp only [World.size_alloc]; omega) _).alloc (by simp only [World.size_alloc]; omega) _).alloc (by simp only [World.size_alloc]; omega) _).alloc (by simp only [World.size_alloc]; omega) _).alloc (by simp only [World.size_alloc]; omega) _).alloc (by simp only [World.size_alloc]; omega) _).alloc (by simp only [World.size_alloc]; omega) _
  have q0 : (w.alloc o0).heap[w.heap.size]? = some o0 := by
    have := heap_alloc_new w o0
    simpa only [World.size_alloc] using this
  have q1 : ((w.alloc o0).alloc o1).heap[w.heap.size + 1]? = some o1 := by
    have := heap_alloc_new (w.alloc o0) o1
    simpa only [World.size_alloc] using this
  have q2 : (((w.alloc o0).alloc o1).alloc o2).heap[w.heap.size + 1 + 1]? = some o2 := by
    have := heap_alloc_new ((w.alloc o0).alloc o1) o2
    simpa only [World.size_alloc] using this
  have q3 : ((((w.alloc o0).alloc o1).alloc o2).alloc o3).heap[w.heap.size + 1 + 1 + 1]? = some o3 := by
    have := heap_alloc_new (((w.alloc o0).alloc o1).alloc o2) o3
    simpa only [World.size_alloc] using this
  have q4 : (((((w.alloc o0).alloc o1).alloc o2).alloc o3).alloc o4).heap[w.heap.size + 1 + 1 + 1 + 1]? = some o4 := by
    have := heap_alloc_new ((((w.alloc o0).alloc o1).alloc o2).alloc o3) o4
    simpa only [World.size_alloc] using this
  have q5 : ((((((w.alloc o0).alloc o1).alloc o2).alloc o3).alloc o4).alloc o5).heap[w.heap.size + 1 + 1 + 1 + 1 + 1]? = some o5 := by
    have := heap_alloc_new (((((w.alloc o0).alloc o1).alloc o2).alloc o3).alloc o4) o5
    simpa only [World.size_alloc] using this
  have q6 : (((((((w.alloc o0).alloc o1).alloc o2).alloc o3).alloc o4).alloc o5).alloc o6).heap[w.heap.size + 1 + 1 + 1 + 1 + 1 + 1]? = some o6 := by
    have := heap_alloc_new ((((((w.alloc o0).alloc o1).alloc o2).alloc o3).alloc o4).alloc o5) o6
    simpa only [World.size_alloc] using this
  have q7 : ((((((((w.alloc o0).alloc o1).alloc o2).alloc o3).alloc o4).alloc o5).alloc o6).alloc o7).heap[w.heap.size + 1 + 1 + 1 + 1 + 1 + 2]? = some o7 := by
    have := heap_alloc_new (((((((w.alloc o0).alloc o1).alloc o2).alloc o3).alloc o4).alloc o5).alloc o6) o7
    simpa only [World.size_alloc] using this
  exact ⟨at_old (at_old (at_old (at_old (at_old (at_old (at_old q0 _) _) _) _) _) _) _, at_old (at_old (at_old (at_old (at_old (at_old q1 _) _) _) _) _) _, at_old (at_old (at_old (at_old (at_old q2 _) _) _) _) _, at_old (at_old (at_old (at_old q3 _) _) _) _, at_old (at_old (at_old q4 _) _) _, at_old (at_old q5 _) _, at_old q6 _, q7, hb⟩

theorem okept_blk2 {T : TypeId} {b k : Nat} {w w' : World} {cs : Array Value} {t : TypeId} (h : Lib.OthersKept T (some b) w w') (hk : w.heap[k]? = some (.cells cs t (0, 0))) (hb : k ≠ b) (ht : t ≠ T) : w'.heap[k]? = some (.cells cs t (0, 0)) :=
  h k _ hk (fun e => hb (by injection e)) (fun c fz e => ht (by injection e))
/-- the scanner's own blocks behind a line -/
theorem ScI.next {w W W2 : World} {ts ts2 : List Tok} {ln er : Nat} (h : ScI w ts ln W) (k : Nat) (sc2 : ScAt W2 w.heap.size (w.heap.size + 1 + 1 + 1) ts2 k er)
    (hb : Below w.heap.size (W.setCell ⟨w.heap.size + 1 + 1 + 1, 1, none⟩ (.int .i64 k)) W2) (ho : Lib.OthersKept 27 (some (w.heap.size + 1 + 1 + 1)) (W.setCell ⟨w.heap.size + 1 + 1 + 1, 1, none⟩ (.int .i64 k)) W2) :
    W2.heap[w.heap.size + 1 + 1 + 1 + 1]? = some (.cells #[.pointer (some ⟨w.heap.size + 1 + 1 + 1, 0, none⟩)] 50 (0, 0)) ∧ W2.heap[w.heap.size]? = some (.cells #[.slice none 0 0] 23 (0, 0)) ∧
    W2.heap[w.heap.size + 1]? = some (.cells #[.int .i64 0] 3 (0, 0)) ∧ W2.heap[w.heap.size + 1 + 1]? = some (.cells #[.int .i64 0] 34 (0, 0)) ∧ Below w.heap.size w W2 := by
  have hs : ∀ j, j ≠ w.heap.size + 1 + 1 + 1 → (W.setCell ⟨w.heap.size + 1 + 1 + 1, 1, none⟩ (.int .i64 k)).heap[j]? = W.heap[j]? := fun j hj => Below.heap_setCell _ _ _ _ hj
  exact ⟨okept_blk2 ho ((hs _ (by omega)).trans h.bx) (by omega) (by decide), okept_blk2 ho ((hs _ (by omega)).trans h.r0) (by omega) (by decide), okept_blk2 ho ((hs _ (by omega)).trans h.r1) (by omega) (by decide), okept_blk2 ho ((hs _ (by omega)).trans h.r2) (by omega) (by decide),
    (h.be.setCell (p := ⟨w.heap.size + 1 + 1 + 1, 1, none⟩) (by simp only []; omega) _).trans hb⟩

theorem ScI.far {w W W2 : World} {k : Nat} (ho : Lib.OthersKept 27 (some (w.heap.size + 1 + 1 + 1)) (W.setCell ⟨w.heap.size + 1 + 1 + 1, 1, none⟩ (.int .i64 k)) W2) {j : Nat} {o : Obj} (hj : w.heap.size + 1 + 1 + 1 < j) (h : W.heap[j]? = some o) (hn : ∀ c fz, o ≠ .cells c 27 fz) : W2.heap[j]? = some o :=
  ho j o ((Below.heap_setCell _ _ _ _ (by simp; omega)).trans h) (fun e => by injection e; omega) hn
theorem cells_ne {c : Array Value} {t T : TypeId} (h : t ≠ T) : ∀ c' fz, (Obj.cells c t (0, 0)) ≠ .cells c' T fz := fun c' fz e => by injection e with _ h2; exact h h2
theorem ScI.box {w W W2 : World} {ts : List Tok} {ln k : Nat} (h : ScI w ts ln W) (hs : W.heap.size ≤ W2.heap.size) (ho : Lib.OthersKept 27 (some (w.heap.size + 1 + 1 + 1)) (W.setCell ⟨w.heap.size + 1 + 1 + 1, 1, none⟩ (.int .i64 k)) W2) : KeepBox (w.heap.size + 1 + 1 + 1 + 1 + 1) W W2 := by
  refine ⟨hs, fun j h1 h2 => ?_⟩
  obtain ⟨c5, h5⟩ := h.b5
  obtain ⟨c6, h6⟩ := h.b6
  obtain ⟨c7, h7⟩ := h.b7
  have hc : j = w.heap.size + 1 + 1 + 1 + 1 + 1 ∨ j = w.heap.size + 1 + 1 + 1 + 1 + 1 + 1 ∨ j = w.heap.size + 1 + 1 + 1 + 1 + 1 + 2 := by omega
  rcases hc with rfl | rfl | rfl
  · rw [h5]; exact ScI.far ho (by omega) h5 (cells_ne (by decide))
  · rw [h6]; exact ScI.far ho (by omega) h6 (cells_ne (by decide))
  · rw [h7]; exact ScI.far ho (by omega) h7 (cells_ne (by decide))
theorem ScI.keeps {w W W2 : World} {k B : Nat} (hB : w.heap.size + 1 + 1 + 1 < B) (hs : W.heap.size ≤ W2.heap.size) (ho : Lib.OthersKept 27 (some (w.heap.size + 1 + 1 + 1)) (W.setCell ⟨w.heap.size + 1 + 1 + 1, 1, none⟩ (.int .i64 k)) W2) : KeepsFrom B W W2 :=
  ⟨hs, fun j o hj hw hc => ScI.far ho (by omega) hw (fun c fz e => by subst e; cases hc)⟩
theorem keepsFrom_set {B : Nat} {W W2 : World} (h : KeepsFrom B W W2) (p : Addr) (v : Value) (hp : p.block < B) : KeepsFrom B W (W2.setCell p v) :=
  ⟨by simpa [World.setCell] using h.size, fun j o hj hw hc => (Below.heap_setCell _ _ _ _ (by omega)).trans (h.same j o hj hw hc)⟩

/-- the function's end: its results lie in cells -/
theorem scan_end {w W : World} {D : Nat} {a : Act} {v0 v1 v2 : Value} {R : Ending → World → Prop} (hK : W.heap[D]? = some (.deferred (some []))) (hd : a.defers = [{ target := .collected D, args := #[] }])
    (hp0 : a.tmps.getD 2 undef = .pointer (some ⟨w.heap.size, 0, none⟩)) (hp1 : a.tmps.getD 3 undef = .pointer (some ⟨w.heap.size + 1, 0, none⟩)) (hp2 : a.tmps.getD 4 undef = .pointer (some ⟨w.heap.size + 1 + 1, 0, none⟩))
    (h0 : W.cell? ⟨w.heap.size, 0, none⟩ = some v0) (h1 : W.cell? ⟨w.heap.size + 1, 0, none⟩ = some v1) (h2 : W.cell? ⟨w.heap.size + 1 + 1, 0, none⟩ = some v2)
    (hR : R (.returned (.tuple #[v0, v1, v2])) (W.putObj D (.deferred none))) : bodyPostM Fence.wide 5 Tryd.prog Tryd.f13 R .ret a W := by
  obtain ⟨tmps, defers⟩ := a
  dsimp only at hd hp0 hp1 hp2
  subst hd
  refine ⟨by simp, .inl ⟨_, _, rfl, run_takeDeferred hK, ?_⟩⟩
  have k0 := cell_kept h0 (grownBy_putObj' _ D (.deferred none)) (fun r e => by cases e; exact ⟨_, hK, rfl⟩)
  have k1 := cell_kept h1 (grownBy_putObj' _ D (.deferred none)) (fun r e => by cases e; exact ⟨_, hK, rfl⟩)
  have k2 := cell_kept h2 (grownBy_putObj' _ D (.deferred none)) (fun r e => by cases e; exact ⟨_, hK, rfl⟩)
  simp only [Array.getD_eq_getD_getElem?] at hp0 hp1 hp2
  refine ⟨.tuple #[v0, v1, v2], ?_, hR⟩
  simp [results, Tryd.f13, go_sem, hp0, hp1, hp2, k0, k1, k2]

set_option maxRecDepth 100000 in
set_option maxHeartbeats 4000000 in
theorem scanTok_any (s : ByteArray) (w : World) (hs : s.size ≤ 4096) (m : Int) (hm : w.cell? ⟨2, 0, none⟩ = some (.int .i64 m)) (hB : 2 < w.heap.size) :
    Calls Tryd.prog 13 #[.string s] w (ScanPost w (scanLs (linesL 10 (s.size + 1) s.data.toList) 0 [])) := by
  have hlim : decide (4096 < (s.size : Int)) = false := by simp; omega
  refine (callsIn_wide (n := 5)).1 ?_
  refine callsIn_of_wp_marks Tryd.func13 rfl trivial ?_ rfl
  simp only [Tryd.ntmps13, List.size_toArray, List.length_cons, List.length_nil, Nat.reduceAdd, Nat.reduceSub, Array.replicate_succ, Array.replicate_zero, List.push_toArray, List.append_toArray, List.nil_append, List.cons_append]
  gi_wp2_with (refine ⟨trivial, ?_⟩; gi_at_call 24; go_must (refine (callsIn_wide.2 (split_any s 10 _)).mono ?_; rintro e w' ⟨rfl, rfl⟩))
  refine wpIn_rangeFunc_box rfl (by omega) (gf := 45) (lb := #[.pointer (some ⟨w.heap.size + 1 + 1 + 1 + 1 + 1 + 1, 0, none⟩), .pointer (some ⟨w.heap.size + 1 + 1 + 1 + 1 + 1, 0, none⟩), .pointer (some ⟨w.heap.size + 1 + 1 + 1 + 1 + 1 + 2, 0, none⟩)]) rfl trivial (enters_of Tryd.func45 (by kernel_rfl) rfl) (Bs := w.heap.size + 1 + 1 + 1 + 1 + 1) (T := 9) (by simp)
    (split1_stops 10 4096 (by omega) (w.heap.size + 1 + 1 + 1 + 1 + 1) s hs _ ?boxes) (fun h k => ⟨Nat.le_trans h.1 k.1, fun i h1 h2 => (k.2 i h1 h2).trans (h.2 i h1 h2)⟩) ?kb (Below.refl _ _) (fun _ => rfl)
    (ScInv w) (ScOut w) ?hI ?hIx ?hIb ?hIxb ?h0
    (fun x => { tmps := #[.string s, undef, .pointer (some ⟨w.heap.size, 0, none⟩), .pointer (some ⟨w.heap.size + 1, 0, none⟩), .pointer (some ⟨w.heap.size + 1 + 1, 0, none⟩), .pointer (some ⟨w.heap.size + 1 + 1 + 1 + 1, 0, none⟩), .string x.1, .string s, .int .i64 s.size, .bool false, .agg #[.slice none 0 0, .int .i64 0, .int .i64 0], .pointer (some ⟨w.heap.size + 1 + 1 + 1, 0, none⟩), .string s,
      .func (.func 45) #[] #[.pointer (some ⟨w.heap.size + 1 + 1 + 1 + 1 + 1 + 1, 0, none⟩), .pointer (some ⟨w.heap.size + 1 + 1 + 1 + 1 + 1, 0, none⟩), .pointer (some ⟨w.heap.size + 1 + 1 + 1 + 1 + 1 + 2, 0, none⟩)], .string x.1,
      undef, undef, undef, undef, undef, undef, undef, undef, undef, undef, undef, undef, undef, undef, undef, undef, undef, undef, undef, undef, undef, undef, undef, undef, undef, undef, undef], defers := [] }) ?assign ?body ?done ?stop
  case boxes =>
    obtain ⟨_, _, _, _, _, h5, h6, h7, _⟩ := start_at w _ _ _ _ _ _ _ _ _ rfl
    exact ⟨h5, h6, h7⟩
  case kb =>
    intro W l o o' hl ho hc hw
    refine ⟨by simp [World.putObj], fun k h1 h2 => World.putObj_heap_other (by simp at hl; omega)⟩
  case hI =>
    rintro pre A B row ⟨ts, hok, htl, hi⟩ hg hr
    refine ⟨ts, hok, htl, hi.keep hg (fun r e => .inl ?_)⟩
    obtain ⟨h1, o, ho, hc⟩ := hr r e
    refine ⟨by simp at h1; omega, fun c fz hcc => ?_⟩
    rw [ho] at hcc; injection hcc with hcc; subst hcc; cases hc
  case hIx =>
    rintro c pre A B row ⟨hc, p, x, ts, er, e1, e2, e3, e4, hx⟩ hg hr
    exact ⟨hc, p, x, ts, er, e1, e2, e3, e4, hx.keep hg (fun r e => by have := (hr r e).1; simp at this; omega)⟩
  case hIb =>
    rintro pre A B row ⟨ts, hok, htl, hi⟩ hg hr
    exact ⟨ts, hok, htl, hi.keep hg (fun r e => .inr (hr r e))⟩
  case hIxb =>
    rintro c pre A B row ⟨hc, p, x, ts, er, e1, e2, e3, e4, hx⟩ hg hr
    exact ⟨hc, p, x, ts, er, e1, e2, e3, e4, hx.keep hg (fun r e => by have := (hr r e).1; omega)⟩
  case h0 =>
    obtain ⟨h0, h1, h2, h3, h4, h5, h6, h7, hb⟩ := start_at w _ _ _ _ _ _ _ _ _ rfl
    exact ⟨[], rfl, by simp, ⟨⟨by omega, _, h3, World.ownsRow_nil _ _ _ _⟩, h4, h0, h1, h2, hb, ⟨_, h5⟩, ⟨_, h6⟩, ⟨_, h7⟩⟩⟩
  case assign =>
    intro l x W K hK
    gi_wp2
    exact hK
  case body =>
    rintro l pre x W ⟨ts, hok, htl, hi⟩ hlen
    obtain ⟨c1, c2, f1, f2⟩ := hi.sc.cells
    have hbx : W.cell? ⟨w.heap.size + 1 + 1 + 1 + 1, 0, none⟩ = some (.pointer (some ⟨w.heap.size + 1 + 1 + 1, 0, none⟩)) := (show Blk W _ _ _ from hi.bx).cell 0
    have hml : W.cell? ⟨2, 0, none⟩ = some (.int .i64 m) := (hi.be.cell (p := ⟨2, 0, none⟩) hB).trans hm
    have hpl : pre.length ≤ 4097 := by omega
    have sc1 := hi.sc.setLine (pre.length + 1)
    have SC := scan_any w.heap.size (w.heap.size + 1 + 1 + 1) ts (pre.length + 1) x.1 _ (by have := hi.be.size; simpa [World.setCell] using this) sc1 htl x.2 m ((World.cell?_setCell_other _ _ _ _ (by intro e; injection e; omega)).trans hml)
    have SCH := Lib.hid SC
    have HI := Lib.hid hi
    have HOK := Lib.hid hok
    clear SC hok hml sc1 hi
    obtain ⟨ts2, er, hr⟩ : ∃ ts2 er, scanLine1 x.1.data.toList (pre.length + 1) ts = (ts2, er) := ⟨_, _, rfl⟩
    have HR : Hid (scanL (x.1.size + 1) (Lib.cut x.1.data.toList [35]).1 (pre.length + 1) false ts = (ts2, er)) := Lib.hid (by rw [← hr]; unfold scanLine1; rw [size_data])
    have HR1 := Lib.hid hr
    clear hr
    by_cases her : er = 0
    · subst her
      gi_wp2_with (refine ⟨trivial, ?_⟩; gi_at_call 25; go_must (refine (CallsIn.inRound l (callsIn_wide.2 SCH.out)).mono ?_; rintro e W2 ⟨rfl, sc2, hb2, htl2, ho2⟩; rw [HR.out] at sc2 htl2; dsimp only at sc2 htl2; obtain ⟨d1, d2, q1, q2⟩ := sc2.cells; obtain ⟨k4, k0, k1, k2, hbe2⟩ := HI.out.next _ sc2 hb2 ho2; have e4 := (show Blk W2 _ _ _ from k4).cell 0; have e0 := (show Blk W2 _ _ _ from k0).cell 0; have e1 := (show Blk W2 _ _ _ from k1).cell 0; have e2 := (show Blk W2 _ _ _ from k2).cell 0; have v0 := (show Blk W2 _ _ _ from k0).frozen 0; have v1 := (show Blk W2 _ _ _ from k1).frozen 0; have v2 := (show Blk W2 _ _ _ from k2).frozen 0; have K4 := Lib.hid k4; have K0 := Lib.hid k0; have K1 := Lib.hid k1; have K2 := Lib.hid k2; clear k4 k0 k1 k2))
      have hss : W.heap.size ≤ W2.heap.size := by have := hb2.size; simpa [World.setCell] using this
      obtain ⟨c5, h5⟩ := HI.out.b5
      obtain ⟨c6, h6⟩ := HI.out.b6
      obtain ⟨c7, h7⟩ := HI.out.b7
      refine ⟨ScI.keeps (by simp <;> omega) hss ho2, HI.out.box hss ho2, ts2, ?_, htl2, by simpa using sc2, K4.out, K0.out, K1.out, K2.out, hbe2, ⟨c5, ScI.far ho2 (by omega) h5 (cells_ne (by decide))⟩, ⟨c6, ScI.far ho2 (by omega) h6 (cells_ne (by decide))⟩, ⟨c7, ScI.far ho2 (by omega) h7 (cells_ne (by decide))⟩⟩
      rw [show bytesOf (pre ++ [x]) = bytesOf pre ++ bytesOf [x] from by simp [bytesOf], okLs_append _ _ _ _ _ HOK.out]
      simp [okLs, bytesOf, HR1.out]
    · have hb0 : ((er : Int) != 0) = true := by simp; omega
      gi_wp2_with (refine ⟨trivial, ?_⟩; gi_at_call 25; go_must (refine (CallsIn.inRound l (callsIn_wide.2 SCH.out)).mono ?_; rintro e W2 ⟨rfl, sc2, hb2, htl2, ho2⟩; rw [HR.out] at sc2 htl2; dsimp only at sc2 htl2; obtain ⟨d1, d2, q1, q2⟩ := sc2.cells; obtain ⟨k4, k0, k1, k2, hbe2⟩ := HI.out.next _ sc2 hb2 ho2; have e4 := (show Blk W2 _ _ _ from k4).cell 0; have e0 := (show Blk W2 _ _ _ from k0).cell 0; have e1 := (show Blk W2 _ _ _ from k1).cell 0; have e2 := (show Blk W2 _ _ _ from k2).cell 0; have v0 := (show Blk W2 _ _ _ from k0).frozen 0; have v1 := (show Blk W2 _ _ _ from k1).frozen 0; have v2 := (show Blk W2 _ _ _ from k2).frozen 0; have K4 := Lib.hid k4; have K0 := Lib.hid k0; have K1 := Lib.hid k1; have K2 := Lib.hid k2; clear k4 k0 k1 k2))
      have hmx : Tryd.prog.follows .mixedOrders = true := by kernel_rfl
      refine wpIn_round_held (fun W => W.cell? ⟨w.heap.size + 1 + 1 + 1 + 1, 0, none⟩ = some (.pointer (some ⟨w.heap.size + 1 + 1 + 1, 0, none⟩)) ∧ W.cell? ⟨w.heap.size + 1 + 1 + 1, 1, none⟩ = some (.int .i64 (pre.length + 1)) ∧ W.cell? ⟨w.heap.size + 1 + 1 + 1, 2, none⟩ = some (.int .i64 er)) hmx (by kernel_rfl) (by rintro ⟨a, w, h⟩; exact h) ?_
      have hS : (fun W : World => W.cell? ⟨w.heap.size + 1 + 1 + 1 + 1, 0, none⟩ = some (.pointer (some ⟨w.heap.size + 1 + 1 + 1, 0, none⟩)) ∧ W.cell? ⟨w.heap.size + 1 + 1 + 1, 1, none⟩ = some (.int .i64 (pre.length + 1)) ∧ W.cell? ⟨w.heap.size + 1 + 1 + 1, 2, none⟩ = some (.int .i64 er)) { W2 with drawn := W2.drawn + 1 } := ⟨e4, d1, d2⟩
      refine wpAnyH_take (i := 0) (v := (.pointer (some ⟨w.heap.size + 1 + 1 + 1, 0, none⟩))) rfl (by kernel_rfl) (by kernel_rfl) (by kernel_rfl) (fun _ _ _ h => h) (.inl ⟨by kernel_rfl, fun w' hS' => by obtain ⟨s1, s2, s3⟩ := hS'; go_simp⟩) hS ?_
      go_simp
      refine wpAnyH_take (i := 1) (v := (.pointer (some ⟨w.heap.size + 1 + 1 + 1, 0, none⟩))) rfl (by kernel_rfl) (by kernel_rfl) (by kernel_rfl) (fun _ _ _ h => h) (.inl ⟨by kernel_rfl, fun w' hS' => by obtain ⟨s1, s2, s3⟩ := hS'; go_simp⟩) hS ?_
      go_simp
      refine wpAnyH_take (i := 2) (v := (.pointer (some ⟨w.heap.size + 1 + 1 + 1, 1, none⟩))) rfl (by kernel_rfl) (by kernel_rfl) (by kernel_rfl) (fun _ _ _ h => h) (.inl ⟨by kernel_rfl, fun w' hS' => by obtain ⟨s1, s2, s3⟩ := hS'; go_simp⟩) hS ?_
      go_simp
      refine wpAnyH_take (i := 3) (v := (.int .i64 (pre.length + 1))) rfl (by kernel_rfl) (by kernel_rfl) (by kernel_rfl) (fun _ _ _ h => h) (.inl ⟨by kernel_rfl, fun w' hS' => by obtain ⟨s1, s2, s3⟩ := hS'; go_simp⟩) hS ?_
      go_simp
      refine wpAnyH_take (i := 4) (v := (.pointer (some ⟨w.heap.size + 1 + 1 + 1, 0, none⟩))) rfl (by kernel_rfl) (by kernel_rfl) (by kernel_rfl) (fun _ _ _ h => h) (.inl ⟨by kernel_rfl, fun w' hS' => by obtain ⟨s1, s2, s3⟩ := hS'; go_simp⟩) hS ?_
      go_simp
      refine wpAnyH_take (i := 5) (v := (.pointer (some ⟨w.heap.size + 1 + 1 + 1, 0, none⟩))) rfl (by kernel_rfl) (by kernel_rfl) (by kernel_rfl) (fun _ _ _ h => h) (.inl ⟨by kernel_rfl, fun w' hS' => by obtain ⟨s1, s2, s3⟩ := hS'; go_simp⟩) hS ?_
      go_simp
      refine wpAnyH_take (i := 6) (v := (.pointer (some ⟨w.heap.size + 1 + 1 + 1, 2, none⟩))) rfl (by kernel_rfl) (by kernel_rfl) (by kernel_rfl) (fun _ _ _ h => h) (.inl ⟨by kernel_rfl, fun w' hS' => by obtain ⟨s1, s2, s3⟩ := hS'; go_simp⟩) hS ?_
      go_simp
      refine wpAnyH_take (i := 7) (v := (.int .i64 er)) rfl (by kernel_rfl) (by kernel_rfl) (by kernel_rfl) (fun _ _ _ h => h) (.inl ⟨by kernel_rfl, fun w' hS' => by obtain ⟨s1, s2, s3⟩ := hS'; go_simp⟩) hS ?_
      go_simp
      have keepS : ∀ (W : World) (p : Addr) (v : Value), (fun W : World => W.cell? ⟨w.heap.size + 1 + 1 + 1 + 1, 0, none⟩ = some (.pointer (some ⟨w.heap.size + 1 + 1 + 1, 0, none⟩)) ∧ W.cell? ⟨w.heap.size + 1 + 1 + 1, 1, none⟩ = some (.int .i64 (pre.length + 1)) ∧ W.cell? ⟨w.heap.size + 1 + 1 + 1, 2, none⟩ = some (.int .i64 er)) W → p.block < w.heap.size + 1 + 1 + 1 → (fun W : World => W.cell? ⟨w.heap.size + 1 + 1 + 1 + 1, 0, none⟩ = some (.pointer (some ⟨w.heap.size + 1 + 1 + 1, 0, none⟩)) ∧ W.cell? ⟨w.heap.size + 1 + 1 + 1, 1, none⟩ = some (.int .i64 (pre.length + 1)) ∧ W.cell? ⟨w.heap.size + 1 + 1 + 1, 2, none⟩ = some (.int .i64 er)) (W.setCell p v) := by
        rintro W p v ⟨s1, s2, s3⟩ hp
        exact ⟨(World.cell?_setCell_other W p _ v (by rintro rfl; simp at hp; omega)).trans s1, (World.cell?_setCell_other W p _ v (by rintro rfl; simp at hp)).trans s2, (World.cell?_setCell_other W p _ v (by rintro rfl; simp at hp)).trans s3⟩
      have KS := Lib.hid keepS
      have HS := Lib.hid hS
      clear keepS hS
      refine wpAnyH_all (rs := [8]) (by kernel_rfl) (by simp) (fun i hi => ?_)
      obtain rfl : i = 8 := by simpa using hi
      refine wpOp_step rfl (fun K' hK' => ?_)
      rw [if_pos (by kernel_rfl)]
      go_simp
      refine hK' _ _ ⟨KS.out _ ⟨w.heap.size, 0, none⟩ _ HS.out (by simp; omega), ?_⟩
      clear hK' hi
      refine wpAnyH_all (rs := [9]) (by kernel_rfl) (by simp) (fun i hi => ?_)
      obtain rfl : i = 9 := by simpa using hi
      refine wpOp_step rfl (fun K' hK' => ?_)
      rw [if_pos (by kernel_rfl)]
      go_simp
      refine hK' _ _ ⟨KS.out _ ⟨w.heap.size + 1, 0, none⟩ _ (KS.out _ ⟨w.heap.size, 0, none⟩ _ HS.out (by simp; omega)) (by simp), ?_⟩
      clear hK' hi
      refine wpAnyH_all (rs := [10]) (by kernel_rfl) (by simp) (fun i hi => ?_)
      obtain rfl : i = 10 := by simpa using hi
      refine wpOp_step rfl (fun K' hK' => ?_)
      rw [if_pos (by kernel_rfl)]
      go_simp
      refine hK' _ _ ⟨KS.out _ ⟨w.heap.size + 1 + 1, 0, none⟩ _ (KS.out _ ⟨w.heap.size + 1, 0, none⟩ _ (KS.out _ ⟨w.heap.size, 0, none⟩ _ HS.out (by simp; omega)) (by simp)) (by simp), ?_⟩
      clear hK' hi
      refine wpAnyH_done (by kernel_rfl) ?_ _
      gi_wp2
      have hss : W.heap.size ≤ W2.heap.size := by have := hb2.size; simpa [World.setCell] using this
      refine ⟨?_, rfl, pre, x, ts, er, rfl, HOK.out, by rw [HR1.out], her, ?_⟩
      · have hk0 := ScI.keeps (B := w.heap.size + 1 + 1 + 1 + 1 + 1 + 1 + 1 + 1) (by omega) hss ho2
        have hk3 := keepsFrom_set (keepsFrom_set (keepsFrom_set hk0 ⟨w.heap.size, 0, none⟩ (.slice none 0 0) (by simp; omega)) ⟨w.heap.size + 1, 0, none⟩ (.int .i64 (pre.length + 1)) (by simp)) ⟨w.heap.size + 1 + 1, 0, none⟩ (.int .i64 er) (by simp)
        exact ⟨hk3.size, hk3.same⟩
      · refine ⟨?_, ?_, ?_, ?_⟩
        · exact ((Below.heap_setCell _ _ _ _ (by simp <;> omega)).trans (Below.heap_setCell _ _ _ _ (by simp <;> omega))).trans (blk_set (i := 0) _ K0.out)
        · exact (Below.heap_setCell _ _ _ _ (by simp <;> omega)).trans (blk_set (i := 0) _ ((Below.heap_setCell _ _ _ _ (by simp <;> omega)).trans K1.out))
        · exact blk_set (i := 0) _ ((Below.heap_setCell _ _ _ _ (by simp <;> omega)).trans ((Below.heap_setCell _ _ _ _ (by simp <;> omega)).trans K2.out))
        · exact ((((hbe2.setCell (p := ⟨w.heap.size, 0, none⟩) (by simp <;> omega) _).setCell (p := ⟨w.heap.size + 1, 0, none⟩) (by simp <;> omega) _).setCell (p := ⟨w.heap.size + 1 + 1, 0, none⟩) (by simp <;> omega) _)).drew
  case done =>
    rintro D ys W hD hS ⟨ts, hok, htl, hi⟩ hK
    obtain ⟨hbg, v, hsc, hown⟩ := hi.sc
    obtain ⟨A, c, rfl⟩ := own_form hown
    have e4 := (show Blk W _ _ _ from hi.bx).cell 0
    have e0 := (show Blk W _ _ _ from hi.r0).cell 0
    have e1 := (show Blk W _ _ _ from hi.r1).cell 0
    have e2 := (show Blk W _ _ _ from hi.r2).cell 0
    have v0 := (show Blk W _ _ _ from hi.r0).frozen 0
    have v1 := (show Blk W _ _ _ from hi.r1).frozen 0
    have v2 := (show Blk W _ _ _ from hi.r2).frozen 0
    have g0 := (show Blk W _ _ _ from hsc).cell 0
    have HI := Lib.hid hi
    have HS := Lib.hid hS
    have HK := Lib.hid hK
    have HOK := Lib.hid hok
    clear hi hS hK hok
    gi_wp2
    have hDD : w.heap.size + 1 + 1 + 1 + 1 + 1 + 2 < D := by simp at hD; omega
    have s0 : (((W.setCell ⟨w.heap.size, 0, none⟩ (.slice A ts.length c)).setCell ⟨w.heap.size + 1, 0, none⟩ (.int .i64 0)).setCell ⟨w.heap.size + 1 + 1, 0, none⟩ (.int .i64 0)).heap[D]? = some (.deferred (some [])) :=
      (Below.heap_setCell _ _ _ _ (by simp <;> omega)).trans ((Below.heap_setCell _ _ _ _ (by simp <;> omega)).trans ((Below.heap_setCell _ _ _ _ (by simp <;> omega)).trans HK.out))
    have b0 := ((Below.heap_setCell _ ⟨w.heap.size + 1 + 1, 0, none⟩ (.int .i64 0) _ (by simp <;> omega)).trans (Below.heap_setCell _ ⟨w.heap.size + 1, 0, none⟩ (.int .i64 0) _ (by simp <;> omega))).trans (blk_set (i := 0) (.slice A ts.length c) HI.out.r0)
    have b1 := (Below.heap_setCell _ ⟨w.heap.size + 1 + 1, 0, none⟩ (.int .i64 0) _ (by simp <;> omega)).trans (blk_set (i := 0) (.int .i64 0) ((Below.heap_setCell _ ⟨w.heap.size, 0, none⟩ (.slice A ts.length c) _ (by simp <;> omega)).trans HI.out.r1))
    have b2 := blk_set (i := 0) (.int .i64 0) ((Below.heap_setCell _ ⟨w.heap.size + 1, 0, none⟩ (.int .i64 0) _ (by simp <;> omega)).trans ((Below.heap_setCell _ ⟨w.heap.size, 0, none⟩ (.slice A ts.length c) _ (by simp <;> omega)).trans HI.out.r2))
    refine scan_end s0 rfl rfl rfl rfl ((show Blk _ _ _ _ from b0).cell 0) ((show Blk _ _ _ _ from b1).cell 0) ((show Blk _ _ _ _ from b2).cell 0) ?_
    have hfin : SRes.ok ts = scanLs (linesL 10 (s.size + 1) s.data.toList) 0 [] := by
      have h1 := HOK.out
      have h2 : bytesOf ys = linesL 10 (s.size + 1) s.data.toList := HS.out
      rw [h2] at h1
      have := scanLs_append _ [] 0 [] ts h1
      rw [List.append_nil] at this
      rw [this]; rfl
    rw [← hfin]
    refine ⟨?_, .slice A ts.length c, rfl, ?_⟩
    · have hb := (((HI.out.be.setCell (p := ⟨w.heap.size, 0, none⟩) (by simp) (.slice A ts.length c)).setCell (p := ⟨w.heap.size + 1, 0, none⟩) (by simp) (.int .i64 0)).setCell (p := ⟨w.heap.size + 1 + 1, 0, none⟩) (by simp <;> omega) (.int .i64 0))
      exact hb.trans (belowK_b (w := w) (Nat.le_refl _) _ D _ _ (by omega) s0 rfl rfl)
    · have n0 := own_blk_ne (t := 23) hown (show Blk W _ _ _ from HI.out.r0) (by decide)
      have o1 := hown.kept (row := some w.heap.size) (grownBy_setCell (p := ⟨w.heap.size, 0, none⟩) (World.grownBy.refl _ _) (.inl rfl) (.slice A ts.length c)) (.inr n0)
      have n1 := own_blk_ne (t := 3) o1 (show Blk _ (w.heap.size + 1) _ _ from (Below.heap_setCell _ ⟨w.heap.size, 0, none⟩ (.slice A ts.length c) _ (by simp <;> omega)).trans HI.out.r1) (by decide)
      have o2 := o1.kept (row := some (w.heap.size + 1)) (grownBy_setCell (p := ⟨w.heap.size + 1, 0, none⟩) (World.grownBy.refl _ _) (.inl rfl) (.int .i64 0)) (.inr n1)
      have n2 := own_blk_ne (t := 34) o2 (show Blk _ (w.heap.size + 1 + 1) _ _ from (Below.heap_setCell _ ⟨w.heap.size + 1, 0, none⟩ (.int .i64 0) _ (by simp <;> omega)).trans ((Below.heap_setCell _ ⟨w.heap.size, 0, none⟩ (.slice A ts.length c) _ (by simp <;> omega)).trans HI.out.r2)) (by decide)
      have o3 := o2.kept (row := some (w.heap.size + 1 + 1)) (grownBy_setCell (p := ⟨w.heap.size + 1 + 1, 0, none⟩) (World.grownBy.refl _ _) (.inl rfl) (.int .i64 0)) (.inr n2)
      exact ownsRow_putObj o3 _ s0 rfl
  case stop =>
    rintro D c pre W hD hpre ⟨rfl, p, x, ts, er, rfl, hok, her, hne, hx⟩ hK
    obtain ⟨c0, c1, c2⟩ := hx.cells
    have HOK := Lib.hid hok
    have HER := Lib.hid her
    clear hok her
    gi_wp2
    refine scan_end hK rfl rfl rfl rfl c0 c1 c2 ?_
    obtain ⟨q, hq⟩ := hpre
    have hfin : SRes.er (p.length + 1) er = scanLs (linesL 10 (s.size + 1) s.data.toList) 0 [] := by
      rw [← hq, show List.map (fun y : Piece 4096 => y.1.data.toList) (p ++ [x]) ++ q = bytesOf p ++ (x.1.data.toList :: q) from by simp [bytesOf], scanLs_append _ _ _ _ _ HOK.out]
      simp only [scanLs, bytesOf, List.length_map, Nat.zero_add]
      rw [if_neg (by rw [HER.out]; exact hne), HER.out]
    rw [← hfin]
    exact ⟨hx.be.trans (belowK_b (w := w) (Nat.le_refl _) _ D _ _ (by simp at hD; omega) hK rfl rfl), rfl⟩
end Go.Proofs.YtnibnkblkabalaaDoor
