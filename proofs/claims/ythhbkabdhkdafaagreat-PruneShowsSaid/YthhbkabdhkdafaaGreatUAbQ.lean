/- Part of a proof of pruneShows_holds. -/
import Derived.Test.YthhbkabdhkdafaaGreatProg
import Derived.WalkKit
import Derived.WalkSpells
import Derived.WalkLawsBesides
import Derived.Lib.Hide
import Derived.Lib.IndexBytes
import Derived.Deep.QuietTactic
import Derived.BigQuiet
import Derived.OpenShut
import Derived.Laws.OwnMore
import Derived.Deep.AppendLies
import Derived.Deep.Draws
import Derived.Laws.Rows
import Derived.Maps.AppendAt
import Derived.RegionTactic
import Derived.OwnWalk
import Derived.Lib.ItoaMem
import Derived.Lib.ItoaNum
import Derived.Laws.IdiomStrings
set_option linter.unusedSimpArgs false
set_option linter.unusedVariables false
namespace Go.Proofs.YthhbkabdhkdafaaGreat
section
open Go.RowKit
theorem ret_bool {a b : Bool} (h : a = b) : Ending.returned (.bool a) = .returned (.bool b) := by rw [h]
theorem ret_int {k : IntKind} {a b : Int} (h : a = b) : Ending.returned (.int k a) = .returned (.int k b) := by rw [h]
theorem size_data (s : ByteArray) : s.data.toList.length = s.size := by simp
theorem isEmpty_dec (s : ByteArray) : s.toList.isEmpty = decide (s.size = 0) := by
 rw [← decide_eq_emptyBytes]
 have : s = ByteArray.empty ↔ s.size = 0 := ⟨fun h => by subst h; rfl, fun h => by
   apply ByteArray.ext; apply Array.ext'; exact List.eq_nil_of_length_eq_zero (by simpa using h)⟩
 exact decide_eq_decide.2 this
theorem str_nil {s : ByteArray} (h : s.size = 0) : s.toList = [] := by
 have h2 := isEmpty_dec s; rw [decide_eq_true h] at h2; exact List.isEmpty_iff.1 h2
theorem str_empty {s : ByteArray} (h : s.size = 0) : (!s.toList.isEmpty) = false := by rw [isEmpty_dec]; simp [h]
theorem str_ne {s : ByteArray} (h : s.size ≠ 0) : s.toList.isEmpty = false := by rw [isEmpty_dec]; simp [h]
theorem add_block (a : Addr) (n : Nat) : (a.add n).block = a.block := by unfold Addr.add; split <;> rfl
theorem block_of_add (a : Addr) (n : Nat) : (a.add n).block = a.block := by unfold Addr.add; split <;> rfl
theorem add_of_add (a : Addr) (i j : Nat) : (a.add i).add j = a.add (i + j) := by
 unfold Addr.add
 by_cases hi : i = 0 <;> by_cases hj : j = 0 <;> simp [hi, hj, Nat.add_assoc]

def Reads (w : World) (B size : Nat) (A : Option Addr) (n : Nat) (xs : List Value) : Prop :=
 xs.length = n * size ∧ (0 < n → ∃ ad, A = some ad ∧ ad.block < B ∧ ∀ j u, xs[j]? = some u → w.cell? (ad.add j) = some u)

section
variable {w w' : World} {B B' size n : Nat} {A : Option Addr} {xs : List Value}
theorem Reads.none_ : Reads w B size A 0 [] := ⟨by simp, fun h => absurd h (by omega)⟩
theorem Reads.at_ {k : Nat} (h : Reads w B 1 A n xs) (hk : k < n) : ∃ ad u, A = some ad ∧ ad.block < B ∧ xs[k]? = some u ∧ w.cell? (ad.add k) = some u := by
 obtain ⟨ad, e, hb, hc⟩ := h.2 (by omega)
 have hl : k < xs.length := by have := h.1; omega
 exact ⟨ad, xs[k], e, hb, List.getElem?_eq_getElem hl, hc k _ (List.getElem?_eq_getElem hl)⟩
theorem Reads.keep (h : Reads w B size A n xs) (hk : ∀ p : Addr, p.block < B → w'.cell? p = w.cell? p) : Reads w' B size A n xs :=
 ⟨h.1, fun hn => by
   obtain ⟨ad, e, hb, hc⟩ := h.2 hn
   exact ⟨ad, e, hb, fun j u hu => (hk _ (by rw [block_of_add]; exact hb)).trans (hc j u hu)⟩⟩
theorem Reads.below (h : Reads w B size A n xs) (hb : Below B w w') : Reads w' B size A n xs := h.keep fun _ hp => hb.cell hp
theorem Reads.drew (h : Reads w B size A n xs) : Reads w.drew B size A n xs := h
theorem Reads.of_own {base : Nat} {e : TypeId} {c : Nat} (h : w.ownsRow base e size (.slice A n c) n xs) : Reads w w.heap.size size A n xs := by
 refine ⟨h.1, fun hn => ?_⟩
 obtain ⟨g, cap, hv, _, hlt⟩ := h.form hn
 have hA : A = some ⟨g, 0, none⟩ := by injection hv
 subst hA
 exact ⟨_, rfl, hlt, h.cells (g := g) rfl⟩
end
def Blk (w : World) (g : Nat) (t : TypeId) (cs : Array Value) : Prop := w.heap[g]? = some (.cells cs t (0, 0))

section
variable {w w' : World} {g : Nat} {t : TypeId} {cs : Array Value}
theorem Blk.lt (h : Blk w g t cs) : g < w.heap.size := by
 rcases Nat.lt_or_ge g w.heap.size with hlt | hge
 · exact hlt
 · unfold Blk at h; rw [Array.getElem?_eq_none hge] at h; cases h
theorem Blk.cell (h : Blk w g t cs) (i : Nat) : w.cell? ⟨g, i, none⟩ = cs[i]? := cell_of_row w g i cs t (0, 0) h
theorem Blk.frozen (h : Blk w g t cs) (i : Nat) : w.frozen? ⟨g, i, none⟩ = false := by
 unfold Blk at h
 simp [World.frozen?, h]
theorem Blk.new (w : World) (t : TypeId) (cs : Array Value) : Blk (w.alloc (.cells cs t)) w.heap.size t cs := heap_alloc_new w _
theorem Blk.drew (h : Blk w g t cs) : Blk w.drew g t cs := h
theorem Blk.alloc (h : Blk w g t cs) (o : Obj) : Blk (w.alloc o) g t cs := (Below.heap_alloc w o g h.lt).trans h
theorem Blk.set_ (h : Blk w g t cs) (i : Nat) (u : Value) : Blk (w.setCell ⟨g, i, none⟩ u) g t (cs.setIfInBounds i u) := by
 unfold Blk at h ⊢
 simp [World.setCell, Array.getElem?_modify, h]
theorem Blk.far (h : Blk w g t cs) {p : Addr} (hp : g ≠ p.block) (u : Value) : Blk (w.setCell p u) g t cs := (Below.heap_setCell w p u g hp).trans h
theorem Blk.below {B : Nat} (h : Blk w g t cs) (hb : Below B w w') (hg : g < B) : Blk w' g t cs := (hb.block g hg).trans h
theorem Blk.grown {row : Option Nat} (h : Blk w g t cs) (hb : w.grownBy w' row) (hg : some g ≠ row) : Blk w' g t cs := (hb.block g h.lt hg).trans h
theorem Blk.ne_ {g' : Nat} {t' : TypeId} {cs' : Array Value} (h : Blk w g t cs) (h' : Blk w g' t' cs') (hne : t ≠ t') : g ≠ g' := by
 rintro rfl
 unfold Blk at h h'
 rw [h] at h'
 injection h' with h'
 injection h' with _ ht
 exact hne ht
theorem own_blk_ne {base : Nat} {e : TypeId} {size n : Nat} {v : Value} {xs : List Value} (h : w.ownsRow base e size v n xs) (hg : Blk w g t cs) (hne : e ≠ t) : v.ownBlock ≠ some g := by
 rcases h.2 with ⟨rfl, _⟩ | ⟨g', cap, cur, rfl, _, hh, _⟩
 · simp [Value.ownBlock]
 · intro he
   have : g' = g := by simpa [Value.ownBlock] using he
   subst this
   exact Blk.ne_ (t := e) hh hg hne rfl
end
section
variable {P : Program} (w : World)

theorem run_append_of_nil (base : Nat) (t ty e : TypeId) (i : TypeInfo) (size : Nat) (ht : P.underlying t = some (.slice e)) (hi : P.info? e = some i)
   (v : Value) (n : Nat) (xs : List Value) (hown : w.ownsRow base e size v n xs) (c : Nat) : (Builtin.append_ #[t, t] ty #[v, .slice none 0 c]).run P w = .ok v w := by
 rcases hown.2 with ⟨rfl, rfl⟩ | ⟨g, cap, cur, rfl, _, _, hnc, _⟩
 · simp [Builtin.append_, run_underlying ht, sizeOf, typeInfo, hi, Builtin.lenOf, Builtin.firstCells]
 · simp [Builtin.append_, run_underlying ht, sizeOf, typeInfo, hi, Builtin.lenOf, Builtin.firstCells, hnc, storeCells]

theorem run_append_any (base : Nat) (t ty e : TypeId) (i : TypeInfo) (z : Value) (size bytes : Nat) (ht : P.underlying t = some (.slice e)) (hi : P.info? e = some i) (hz : i.zero = some z)
   (hsize : i.size = size) (hby : i.bytes = bytes) (hzs : z.cells.size = size) (hsz : 0 < size)
   (v : Value) (n : Nat) (xs : List Value) (hown : w.ownsRow base e size v n xs)
   (B : Nat) (A : Option Addr) (m c : Nat) (news : List Value) (hr : Reads w B size A m news) (h1 : ∀ u ∈ news, u.oneCell' = true)
   (h63 : n + m ≤ maxLen) (hbytes : (n + m) * bytes ≤ 140737488355328) (hbase : base ≤ w.heap.size) :
   ∃ v' w', (Builtin.append_ #[t, t] ty #[v, .slice A m c]).run P w = .ok v' w' ∧ w'.ownsRow base e size v' (n + m) (xs ++ news) ∧ w.grownBy w' v.ownBlock ∧
     (v'.ownBlock = v.ownBlock ∨ v'.ownBlock = some w.heap.size) := by
 rcases A with _ | ad
 · have hm : m = 0 := by
     rcases Nat.eq_zero_or_pos m with h0 | h0
     · exact h0
     · obtain ⟨ad, h, _⟩ := hr.2 h0
       cases h
   subst hm
   have hn : news = [] := List.eq_nil_of_length_eq_zero (by simpa using hr.1)
   subst hn
   exact ⟨v, w, run_append_of_nil w base t ty e i size ht hi v n xs hown c, by simpa using hown, World.grownBy.refl w _, .inl rfl⟩
 · have hcells : ∀ j u, news[j]? = some u → w.cell? (ad.add j) = some u := by
     intro j u hu
     rcases Nat.eq_zero_or_pos m with h0 | h0
     · subst h0
       have hn : news = [] := List.eq_nil_of_length_eq_zero (by simpa using hr.1)
       subst hn
       simp at hu
     · obtain ⟨ad', h, _, hc⟩ := hr.2 h0
       injection h with h
       subst h
       exact hc j u hu
   obtain ⟨v', w', hrun, h2, h3, _, h5⟩ := run_append_own_at (P := P) w base t ty e i z size bytes ht hi hz hsize hby hzs hsz v n xs hown ad m c news hr.1 hcells h1 h63 hbytes hbase
   exact ⟨v', w', hrun, h2, h3, h5⟩

theorem wp_append_any {o : Oper} {a : Act} {K : Act → World → Prop} {Q : Exit → Act → World → Prop} (s x : Operand) (t : TypeId)
   (ho : o.op = .call { callee := .builtin .append, args := #[s, x], argTypes := #[t, t] })
   (base : Nat) (e : TypeId) (i : TypeInfo) (z : Value) (size bytes : Nat) (ht : P.underlying t = some (.slice e)) (hi : P.info? e = some i) (hz : i.zero = some z)
   (hsize : i.size = size) (hby : i.bytes = bytes) (hzs : z.cells.size = size) (hsz : 0 < size)
   (v : Value) (n : Nat) (xs : List Value) (hs : a.eval s = v) (hown : w.ownsRow base e size v n xs)
   (B : Nat) (A : Option Addr) (m c : Nat) (news : List Value) (hx : a.eval x = .slice A m c) (hr : Reads w B size A m news) (h1 : ∀ u ∈ news, u.oneCell' = true)
   (h63 : n + m ≤ maxLen) (hbytes : (n + m) * bytes ≤ 140737488355328) (hbase : base ≤ w.heap.size)
   (h : ∀ v' w', w'.ownsRow base e size v' (n + m) (xs ++ news) → w.grownBy w' v.ownBlock → (v'.ownBlock = v.ownBlock ∨ v'.ownBlock = some w.heap.size) → K (a.put o.dst v') w') : o.wp P a w K Q := by
 obtain ⟨v', w', hrun, h2, h3, h4⟩ := run_append_any (P := P) w base t o.type e i z size bytes ht hi hz hsize hby hzs hsz v n xs hown B A m c news hr h1 h63 hbytes hbase
 unfold Oper.wp execOp
 simp only [ho, resolve, invoke, builtin, Sem.run_bind, Sem.run_pure, Result.andThen_ok, List.map_toArray, List.map_cons, List.map_nil, hs, hx, hrun]
 exact h v' w' h2 h3 h4

theorem wpList_append_any {ops : Array Oper} {rest : List Oper} {o : Oper} {a : Act} {Q : Exit → Act → World → Prop} (hgd : o.guard = none) (s x : Operand) (t : TypeId)
   (ho : o.op = .call { callee := .builtin .append, args := #[s, x], argTypes := #[t, t] })
   (base : Nat) (e : TypeId) (i : TypeInfo) (z : Value) (size bytes : Nat) (ht : P.underlying t = some (.slice e)) (hi : P.info? e = some i) (hz : i.zero = some z)
   (hsize : i.size = size) (hby : i.bytes = bytes) (hzs : z.cells.size = size) (hsz : 0 < size)
   (v : Value) (n : Nat) (xs : List Value) (hs : a.eval s = v) (hown : w.ownsRow base e size v n xs)
   (B : Nat) (A : Option Addr) (m c : Nat) (news : List Value) (hx : a.eval x = .slice A m c) (hr : Reads w B size A m news) (h1 : ∀ u ∈ news, u.oneCell' = true)
   (h63 : n + m ≤ maxLen) (hbytes : (n + m) * bytes ≤ 140737488355328) (hbase : base ≤ w.heap.size)
   (h : ∀ v' w', w'.ownsRow base e size v' (n + m) (xs ++ news) → w.grownBy w' v.ownBlock → (v'.ownBlock = v.ownBlock ∨ v'.ownBlock = some w.heap.size) → wpList P ops Q rest (a.put o.dst v') w') : wpList P ops Q (o :: rest) a w :=
 wpList_plain hgd fun _ hK => wp_append_any w s x t ho base e i z size bytes ht hi hz hsize hby hzs hsz v n xs hs hown B A m c news hx hr h1 h63 hbytes hbase fun v' w' h2 h3 h4 => hK _ _ (h v' w' h2 h3 h4)

theorem step_append_any {ops : Array Oper} {o : Oper} {a : Act} {K : Act → World → Prop} {Q : Exit → Act → World → Prop} {E : Prop} (hgd : o.guard = none) (s x : Operand) (t : TypeId)
   (ho : o.op = .call { callee := .builtin .append, args := #[s, x], argTypes := #[t, t] })
   (base : Nat) (e : TypeId) (i : TypeInfo) (z : Value) (size bytes : Nat) (ht : P.underlying t = some (.slice e)) (hi : P.info? e = some i) (hz : i.zero = some z)
   (hsize : i.size = size) (hby : i.bytes = bytes) (hzs : z.cells.size = size) (hsz : 0 < size)
   (v : Value) (n : Nat) (xs : List Value) (hs : a.eval s = v) (hown : w.ownsRow base e size v n xs)
   (B : Nat) (A : Option Addr) (m c : Nat) (news : List Value) (hx : a.eval x = .slice A m c) (hr : Reads w B size A m news) (h1 : ∀ u ∈ news, u.oneCell' = true)
   (h63 : n + m ≤ maxLen) (hbytes : (n + m) * bytes ≤ 140737488355328) (hbase : base ≤ w.heap.size)
   (h : ∀ v' w', w'.ownsRow base e size v' (n + m) (xs ++ news) → w.grownBy w' v.ownBlock → (v'.ownBlock = v.ownBlock ∨ v'.ownBlock = some w.heap.size) → K (a.put o.dst v') w') :
   if Region.wanted o (yielded ops a.tmps) = true then Oper.wp P o a w K Q else E := by
 have hw : Region.wanted o (yielded ops a.tmps) = true := by simp [Region.wanted, hgd]
 rw [if_pos hw]
 exact wp_append_any w s x t ho base e i z size bytes ht hi hz hsize hby hzs hsz v n xs hs hown B A m c news hx hr h1 h63 hbytes hbase h
end
theorem add_off (a : Addr) (i j : Nat) : a.add (i + (j + 1)) = ⟨(a.add i).block, (a.add i).off + (j + 1), none⟩ := by
 unfold Addr.add
 by_cases h : i = 0
 · subst h; simp
 · simp [h, show i + (j + 1) ≠ 0 from by omega, Nat.add_assoc]
theorem grownBy_trans {a b c : World} {r : Option Nat} (h : a.grownBy b r) (k : b.grownBy c r) : a.grownBy c r :=
 ⟨k.os.trans h.os, k.tape.trans h.tape, k.output.trans h.output, Nat.le_trans h.size k.size, fun i hi hn => (k.block i (Nat.lt_of_lt_of_le hi h.size) hn).trans (h.block i hi hn)⟩
theorem grownBy_drewN {a w : World} {row : Option Nat} (h : a.grownBy w row) (n : Nat) : a.grownBy (w.drewN n) row := ⟨h.os, h.tape, h.output, h.size, h.block⟩
theorem grownBy_alloc {a w : World} {row : Option Nat} (h : a.grownBy w row) (o : Obj) : a.grownBy (w.alloc o) row :=
 ⟨h.os, h.tape, h.output, Nat.le_trans h.size (by simp), fun i hi hne => (Below.heap_alloc w o i (Nat.lt_of_lt_of_le hi h.size)).trans (h.block i hi hne)⟩
theorem grownBy_setCell {a w : World} {g : Nat} (h : a.grownBy w (some g)) {p : Addr} (hp : p.block = g ∨ a.heap.size ≤ p.block) (u : Value) : a.grownBy (w.setCell p u) (some g) :=
 ⟨h.os, h.tape, h.output, by simpa [World.setCell] using h.size, fun i hi hne => (Below.heap_setCell w p u i (by
   rintro rfl
   rcases hp with hp | hp
   · exact hne (by rw [hp])
   · omega)).trans (h.block i hi hne)⟩
theorem grownBy_of_below {a w : World} (h : Below a.heap.size a w) (row : Option Nat) : a.grownBy w row := ⟨h.os, h.tape, h.output, h.size, fun i hi _ => h.block i hi⟩
theorem blk_set {w : World} {g i : Nat} {t : TypeId} {cs : Array Value} (u : Value) (h : w.heap[g]? = some (.cells cs t (0, 0))) : (w.setCell ⟨g, i, none⟩ u).heap[g]? = some (.cells (cs.setIfInBounds i u) t (0, 0)) := by
 simp [World.setCell, Array.getElem?_modify, h]
theorem own_form {w : World} {B : Nat} {T size : Nat} {v : Value} {n : Nat} {xs : List Value} (h : w.ownsRow B T size v n xs) : ∃ A c, v = .slice A n c := by
 rcases h.2 with ⟨hv, h0⟩ | ⟨g, cap, cur, hv, _⟩
 · exact ⟨none, 0, by rw [hv, h0]⟩
 · exact ⟨_, _, hv⟩
theorem below_own {B : Nat} {a w w' : World} {T size : Nat} {v : Value} {n : Nat} {xs : List Value} (h : Below B a w) (hown : w.ownsRow B T size v n xs) (hg : w.grownBy w' v.ownBlock) (hB : B ≤ w.heap.size) : Below B a w' :=
 h.grown hg hB (fun k hk => (hown.lt k hk).1)
structure Rul where
 nm : ByteArray
 fr : Int
 tz : Int
 need : List Int
 give : List Int
structure Mdl where
 ss : List ByteArray
 ps : List ByteArray
 rs : List Rul
 st : Int
 cs : List Int
/-! ### what rules do -/
def letterB (c : UInt8) : Bool := decide (97 ≤ c.toNat) && decide (c.toNat ≤ 122)
def digitB (c : UInt8) : Bool := decide (48 ≤ c.toNat) && decide (c.toNat ≤ 57)
def partB (c : UInt8) : Bool := letterB c || digitB c || decide (c.toNat = 95)
def runL (p : UInt8 → Bool) (l : List UInt8) : Nat := (l.takeWhile p).length
theorem runL_le (p : UInt8 → Bool) (l : List UInt8) : runL p l ≤ l.length := by
 unfold runL; exact List.Sublist.length_le (List.takeWhile_sublist _)
theorem runL_lt {p : UInt8 → Bool} {l : List UInt8} {k : Nat} (hk : k ≤ runL p l) (hl : k < l.length) (hp : p l[k] = true) : k + 1 ≤ runL p l := by
 unfold runL at *
 induction l generalizing k with
 | nil => simp at hl
 | cons a l ih =>
   cases k with
   | zero => simp at hp; simp [List.takeWhile_cons, hp]
   | succ k =>
     by_cases ha : p a = true
     · simp only [List.takeWhile_cons, ha, if_true, List.length_cons] at hk ⊢
       have := ih (k := k) (by omega) (by simpa using hl) (by simpa using hp)
       omega
     · simp [List.takeWhile_cons, ha] at hk
theorem runL_eq {p : UInt8 → Bool} {l : List UInt8} {k : Nat} (hk : k ≤ runL p l) (hl : k < l.length) (hp : p l[k] = false) : runL p l = k := by
 unfold runL at *
 induction l generalizing k with
 | nil => simp at hl
 | cons a l ih =>
   cases k with
   | zero => simp at hp; simp [List.takeWhile_cons, hp]
   | succ k =>
     by_cases ha : p a = true
     · simp only [List.takeWhile_cons, ha, if_true, List.length_cons] at hk ⊢
       have := ih (k := k) (by omega) (by simpa using hl) (by simpa using hp)
       omega
     · simp [List.takeWhile_cons, ha] at hk
def wordL (l : List UInt8) : Bool := !l.isEmpty && decide (l.length ≤ 12) && letterB (l.headD 0) && decide (runL partB l = l.length)
theorem wordL_eq (s : ByteArray) : wordL s.data.toList = (decide (s.size ≠ 0) && decide (s.size ≤ 12) && letterB (s.data.toList.headD 0) && decide (runL partB s.data.toList = s.size)) := by
 have h := size_data s
 have : s.data.toList.isEmpty = decide (s.size = 0) := by rw [Bool.eq_iff_iff, List.isEmpty_iff_length_eq_zero, h]; simp
 simp only [wordL, this, h]; simp
def numL (l : List UInt8) : Bool := !l.isEmpty && decide (l.length ≤ 7) && decide (runL digitB l = l.length) && (decide (l.headD 0 ≠ 48) || decide (l.length = 1))
def valL (l : List UInt8) : Nat := l.foldl (fun b c => 10 * b + (c.toNat - 48)) 0
def nlB (c : UInt8) : Bool := decide (c.toNat = 10)
def nl (l : List UInt8) : Nat := l.countP nlB
end
structure Ln where
 k : Int
 a : Int
 n : Int
structure Th where
 nm : ByteArray
 ls : List Ln
def kwValues : List UInt8 := [118, 97, 108, 117, 101, 115]
def kwThread : List UInt8 := [116, 104, 114, 101, 97, 100]
def kwEnd : List UInt8 := [101, 110, 100]
def kwOf (k : Nat) : List UInt8 :=
 if k = 1 then [115, 101, 116] else if k = 2 then [119, 104, 101, 110] else if k = 3 then [106, 117, 109, 112] else if k = 4 then [109, 97, 121, 98, 101]
 else if k = 5 then [115, 112, 97, 119, 110] else if k = 6 then [115, 116, 111, 112] else if k = 7 then [102, 97, 105, 108] else []
def kindOf (x : List UInt8) : Nat :=
 if x = kwOf 1 then 1 else if x = kwOf 2 then 2 else if x = kwOf 3 then 3 else if x = kwOf 4 then 4 else if x = kwOf 5 then 5 else if x = kwOf 6 then 6 else if x = kwOf 7 then 7 else 0
def argOf (k : Nat) : Nat := if k = 1 ∨ k = 2 then 1 else if k = 3 ∨ k = 4 then 2 else if k = 5 then 3 else 0
def namedL (x : List UInt8) : Bool := wordL x && !(x == kwValues || x == kwThread || x == kwEnd)

structure PS where
 v : Int
 ts : List Th
 op : Bool
 ns : List (List UInt8)
def valD (l : List UInt8) : Int := (valL l : Int)
def putLn (ts : List Th) (l : Ln) : List Th := match ts.getLast? with
 | none => ts
 | some t => ts.dropLast ++ [⟨t.nm, t.ls ++ [l]⟩]
def cutL (x : List UInt8) : List UInt8 × List UInt8 × Bool := (x.takeWhile (fun c => decide (c.toNat ≠ 32)), (x.dropWhile (fun c => decide (c.toNat ≠ 32))).tail, x.any fun c => decide (c.toNat = 32))
def rdLine (st : PS) (at_ : Nat) (key rest : List UInt8) (more : Bool) : Option PS :=
 if kindOf key = 0 then none
 else if argOf (kindOf key) = 0 then (if more then none else some { st with ts := putLn st.ts ⟨kindOf key, 0, at_⟩, ns := st.ns ++ [[]] })
 else if argOf (kindOf key) = 3 then (if namedL rest then some { st with ts := putLn st.ts ⟨kindOf key, 0, at_⟩, ns := st.ns ++ [rest] } else none)
 else if numL rest then some { st with ts := putLn st.ts ⟨kindOf key, valD rest, at_⟩, ns := st.ns ++ [[]] } else none
def rdText (st : PS) (at_ : Nat) (x : List UInt8) : Option PS :=
 if at_ = 1 then (if (cutL x).1 = kwValues ∧ numL (cutL x).2.1 = true then some { st with v := valD (cutL x).2.1 } else none)
 else if st.op = false then (if (cutL x).1 = kwThread ∧ namedL (cutL x).2.1 = true then some { st with ts := st.ts ++ [⟨⟨(cutL x).2.1.toArray⟩, []⟩], op := true } else none)
 else if x = kwEnd then some { st with op := false }
 else rdLine st at_ (cutL x).1 (cutL x).2.1 (cutL x).2.2
def rd (st : PS) (at_ : Nat) (x : List UInt8) : Option PS := if x.getLast? = some 10 then rdText st at_ x.dropLast else none
section
open Go.RowKit
theorem wrapI64 (k : Nat) (h : k < 100000) : IntKind.i64.wrap (k : Int) = k := by
 simp [IntKind.wrap, IntKind.bits, IntKind.signed]; omega
section
variable {w3 : World} {s : ByteArray} {C : Array Value} {cap : Nat}
end
end
end Go.Proofs.YthhbkabdhkdafaaGreat
