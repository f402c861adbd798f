/- Part of a proof of basisSets_holds. -/
import Derived.Test.YtbmheekaclmibaaGreatXPlnAQ
import Derived.Test.YtbmheekaclmibaaGreatRows
import Derived.WalkKit
import Derived.WalkSpells
import Derived.WalkLawsBesides
import Derived.Lib.IndexBytes
import Derived.Deep.QuietTactic
import Derived.BigQuiet
import Derived.OpenShut
import Derived.Laws.OwnMore
import Derived.Deep.AppendLies
import Derived.Deep.Draws
import Derived.Laws.Rows
import Derived.Maps.AppendAt
import Derived.RegionTactic
import Derived.OwnWalk
import Derived.Lib.AppendIntMem
set_option maxRecDepth 100000
set_option maxHeartbeats 16000000
namespace Go.Proofs.YtbmheekaclmibaaGreat
open Go.RowKit
set_option linter.unusedSimpArgs false
set_option linter.unusedVariables false
theorem ret_bool {a b : Bool} (h : a = b) : Ending.returned (.bool a) = .returned (.bool b) := by rw [h]
theorem ret_int {k : IntKind} {a b : Int} (h : a = b) : Ending.returned (.int k a) = .returned (.int k b) := by rw [h]
theorem add_block (a : Addr) (n : Nat) : (a.add n).block = a.block := by unfold Addr.add; split <;> rfl
theorem block_of_add (a : Addr) (n : Nat) : (a.add n).block = a.block := by unfold Addr.add; split <;> rfl
theorem add_of_add (a : Addr) (i j : Nat) : (a.add i).add j = a.add (i + j) := by
 unfold Addr.add
 by_cases hi : i = 0 <;> by_cases hj : j = 0 <;> simp [hi, hj, Nat.add_assoc]

def Reads (w : World) (B size : Nat) (A : Option Addr) (n : Nat) (xs : List Value) : Prop :=
 xs.length = n * size ∧ (0 < n → ∃ ad, A = some ad ∧ ad.block < B ∧ ∀ j u, xs[j]? = some u → w.cell? (ad.add j) = some u)

section
variable {w w' : World} {B B' size n : Nat} {A : Option Addr} {xs : List Value}
theorem Reads.at_ {k : Nat} (h : Reads w B 1 A n xs) (hk : k < n) : ∃ ad u, A = some ad ∧ ad.block < B ∧ xs[k]? = some u ∧ w.cell? (ad.add k) = some u := by
 obtain ⟨ad, e, hb, hc⟩ := h.2 (by omega)
 have hl : k < xs.length := by have := h.1; omega
 exact ⟨ad, xs[k], e, hb, List.getElem?_eq_getElem hl, hc k _ (List.getElem?_eq_getElem hl)⟩
theorem Reads.keep (h : Reads w B size A n xs) (hk : ∀ p : Addr, p.block < B → w'.cell? p = w.cell? p) : Reads w' B size A n xs :=
 ⟨h.1, fun hn => by
   obtain ⟨ad, e, hb, hc⟩ := h.2 hn
   exact ⟨ad, e, hb, fun j u hu => (hk _ (by rw [block_of_add]; exact hb)).trans (hc j u hu)⟩⟩
theorem Reads.more (h : Reads w B size A n xs) (hB : B ≤ B') : Reads w B' size A n xs :=
 ⟨h.1, fun hn => by
   obtain ⟨ad, e, hb, hc⟩ := h.2 hn
   exact ⟨ad, e, by omega, hc⟩⟩
theorem Reads.below (h : Reads w B size A n xs) (hb : Below B w w') : Reads w' B size A n xs := h.keep fun _ hp => hb.cell hp
theorem Reads.drew (h : Reads w B size A n xs) : Reads w.drew B size A n xs := h
theorem Reads.drewN (h : Reads w B size A n xs) (k : Nat) : Reads (w.drewN k) B size A n xs := h
theorem Reads.alloc (h : Reads w B size A n xs) (hB : B ≤ w.heap.size) (o : Obj) : Reads (w.alloc o) B size A n xs := h.keep fun p hp => World.cell?_alloc_lt w o p (by omega)
theorem Reads.setCell (h : Reads w B size A n xs) {p : Addr} (hB : B ≤ p.block) (u : Value) : Reads (w.setCell p u) B size A n xs :=
 h.keep fun q hq => World.cell?_setCell_other w p q u (fun e => by subst e; omega)
theorem Reads.grown (h : Reads w B size A n xs) {row : Option Nat} (hg : w.grownBy w' row) (hB : B ≤ w.heap.size) (hr : ∀ g, row = some g → B ≤ g) : Reads w' B size A n xs :=
 h.keep fun p hp => World.cell?_of_block (hg.block p.block (by omega) (fun e => by have := hr _ e.symm; omega))
end
def Blk (w : World) (g : Nat) (t : TypeId) (cs : Array Value) : Prop := w.heap[g]? = some (.cells cs t (0, 0))

section
variable {w w' : World} {g : Nat} {t : TypeId} {cs : Array Value}
theorem Blk.lt (h : Blk w g t cs) : g < w.heap.size := by
 rcases Nat.lt_or_ge g w.heap.size with hlt | hge
 · exact hlt
 · unfold Blk at h; rw [Array.getElem?_eq_none hge] at h; cases h
theorem Blk.cell (h : Blk w g t cs) (i : Nat) : w.cell? ⟨g, i, none⟩ = cs[i]? := cell_of_row w g i cs t (0, 0) h
theorem Blk.frozen (h : Blk w g t cs) (i : Nat) : w.frozen? ⟨g, i, none⟩ = false := by
 unfold Blk at h
 simp [World.frozen?, h]
theorem Blk.new (w : World) (t : TypeId) (cs : Array Value) : Blk (w.alloc (.cells cs t)) w.heap.size t cs := heap_alloc_new w _
theorem Blk.drew (h : Blk w g t cs) : Blk w.drew g t cs := h
theorem Blk.drewN (h : Blk w g t cs) (n : Nat) : Blk (w.drewN n) g t cs := h
theorem Blk.alloc (h : Blk w g t cs) (o : Obj) : Blk (w.alloc o) g t cs := (Below.heap_alloc w o g h.lt).trans h
theorem Blk.set_ (h : Blk w g t cs) (i : Nat) (u : Value) : Blk (w.setCell ⟨g, i, none⟩ u) g t (cs.setIfInBounds i u) := by
 unfold Blk at h ⊢
 simp [World.setCell, Array.getElem?_modify, h]
theorem Blk.far (h : Blk w g t cs) {p : Addr} (hp : g ≠ p.block) (u : Value) : Blk (w.setCell p u) g t cs := (Below.heap_setCell w p u g hp).trans h
theorem Blk.below {B : Nat} (h : Blk w g t cs) (hb : Below B w w') (hg : g < B) : Blk w' g t cs := (hb.block g hg).trans h
theorem Blk.grown {row : Option Nat} (h : Blk w g t cs) (hb : w.grownBy w' row) (hg : some g ≠ row) : Blk w' g t cs := (hb.block g h.lt hg).trans h
theorem Blk.ne_ {g' : Nat} {t' : TypeId} {cs' : Array Value} (h : Blk w g t cs) (h' : Blk w g' t' cs') (hne : t ≠ t') : g ≠ g' := by
 rintro rfl
 unfold Blk at h h'
 rw [h] at h'
 injection h' with h'
 injection h' with _ ht
 exact hne ht
theorem own_blk_ne {base : Nat} {e : TypeId} {size n : Nat} {v : Value} {xs : List Value} (h : w.ownsRow base e size v n xs) (hg : Blk w g t cs) (hne : e ≠ t) : v.ownBlock ≠ some g := by
 rcases h.2 with ⟨rfl, _⟩ | ⟨g', cap, cur, rfl, _, hh, _⟩
 · simp [Value.ownBlock]
 · intro he
   have : g' = g := by simpa [Value.ownBlock] using he
   subst this
   exact Blk.ne_ (t := e) hh hg hne rfl
end
section
variable {P : Program} (w : World)

theorem run_append_of_nil (base : Nat) (t ty e : TypeId) (i : TypeInfo) (size : Nat) (ht : P.underlying t = some (.slice e)) (hi : P.info? e = some i)
   (v : Value) (n : Nat) (xs : List Value) (hown : w.ownsRow base e size v n xs) (c : Nat) : (Builtin.append_ #[t, t] ty #[v, .slice none 0 c]).run P w = .ok v w := by
 rcases hown.2 with ⟨rfl, rfl⟩ | ⟨g, cap, cur, rfl, _, _, hnc, _⟩
 · simp [Builtin.append_, run_underlying ht, sizeOf, typeInfo, hi, Builtin.lenOf, Builtin.firstCells]
 · simp [Builtin.append_, run_underlying ht, sizeOf, typeInfo, hi, Builtin.lenOf, Builtin.firstCells, hnc, storeCells]

theorem run_append_any (base : Nat) (t ty e : TypeId) (i : TypeInfo) (z : Value) (size bytes : Nat) (ht : P.underlying t = some (.slice e)) (hi : P.info? e = some i) (hz : i.zero = some z)
   (hsize : i.size = size) (hby : i.bytes = bytes) (hzs : z.cells.size = size) (hsz : 0 < size)
   (v : Value) (n : Nat) (xs : List Value) (hown : w.ownsRow base e size v n xs)
   (B : Nat) (A : Option Addr) (m c : Nat) (news : List Value) (hr : Reads w B size A m news) (h1 : ∀ u ∈ news, u.oneCell' = true)
   (h63 : n + m ≤ maxLen) (hbytes : (n + m) * bytes ≤ 140737488355328) (hbase : base ≤ w.heap.size) :
   ∃ v' w', (Builtin.append_ #[t, t] ty #[v, .slice A m c]).run P w = .ok v' w' ∧ w'.ownsRow base e size v' (n + m) (xs ++ news) ∧ w.grownBy w' v.ownBlock ∧
     (v'.ownBlock = v.ownBlock ∨ v'.ownBlock = some w.heap.size) := by
 rcases A with _ | ad
 · have hm : m = 0 := by
     rcases Nat.eq_zero_or_pos m with h0 | h0
     · exact h0
     · obtain ⟨ad, h, _⟩ := hr.2 h0
       cases h
   subst hm
   have hn : news = [] := List.eq_nil_of_length_eq_zero (by simpa using hr.1)
   subst hn
   exact ⟨v, w, run_append_of_nil w base t ty e i size ht hi v n xs hown c, by simpa using hown, World.grownBy.refl w _, .inl rfl⟩
 · have hcells : ∀ j u, news[j]? = some u → w.cell? (ad.add j) = some u := by
     intro j u hu
     rcases Nat.eq_zero_or_pos m with h0 | h0
     · subst h0
       have hn : news = [] := List.eq_nil_of_length_eq_zero (by simpa using hr.1)
       subst hn
       simp at hu
     · obtain ⟨ad', h, _, hc⟩ := hr.2 h0
       injection h with h
       subst h
       exact hc j u hu
   obtain ⟨v', w', hrun, h2, h3, _, h5⟩ := run_append_own_at (P := P) w base t ty e i z size bytes ht hi hz hsize hby hzs hsz v n xs hown ad m c news hr.1 hcells h1 h63 hbytes hbase
   exact ⟨v', w', hrun, h2, h3, h5⟩

theorem wp_append_any {o : Oper} {a : Act} {K : Act → World → Prop} {Q : Exit → Act → World → Prop} (s x : Operand) (t : TypeId)
   (ho : o.op = .call { callee := .builtin .append, args := #[s, x], argTypes := #[t, t] })
   (base : Nat) (e : TypeId) (i : TypeInfo) (z : Value) (size bytes : Nat) (ht : P.underlying t = some (.slice e)) (hi : P.info? e = some i) (hz : i.zero = some z)
   (hsize : i.size = size) (hby : i.bytes = bytes) (hzs : z.cells.size = size) (hsz : 0 < size)
   (v : Value) (n : Nat) (xs : List Value) (hs : a.eval s = v) (hown : w.ownsRow base e size v n xs)
   (B : Nat) (A : Option Addr) (m c : Nat) (news : List Value) (hx : a.eval x = .slice A m c) (hr : Reads w B size A m news) (h1 : ∀ u ∈ news, u.oneCell' = true)
   (h63 : n + m ≤ maxLen) (hbytes : (n + m) * bytes ≤ 140737488355328) (hbase : base ≤ w.heap.size)
   (h : ∀ v' w', w'.ownsRow base e size v' (n + m) (xs ++ news) → w.grownBy w' v.ownBlock → (v'.ownBlock = v.ownBlock ∨ v'.ownBlock = some w.heap.size) → K (a.put o.dst v') w') : o.wp P a w K Q := by
 obtain ⟨v', w', hrun, h2, h3, h4⟩ := run_append_any (P := P) w base t o.type e i z size bytes ht hi hz hsize hby hzs hsz v n xs hown B A m c news hr h1 h63 hbytes hbase
 unfold Oper.wp execOp
 simp only [ho, resolve, invoke, builtin, Sem.run_bind, Sem.run_pure, Result.andThen_ok, List.map_toArray, List.map_cons, List.map_nil, hs, hx, hrun]
 exact h v' w' h2 h3 h4

theorem wpList_append_any {ops : Array Oper} {rest : List Oper} {o : Oper} {a : Act} {Q : Exit → Act → World → Prop} (hgd : o.guard = none) (s x : Operand) (t : TypeId)
   (ho : o.op = .call { callee := .builtin .append, args := #[s, x], argTypes := #[t, t] })
   (base : Nat) (e : TypeId) (i : TypeInfo) (z : Value) (size bytes : Nat) (ht : P.underlying t = some (.slice e)) (hi : P.info? e = some i) (hz : i.zero = some z)
   (hsize : i.size = size) (hby : i.bytes = bytes) (hzs : z.cells.size = size) (hsz : 0 < size)
   (v : Value) (n : Nat) (xs : List Value) (hs : a.eval s = v) (hown : w.ownsRow base e size v n xs)
   (B : Nat) (A : Option Addr) (m c : Nat) (news : List Value) (hx : a.eval x = .slice A m c) (hr : Reads w B size A m news) (h1 : ∀ u ∈ news, u.oneCell' = true)
   (h63 : n + m ≤ maxLen) (hbytes : (n + m) * bytes ≤ 140737488355328) (hbase : base ≤ w.heap.size)
   (h : ∀ v' w', w'.ownsRow base e size v' (n + m) (xs ++ news) → w.grownBy w' v.ownBlock → (v'.ownBlock = v.ownBlock ∨ v'.ownBlock = some w.heap.size) → wpList P ops Q rest (a.put o.dst v') w') : wpList P ops Q (o :: rest) a w :=
 wpList_plain hgd fun _ hK => wp_append_any w s x t ho base e i z size bytes ht hi hz hsize hby hzs hsz v n xs hs hown B A m c news hx hr h1 h63 hbytes hbase fun v' w' h2 h3 h4 => hK _ _ (h v' w' h2 h3 h4)

theorem step_append_any {ops : Array Oper} {o : Oper} {a : Act} {K : Act → World → Prop} {Q : Exit → Act → World → Prop} {E : Prop} (hgd : o.guard = none) (s x : Operand) (t : TypeId)
   (ho : o.op = .call { callee := .builtin .append, args := #[s, x], argTypes := #[t, t] })
   (base : Nat) (e : TypeId) (i : TypeInfo) (z : Value) (size bytes : Nat) (ht : P.underlying t = some (.slice e)) (hi : P.info? e = some i) (hz : i.zero = some z)
   (hsize : i.size = size) (hby : i.bytes = bytes) (hzs : z.cells.size = size) (hsz : 0 < size)
   (v : Value) (n : Nat) (xs : List Value) (hs : a.eval s = v) (hown : w.ownsRow base e size v n xs)
   (B : Nat) (A : Option Addr) (m c : Nat) (news : List Value) (hx : a.eval x = .slice A m c) (hr : Reads w B size A m news) (h1 : ∀ u ∈ news, u.oneCell' = true)
   (h63 : n + m ≤ maxLen) (hbytes : (n + m) * bytes ≤ 140737488355328) (hbase : base ≤ w.heap.size)
   (h : ∀ v' w', w'.ownsRow base e size v' (n + m) (xs ++ news) → w.grownBy w' v.ownBlock → (v'.ownBlock = v.ownBlock ∨ v'.ownBlock = some w.heap.size) → K (a.put o.dst v') w') :
   if Region.wanted o (yielded ops a.tmps) = true then Oper.wp P o a w K Q else E := by
 have hw : Region.wanted o (yielded ops a.tmps) = true := by simp [Region.wanted, hgd]
 rw [if_pos hw]
 exact wp_append_any w s x t ho base e i z size bytes ht hi hz hsize hby hzs hsz v n xs hs hown B A m c news hx hr h1 h63 hbytes hbase h
end
theorem add_off (a : Addr) (i j : Nat) : a.add (i + (j + 1)) = ⟨(a.add i).block, (a.add i).off + (j + 1), none⟩ := by
 unfold Addr.add
 by_cases h : i = 0
 · subst h; simp
 · simp [h, show i + (j + 1) ≠ 0 from by omega, Nat.add_assoc]
theorem grownBy_trans {a b c : World} {r : Option Nat} (h : a.grownBy b r) (k : b.grownBy c r) : a.grownBy c r :=
 ⟨k.os.trans h.os, k.tape.trans h.tape, k.output.trans h.output, Nat.le_trans h.size k.size, fun i hi hn => (k.block i (Nat.lt_of_lt_of_le hi h.size) hn).trans (h.block i hi hn)⟩
theorem grownBy_drewN {a w : World} {row : Option Nat} (h : a.grownBy w row) (n : Nat) : a.grownBy (w.drewN n) row := ⟨h.os, h.tape, h.output, h.size, h.block⟩
theorem grownBy_alloc {a w : World} {row : Option Nat} (h : a.grownBy w row) (o : Obj) : a.grownBy (w.alloc o) row :=
 ⟨h.os, h.tape, h.output, Nat.le_trans h.size (by simp), fun i hi hne => (Below.heap_alloc w o i (Nat.lt_of_lt_of_le hi h.size)).trans (h.block i hi hne)⟩
theorem grownBy_setCell {a w : World} {g : Nat} (h : a.grownBy w (some g)) {p : Addr} (hp : p.block = g ∨ a.heap.size ≤ p.block) (u : Value) : a.grownBy (w.setCell p u) (some g) :=
 ⟨h.os, h.tape, h.output, by simpa [World.setCell] using h.size, fun i hi hne => (Below.heap_setCell w p u i (by
   rintro rfl
   rcases hp with hp | hp
   · exact hne (by rw [hp])
   · omega)).trans (h.block i hi hne)⟩
theorem grownBy_of_below {a w : World} (h : Below a.heap.size a w) (row : Option Nat) : a.grownBy w row := ⟨h.os, h.tape, h.output, h.size, fun i hi _ => h.block i hi⟩
theorem grownBy_below {a b w : World} {row : Option Nat} (h : a.grownBy b row) (k : Below b.heap.size b w) : a.grownBy w row :=
 grownBy_trans h (grownBy_of_below k row)
theorem blk_set {w : World} {g i : Nat} {t : TypeId} {cs : Array Value} (u : Value) (h : w.heap[g]? = some (.cells cs t (0, 0))) : (w.setCell ⟨g, i, none⟩ u).heap[g]? = some (.cells (cs.setIfInBounds i u) t (0, 0)) := by
 simp [World.setCell, Array.getElem?_modify, h]
theorem bits_u64 (op : BinOp) (x y : Int) : 0 ≤ bits op .u64 x y ∧ bits op .u64 x y < 18446744073709551616 := by
 have := bounds_u64 (wf_bits op .u64 x y); omega
theorem wrap_u64 (x : Int) : 0 ≤ IntKind.u64.wrap x ∧ IntKind.u64.wrap x < 18446744073709551616 := by
 have := bounds_u64 (wf_wrap .u64 x); omega
theorem own_form {w : World} {B : Nat} {T size : Nat} {v : Value} {n : Nat} {xs : List Value} (h : w.ownsRow B T size v n xs) : ∃ A c, v = .slice A n c := by
 rcases h.2 with ⟨hv, h0⟩ | ⟨g, cap, cur, hv, _⟩
 · exact ⟨none, 0, by rw [hv, h0]⟩
 · exact ⟨_, _, hv⟩
theorem below_own {B : Nat} {a w w' : World} {T size : Nat} {v : Value} {n : Nat} {xs : List Value} (h : Below B a w) (hown : w.ownsRow B T size v n xs) (hg : w.grownBy w' v.ownBlock) (hB : B ≤ w.heap.size) : Below B a w' :=
 h.grown hg hB (fun k hk => (hown.lt k hk).1)
structure Gr (w w' : World) : Prop where
 b : Below w.heap.size w w'
 d : w.drawn ≤ w'.drawn
theorem Gr.refl (w : World) : Gr w w := ⟨Below.refl _ _, Nat.le_refl _⟩
theorem Gr.trans {a b c : World} (h : Gr a b) (k : Gr b c) : Gr a c := ⟨h.b.trans (k.b.mono h.b.size), Nat.le_trans h.d k.d⟩
theorem Gr.alloc {a w : World} (h : Gr a w) (o : Obj) : Gr a (w.alloc o) := ⟨h.b.alloc h.b.size o, h.d⟩
theorem Gr.drewN {a w : World} (h : Gr a w) (n : Nat) : Gr a (w.drewN n) := ⟨⟨h.b.os, h.b.tape, h.b.output, h.b.size, h.b.block⟩, Nat.le_trans h.d (Nat.le_add_right _ _)⟩
theorem Gr.drew {a w : World} (h : Gr a w) : Gr a w.drew := h.drewN 1
theorem Gr.setCell {a w : World} (h : Gr a w) {p : Addr} (hp : a.heap.size ≤ p.block) (u : Value) : Gr a (w.setCell p u) := ⟨h.b.setCell hp u, h.d⟩
theorem Gr.size {a w : World} (h : Gr a w) : a.heap.size ≤ w.heap.size := h.b.size
theorem Gr.grow {a w : World} (h : Gr a w) (n : Nat) (os : Array Obj) : Gr a (Sort.grow (w.drewN n) os) :=
 h.trans ⟨Lib.below_grow w.heap.size w (Nat.le_refl _) n os, Nat.le_add_right _ _⟩
theorem Gr.form {w w' : World} (h : Gr w w') : ∃ q os, w' = Sort.grow (w.drewN q) os := by
 refine ⟨w'.drawn - w.drawn, w'.heap.extract w.heap.size w'.heap.size, ?_⟩
 have e : w'.heap = w.heap ++ w'.heap.extract w.heap.size w'.heap.size := by
   apply Array.ext
   · simp; have := h.b.size; omega
   · intro i h1 h2
     rw [Array.getElem_append]
     split
     · rename_i hi
       have := h.b.block i hi
       rw [Array.getElem?_eq_getElem hi, Array.getElem?_eq_getElem h1] at this
       exact Option.some.inj this
     · simp; congr 1; have := h.b.size; omega
 have hd := h.d
 have h1 := h.b.os
 have h2 := h.b.tape
 have h3 := h.b.output
 cases w'; cases w
 simp only [Sort.grow, World.drewN, World.mk.injEq] at *
 exact ⟨e, h2, by omega, h1, h3⟩

def IAt (w : World) (S : Nat → Prop) (v : Value) (cs : List Int) : Prop :=
 ∃ A n c, v = .slice A n c ∧ cs.length = n ∧ n ≤ c ∧ c ≤ maxLen ∧ (0 < n → ∃ ad, A = some ad ∧ S ad.block ∧ ∀ k (h : k < cs.length), w.cell? (ad.add k) = some (.int .i64 cs[k]))
inductive KAt (w : World) (S : Nat → Prop) : Value → List V → Prop
 | mk (A : Option Addr) (n c : Nat) (l : List V) (ss : List Value) (hl : l.length = n) (hs : ss.length = n) (hc : n ≤ c) (hm : c ≤ maxLen)
     (ha : 0 < n → ∃ ad, A = some ad ∧ S ad.block ∧ ∀ k (h : k < l.length) (h' : k < ss.length), w.cell? (ad.add (k * 2)) = some (.int .i64 l[k].n) ∧ w.cell? ⟨(ad.add (k * 2)).block, (ad.add (k * 2)).off + 1, none⟩ = some ss[k])
     (hk : ∀ k (h : k < l.length) (h' : k < ss.length), KAt w S ss[k] l[k].ks) : KAt w S (.slice A n c) l
inductive PAt (w : World) (S : Nat → Prop) : Value → List T → Prop
 | mk (A : Option Addr) (n c : Nat) (l : List T) (rs ps : List Value) (hl : l.length = n) (hr : rs.length = n) (hp : ps.length = n) (hc : n ≤ c) (hm : c ≤ maxLen)
     (ha : 0 < n → ∃ ad, A = some ad ∧ S ad.block ∧ ∀ k (h : k < l.length) (h' : k < rs.length) (h'' : k < ps.length), w.cell? (ad.add (k * 4)) = some (.int .i64 l[k].kind) ∧
       w.cell? ⟨(ad.add (k * 4)).block, (ad.add (k * 4)).off + 1, none⟩ = some (.int .i64 l[k].size) ∧ w.cell? ⟨(ad.add (k * 4)).block, (ad.add (k * 4)).off + 2, none⟩ = some rs[k] ∧ w.cell? ⟨(ad.add (k * 4)).block, (ad.add (k * 4)).off + 3, none⟩ = some ps[k])
     (hi : ∀ k (h : k < l.length) (h' : k < rs.length), IAt w S rs[k] l[k].ranks)
     (hk : ∀ k (h : k < l.length) (h' : k < ps.length), PAt w S ps[k] l[k].parts) : PAt w S (.slice A n c) l
def TAt (w : World) (S : Nat → Prop) (rv pv : Value) (t : T) : Prop := IAt w S rv t.ranks ∧ PAt w S pv t.parts

section
variable {w w' : World} {S S' : Nat → Prop}
theorem IAt.keep {v : Value} {cs : List Int} (h : IAt w S v cs) (hS : ∀ b, S b → S' b) (hk : ∀ p : Addr, S p.block → w'.cell? p = w.cell? p) : IAt w' S' v cs := by
 obtain ⟨A, n, c, h1, h2, h3, h4, h5⟩ := h
 refine ⟨A, n, c, h1, h2, h3, h4, fun hn => ?_⟩
 obtain ⟨ad, e, hs, hc⟩ := h5 hn
 exact ⟨ad, e, hS _ hs, fun k h => (hk _ (by rw [add_block]; exact hs)).trans (hc k h)⟩
theorem KAt.keep {v : Value} {l : List V} (h : KAt w S v l) (hS : ∀ b, S b → S' b) (hk : ∀ p : Addr, S p.block → w'.cell? p = w.cell? p) : KAt w' S' v l := by
 induction h with
 | mk A n c l ss hl hs hc hm ha _ ih =>
   refine .mk A n c l ss hl hs hc hm (fun hn => ?_) ih
   obtain ⟨ad, e, h1, h2⟩ := ha hn
   exact ⟨ad, e, hS _ h1, fun k h h' => ⟨(hk _ (by rw [add_block]; exact h1)).trans (h2 k h h').1, (hk _ (by simp only [add_block]; exact h1)).trans (h2 k h h').2⟩⟩
theorem PAt.keep {v : Value} {l : List T} (h : PAt w S v l) (hS : ∀ b, S b → S' b) (hk : ∀ p : Addr, S p.block → w'.cell? p = w.cell? p) : PAt w' S' v l := by
 induction h with
 | mk A n c l rs ps hl hr hp hc hm ha hi _ ih =>
   refine .mk A n c l rs ps hl hr hp hc hm (fun hn => ?_) (fun k h h' => (hi k h h').keep hS hk) ih
   obtain ⟨ad, e, h1, h2⟩ := ha hn
   refine ⟨ad, e, hS _ h1, fun k h h' h'' => ?_⟩
   obtain ⟨q0, q1, q2, q3⟩ := h2 k h h' h''
   exact ⟨(hk _ (by rw [add_block]; exact h1)).trans q0, (hk _ (by simp only [add_block]; exact h1)).trans q1, (hk _ (by simp only [add_block]; exact h1)).trans q2, (hk _ (by simp only [add_block]; exact h1)).trans q3⟩
theorem TAt.keep {rv pv : Value} {t : T} (h : TAt w S rv pv t) (hS : ∀ b, S b → S' b) (hk : ∀ p : Addr, S p.block → w'.cell? p = w.cell? p) : TAt w' S' rv pv t := ⟨h.1.keep hS hk, h.2.keep hS hk⟩
theorem KAt.nil (c : Nat) (A : Option Addr) (hc : c ≤ maxLen) : KAt w S (.slice A 0 c) [] :=
 .mk A 0 c [] [] rfl rfl (Nat.zero_le _) hc (fun h => absurd h (by omega)) (fun k h => absurd h (by simp))
theorem PAt.nil (c : Nat) (A : Option Addr) (hc : c ≤ maxLen) : PAt w S (.slice A 0 c) [] :=
 .mk A 0 c [] [] [] rfl rfl rfl (Nat.zero_le _) hc (fun h => absurd h (by omega)) (fun k h => absurd h (by simp)) (fun k h => absurd h (by simp))
theorem IAt.nil (c : Nat) (A : Option Addr) (hc : c ≤ maxLen) : IAt w S (.slice A 0 c) [] := ⟨A, 0, c, rfl, rfl, Nat.zero_le _, hc, fun h => absurd h (by omega)⟩
theorem KAt.form {v : Value} {l : List V} (h : KAt w S v l) : ∃ A n c, v = .slice A n c ∧ l.length = n ∧ n ≤ c ∧ c ≤ maxLen := by
 cases h with
 | mk A n c l ss hl hs hc hm ha hk => exact ⟨A, n, c, rfl, hl, hc, hm⟩
theorem PAt.form {v : Value} {l : List T} (h : PAt w S v l) : ∃ A n c, v = .slice A n c ∧ l.length = n ∧ n ≤ c ∧ c ≤ maxLen := by
 cases h with
 | mk A n c l rs ps hl hr hp hc hm ha hi hk => exact ⟨A, n, c, rfl, hl, hc, hm⟩
theorem IAt.form {v : Value} {l : List Int} (h : IAt w S v l) : ∃ A n c, v = .slice A n c ∧ l.length = n ∧ n ≤ c ∧ c ≤ maxLen := by
 obtain ⟨A, n, c, h1, h2, h3, h4, _⟩ := h
 exact ⟨A, n, c, h1, h2, h3, h4⟩
theorem KAt.at_ {A : Option Addr} {n c : Nat} {l : List V} (h : KAt w S (.slice A n c) l) {k : Nat} (hk : k < l.length) : ∃ ad A' n' c', A = some ad ∧ S ad.block ∧ w.cell? (ad.add (k * 2)) = some (.int .i64 l[k].n) ∧
   w.cell? ⟨(ad.add (k * 2)).block, (ad.add (k * 2)).off + 1, none⟩ = some (.slice A' n' c') ∧ l[k].ks.length = n' ∧ KAt w S (.slice A' n' c') l[k].ks := by
 cases h with
 | mk _ _ _ _ ss hl hs hc hm ha hkk =>
   obtain ⟨ad, e, h1, h2⟩ := ha (by omega)
   have h3 := h2 k hk (by omega)
   have h4 := hkk k hk (by omega)
   obtain ⟨A', n', c', e', h5, _, _⟩ := h4.form
   rw [e'] at h3 h4
   exact ⟨ad, A', n', c', e, h1, h3.1, h3.2, h5, h4⟩
theorem PAt.at_ {A : Option Addr} {n c : Nat} {l : List T} (h : PAt w S (.slice A n c) l) {k : Nat} (hk : k < l.length) : ∃ ad A' n' c' A'' n'' c'', A = some ad ∧ S ad.block ∧ w.cell? (ad.add (k * 4)) = some (.int .i64 l[k].kind) ∧
   w.cell? ⟨(ad.add (k * 4)).block, (ad.add (k * 4)).off + 1, none⟩ = some (.int .i64 l[k].size) ∧ w.cell? ⟨(ad.add (k * 4)).block, (ad.add (k * 4)).off + 2, none⟩ = some (.slice A' n' c') ∧
   w.cell? ⟨(ad.add (k * 4)).block, (ad.add (k * 4)).off + 3, none⟩ = some (.slice A'' n'' c'') ∧ TAt w S (.slice A' n' c') (.slice A'' n'' c'') l[k] := by
 cases h with
 | mk _ _ _ _ rs ps hl hr hp hc hm ha hi hkk =>
   obtain ⟨ad, e, h1, h2⟩ := ha (by omega)
   obtain ⟨q0, q1, q2, q3⟩ := h2 k hk (by omega) (by omega)
   have h3 := hi k hk (by omega)
   have h4 := hkk k hk (by omega)
   obtain ⟨A', n', c', e', _, _, _⟩ := h3.form
   obtain ⟨A'', n'', c'', e'', _, _, _⟩ := h4.form
   rw [e'] at h3 q2
   rw [e''] at h4 q3
   exact ⟨ad, A', n', c', A'', n'', c'', e, h1, q0, q1, q2, q3, h3, h4⟩
theorem IAt.at_ {A : Option Addr} {n c : Nat} {l : List Int} (h : IAt w S (.slice A n c) l) {k : Nat} (hk : k < l.length) : ∃ ad, A = some ad ∧ S ad.block ∧ w.cell? (ad.add k) = some (.int .i64 l[k]) := by
 obtain ⟨A', n', c', e, h2, h3, h4, h5⟩ := h
 injection e with e1 e2 e3
 subst e1 e2 e3
 obtain ⟨ad, e, h6, h7⟩ := h5 (by omega)
 exact ⟨ad, e, h6, h7 k hk⟩
end
abbrev KB (w : World) (B : Nat) (v : Value) (l : List V) : Prop := KAt w (· < B) v l
abbrev PB (w : World) (B : Nat) (v : Value) (l : List T) : Prop := PAt w (· < B) v l
abbrev IB (w : World) (B : Nat) (v : Value) (l : List Int) : Prop := IAt w (· < B) v l
abbrev TB (w : World) (B : Nat) (rv pv : Value) (t : T) : Prop := TAt w (· < B) rv pv t
section
variable {w w' : World} {B B' : Nat}
theorem KAt.gr {v : Value} {l : List V} (h : KB w w.heap.size v l) (g : Gr w w') : KB w' w'.heap.size v l := h.keep (fun b hb => Nat.lt_of_lt_of_le hb g.size) (fun p hp => g.b.cell hp)
theorem PAt.gr {v : Value} {l : List T} (h : PB w w.heap.size v l) (g : Gr w w') : PB w' w'.heap.size v l := h.keep (fun b hb => Nat.lt_of_lt_of_le hb g.size) (fun p hp => g.b.cell hp)
theorem IAt.gr {v : Value} {l : List Int} (h : IB w w.heap.size v l) (g : Gr w w') : IB w' w'.heap.size v l := h.keep (fun b hb => Nat.lt_of_lt_of_le hb g.size) (fun p hp => g.b.cell hp)
theorem TAt.gr {rv pv : Value} {t : T} (h : TB w w.heap.size rv pv t) (g : Gr w w') : TB w' w'.heap.size rv pv t := ⟨h.1.gr g, h.2.gr g⟩
theorem KAt.under {v : Value} {l : List V} (h : KB w B v l) (g : Below B w w') : KB w' B v l := h.keep (fun b hb => hb) (fun p hp => g.cell hp)
theorem PAt.under {v : Value} {l : List T} (h : PB w B v l) (g : Below B w w') : PB w' B v l := h.keep (fun b hb => hb) (fun p hp => g.cell hp)
theorem IAt.under {v : Value} {l : List Int} (h : IB w B v l) (g : Below B w w') : IB w' B v l := h.keep (fun b hb => hb) (fun p hp => g.cell hp)
theorem TAt.under {rv pv : Value} {t : T} (h : TB w B rv pv t) (g : Below B w w') : TB w' B rv pv t := ⟨h.1.under g, h.2.under g⟩
theorem KAt.more {v : Value} {l : List V} (h : KB w B v l) (hB : B ≤ B') : KB w B' v l := h.keep (fun b hb => Nat.lt_of_lt_of_le hb hB) (fun _ _ => rfl)
theorem PAt.more {v : Value} {l : List T} (h : PB w B v l) (hB : B ≤ B') : PB w B' v l := h.keep (fun b hb => Nat.lt_of_lt_of_le hb hB) (fun _ _ => rfl)
theorem IAt.more {v : Value} {l : List Int} (h : IB w B v l) (hB : B ≤ B') : IB w B' v l := h.keep (fun b hb => Nat.lt_of_lt_of_le hb hB) (fun _ _ => rfl)
theorem TAt.more {rv pv : Value} {t : T} (h : TB w B rv pv t) (hB : B ≤ B') : TB w B' rv pv t := ⟨h.1.more hB, h.2.more hB⟩
end
abbrev aggV (v : V) (s : Value) : Value := .agg #[.int .i64 v.n, s]
abbrev aggT (t : T) (r p : Value) : Value := .agg #[.int .i64 t.kind, .int .i64 t.size, r, p]
structure DeckAt (w : World) (b : Nat) (A : Option Addr) (n c : Nat) (zs : List Int) (at_ : Nat) (st : Int) : Prop where
 blk : w.heap[b]? = some (.cells #[.slice A n c, .int .i64 at_, .int .u64 st] 61 (0, 0))
 rd : ∀ k, k < n → ∃ ad : Addr, A = some ad ∧ ad.block < b ∧ w.cell? (ad.add k) = some (.int .i64 (zs.getD k 0))
 le : at_ ≤ n
 small : n ≤ 400
 st0 : 0 ≤ st
 st1 : st < 18446744073709551616

theorem DeckAt.c0 {w : World} {b : Nat} {A : Option Addr} {n c : Nat} {zs : List Int} {at_ : Nat} {st : Int} (h : DeckAt w b A n c zs at_ st) :
   w.cell? ⟨b, 0, none⟩ = some (.slice A n c) ∧ w.cell? ⟨b, 1, none⟩ = some (.int .i64 at_) ∧ w.cell? ⟨b, 2, none⟩ = some (.int .u64 st) ∧ w.frozen? ⟨b, 1, none⟩ = false ∧ w.frozen? ⟨b, 2, none⟩ = false := by
 simp [World.cell?, World.frozen?, h.blk]

def DeckOk (w : World) (b : Nat) : Prop := ∃ (A : Option Addr) (n c : Nat) (zs : List Int) (at_ : Nat) (st : Int), DeckAt w b A n c zs at_ st

theorem DeckOk.below {w w' : World} {b B : Nat} (h : DeckOk w b) (hb : Below B w w') (hB : b < B) : DeckOk w' b := by
 obtain ⟨A, n, c, zs, at_, st, h⟩ := h
 refine ⟨A, n, c, zs, at_, st, (hb.block b hB).trans h.blk, fun k hk => ?_, h.le, h.small, h.st0, h.st1⟩
 obtain ⟨ad, e, hl, hc⟩ := h.rd k hk
 exact ⟨ad, e, hl, (hb.cell (by rw [add_block]; omega)).trans hc⟩

theorem DeckOk.lt {w : World} {b : Nat} (h : DeckOk w b) : b < w.heap.size := by
 obtain ⟨A, n, c, zs, at_, st, h⟩ := h
 rcases Nat.lt_or_ge b w.heap.size with hlt | hge
 · exact hlt
 · have := h.blk; rw [Array.getElem?_eq_none hge] at this; cases this

def LongPost (w : World) (b : Nat) (e : Ending) (w' : World) : Prop := ∃ r : Int, e = .returned (.int .u64 r) ∧ 0 ≤ r ∧ r < 18446744073709551616 ∧ DeckOk w' b ∧ w.grownBy w' (some b)

theorem DeckAt.step {w : World} {b : Nat} {A : Option Addr} {n c : Nat} {zs : List Int} {at_ : Nat} {st : Int} (h : DeckAt w b A n c zs at_ st) (at' : Nat) (st' : Int) (w' : World)
   (hl : at' ≤ n) (h0 : 0 ≤ st') (h1 : st' < 18446744073709551616) (hb : w'.heap[b]? = some (.cells #[.slice A n c, .int .i64 at', .int .u64 st'] 61 (0, 0))) (hg : w.grownBy w' (some b)) : DeckOk w' b := by
 have hlt := DeckOk.lt ⟨A, n, c, zs, at_, st, h⟩
 refine ⟨A, n, c, zs, at', st', hb, fun k hk => ?_, hl, h.small, h0, h1⟩
 obtain ⟨ad, e, hl, hc⟩ := h.rd k hk
 refine ⟨ad, e, hl, ?_⟩
 rw [← hc]
 exact World.cell?_of_block (hg.block _ (by rw [add_block]; omega) (by rw [add_block]; intro e; cases e; omega))

theorem long_any (w : World) (b : Nat) (hd : DeckOk w b) :
   Calls Tryz.prog 67 #[.pointer (some ⟨b, 0, none⟩)] w (LongPost w b) := by
 obtain ⟨A, n, c, zs, at_, st, h⟩ := hd
 obtain ⟨h0, h1, h2, f1, f2⟩ := h.c0
 have hsm := h.small
 have g0 := h.st0
 have g1 := h.st1
 by_cases hlt : at_ < n
 · obtain ⟨ad, rfl, hb, hc⟩ := h.rd at_ hlt
   go_enter Tryz.func67, Tryz.ntmps67
   go_wp2_with fail
   go_quiet (fail)
   go_wp2_with fail
   go_quiet (fail)
   go_wp2_with fail
   go_quiet (fail)
   go_wp2_with fail
   go_ret
   refine ⟨_, rfl, (bits_u64 _ _ _).1, (bits_u64 _ _ _).2, ?_, ?_⟩
   · refine h.step (at_ + 1) _ _ (by omega) ?_ ?_ (blk_set (i := 2) _ (blk_set (i := 1) _ h.blk)) ?_
     · exact (wrap_u64 _).1
     · exact (wrap_u64 _).2
     · exact grownBy_drewN (grownBy_setCell (p := ⟨b, 2, none⟩) (grownBy_setCell (p := ⟨b, 1, none⟩) (grownBy_drewN (World.grownBy.refl _ _) _) (.inl rfl) _) (.inl rfl) _) _
   · exact grownBy_drewN (grownBy_setCell (p := ⟨b, 2, none⟩) (grownBy_setCell (p := ⟨b, 1, none⟩) (grownBy_drewN (World.grownBy.refl _ _) _) (.inl rfl) _) (.inl rfl) _) _
 · have hz : ¬ ((at_ : Int) < (n : Int)) := by omega
   go_enter Tryz.func67, Tryz.ntmps67
   go_wp2_with fail
   go_quiet (fail)
   go_wp2_with fail
   go_quiet (fail)
   go_wp2_with fail
   go_ret
   refine ⟨_, rfl, (bits_u64 _ _ _).1, (bits_u64 _ _ _).2, ?_, ?_⟩
   · refine h.step at_ _ _ h.le ?_ ?_ (blk_set (i := 2) _ h.blk) ?_
     · exact (wrap_u64 _).1
     · exact (wrap_u64 _).2
     · exact grownBy_drewN (grownBy_setCell (p := ⟨b, 2, none⟩) (grownBy_drewN (World.grownBy.refl _ _) _) (.inl rfl) _) _
   · exact grownBy_drewN (grownBy_setCell (p := ⟨b, 2, none⟩) (grownBy_drewN (World.grownBy.refl _ _) _) (.inl rfl) _) _

def NextPost (w : World) (b : Nat) (n : Int) (e : Ending) (w' : World) : Prop := ∃ r : Int, e = .returned (.int .i64 r) ∧ 0 ≤ r ∧ r < n ∧ DeckOk w' b ∧ w.grownBy w' (some b)

theorem next_any (w : World) (b : Nat) (hd : DeckOk w b) (n : Int) (h1 : 1 ≤ n) (hn : n < 9223372036854775808) :
   Calls Tryz.prog 38 #[.pointer (some ⟨b, 0, none⟩), .int .i64 n] w (NextPost w b n) := by
 go_enter Tryz.func38, Tryz.ntmps38
 go_wp2_with (go_at_call 67; go_must (refine (long_any _ _ hd).mono ?_; rintro e w' ⟨r, rfl, hr0, hr1, hd', hg⟩))
 go_ret
 exact ⟨_, rfl, Int.emod_nonneg _ (by omega), Int.emod_lt_of_pos _ (by omega), hd', hg⟩

theorem few_any (w : World) (A : Option Addr) (n c : Nat) (hn : n ≤ 9223372036854775807) :
   Calls Tryz.prog 10 #[.slice A n c] w fun e w' => e = .returned (.bool (decide (n ≤ 400))) ∧ w = w' := by
 go_enter Tryz.func10, Tryz.ntmps10
 go_wp2
 go_ret
 simp; omega

def NewPost (w : World) (e : Ending) (w' : World) : Prop := e = .returned (.pointer (some ⟨w.heap.size, 0, none⟩)) ∧ DeckOk w' w.heap.size ∧ Below w.heap.size w w'

theorem new_any (w : World) (A : Option Addr) (n c : Nat) (zs : List Int) (hn : n ≤ 400)
   (hr : ∀ k, k < n → ∃ ad : Addr, A = some ad ∧ ad.block < w.heap.size ∧ w.cell? (ad.add k) = some (.int .i64 (zs.getD k 0))) :
   Calls Tryz.prog 11 #[.slice A n c] w (NewPost w) := by
 go_enter Tryz.func11, Tryz.ntmps11
 go_wp2
 go_ret
 refine ⟨rfl, ⟨A, n, c, zs, 0, 11400714819323198485, heap_alloc_new w _, fun k hk => ?_, by omega, hn, by omega, by omega⟩, (Below.refl _ _).alloc (Nat.le_refl _) _⟩
 obtain ⟨ad, e, hl, hc⟩ := hr k hk
 exact ⟨ad, e, hl, (World.cell?_alloc_lt w _ _ (by rw [add_block]; omega)).trans hc⟩
end Go.Proofs.YtbmheekaclmibaaGreat
