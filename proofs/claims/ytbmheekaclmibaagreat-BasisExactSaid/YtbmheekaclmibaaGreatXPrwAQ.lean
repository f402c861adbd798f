/- Part of a proof of basisExact_holds. -/
import Derived.Test.YtbmheekaclmibaaGreatXRefAQ
import Derived.Test.YtbmheekaclmibaaGreatXKidAQ
import Derived.Deep.CutRange
import Derived.Deep.DeepCutAuto
import Derived.Deep.CutBlock
set_option maxRecDepth 100000
set_option maxHeartbeats 16000000
namespace Go.Proofs.YtbmheekaclmibaaGreat
open Go.RowKit
set_option linter.unusedSimpArgs false
set_option linter.unusedVariables false
abbrev DV (w : World) (v : Value) : Nat → Prop := fun b => b < w.heap.size ∧ v.ownBlock ≠ some b
structure PRow (w : World) (B : Nat) (v : Value) (ps : List VS) : Prop where
 own : w.ownsRow B 39 2 v ps.length (pCells ps)
 kid : ∀ p ∈ ps, KAt w (DV w v) p.2 p.1.ks
section
variable {w A W : World} {B : Nat} {v v' : Value} {ps qs : List VS}
theorem PRow.bw (h : PRow A B v ps) (hg : Bw A W) : PRow W B v ps :=
 ⟨h.own.kept hg.gr (by rcases hv : v.ownBlock with _ | k <;> simp), fun p hp => (h.kid p hp).keep (fun b hb => ⟨Nat.lt_of_lt_of_le hb.1 hg.size, hb.2⟩) (fun q hq => hg.b.cell hq.1)⟩
theorem PRow.kb (h : PRow w B v ps) : KB w w.heap.size v (ps.map (·.1)) :=
 (own_KAt (ss := ps.map (·.2)) (n := ps.length) (by rw [vCells_pairs]; exact h.own) (by simp) (by simp) (fun k h1 h2 => by
   have := h.kid (ps[k]'(by simpa using h1)) (List.getElem_mem _)
   simpa using this)).keep (fun b hb => by
   rcases hb with hb | hb
   · exact hb.1
   · exact (h.own.lt b hb).2) (fun _ _ => rfl)
theorem PRow.of_old (hown : W.ownsRow w.heap.size 39 2 v ps.length (pCells ps)) (hg : Bw w W) (hk : ∀ p ∈ ps, KB w w.heap.size p.2 p.1.ks) : PRow W w.heap.size v ps :=
 ⟨hown, fun p hp => (hk p hp).keep (fun b hb => ⟨Nat.lt_of_lt_of_le hb hg.size, fun e => by have := (hown.lt b e).1; omega⟩) (fun q hq => hg.b.cell hq)⟩
theorem PRow.app (h : PRow A B v ps) (hs : ∀ p ∈ qs, KAt A (DV A v) p.2 p.1.ks) (hown : W.ownsRow B 39 2 v' (ps.length + qs.length) (pCells ps ++ pCells qs)) (hg : A.grownBy W v.ownBlock) (hv : v'.ownBlock = v.ownBlock ∨ v'.ownBlock = some A.heap.size) :
   PRow W B v' (ps ++ qs) := by
 have key : ∀ {s : Value} {x : List V}, KAt A (DV A v) s x → KAt W (DV W v') s x := fun h => h.keep (fun b hb => ⟨Nat.lt_of_lt_of_le hb.1 hg.size, by
   rcases hv with e | e
   · rw [e]; exact hb.2
   · rw [e]; intro e2; injection e2 with e2; have := hb.1; omega⟩) (fun p hp => World.cell?_of_block (hg.block p.block hp.1 (fun e => hp.2 e.symm)))
 refine ⟨by rw [pCells_append]; simpa using hown, fun p hp => ?_⟩
 rcases List.mem_append.1 hp with hp | hp
 · exact key (h.kid p hp)
 · exact key (hs p hp)
end
theorem pcells_one {w : World} {S : Nat → Prop} {ps : List VS} (h : ∀ p ∈ ps, KAt w S p.2 p.1.ks) : ∀ u ∈ pCells ps, u.oneCell' = true := by
 intro u hu
 obtain ⟨p, hp, hu⟩ := List.mem_flatMap.1 hu
 obtain ⟨A, n, c, e, _⟩ := (h p hp).form
 rw [e] at hu
 simp only [List.mem_cons, List.not_mem_nil, or_false] at hu
 rcases hu with rfl | rfl <;> rfl
theorem kidv_old {W w8 : World} {v8 : Value} {ps qs : List VS} (h : PRow w8 W.heap.size v8 ps) (g : Bw W w8) (hk : ∀ p ∈ qs, KB W W.heap.size p.2 p.1.ks) : ∀ p ∈ qs, KAt w8 (DV w8 v8) p.2 p.1.ks :=
 fun p hp => (hk p hp).keep (fun b hb => ⟨Nat.lt_of_lt_of_le hb g.size, fun e => by have := (h.own.lt b e).1; omega⟩) (fun q hq => g.b.cell hq)
theorem kidv_i {B : Nat} {w7 w9 : World} {v7 s9 : Value} {ps : List VS} {x : V} (h : PRow w7 B v7 ps) (hk : KAt w9 (fun b => w7.heap.size ≤ b ∧ b < w9.heap.size) s9 x.ks) (o : Obj) : ∀ p ∈ [((x, s9) : VS)], KAt (w9.alloc o) (DV (w9.alloc o) v7) p.2 p.1.ks := by
 intro p hp
 obtain rfl := List.mem_singleton.1 hp
 exact hk.keep (fun b hb => ⟨by simp; omega, fun e => by have := (h.own.lt b e).2; omega⟩) (fun q hq => World.cell?_alloc_lt w9 o q hq.2)
theorem kidv_ii {B : Nat} {w7 w9 : World} {v7 s9 : Value} {x : V} (hk : KAt w9 (fun b => B ≤ b ∧ b < w9.heap.size) s9 x.ks) (hg : w9.grownBy w7 (Value.slice none 0 0).ownBlock) (hl : v7.ownBlock = (Value.slice none 0 0).ownBlock ∨ v7.ownBlock = some w9.heap.size) (o : Obj) :
   ∀ p ∈ [((x, s9) : VS)], KAt (w7.alloc o) (DV (w7.alloc o) v7) p.2 p.1.ks := by
 intro p hp
 obtain rfl := List.mem_singleton.1 hp
 refine hk.keep (fun b hb => ⟨by have := hg.size; simp; omega, fun e => ?_⟩) (fun q hq => ?_)
 · rcases hl with h | h
   · rw [h] at e; cases e
   · rw [h] at e; injection e with e; omega
 · rw [World.cell?_alloc_lt w7 o q (Nat.lt_of_lt_of_le hq.2 hg.size)]
   exact World.cell?_of_block (hg.block q.block hq.2 (fun e => by cases e))
theorem kidv_iii {B : Nat} {w7 w9 : World} {o : Obj} {v7 s9 : Value} {x : V} (hk : KAt w9 (fun b => B ≤ b ∧ b < w9.heap.size) s9 x.ks) (hg : (w9.alloc o).grownBy w7 (Value.slice none 0 0).ownBlock) (hl : v7.ownBlock = (Value.slice none 0 0).ownBlock ∨ v7.ownBlock = some (w9.alloc o).heap.size) :
   ∀ p ∈ [((x, s9) : VS)], KAt w7 (DV w7 v7) p.2 p.1.ks := by
 intro p hp
 obtain rfl := List.mem_singleton.1 hp
 have hs := hg.size
 simp at hs
 refine hk.keep (fun b hb => ⟨by omega, fun e => ?_⟩) (fun q hq => ?_)
 · rcases hl with h | h
   · rw [h] at e; cases e
   · rw [h] at e; injection e with e; simp at e; omega
 · rw [← World.cell?_alloc_lt w9 o q hq.2]
   exact World.cell?_of_block (hg.block q.block (by simp; omega) (fun e => by cases e))
theorem KAt.rows {w : World} {B : Nat} {A : Option Addr} {n c : Nat} {l : List V} (h : KAt w (· < B) (.slice A n c) l) :
   ∃ ps : List VS, ps.length = n ∧ ps.map (·.1) = l ∧ Reads w B 2 A n (pCells ps) ∧ ∀ p ∈ ps, KAt w (· < B) p.2 p.1.ks := by
 cases h with
 | mk _ _ _ _ ss hl hs hc hm ha hk =>
   refine ⟨l.zip ss, by simp; omega, by rw [List.map_fst_zip (by omega)], ⟨by rw [pCells_length, List.length_zip]; omega, fun hn => ?_⟩, ?_⟩
   · obtain ⟨ad, rfl, hS, h2⟩ := ha hn
     refine ⟨ad, rfl, hS, fun j u hu => ?_⟩
     have hj : j < n * 2 := by
       have : j < (pCells (l.zip ss)).length := by
         rcases Nat.lt_or_ge j (pCells (l.zip ss)).length with h | h
         · exact h
         · rw [List.getElem?_eq_none h] at hu; cases hu
       rw [pCells_length, List.length_zip] at this; omega
     have hk2 : j / 2 < (l.zip ss).length := by rw [List.length_zip]; omega
     have h3 := h2 (j / 2) (by omega) (by omega)
     have h4 := pCells_get hk2
     have e := Nat.div_add_mod j 2
     rcases Nat.mod_two_eq_zero_or_one j with h0 | h0
     · have e1 : j / 2 * 2 = j := by omega
       rw [e1] at h3 h4
       rw [h3.1, ← hu, h4.1]; simp
     · have e1 : j = j / 2 * 2 + 1 := by omega
       rw [e1] at hu ⊢
       rw [h4.2] at hu
       have := add_off ad (j / 2 * 2) 0
       rw [Nat.zero_add] at this
       rw [this, ← hu, h3.2]; simp
   · intro p hp
     obtain ⟨k, hk1, rfl⟩ := List.getElem_of_mem hp
     rw [List.length_zip] at hk1
     have := hk k (by omega) (by omega)
     simpa using this
theorem pCells_drop (ps : List VS) (k : Nat) : (pCells ps).drop (k * 2) = pCells (ps.drop k) := by
 induction ps generalizing k with
 | nil => simp [pCells]
 | cons p r ih =>
   cases k with
   | zero => simp [pCells]
   | succ k => simp [pCells_cons, Nat.add_mul, ih]
theorem reads_part2 {w : World} {B : Nat} {A : Option Addr} {n c : Nat} {xs : List Value} (h : Reads w B 2 A n xs) {k m : Nat} (hc : n ≤ c) (hk : k ≤ m) (hm : m ≤ n) : ∃ P, sliced A k m c 2 = .slice P (m - k) (c - k) ∧ Reads w B 2 P (m - k) ((xs.take (m * 2)).drop (k * 2)) := by
 refine ⟨_, rfl, by have := h.1; simp; omega, fun hn => ?_⟩
 obtain ⟨ad, rfl, hb, hcell⟩ := h.2 (by omega)
 rw [if_neg (by omega)]
 refine ⟨ad.add (k * 2), rfl, by rw [block_of_add]; exact hb, fun j u hu => ?_⟩
 rw [add_of_add]
 refine hcell _ u ?_
 rw [List.getElem?_drop, List.getElem?_take] at hu
 split at hu
 · exact hu
 · cases hu
end Go.Proofs.YtbmheekaclmibaaGreat
namespace Go.Proofs.YtbmheekaclmibaaGreat
set_option linter.unusedSimpArgs false
set_option linter.unusedVariables false
def putV (v : V) : List V → List V
 | [] => [v]
 | y :: r => if cmpV y v = -1 then y :: putV v r else if cmpV y v = 0 then y :: r else v :: y :: r
theorem putV_mem {v x : V} : ∀ {l : List V}, x ∈ putV v l ↔ x ∈ l ∨ x = v
 | [] => by simp [putV]
 | y :: r => by
   unfold putV
   split
   · rw [List.mem_cons, putV_mem, List.mem_cons, or_assoc]
   · split
     · rename_i h
       have := cmp_zero _ _ h
       subst this
       constructor
       · exact .inl
       · rintro (h | rfl)
         · exact h
         · simp
     · rw [List.mem_cons]
       exact ⟨fun h => h.elim .inr .inl, fun h => h.elim .inr .inl⟩
theorem putV_asc {v : V} : ∀ {l : List V}, Asc l → Asc (putV v l)
 | [], _ => ⟨fun b hb => by simp at hb, trivial⟩
 | y :: r, h => by
   unfold putV
   split
   · rename_i h0
     refine ⟨fun b hb => ?_, putV_asc h.2⟩
     rcases putV_mem.1 hb with hb | rfl
     · exact h.1 b hb
     · exact h0
   · split
     · exact h
     · rename_i h1 h2
       have h3 : cmpV v y = -1 := by
         have := cmp_range y v
         have := cmp_anti y v
         omega
       refine ⟨fun b hb => ?_, h⟩
       rcases List.mem_cons.1 hb with rfl | hb
       · exact h3
       · exact cmp_trans _ _ _ h3 (h.1 b hb)
theorem putV_size (v : V) : ∀ l, (putV v l).length ≤ l.length + 1
 | [] => by simp [putV]
 | y :: r => by
   unfold putV
   split
   · have := putV_size v r; simp; omega
   · split <;> simp
def addR (f : V → V → Bool) (b : List V) (v : V) : List V := if b.any (fun x => f x v) then b else putV v (b.filter fun x => !f v x)
def leastR (f : V → V → Bool) (l : List V) : List V := l.foldl (addR f) []
section
variable {f : V → V → Bool} {ok : V → Prop}
theorem anti_of_asc : ∀ {l : List V}, Asc l → (∀ x ∈ l, ∀ y ∈ l, x ≠ y → f x y = false) → Anti f l
 | [], _, _ => .nil
 | a :: r, h, k => by
   refine .cons (fun b hb => ?_) (anti_of_asc h.2 (fun x hx y hy => k x (by simp [hx]) y (by simp [hy])))
   have hne : a ≠ b := by rintro rfl; have := h.1 a hb; rw [cmp_self] at this; omega
   exact ⟨k a (by simp) b (by simp [hb]) hne, k b (by simp [hb]) a (by simp) (Ne.symm hne)⟩
theorem Asc.filter_ {p : V → Bool} : ∀ {l : List V}, Asc l → Asc (l.filter p)
 | [], _ => trivial
 | a :: r, h => by
   rw [List.filter_cons]
   split
   · exact ⟨fun b hb => h.1 b (List.mem_filter.1 hb).1, Asc.filter_ h.2⟩
   · exact Asc.filter_ h.2
theorem addR_mem {b : List V} {v x : V} (h : x ∈ addR f b v) : x ∈ b ∨ x = v := by
 unfold addR at h
 split at h
 · exact .inl h
 · rcases putV_mem.1 h with h | h
   · exact .inl (List.mem_filter.1 h).1
   · exact .inr h
theorem addR_asc {b : List V} {v : V} (h : Asc b) : Asc (addR f b v) := by
 unfold addR
 split
 · exact h
 · exact putV_asc h.filter_
theorem addR_anti {b : List V} {v : V} (hs : Asc b) (h : Anti f b) : Anti f (addR f b v) := by
 refine anti_of_asc (addR_asc hs) fun x hx y hy hne => ?_
 unfold addR at hx hy
 split at hx
 · rename_i h0
   rw [if_pos h0] at hy
   exact anti_get h hx hy hne
 · rename_i h0
   rw [if_neg h0] at hy
   simp only [Bool.not_eq_true, List.any_eq_false] at h0
   rcases putV_mem.1 hx with hx | rfl
   · have hx := List.mem_filter.1 hx
     rcases putV_mem.1 hy with hy | rfl
     · exact anti_get h hx.1 (List.mem_filter.1 hy).1 hne
     · simpa using h0 x hx.1
   · rcases putV_mem.1 hy with hy | rfl
     · simpa using (List.mem_filter.1 hy).2
     · exact absurd rfl hne
theorem addR_dom (P : POrd f ok) {b : List V} {v y : V} (ho : ∀ x ∈ b, ok x) (hv : ok v) (hy : ok y) (h : (∃ x ∈ b, f x y = true) ∨ f v y = true) : ∃ x ∈ addR f b v, f x y = true := by
 unfold addR
 split
 · rename_i h0
   rcases h with h | h
   · exact h
   · obtain ⟨x, hx, h1⟩ := List.any_eq_true.1 h0
     exact ⟨x, hx, P.trans _ _ _ (ho x hx) hv hy h1 h⟩
 · rcases h with ⟨x, hx, h⟩ | h
   · by_cases h1 : f v x = true
     · exact ⟨v, putV_mem.2 (.inr rfl), P.trans _ _ _ hv (ho x hx) hy h1 h⟩
     · exact ⟨x, putV_mem.2 (.inl (List.mem_filter.2 ⟨hx, by simpa using h1⟩)), h⟩
   · exact ⟨v, putV_mem.2 (.inr rfl), h⟩
theorem foldR_spec (P : POrd f ok) : ∀ (l out : List V), (∀ x ∈ out, ok x) → (∀ x ∈ l, ok x) → Asc out → Anti f out →
   Asc (l.foldl (addR f) out) ∧ Anti f (l.foldl (addR f) out) ∧ (∀ x ∈ l.foldl (addR f) out, x ∈ out ∨ x ∈ l) ∧ (∀ y, ok y → ((∃ x ∈ out, f x y = true) ∨ ∃ x ∈ l, f x y = true) → ∃ x ∈ l.foldl (addR f) out, f x y = true)
 | [], out, _, _, hs, h => ⟨hs, h, fun x hx => .inl hx, fun y _ hy => by simpa using hy⟩
 | v :: l, out, ho, hl, hs, h => by
   have hv := hl v (by simp)
   obtain ⟨s, a, b, c⟩ := foldR_spec P l (addR f out v) (fun x hx => by
     rcases addR_mem hx with hx | rfl
     · exact ho x hx
     · exact hv) (fun x hx => hl x (by simp [hx])) (addR_asc hs) (addR_anti hs h)
   refine ⟨s, a, fun x hx => ?_, fun y oy hy => c y oy ?_⟩
   · rcases b x hx with hx | hx
     · rcases addR_mem hx with hx | rfl
       · exact .inl hx
       · exact .inr (by simp)
     · exact .inr (by simp [hx])
   · rcases hy with hy | ⟨x, hx, hy⟩
     · exact .inl (addR_dom P ho hv oy (.inl hy))
     · rcases List.mem_cons.1 hx with rfl | hx
       · exact .inl (addR_dom P ho hv oy (.inr hy))
       · exact .inr ⟨x, hx, hy⟩
theorem minP_uniq (P : POrd f ok) {l m : List V} (hl : ∀ x ∈ l, ok x) (hs : Asc m) (ha : Anti f m) (h1 : ∀ x ∈ m, x ∈ l) (h2 : ∀ y ∈ l, ∃ x ∈ m, f x y = true) : m = minimalP f l := by
 have hm : ∀ x ∈ m, ok x := fun x hx => hl x (h1 x hx)
 have e : minimalP f m = m := minP_anti ha hs.pair
 rw [← e]
 exact minP_eq P hm hl (fun x hx => ⟨x, h1 x hx, P.refl x (hm x hx)⟩) h2
theorem leastR_eq (P : POrd f ok) {l : List V} (hl : ∀ x ∈ l, ok x) : leastR f l = minimalP f l := by
 obtain ⟨s, a, b, c⟩ := foldR_spec P l [] (fun x hx => by simp at hx) hl trivial .nil
 exact minP_uniq P hl s a (fun x hx => by simpa using b x hx) (fun y hy => c y (hl y hy) (.inr ⟨y, hy, P.refl y (hl y hy)⟩))
end
def antiB (f : V → V → Bool) (l : List V) : Bool := (List.range l.length).all fun i => (List.range l.length).all fun k => !(i != k && f (l.getD i default) (l.getD k default))
theorem antiB_iff {f : V → V → Bool} {l : List V} : antiB f l = true ↔ Anti f l := by
 unfold antiB Anti
 rw [List.all_eq_true, List.pairwise_iff_getElem]
 constructor
 · intro h i j hi hj hij
   have h1 := List.all_eq_true.1 (h i (List.mem_range.2 hi)) j (List.mem_range.2 hj)
   have h2 := List.all_eq_true.1 (h j (List.mem_range.2 hj)) i (List.mem_range.2 hi)
   have n1 : (i != j) = true := by simp; omega
   have n2 : (j != i) = true := by simp; omega
   simp only [n1, n2, Bool.true_and, Bool.not_eq_true', List.getD_eq_getElem?_getD, List.getElem?_eq_getElem hi, List.getElem?_eq_getElem hj, Option.getD_some] at h1 h2
   exact ⟨h1, h2⟩
 · intro h i hi
   rw [List.all_eq_true]
   intro k hk
   have hi := List.mem_range.1 hi
   have hk := List.mem_range.1 hk
   simp only [List.getD_eq_getElem?_getD, List.getElem?_eq_getElem hi, List.getElem?_eq_getElem hk, Option.getD_some]
   rcases Nat.lt_trichotomy i k with e | rfl | e
   · rw [(h i k hi hk e).1]; simp
   · simp
   · rw [(h k i hk hi e).2]; simp
def checkR (t : T) (b : List V) : Int :=
 if rightP 8 t then (if 256 < b.length then 1 else if chkE t none b = 0 then (if antiB (belowP 8 t) b then 0 else 7) else chkE t none b) else 6
theorem checkR_eq (t : T) (b : List V) : checkR t b = checkB t b := by
 unfold checkR checkB
 by_cases h : (minimalP (belowP 8 t) b).length = b.length
 · rw [if_pos h, if_pos (antiB_iff.2 (minP_full.1 h))]
 · rw [if_neg h, if_neg (fun k => h (minP_full.2 (antiB_iff.1 k)))]
end Go.Proofs.YtbmheekaclmibaaGreat
namespace Go.Proofs.YtbmheekaclmibaaGreat
open Go.RowKit
set_option linter.unusedSimpArgs false
set_option linter.unusedVariables false
theorem putV_stay {v : V} : ∀ {l : List V} {k : Nat}, (∀ x ∈ l.take k, cmpV x v = -1) → (h : k < l.length) → l[k] = v → putV v l = l
 | [], _, _, h, _ => by simp at h
 | y :: r, 0, _, _, e => by
   simp only [List.getElem_cons_zero] at e
   subst e
   unfold putV
   rw [cmp_self, if_neg (by omega), if_pos rfl]
 | y :: r, k + 1, ha, h, e => by
   unfold putV
   rw [if_pos (ha y (by simp)), putV_stay (k := k) (fun x hx => ha x (by simp [hx])) (by simpa using h) (by simpa using e)]
theorem putV_in {v : V} : ∀ {l : List V} {k : Nat}, (∀ x ∈ l.take k, cmpV x v = -1) → k ≤ l.length → (∀ h : k < l.length, ¬ cmpV l[k] v < 0 ∧ l[k] ≠ v) → putV v l = l.take k ++ [v] ++ l.drop k
 | [], k, _, h, _ => by simp [putV]
 | y :: r, 0, _, _, e => by
   obtain ⟨e1, e2⟩ := e (by simp)
   simp only [List.getElem_cons_zero] at e1 e2
   unfold putV
   rw [if_neg (by omega), if_neg (fun h => e2 (cmp_zero _ _ h))]
   simp
 | y :: r, k + 1, ha, h, e => by
   unfold putV
   rw [if_pos (ha y (by simp)), putV_in (k := k) (fun x hx => ha x (by simp [hx])) (by simpa using h) (fun hk => by
     have := e (by simpa using hk)
     simp only [List.getElem_cons_succ] at this
     exact this)]
   simp
theorem vbox {w : World} {x : Int} {s : Value} : ∀ W, Bw (w.alloc (.cells #[.int .i64 x, s] 39)) W → w.heap.size < W.heap.size ∧ Bw w W ∧ W.cell? ⟨w.heap.size, 0, none⟩ = some (.int .i64 x) ∧ W.cell? ⟨w.heap.size, 1, none⟩ = some s := by
 intro W g
 have b := (Blk.new w 39 #[.int .i64 x, s]).below g.b (by simp)
 exact ⟨b.lt, ((Bw.refl w).alloc _).trans g, b.cell 0, b.cell 1⟩
def KbPost (w : World) (l : List V) (e : Ending) (w' : World) : Prop := ∃ s, e = .returned s ∧ KB w' w'.heap.size s l ∧ Bw w w'
theorem r6Put_any (l : List V) (v : V) (h9 : l.length ≤ 1000) (hv9 : v.size ≤ 1000000) (s u : Value) (w : World) (hl : KB w w.heap.size s l) (hx : KB w w.heap.size u v.ks) : Calls Tryz.prog 124 #[s, .agg #[.int .i64 v.n, u]] w (KbPost w (putV v l)) := by
 obtain ⟨A, n, c, rfl, ln, bn, mn⟩ := hl.form
 obtain ⟨A2, n2, c2, rfl, ln2, bn2, mn2⟩ := hx.form
 have hn9 : n ≤ 1000 := by omega
 have HK := Lib.hid hl
 have HX := Lib.hid hx
 have LN := Lib.hid ln
 have HX9 := Lib.hid hv9
 have CM : Hid (∀ (k : Nat) (hk : k < l.length) (sk : Value) (W : World), Bw w W → KB W W.heap.size sk l[k].ks → Calls Tryz.prog 50 #[.agg #[.int .i64 l[k].n, sk], .agg #[.int .i64 v.n, .slice A2 n2 c2]] W (NumPost W (cmpV l[k] v))) := Lib.hid (fun k hk sk W g h => r6cmp_any _ v _ _ W h (hx.bw g))
 have CS : Hid (∀ (k : Nat) (hk : k < l.length) (sk : Value) (W : World), Bw w W → KB W W.heap.size sk l[k].ks → Calls Tryz.prog 20 #[.agg #[.int .i64 l[k].n, sk], .agg #[.int .i64 v.n, .slice A2 n2 c2]] W (BoolPost W (decide (l[k] = v)))) := Lib.hid (fun k hk sk W g h => r6same_any _ v _ _ W h (hx.bw g))
 have TX := Lib.hid (vbox (w := w) (x := v.n) (s := .slice A2 n2 c2))
 have HB1 : Hid (Bw w (w.alloc (.cells #[.int .i64 v.n, .slice A2 n2 c2] 39))) := Lib.hid ((Bw.refl _).alloc _)
 have CP : Hid (∀ X, Bw w X → Calls Tryz.prog 117 #[.agg #[.int .i64 v.n, .slice A2 n2 c2]] X (ValPost X v)) := Lib.hid (fun X g => r6Copy_any v hv9 _ X (hx.bw g))
 unfold NumPost at CM
 unfold BoolPost at CS
 unfold ValPost at CP
 unfold KbPost
 clear hl hx ln h9 hv9
 generalize hvn : v.n = vx at *
 go_enter Tryz.func124, Tryz.ntmps124
 go_upto_block 0 with fail
 go_cut [5] from 6 to 20 (fun s5 wx => ∃ k : Nat, k ≤ n ∧ s5 = .int .i64 k ∧ Hid (Bw (w.alloc (.cells #[.int .i64 vx, .slice A2 n2 c2] 39)) wx ∧ (∀ x ∈ l.take k, cmpV x v = -1) ∧ ∀ h : k < l.length, ¬ cmpV l[k] v < 0))
 case first =>
   go_wp2_with fail
   go_loopw [5] (fun i wr => ∃ k : Nat, k ≤ n ∧ i = .int .i64 k ∧ Hid (Bw (w.alloc (.cells #[.int .i64 vx, .slice A2 n2 c2] 39)) wr ∧ ∀ x ∈ l.take k, cmpV x v = -1)) (fun i _ => n - (intOf i).toNat)
   case atStart => exact ⟨0, by omega, rfl, Lib.hid ⟨Bw.refl _, fun x hx => by simp at hx⟩⟩
   case round =>
     obtain ⟨k, hk, rfl, HR⟩ := hrel
     obtain ⟨hg, hall⟩ := HR.out
     have HG := Lib.hid hg
     have HALL := Lib.hid hall
     by_cases hlt : k < n
     · have e1 : k < l.length := by rw [LN.out]; exact hlt
       have hwr : Bw w wr := HB1.out.trans hg
       obtain ⟨ad, sA, sn, sc, rfl, hb, q0, q1, sl, hs⟩ := (HK.out.bw hwr).at_ e1
       obtain ⟨y0, -, y1, y2⟩ := TX.out wr hg
       have CM2 := Lib.hid (fun W (g : Bw wr W) => CM.out k e1 _ W (hwr.trans g) (hs.bw g))
       have HST : Hid (cmpV l[k] v < 0 → ∀ x ∈ l.take (k + 1), cmpV x v = -1) := Lib.hid (fun hc x hx => by
         rw [List.take_add_one, List.getElem?_eq_getElem e1] at hx
         simp only [Option.toList_some, List.mem_append, List.mem_singleton] at hx
         rcases hx with hx | rfl
         · exact hall x hx
         · have := cmp_range l[k] v; omega)
       have HNO : Hid (¬ cmpV l[k] v < 0 → ∀ h : k < l.length, ¬ cmpV l[k] v < 0) := Lib.hid (fun h _ => h)
       clear hs sl hb HR hg hall hwr
       generalize hcc : cmpV l[k] v = cc at CM2 HST
       generalize hkn : l[k].n = kx at *
       go_wp2_with fail
       go_region_law (go_simp; go_at_call 50; refine (CM2.out _ (by exact (Bw.refl wr).drewN _)).mono ?_; rintro e w5 ⟨rfl, hg5⟩; (have HG5 := Lib.hid (HG.out.trans (((Bw.refl wr).drewN _).trans hg5))); clear hg5)
       all_goals
         by_cases hc : cc < 0
         · go_wp2_with fail
           go_roundw
           case rel => exact ⟨k + 1, by omega, by go_num, Lib.hid ⟨HG5.out, HST.out hc⟩⟩
           case measure => simp [intOf]; omega
         · go_wp2_with fail
           go_meet
           exact ⟨k, hk, rfl, Lib.hid ⟨HG5.out, HALL.out, HNO.out (by rw [hcc]; exact hc)⟩⟩
     · have HNL : Hid (¬ k < l.length) := Lib.hid (by rw [LN.out]; exact hlt)
       clear HR hg hall
       go_wp2_with fail
       go_quiet (fail)
       go_wp2_with fail
       go_meet
       exact ⟨k, hk, rfl, Lib.hid ⟨HG.out.trans ((Bw.refl _).drewN _), HALL.out, fun h => absurd h HNL.out⟩⟩
 case rest =>
 obtain ⟨k, hk, rfl, HC⟩ := hcut
 go_upto_region 4 with fail
 go_cut [32] from 21 to 31 (fun s32 wx => ∃ b : Bool, s32 = .bool b ∧ Hid (Bw (w.alloc (.cells #[.int .i64 vx, .slice A2 n2 c2] 39)) wx ∧ (b = true → putV v l = l) ∧ (b = false → putV v l = l.take k ++ [v] ++ l.drop k)))
 case first =>
   obtain ⟨hg, hall, hno⟩ := HC.out
   have HG := Lib.hid hg
   by_cases hlt : k < n
   · have e1 : k < l.length := by rw [LN.out]; exact hlt
     have hwr : Bw w wc := HB1.out.trans hg
     obtain ⟨ad, sA, sn, sc, rfl, hb, q0, q1, sl, hs⟩ := (HK.out.bw hwr).at_ e1
     obtain ⟨y0, -, y1, y2⟩ := TX.out wc hg
     have CS2 := Lib.hid (fun W (g : Bw wc W) => CS.out k e1 _ W (hwr.trans g) (hs.bw g))
     have HPT : Hid ((decide (l[k] = v) = true → putV v l = l) ∧ (decide (l[k] = v) = false → putV v l = l.take k ++ [v] ++ l.drop k)) := Lib.hid
       ⟨fun h => putV_stay hall e1 (of_decide_eq_true h), fun h => putV_in hall (by omega) (fun _ => ⟨hno e1, of_decide_eq_false h⟩)⟩
     clear hs sl hb hg hall hno hwr HC
     generalize hcc : decide (l[k] = v) = cc at CS2 HPT
     generalize hkn : l[k].n = kx at *
     go_wp2_with fail
     go_region_law (go_simp; go_at_call 20; refine (CS2.out _ (by exact (Bw.refl wc).drewN _)).mono ?_; rintro e w5 ⟨rfl, hg5⟩; (have HG5 := Lib.hid (HG.out.trans (((Bw.refl wc).drewN _).trans hg5))); clear hg5)
     all_goals
       go_wp2_with fail
       go_meet
       exact ⟨cc, rfl, Lib.hid ⟨HG5.out, HPT.out⟩⟩
   · have HPT : Hid (putV v l = l.take k ++ [v] ++ l.drop k) := Lib.hid (putV_in hall (by rw [LN.out]; exact hk) (fun h => absurd h (by rw [LN.out]; exact hlt)))
     clear hg hall hno HC
     go_wp2_with fail
     go_quiet (fail)
     go_wp2_with fail
     go_meet
     exact ⟨false, rfl, Lib.hid ⟨HG.out.trans ((Bw.refl _).drewN _), (fun h => by cases h), fun _ => HPT.out⟩⟩
 case rest =>
 obtain ⟨b, rfl, HW⟩ := hcut
 rcases b with _ | _
 rotate_left
 · clear HC CS CM
   go_wp2_with fail
   go_ret
   obtain ⟨hg, h1, h2⟩ := HW.out
   have hw := HB1.out.trans hg
   refine ⟨_, rfl, ?_, hw⟩
   rw [show putV v l = l by simpa using h1]
   exact HK.out.bw hw
 clear HC CS CM
 have HPV : Hid (putV v l = l.take k ++ [v] ++ l.drop k) := Lib.hid (HW.out.2.2 rfl)
 obtain ⟨W, hW⟩ : ∃ W, W = wc := ⟨_, rfl⟩
 rw [← hW] at HW ⊢
 clear hW
 have HGB := Lib.hid HW.out.1
 have HWW : Hid (Bw w W) := Lib.hid (HB1.out.trans HGB.out)
 have hlW := HK.out.bw HWW.out
 have hxW := HX.out.bw HWW.out
 have HBX : Hid (∀ X, Bw W X → X.cell? ⟨w.heap.size, 0, none⟩ = some (.int .i64 vx) ∧ X.cell? ⟨w.heap.size, 1, none⟩ = some (.slice A2 n2 c2)) := Lib.hid (fun X g => (TX.out X (HGB.out.trans g)).2.2)
 obtain ⟨y1, y2⟩ := HBX.out W (Bw.refl _)
 obtain ⟨ps, hpl, hpf, hpr, hpk⟩ := hlW.rows
 obtain ⟨i0, hi, hz0, hz1, hz2⟩ := info_parts infoVal
 have hc1 := fun W => cutV_h A n c k (by omega) W
 have hc2 := fun W => cutV_l A n c k (by omega) W
 obtain ⟨P1, e1, k1⟩ := reads_part2 hpr (k := 0) (m := k) bn (Nat.zero_le _) hk
 obtain ⟨P2, e2, k2⟩ := reads_part2 hpr (k := k) (m := n) bn hk (Nat.le_refl _)
 rw [Nat.sub_zero, Nat.sub_zero] at e1
 rw [Nat.sub_zero, Nat.zero_mul, List.drop_zero, pCells_take] at k1
 rw [pCells_take, pCells_drop, List.take_of_length_le (by omega)] at k2
 rw [e1] at hc1
 rw [e2] at hc2
 have K1 := Lib.hid k1
 have K2 := Lib.hid k2
 have HP1 : Hid (∀ p ∈ ps.take k, KB W W.heap.size p.2 p.1.ks) := Lib.hid (fun p hp => hpk p (List.mem_of_mem_take hp))
 have HP2 : Hid (∀ p ∈ ps.drop k, KB W W.heap.size p.2 p.1.ks) := Lib.hid (fun p hp => hpk p (List.mem_of_mem_drop hp))
 have HPL : Hid ((ps.take k).length = k ∧ (ps.drop k).length = n - k) := Lib.hid ⟨by simp; omega, by simp; omega⟩
 have HPV2 : Hid (putV v l = (ps.take k).map (·.1) ++ [v] ++ (ps.drop k).map (·.1)) := Lib.hid (by rw [HPV.out, ← hpf, List.map_take, List.map_drop])
 have kk0 : (0 : Int) ≤ (k : Int) := by omega
 have kk1 : (k : Int) ≤ (n : Int) := by omega
 have kk2 : (k : Int) ≤ (c : Int) := by omega
 clear hlW hxW hpk hpr k1 k2 e1 e2 hpf hpl HK HX HPV HW TX HGB
 generalize ps.take k = ps1 at *
 generalize ps.drop k = ps2 at *
 generalize hm2 : n - k = m2 at *
 generalize c - k = q2 at *
 have hms : k + 1 + m2 ≤ 1001 := by omega
 have HPL2 : Hid (ps2.length = m2) := Lib.hid HPL.out.2
 clear hm2
 go_wp2_with fail
 go_region_law (first
   | (go_simp; go_at_call 117; refine (CP.out _ (by exact HWW.out.drewN _)).mono ?_; rintro e w9 ⟨s9, rfl, hk9, hg9⟩; obtain ⟨A9, n9, c9, rfl, -, -, -⟩ := hk9.form; (have HK9 : Hid (KAt w9 (fun b => W.heap.size ≤ b ∧ b < w9.heap.size) (.slice A9 n9 c9) v.ks) := Lib.hid (by exact hk9)); (have HG9 : Hid (Bw W w9) := Lib.hid (((Bw.refl W).drewN _).trans hg9)); clear hk9 hg9)
   | (go_simp; go_at_call 117; refine (CP.out _ (HWW.out.trans HG7.out)).mono ?_; rintro e w9 ⟨s9, rfl, hk9, hg9⟩; obtain ⟨A9, n9, c9, rfl, -, -, -⟩ := hk9.form; (have HK9 := Lib.hid hk9); (have HG79 := Lib.hid hg9); (have HG9 := Lib.hid (HG7.out.trans hg9)); clear hk9 hg9)
   | (refine step_append_any _ rfl (.const (.slice none 0 0)) (.tmp 36) 31 rfl W.heap.size 39 i0 _ 2 32 Tryz.underlying31 hi hz0 hz1 hz2 rfl (by decide) (.slice none 0 0) 0 [] (by simp [Act.eval]) (World.ownsRow_nil _ _ _ _) W.heap.size P1 k c (pCells ps1) (by simp [Act.eval, Act.put]) K1.out.drew (pcells_one HP1.out) (by unfold maxLen; omega) (by omega) (Nat.le_refl _) ?_; intro v7 w7 hown7 hgr7 hl7; simp only [Nat.zero_add, List.nil_append] at hown7; obtain ⟨A7, c7, rfl, -, -⟩ := own_bounds hown7; (have HG7 : Hid (Bw W w7) := Lib.hid (Below.grown (Bw.refl W).drew hgr7 (Nat.le_refl _) (fun r e => by cases e))); (obtain ⟨u1, u2⟩ := HBX.out _ HG7.out); (have HD7 : Hid (PRow w7 W.heap.size (.slice A7 k c7) ps1) := Lib.hid (PRow.of_old (by rw [HPL.out.1]; exact hown7) HG7.out HP1.out)); clear hown7 hgr7 hl7)
   | (refine step_append_any _ rfl (.const (.slice none 0 0)) (.tmp 36) 31 rfl W.heap.size 39 i0 _ 2 32 Tryz.underlying31 hi hz0 hz1 hz2 rfl (by decide) (.slice none 0 0) 0 [] (by simp [Act.eval]) (World.ownsRow_nil _ _ _ _) W.heap.size P1 k c (pCells ps1) (by simp [Act.eval, Act.put]) (K1.out.below HG9.out) (pcells_one HP1.out) (by unfold maxLen; omega) (by omega) HG9.out.size ?_; intro v7 w7 hown7 hgr7 hl7; simp only [Nat.zero_add, List.nil_append] at hown7; obtain ⟨A7, c7, rfl, -, -⟩ := own_bounds hown7; (have HG7 : Hid (Bw W w7) := Lib.hid (Below.grown HG9.out hgr7 HG9.out.size (fun r e => by cases e))); (have HGA := Lib.hid hgr7); (have HLA := Lib.hid hl7); (have HD7 : Hid (PRow w7 W.heap.size (.slice A7 k c7) ps1) := Lib.hid (PRow.of_old (by rw [HPL.out.1]; exact hown7) HG7.out HP1.out)); clear hown7 hgr7 hl7)
   | (refine step_append_any _ rfl (.const (.slice none 0 0)) (.tmp 36) 31 rfl W.heap.size 39 i0 _ 2 32 Tryz.underlying31 hi hz0 hz1 hz2 rfl (by decide) (.slice none 0 0) 0 [] (by simp [Act.eval]) (World.ownsRow_nil _ _ _ _) W.heap.size P1 k c (pCells ps1) (by simp [Act.eval, Act.put]) (K1.out.below (HG9.out.alloc _)) (pcells_one HP1.out) (by unfold maxLen; omega) (by omega) (HG9.out.alloc _).size ?_; intro v7 w7 hown7 hgr7 hl7; simp only [Nat.zero_add, List.nil_append] at hown7; obtain ⟨A7, c7, rfl, -, -⟩ := own_bounds hown7; (have HG7 : Hid (Bw W w7) := Lib.hid (Below.grown (HG9.out.alloc _) hgr7 (HG9.out.alloc _).size (fun r e => by cases e))); (have HGC := Lib.hid hgr7); (have HLC := Lib.hid hl7); (have HD7 : Hid (PRow w7 W.heap.size (.slice A7 k c7) ps1) := Lib.hid (PRow.of_old (by rw [HPL.out.1]; exact hown7) HG7.out HP1.out)); clear hown7 hgr7 hl7)
   | (refine step_append_any _ rfl (.tmp 37) (.tmp 40) 31 rfl W.heap.size 39 i0 _ 2 32 Tryz.underlying31 hi hz0 hz1 hz2 rfl (by decide) (.slice A7 k c7) k (pCells ps1) (by simp [Act.eval, Act.put]) (by have := (HD7.out.bw (HG79.out.alloc (.cells #[.int .i64 vx, .slice A9 n9 c9] 39))).own; rwa [HPL.out.1] at this) (w9.heap.size + 1) (some ⟨w9.heap.size, 0, none⟩) 1 1 [.int .i64 vx, .slice A9 n9 c9] (by simp [Act.eval, Act.put]) (reads_new2 w9 _ _ _) (one2 _ _ _ _) (by unfold maxLen; omega) (by omega) (HG9.out.alloc _).size ?_; intro v8 w8 hown8 hgr8 hl8; obtain ⟨A8, c8, rfl, -, -⟩ := own_bounds hown8; (have HD8 : Hid (PRow w8 W.heap.size (.slice A8 (k + 1) c8) (ps1 ++ [(v, .slice A9 n9 c9)])) := Lib.hid ((HD7.out.bw (HG79.out.alloc (.cells #[.int .i64 vx, .slice A9 n9 c9] 39))).app (qs := [(v, .slice A9 n9 c9)]) (kidv_i HD7.out HK9.out _) (by rw [HPL.out.1, pCells_cons, hvn]; exact hown8) hgr8 hl8)); (have HG8 : Hid (Bw W w8) := Lib.hid (Below.grown (HG9.out.alloc _) hgr8 (HG9.out.alloc _).size (fun r e => (HD7.out.own.lt r e).1))); clear hown8 hgr8 hl8)
   | (refine step_append_any _ rfl (.tmp 37) (.tmp 40) 31 rfl W.heap.size 39 i0 _ 2 32 Tryz.underlying31 hi hz0 hz1 hz2 rfl (by decide) (.slice A7 k c7) k (pCells ps1) (by simp [Act.eval, Act.put]) (by have := (HD7.out.bw ((Bw.refl w7).alloc (.cells #[.int .i64 vx, .slice A9 n9 c9] 39))).own; rwa [HPL.out.1] at this) (w7.heap.size + 1) (some ⟨w7.heap.size, 0, none⟩) 1 1 [.int .i64 vx, .slice A9 n9 c9] (by simp [Act.eval, Act.put]) (reads_new2 w7 _ _ _) (one2 _ _ _ _) (by unfold maxLen; omega) (by omega) (HG7.out.alloc _).size ?_; intro v8 w8 hown8 hgr8 hl8; obtain ⟨A8, c8, rfl, -, -⟩ := own_bounds hown8; (have HD8 : Hid (PRow w8 W.heap.size (.slice A8 (k + 1) c8) (ps1 ++ [(v, .slice A9 n9 c9)])) := Lib.hid ((HD7.out.bw ((Bw.refl w7).alloc (.cells #[.int .i64 vx, .slice A9 n9 c9] 39))).app (qs := [(v, .slice A9 n9 c9)]) (kidv_ii HK9.out HGA.out HLA.out _) (by rw [HPL.out.1, pCells_cons, hvn]; exact hown8) hgr8 hl8)); (have HG8 : Hid (Bw W w8) := Lib.hid (Below.grown (HG7.out.alloc _) hgr8 (HG7.out.alloc _).size (fun r e => (HD7.out.own.lt r e).1))); clear hown8 hgr8 hl8)
   | (refine step_append_any _ rfl (.tmp 37) (.tmp 40) 31 rfl W.heap.size 39 i0 _ 2 32 Tryz.underlying31 hi hz0 hz1 hz2 rfl (by decide) (.slice A7 k c7) k (pCells ps1) (by simp [Act.eval, Act.put]) (by have := HD7.out.own; rwa [HPL.out.1] at this) (w9.heap.size + 1) (some ⟨w9.heap.size, 0, none⟩) 1 1 [.int .i64 vx, .slice A9 n9 c9] (by simp [Act.eval, Act.put]) ((reads_new2 w9 _ _ _).grown HGC.out (by simp) (fun g e => by cases e)) (one2 _ _ _ _) (by unfold maxLen; omega) (by omega) HG7.out.size ?_; intro v8 w8 hown8 hgr8 hl8; obtain ⟨A8, c8, rfl, -, -⟩ := own_bounds hown8; (have HD8 : Hid (PRow w8 W.heap.size (.slice A8 (k + 1) c8) (ps1 ++ [(v, .slice A9 n9 c9)])) := Lib.hid (HD7.out.app (qs := [(v, .slice A9 n9 c9)]) (kidv_iii HK9.out HGC.out HLC.out) (by rw [HPL.out.1, pCells_cons, hvn]; exact hown8) hgr8 hl8)); (have HG8 : Hid (Bw W w8) := Lib.hid (Below.grown HG7.out hgr8 HG7.out.size (fun r e => (HD7.out.own.lt r e).1))); clear hown8 hgr8 hl8)
   | (refine step_append_any _ rfl (.tmp 41) (.tmp 44) 31 rfl W.heap.size 39 i0 _ 2 32 Tryz.underlying31 hi hz0 hz1 hz2 rfl (by decide) (.slice A8 (k + 1) c8) (k + 1) (pCells (ps1 ++ [(v, Value.slice A9 n9 c9)])) (by simp [Act.eval, Act.put]) (by have := HD8.out.own; rw [List.length_append, HPL.out.1] at this; exact this) W.heap.size P2 m2 q2 (pCells ps2) (by simp [Act.eval, Act.put]) (K2.out.below HG8.out) (pcells_one HP2.out) (by unfold maxLen; omega) (by omega) HG8.out.size ?_; intro v10 w10 hown10 hgr10 hl10; obtain ⟨A10, c10, rfl, -, -⟩ := own_bounds hown10; (have HD10 : Hid (PRow w10 W.heap.size (.slice A10 (k + 1 + m2) c10) (ps1 ++ [(v, .slice A9 n9 c9)] ++ ps2)) := Lib.hid (HD8.out.app (qs := ps2) (kidv_old HD8.out HG8.out HP2.out) (by rw [List.length_append, HPL.out.1, HPL2.out]; exact hown10) hgr10 hl10)); (have HG10 : Hid (Bw W w10) := Lib.hid (Below.grown HG8.out hgr10 HG8.out.size (fun r e => (HD8.out.own.lt r e).1))); clear hown10 hgr10 hl10))
 all_goals
   go_wp2
   go_ret
   refine ⟨.slice A10 (k + 1 + m2) c10, rfl, ?_, HWW.out.trans HG10.out⟩
   have h := HD10.out.kb
   rw [HPV2.out]
   simpa using h
end Go.Proofs.YtbmheekaclmibaaGreat
