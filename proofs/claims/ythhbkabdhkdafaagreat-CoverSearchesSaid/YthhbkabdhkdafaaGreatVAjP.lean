/- Part of a proof of coverSearches_holds. -/
import Derived.Test.YthhbkabdhkdafaaGreatVAfP
import Derived.Lib.ItoaMem
import Derived.Lib.ItoaNum
import Derived.Maps.Own
import Derived.Maps.OwnSet
import Derived.Maps.Views
import Derived.WalkSmall
import Derived.Lib.LaidTab
import Derived.Deep.RegionHeld
import Derived.Great.BuildSlice
set_option linter.unusedSimpArgs false
set_option linter.unusedVariables false
set_option maxRecDepth 100000
set_option maxHeartbeats 16000000
namespace Go.Proofs.YthhbkabdhkdafaaGreat
def insV (x : V) : List V → List V
 | [] => [x]
 | y :: r => if cmpV x y ≤ 0 then x :: y :: r else y :: insV x r
def sortV (l : List V) : List V := l.foldr insV []
theorem insV_perm (x : V) : ∀ l, (insV x l).Perm (x :: l)
 | [] => List.Perm.refl _
 | y :: r => by
   unfold insV
   split
   · exact List.Perm.refl _
   · exact ((insV_perm x r).cons y).trans (List.Perm.swap _ _ _)
theorem sortV_perm : ∀ l, (sortV l).Perm l
 | [] => List.Perm.refl _
 | x :: r => (insV_perm x _).trans ((sortV_perm r).cons x)
theorem cmp_le_trans {a b c : V} (h1 : cmpV a b ≤ 0) (h2 : cmpV b c ≤ 0) : cmpV a c ≤ 0 := by
 by_cases e1 : cmpV a b = 0
 · rw [cmp_zero _ _ e1]; exact h2
 · by_cases e2 : cmpV b c = 0
   · rw [← cmp_zero _ _ e2]; exact h1
   · have r1 := cmp_range a b; have r2 := cmp_range b c
     have := cmp_trans a b c (by omega) (by omega); omega
theorem insV_pair (x : V) : ∀ {l : List V}, (l.Pairwise fun a b => cmpV a b ≤ 0) → (insV x l).Pairwise fun a b => cmpV a b ≤ 0
 | [], _ => by simp [insV]
 | y :: r, h => by
   have h2 := List.pairwise_cons.1 h
   unfold insV
   split
   · rename_i h0
     refine .cons (fun z hz => ?_) h
     rcases List.mem_cons.1 hz with rfl | hz
     · exact h0
     · exact cmp_le_trans h0 (h2.1 z hz)
   · rename_i h0
     refine .cons (fun z hz => ?_) (insV_pair x h2.2)
     rcases List.mem_cons.1 ((insV_perm x r).subset hz) with rfl | hz
     · have := cmp_anti z y; omega
     · exact h2.1 z hz
theorem sortV_pair : ∀ l, (sortV l).Pairwise fun a b => cmpV a b ≤ 0
 | [] => .nil
 | x :: r => insV_pair x (sortV_pair r)
theorem sortV_sorted (l : List V) : sortedB (sortV l) = true := pair_sorted (sortV_pair l)
theorem sortV_eq {l l' : List V} (h : l'.Perm l) (hs : sortedB l' = true) : l' = sortV l := sorted_perm hs (sortV_sorted l) (h.trans (sortV_perm l).symm)
theorem sortV_mem {l : List V} {x : V} : x ∈ sortV l ↔ x ∈ l := (sortV_perm l).mem_iff
theorem sortV_length (l : List V) : (sortV l).length = l.length := (sortV_perm l).length_eq

def minStep (f : V → V → Bool) (out : List V) (v : V) : List V := if out.any (fun x => f x v) then out else (out.filter fun x => !f v x) ++ [v]
def minL (f : V → V → Bool) (l : List V) : List V := l.foldl (minStep f) []
def minimalP (f : V → V → Bool) (l : List V) : List V := sortV (minL f l)

structure POrd (f : V → V → Bool) (ok : V → Prop) : Prop where
 refl : ∀ a, ok a → f a a = true
 trans : ∀ a b c, ok a → ok b → ok c → f a b = true → f b c = true → f a c = true
 anti : ∀ a b, ok a → ok b → f a b = true → f b a = true → a = b
def Anti (f : V → V → Bool) (l : List V) : Prop := l.Pairwise fun a b => f a b = false ∧ f b a = false
theorem Anti.perm {f : V → V → Bool} {a b : List V} (h : Anti f a) (p : a.Perm b) : Anti f b := (p.pairwise_iff (fun {x y} h => ⟨h.2, h.1⟩)).1 h
section
variable {f : V → V → Bool} {ok : V → Prop}
theorem minStep_anti {out : List V} (v : V) (h : Anti f out) : Anti f (minStep f out v) := by
 unfold minStep
 split
 · exact h
 · rename_i h0
   refine List.pairwise_append.2 ⟨List.Pairwise.sublist List.filter_sublist h, by simp, fun a ha b hb => ?_⟩
   obtain rfl := List.mem_singleton.1 hb
   have h1 := List.mem_filter.1 ha
   simp only [Bool.not_eq_true, List.any_eq_false] at h0
   exact ⟨by simpa using h0 a h1.1, by simpa using h1.2⟩
theorem minStep_mem {out : List V} {v x : V} (h : x ∈ minStep f out v) : x ∈ out ∨ x = v := by
 unfold minStep at h
 split at h
 · exact .inl h
 · rcases List.mem_append.1 h with h | h
   · exact .inl (List.mem_filter.1 h).1
   · exact .inr (List.mem_singleton.1 h)
theorem minStep_dom (P : POrd f ok) {out : List V} {v y : V} (ho : ∀ x ∈ out, ok x) (hv : ok v) (hy : ok y) (h : (∃ x ∈ out, f x y = true) ∨ f v y = true) : ∃ x ∈ minStep f out v, f x y = true := by
 unfold minStep
 split
 · rename_i h0
   rcases h with h | h
   · exact h
   · obtain ⟨x, hx, h1⟩ := List.any_eq_true.1 h0
     exact ⟨x, hx, P.trans _ _ _ (ho x hx) hv hy h1 h⟩
 · rcases h with ⟨x, hx, h⟩ | h
   · by_cases h1 : f v x = true
     · exact ⟨v, by simp, P.trans _ _ _ hv (ho x hx) hy h1 h⟩
     · exact ⟨x, List.mem_append_left _ (List.mem_filter.2 ⟨hx, by simpa using h1⟩), h⟩
   · exact ⟨v, by simp, h⟩
theorem fold_spec (P : POrd f ok) : ∀ (l out : List V), (∀ x ∈ out, ok x) → (∀ x ∈ l, ok x) → Anti f out →
   Anti f (l.foldl (minStep f) out) ∧ (∀ x ∈ l.foldl (minStep f) out, x ∈ out ∨ x ∈ l) ∧ (∀ y, ok y → ((∃ x ∈ out, f x y = true) ∨ ∃ x ∈ l, f x y = true) → ∃ x ∈ l.foldl (minStep f) out, f x y = true)
 | [], out, _, _, h => ⟨h, fun x hx => .inl hx, fun y _ hy => by simpa using hy⟩
 | v :: l, out, ho, hl, h => by
   have hv := hl v (by simp)
   obtain ⟨a, b, c⟩ := fold_spec P l (minStep f out v) (fun x hx => by
     rcases minStep_mem hx with hx | rfl
     · exact ho x hx
     · exact hv) (fun x hx => hl x (by simp [hx])) (minStep_anti v h)
   refine ⟨a, fun x hx => ?_, fun y oy hy => c y oy ?_⟩
   · rcases b x hx with hx | hx
     · rcases minStep_mem hx with hx | rfl
       · exact .inl hx
       · exact .inr (by simp)
     · exact .inr (by simp [hx])
   · rcases hy with hy | ⟨x, hx, hy⟩
     · exact .inl (minStep_dom P ho hv oy (.inl hy))
     · rcases List.mem_cons.1 hx with rfl | hx
       · exact .inl (minStep_dom P ho hv oy (.inr hy))
       · exact .inr ⟨x, hx, hy⟩
theorem minL_spec (P : POrd f ok) {l : List V} (hl : ∀ x ∈ l, ok x) : Anti f (minL f l) ∧ (∀ x ∈ minL f l, x ∈ l) ∧ (∀ y, ok y → (∃ x ∈ l, f x y = true) → ∃ x ∈ minL f l, f x y = true) := by
 obtain ⟨a, b, c⟩ := fold_spec P l [] (fun x hx => by simp at hx) hl .nil
 exact ⟨a, fun x hx => by simpa using b x hx, fun y oy hy => c y oy (.inr hy)⟩
theorem minP_spec (P : POrd f ok) {l : List V} (hl : ∀ x ∈ l, ok x) : Anti f (minimalP f l) ∧ (∀ x ∈ minimalP f l, x ∈ l) ∧ (∀ y, ok y → (∃ x ∈ l, f x y = true) → ∃ x ∈ minimalP f l, f x y = true) := by
 obtain ⟨a, b, c⟩ := minL_spec P hl
 exact ⟨a.perm (sortV_perm _).symm, fun x hx => b x (sortV_mem.1 hx), fun y oy hy => by
   obtain ⟨x, hx, h⟩ := c y oy hy
   exact ⟨x, sortV_mem.2 hx, h⟩⟩
theorem Anti.asc (P : POrd f ok) {l : List V} (hl : ∀ x ∈ l, ok x) (h : Anti f l) (hs : l.Pairwise fun a b => cmpV a b ≤ 0) : Asc l := by
 induction l with
 | nil => trivial
 | cons a r ih =>
   have h1 := List.pairwise_cons.1 h
   have h2 := List.pairwise_cons.1 hs
   refine ⟨fun b hb => ?_, ih (fun x hx => hl x (by simp [hx])) h1.2 h2.2⟩
   have h3 := h2.1 b hb
   rcases cmp_range a b with e | e | e
   · exact e
   · obtain rfl := cmp_zero _ _ e
     have := (h1.1 a hb).1
     rw [P.refl a (hl a (by simp))] at this; cases this
   · omega
theorem minP_asc (P : POrd f ok) {l : List V} (hl : ∀ x ∈ l, ok x) : Asc (minimalP f l) :=
 (minP_spec P hl).1.asc P (fun x hx => hl x ((minP_spec P hl).2.1 x hx)) (sortV_pair _)
theorem fold_anti : ∀ (l out : List V), Anti f (out ++ l) → l.foldl (minStep f) out = out ++ l
 | [], out, _ => by simp
 | v :: l, out, h => by
   have h1 := List.pairwise_append.1 h
   have e : minStep f out v = out ++ [v] := by
     unfold minStep
     rw [if_neg, List.filter_eq_self.2]
     · intro x hx; simp [(h1.2.2 x hx v (by simp)).2]
     · simp only [Bool.not_eq_true, List.any_eq_false]
       intro x hx; simp [(h1.2.2 x hx v (by simp)).1]
   rw [List.foldl_cons, e, fold_anti l (out ++ [v]) (by simpa using h)]
   simp
theorem minL_anti {l : List V} (h : Anti f l) : minL f l = l := by unfold minL; rw [fold_anti l [] (by simpa using h)]; simp
theorem minStep_length (out : List V) (v : V) : (minStep f out v).length ≤ out.length + 1 := by
 unfold minStep
 split
 · omega
 · have := List.length_filter_le (fun x => !f v x) out; simp; omega
theorem fold_length : ∀ (l out : List V), (l.foldl (minStep f) out).length ≤ out.length + l.length
 | [], out => by simp
 | v :: l, out => by have := fold_length l (minStep f out v); have := minStep_length (f := f) out v; simp; omega
theorem fold_full : ∀ (l out : List V), Anti f out → (l.foldl (minStep f) out).length = out.length + l.length → Anti f (out ++ l)
 | [], out, h, _ => by simpa using h
 | v :: l, out, h, e => by
   have h1 := fold_length (f := f) l (minStep f out v)
   have h2 := minStep_length (f := f) out v
   simp only [List.foldl_cons, List.length_cons] at e
   have e3 : (minStep f out v).length = out.length + 1 := by omega
   have e2 : minStep f out v = out ++ [v] := by
     unfold minStep at e3 ⊢
     split at e3
     · omega
     · rename_i h0
       rw [if_neg h0]
       simp at e3
       rw [List.filter_eq_self.2]
       intro x hx; simpa using e3 x hx
   have h3 := fold_full l (minStep f out v) (minStep_anti v h) (by rw [e, e3]; omega)
   rw [e2] at h3
   simpa using h3
theorem minP_full {l : List V} : (minimalP f l).length = l.length ↔ Anti f l := by
 unfold minimalP
 rw [sortV_length]
 constructor
 · intro h
   have := fold_full l [] .nil (by unfold minL at h; simpa using h)
   simpa using this
 · intro h; rw [minL_anti h]
theorem minP_length_le (l : List V) : (minimalP f l).length ≤ l.length := by
 unfold minimalP; rw [sortV_length]; have := fold_length (f := f) l []; simpa [minL] using this
end
theorem below_ord {d : Nat} {t : T} (ht : rightP d t = true) : POrd (belowP d t) (fun v => oneP d t v = true) :=
 ⟨fun a ha => below_refl d t a ht ha, fun a b c ha hb hc h1 h2 => below_trans d t a b c ht ha hb hc h1 h2, fun a b ha hb h1 h2 => below_anti ht ha hb h1 h2⟩

def prevBad : Option V → V → Bool
 | some u, v => decide (0 ≤ cmpV u v)
 | none, _ => false
def chkE (t : T) : Option V → List V → Int
 | _, [] => 0
 | p, v :: r => if validP t v then (if prevBad p v then 4 else chkE t (some v) r) else 5
def checkB (t : T) (b : List V) : Int :=
 if rightP 8 t then (if 256 < b.length then 1 else if chkE t none b = 0 then (if (minimalP (belowP 8 t) b).length = b.length then 0 else 7) else chkE t none b) else 6
def hasP (t : T) (b : List V) (v : V) : Bool := b.any fun x => belowP 8 t x v
theorem chkE_zero {t : T} : ∀ {l : List V} {p : Option V}, chkE t p l = 0 ↔ (∀ v ∈ l, validP t v = true) ∧ Asc l ∧ (∀ u ∈ p, ∀ v ∈ l.head?, cmpV u v = -1)
 | [], p => by simp [chkE, Asc]
 | v :: r, p => by
   unfold chkE
   by_cases hv : validP t v = true
   · rw [if_pos hv]
     have ih := chkE_zero (t := t) (l := r) (p := some v)
     have hp : prevBad p v = true ↔ ¬ (∀ u ∈ p, ∀ x ∈ (v :: r).head?, cmpV u x = -1) := by
       cases p with
       | none => simp [prevBad]
       | some u =>
         have := cmp_range u v
         simp [prevBad]; omega
     have hA : Asc (v :: r) ↔ Asc r ∧ (∀ u ∈ some v, ∀ x ∈ r.head?, cmpV u x = -1) := by
       simp only [Asc, Option.mem_def, Option.some.injEq]
       constructor
       · rintro ⟨h1, h2⟩
         refine ⟨h2, ?_⟩
         rintro u rfl x hx
         exact h1 x (List.mem_of_mem_head? hx)
       · rintro ⟨h1, h2⟩
         refine ⟨fun b hb => ?_, h1⟩
         cases r with
         | nil => simp at hb
         | cons y q =>
           have h3 := h2 v rfl y rfl
           rcases List.mem_cons.1 hb with rfl | hb
           · exact h3
           · exact cmp_trans _ _ _ h3 (h1.1 b hb)
     by_cases h0 : prevBad p v = true
     · rw [if_pos h0]
       exact ⟨fun h => by omega, fun h => absurd h.2.2 (hp.1 h0)⟩
     · rw [if_neg h0, ih]
       have h1 : (∀ u ∈ p, ∀ x ∈ (v :: r).head?, cmpV u x = -1) := Decidable.byContradiction fun h => h0 (hp.2 h)
       constructor
       · rintro ⟨a, b, c⟩
         exact ⟨by simpa using ⟨hv, a⟩, hA.2 ⟨b, c⟩, h1⟩
       · rintro ⟨a, b, _⟩
         exact ⟨fun x hx => a x (by simp [hx]), (hA.1 b).1, (hA.1 b).2⟩
   · rw [if_neg hv]
     exact ⟨fun h => by omega, fun h => absurd (h.1 v (by simp)) hv⟩
theorem validP_one {t : T} {v : V} (h : validP t v = true) : oneP 8 t v = true := by
 unfold validP at h; simp only [Bool.and_eq_true] at h; exact h.2
theorem checkB_zero {t : T} {b : List V} : checkB t b = 0 ↔ rightP 8 t = true ∧ b.length ≤ 256 ∧ (∀ v ∈ b, validP t v = true) ∧ Asc b ∧ Anti (belowP 8 t) b := by
 unfold checkB
 by_cases ht : rightP 8 t = true
 · rw [if_pos ht]
   by_cases hl : 256 < b.length
   · rw [if_pos hl]
     exact ⟨fun h => by omega, fun h => by omega⟩
   · rw [if_neg hl]
     have h1 := chkE_zero (t := t) (l := b) (p := none)
     by_cases h0 : chkE t none b = 0
     · rw [if_pos h0]
       have h2 := h1.1 h0
       by_cases hm : (minimalP (belowP 8 t) b).length = b.length
       · rw [if_pos hm]
         exact ⟨fun _ => ⟨ht, by omega, h2.1, h2.2.1, minP_full.1 hm⟩, fun _ => rfl⟩
       · rw [if_neg hm]
         exact ⟨fun h => by omega, fun h => absurd (minP_full.2 h.2.2.2.2) hm⟩
     · rw [if_neg h0]
       exact ⟨fun h => absurd h h0, fun h => absurd (h1.2 ⟨h.2.2.1, h.2.2.2.1, by simp⟩) h0⟩
 · rw [if_neg ht]
   exact ⟨fun h => by omega, fun h => absurd h.1 ht⟩
section
open Go.RowKit
structure Rul where
 nm : ByteArray
 fr : Int
 tz : Int
 need : List Int
 give : List Int
structure Mdl where
 ss : List ByteArray
 ps : List ByteArray
 rs : List Rul
 st : Int
 cs : List Int
/-! ### what rules do -/
def leC : List Int → List Int → Bool
 | n :: ns, c :: cs => decide (n ≤ c) && leC ns cs
 | _, _ => true
def fireC : List Int → List Int → List Int → List Int
 | c :: cs, n :: ns, g :: gs => (c - n + g) :: fireC cs ns gs
 | _, _, _ => []
theorem leC_iff : ∀ {ns cs : List Int}, ns.length = cs.length → (leC ns cs = true ↔ ∀ j, j < cs.length → ns.getD j 0 ≤ cs.getD j 0) := by
 intro ns
 induction ns with
 | nil => intro cs h; obtain rfl : cs = [] := by simpa using h.symm
          simp [leC]
 | cons n ns ih =>
   intro cs h
   cases cs with
   | nil => simp at h
   | cons c cs =>
     rw [leC, Bool.and_eq_true, decide_eq_true_eq, ih (by simpa using h)]
     constructor
     · rintro ⟨h1, h2⟩ j hj
       cases j with
       | zero => simpa using h1
       | succ j => simpa using h2 j (by simpa using hj)
     · intro h1
       exact ⟨by simpa using h1 0 (by simp), fun j hj => by simpa using h1 (j + 1) (by simpa using hj)⟩
theorem fireC_length : ∀ {cs ns gs : List Int}, ns.length = cs.length → gs.length = cs.length → (fireC cs ns gs).length = cs.length := by
 intro cs
 induction cs with
 | nil => intro ns gs _ _; rfl
 | cons c cs ih =>
   intro ns gs h1 h2
   cases ns with
   | nil => simp at h1
   | cons n ns =>
     cases gs with
     | nil => simp at h2
     | cons g gs => simp [fireC, ih (by simpa using h1) (by simpa using h2)]
theorem fireC_get : ∀ {cs ns gs : List Int}, ns.length = cs.length → gs.length = cs.length → ∀ {j}, j < cs.length → (fireC cs ns gs).getD j 0 = cs.getD j 0 - ns.getD j 0 + gs.getD j 0 := by
 intro cs
 induction cs with
 | nil => intro ns gs _ _ j hj; simp at hj
 | cons c cs ih =>
   intro ns gs h1 h2 j hj
   cases ns with
   | nil => simp at h1
   | cons n ns =>
     cases gs with
     | nil => simp at h2
     | cons g gs =>
       cases j with
       | zero => simp [fireC]
       | succ j => simpa [fireC] using ih (by simpa using h1) (by simpa using h2) (by simpa using hj)
theorem ext_getD {a b : List Int} (hl : a.length = b.length) (h : ∀ j, j < a.length → a.getD j 0 = b.getD j 0) : a = b := by
 refine List.ext_getElem hl fun j h1 h2 => ?_
 have := h j h1
 simpa [List.getD, h1, h2] using this
end
def natT : T := .mk 1 0 [] []
def labT (n : Nat) : T := .mk 2 n [] []
def typF (n k : Nat) : T := .mk 3 0 [] (labT n :: List.replicate k natT)
def cfgV (s : Int) (cs : List Int) : V := .mk 0 (.mk s [] :: cs.map fun c => .mk c [])
def stV (v : V) : Int := (v.ks.headD (.mk 0 [])).n
def csV (v : V) : List Int := v.ks.tail.map V.n
@[simp] theorem stV_cfg (s : Int) (cs : List Int) : stV (cfgV s cs) = s := rfl
@[simp] theorem csV_cfg (s : Int) (cs : List Int) : csV (cfgV s cs) = cs := by simp [csV, cfgV, Function.comp_def]
theorem cfgV_inj {s s' : Int} {a b : List Int} (h : cfgV s a = cfgV s' b) : s = s' ∧ a = b := by
 have h1 := congrArg stV h
 have h2 := congrArg csV h
 simpa using And.intro h1 h2
theorem natT_right (d : Nat) : rightP (d + 1) natT = true := by simp [rightP, natT]
theorem labT_right (d : Nat) {n : Nat} (h1 : 1 ≤ n) (h2 : n ≤ 16) : rightP (d + 1) (labT n) = true := by
 have e1 : decide (1 ≤ (n : Int)) = true := by simp; omega
 have e2 : decide ((n : Int) ≤ 16) = true := by simp; omega
 rw [show rightP (d + 1) (labT n) = (true && decide (1 ≤ (n : Int)) && decide ((n : Int) ≤ 16)) from rfl, e1, e2]
 rfl
theorem typF_right {n k : Nat} (h1 : 1 ≤ n) (h2 : n ≤ 16) (h3 : k ≤ 7) : rightP 8 (typF n k) = true := by
 have e1 := labT_right 6 h1 h2
 have e2 := natT_right 6
 simp only [rightP.eq_2 (d := 7), typF, T.ranks_mk, T.kind_mk, T.parts_mk, T.size_mk, List.length_nil, List.all_cons, List.length_cons, List.length_replicate, List.isEmpty_cons, e1]
 simp [e2]; omega
theorem oneZ_nats (d : Nat) : ∀ (k : Nat) (vs : List V), oneZ (oneP (d + 1)) (List.replicate k natT) vs = true ↔ ∃ cs : List Int, vs = cs.map (fun c => V.mk c []) ∧ cs.length = k ∧ ∀ c ∈ cs, 0 ≤ c ∧ c ≤ 1048576 := by
 intro k
 induction k with
 | zero =>
   intro vs
   cases vs with
   | nil => simp [oneZ]
   | cons v vs =>
     constructor
     · intro h; simp [oneZ] at h
     · rintro ⟨cs, h1, h2, _⟩
       obtain rfl : cs = [] := by simpa using h2
       cases h1
 | succ k ih =>
   intro vs
   cases vs with
   | nil =>
     constructor
     · intro h; simp [oneZ, List.replicate_succ] at h
     · rintro ⟨cs, h1, h2, _⟩
       cases cs with
       | nil => simp at h2
       | cons c cs => simp at h1
   | cons v vs =>
     rw [List.replicate_succ, oneZ, Bool.and_eq_true, ih]
     have e : oneP (d + 1) natT v = true ↔ ∃ c : Int, v = .mk c [] ∧ 0 ≤ c ∧ c ≤ 1048576 := by
       cases v with
       | mk c ks =>
         rw [show oneP (d + 1) natT (.mk c ks) = (decide (0 ≤ c) && decide (c ≤ 1048576) && ks.isEmpty) from rfl, Bool.and_eq_true, Bool.and_eq_true, decide_eq_true_eq, decide_eq_true_eq, List.isEmpty_iff]
         constructor
         · rintro ⟨⟨a, b⟩, rfl⟩; exact ⟨c, rfl, a, b⟩
         · rintro ⟨c', h, a, b⟩
           injection h with h1 h2
           subst h1 h2
           exact ⟨⟨a, b⟩, rfl⟩
     rw [e]
     constructor
     · rintro ⟨⟨c, rfl, a, b⟩, cs, rfl, hl, hb⟩
       exact ⟨c :: cs, rfl, by simp [hl], by simpa using ⟨⟨a, b⟩, hb⟩⟩
     · rintro ⟨cs, h1, h2, h3⟩
       cases cs with
       | nil => simp at h2
       | cons c cs =>
         simp only [List.map_cons, List.cons.injEq] at h1
         exact ⟨⟨c, h1.1, h3 c (by simp)⟩, cs, h1.2, by simpa using h2, fun x hx => h3 x (by simp [hx])⟩
theorem one_flat {n k : Nat} {v : V} : oneP 8 (typF n k) v = true ↔ ∃ s cs, v = cfgV s cs ∧ 0 ≤ s ∧ s < n ∧ cs.length = k ∧ ∀ c ∈ cs, 0 ≤ c ∧ c ≤ 1048576 := by
 have hlab : ∀ u : V, oneP 7 (labT n) u = true ↔ ∃ s : Int, u = .mk s [] ∧ 0 ≤ s ∧ s < n := by
   intro u
   cases u with
   | mk s ks =>
     rw [show oneP 7 (labT n) (.mk s ks) = (decide (0 ≤ s) && decide (s < (n : Int)) && ks.isEmpty) from rfl, Bool.and_eq_true, Bool.and_eq_true, decide_eq_true_eq, decide_eq_true_eq, List.isEmpty_iff]
     constructor
     · rintro ⟨⟨a, b⟩, rfl⟩; exact ⟨s, rfl, a, b⟩
     · rintro ⟨s', h, a, b⟩
       injection h with h1 h2
       subst h1 h2
       exact ⟨⟨a, b⟩, rfl⟩
 rw [oneP.eq_2 (d := 7)]
 simp only [typF, T.kind_mk, T.parts_mk, show ¬ ((3 : Int) = 1) by decide, show ¬ ((3 : Int) = 2) by decide, if_false, if_true, Bool.and_eq_true, beq_iff_eq]
 cases v with
 | mk m ks =>
   simp only [V.n_mk, V.ks_mk]
   cases ks with
   | nil => simp [cfgV]
   | cons u ks =>
     rw [oneZ, Bool.and_eq_true, hlab, oneZ_nats]
     constructor
     · rintro ⟨⟨rfl, _⟩, ⟨s, rfl, a, b⟩, cs, rfl, hl, hb⟩
       exact ⟨s, cs, rfl, a, b, hl, hb⟩
     · rintro ⟨s, cs, h, a, b, hl, hb⟩
       injection h with h1 h2
       injection h2 with h3 h4
       subst h1 h3 h4
       exact ⟨⟨rfl, by simp [hl]⟩, ⟨s, rfl, a, b⟩, cs, rfl, hl, hb⟩
theorem belZ_nats (d : Nat) : ∀ (k : Nat) (a b : List Int), a.length = k → b.length = k → belZ (belowP (d + 1)) (List.replicate k natT) (a.map fun c => V.mk c []) (b.map fun c => V.mk c []) = leC a b := by
 intro k
 induction k with
 | zero =>
   intro a b h1 h2
   obtain rfl : a = [] := by simpa using h1
   obtain rfl : b = [] := by simpa using h2
   rfl
 | succ k ih =>
   intro a b h1 h2
   cases a with
   | nil => simp at h1
   | cons x a =>
     cases b with
     | nil => simp at h2
     | cons y b =>
       rw [List.replicate_succ, List.map_cons, List.map_cons, belZ, leC, ih a b (by simpa using h1) (by simpa using h2)]
       rfl
theorem below_flat {n k : Nat} {s s' : Int} {a b : List Int} (h1 : a.length = k) (h2 : b.length = k) : belowP 8 (typF n k) (cfgV s a) (cfgV s' b) = (s == s' && leC a b) := by
 rw [belowP.eq_2 (d := 7)]
 simp only [typF, T.kind_mk, T.parts_mk, show ¬ ((3 : Int) = 1) by decide, show ¬ ((3 : Int) = 2) by decide, if_false, if_true, cfgV, V.ks_mk, belZ]
 rw [belZ_nats 6 k a b h1 h2]
 congr 1
def canB (r : Rul) (s : Int) (cs : List Int) : Bool := decide (s = r.fr) && leC r.need cs
def applyP (r : Rul) (s : Int) (cs : List Int) : V × Int := if canB r s cs then (if (fireC cs r.need r.give).any (fun x => decide (1048576 < x)) then (.mk 0 [], 1) else (cfgV r.tz (fireC cs r.need r.give), 0)) else (.mk 0 [], 18)
def Mdl.t (m : Mdl) : T := typF m.ss.length m.ps.length
def Mdl.start (m : Mdl) : V := cfgV m.st m.cs
def askC : List Int → List Int → List Int → Option (List Int)
 | n :: ns, g :: gs, c :: cs => if max 0 (c - g) ≤ 1048576 - n then (askC ns gs cs).map fun l => (n + max 0 (c - g)) :: l else none
 | _, _, _ => some []
def predR (r : Rul) (x : V) : List V := if stV x ≠ r.tz then [] else match askC r.need r.give (csV x) with
 | none => []
 | some l => [cfgV r.fr l]
structure Ori where
 v : V
 r : Int
 nx : V
structure Sk where
 ba : List V
 og : List Ori
 fr : List V
 us : Int
def limB (l : List V) : List V × Int := if 256 < l.length then ([], 1) else (l, 0)
def startS (t : T) (l : List V) : Sk × Int :=
 let b := limB (minimalP (belowP 8 t) l)
 if b.2 ≠ 0 then (⟨[], [], [], 0⟩, b.2) else (⟨b.1, b.1.map fun v => ⟨v, -2, .mk 0 []⟩, b.1, 0⟩, 0)
def addS (t : T) (s : Sk) (v : V) (r : Int) (x : V) : Sk × Int :=
 if hasP t s.ba v then (s, 0) else
   let b := limB (minimalP (belowP 8 t) (s.ba ++ [v]))
   if b.2 ≠ 0 then (s, b.2) else if 512 ≤ s.og.length then (s, 1) else (⟨b.1, s.og ++ [⟨v, r, x⟩], s.fr ++ [v], s.us⟩, 0)
def addAll (t : T) (s : Sk) (r : Int) (x : V) : List V → Sk × Int
 | [] => (s, 0)
 | v :: l => let a := addS t s v r x; if a.2 ≠ 0 then a else addAll t a.1 r x l
def lookR (t : T) (x : V) : Nat → List Rul → Sk → Sk × Int
 | _, [], s => (s, 0)
 | k, r :: rs, s => let a := addAll t s (k : Int) x (predR r x); if a.2 ≠ 0 then a else lookR t x (k + 1) rs a.1
def lookS (m : Mdl) (s : Sk) : Sk × Int := match s.fr with
 | [] => (s, 0)
 | x :: fr => if s.ba.any (fun b => cmpV b x == 0) then lookR m.t x 0 m.rs ⟨s.ba, s.og, fr, s.us + 1⟩ else (⟨s.ba, s.og, fr, s.us + 1⟩, 0)
def stepS (m : Mdl) (s : Sk) : Sk × Bool × Int := match s.fr with
 | [] => (s, false, 0)
 | _ :: _ => let a := lookS m s; if a.2 ≠ 0 then (s, false, a.2) else (a.1, true, 0)
def hitS (m : Mdl) (s : Sk) : Bool := hasP m.t s.ba m.start
def loopS (m : Mdl) : Nat → Sk → Sk × Int
 | 0, s => (s, 0)
 | n + 1, s => if hitS m s || s.fr.isEmpty then (s, 0) else
   let a := stepS m s
   if a.2.2 ≠ 0 then (a.1, a.2.2) else loopS m n a.1
structure St where
 r : Int
 v : V
def oriOf (t : T) (og : List Ori) (c : V) : Option Ori := og.find? fun o => belowP 8 t o.v c
def trailS (m : Mdl) (og : List Ori) : Nat → V → List St → Int × List St
 | n, c, run => match oriOf m.t og c with
   | none => (11, [])
   | some o => if o.r = -2 then (0, run) else
     match m.rs[o.r.toNat]? with
     | none => (16, [])
     | some r =>
       if ¬ (stV c = r.fr ∧ leC r.need (csV c) = true) then (11, []) else
       let d := fireC (csV c) r.need r.give
       if d.any (fun x => decide (1048576 < x)) then (1, []) else
       if belowP 8 m.t o.nx (cfgV r.tz d) = false then (11, []) else
       match n with
       | 0 => (1, [])
       | n + 1 => trailS m og n (cfgV r.tz d) (run ++ [⟨o.r, cfgV r.tz d⟩])
structure Cov where
 dec : Bool
 yes : Bool
 run : List St
 ba : List V
 us : Int
def finishS (m : Mdl) (s : Sk) : Cov × Int :=
 if hitS m s then
   let a := trailS m s.og 64 m.start []
   if a.1 ≠ 0 then (⟨false, false, [], [], 0⟩, a.1) else (⟨true, true, a.2, [], s.us⟩, 0)
 else if s.fr.isEmpty then (⟨true, false, [], s.ba, s.us⟩, 0) else (⟨false, false, [], [], s.us⟩, 0)
def decideS (m : Mdl) (l : List V) (budget : Nat) : Cov × Int :=
 let a := startS m.t l
 if a.2 ≠ 0 then (⟨false, false, [], [], 0⟩, a.2) else
   let b := loopS m budget a.1
   if b.2 ≠ 0 then (⟨false, false, [], [], 0⟩, b.2) else finishS m b.1
structure RulOk (n k : Nat) (r : Rul) : Prop where
 fr : 0 ≤ r.fr ∧ r.fr < n
 tz : 0 ≤ r.tz ∧ r.tz < n
 nl : r.need.length = k
 gl : r.give.length = k
 n0 : ∀ j, j < k → 0 ≤ r.need.getD j 0 ∧ r.need.getD j 0 ≤ 16
 g0 : ∀ j, j < k → 0 ≤ r.give.getD j 0 ∧ r.give.getD j 0 ≤ 16
structure MdlOk (m : Mdl) : Prop where
 n1 : 1 ≤ m.ss.length ∧ m.ss.length ≤ 8
 k1 : 1 ≤ m.ps.length ∧ m.ps.length ≤ 6
 ru : ∀ r ∈ m.rs, RulOk m.ss.length m.ps.length r
 st : oneP 8 m.t m.start = true
section
variable {m : Mdl}
theorem MdlOk.right (h : MdlOk m) : rightP 8 m.t = true := typF_right h.n1.1 (by have := h.n1.2; omega) (by have := h.k1.2; omega)
theorem MdlOk.ord (h : MdlOk m) : POrd (belowP 8 m.t) (fun v => oneP 8 m.t v = true) := below_ord h.right
def up (m : Mdl) (b : List V) (v : V) : Prop := ∃ x ∈ b, belowP 8 m.t x v = true
theorem hasP_up {b : List V} {v : V} : hasP m.t b v = true ↔ up m b v := by simp [hasP, up]
theorem askC_len : ∀ {ns gs cs l : List Int}, ns.length = cs.length → gs.length = cs.length → askC ns gs cs = some l → l.length = cs.length ∧ ∀ j, j < cs.length → l.getD j 0 = ns.getD j 0 + max 0 (cs.getD j 0 - gs.getD j 0) ∧ l.getD j 0 ≤ 1048576 := by
 intro ns
 induction ns with
 | nil =>
   intro gs cs l h1 h2 h
   obtain rfl : cs = [] := by simpa using h1.symm
   simp [askC] at h; subst h; simp
 | cons n ns ih =>
   intro gs cs l h1 h2 h
   cases cs with
   | nil => simp at h1
   | cons c cs =>
     cases gs with
     | nil => simp at h2
     | cons g gs =>
       rw [askC] at h
       split at h
       · rename_i hm
         obtain ⟨l', hl', rfl⟩ := Option.map_eq_some_iff.1 h
         obtain ⟨e1, e2⟩ := ih (by simpa using h1) (by simpa using h2) hl'
         refine ⟨by simp [e1], fun j hj => ?_⟩
         cases j with
         | zero => simp; omega
         | succ j => simpa using e2 j (by simpa using hj)
       · cases h
theorem askC_some : ∀ {ns gs cs ds : List Int}, ns.length = cs.length → gs.length = cs.length → ds.length = cs.length → (∀ j, j < cs.length → ns.getD j 0 ≤ ds.getD j 0 ∧ ds.getD j 0 ≤ 1048576 ∧ cs.getD j 0 ≤ ds.getD j 0 - ns.getD j 0 + gs.getD j 0) →
   ∃ l, askC ns gs cs = some l ∧ ∀ j, j < cs.length → l.getD j 0 ≤ ds.getD j 0 := by
 intro ns
 induction ns with
 | nil =>
   intro gs cs ds h1 h2 h3 h
   obtain rfl : cs = [] := by simpa using h1.symm
   exact ⟨[], by simp [askC], by simp⟩
 | cons n ns ih =>
   intro gs cs ds h1 h2 h3 h
   cases cs with
   | nil => simp at h1
   | cons c cs =>
     cases gs with
     | nil => simp at h2
     | cons g gs =>
       cases ds with
       | nil => simp at h3
       | cons d ds =>
         obtain ⟨l, hl, hle⟩ := ih (by simpa using h1) (by simpa using h2) (by simpa using h3) (fun j hj => by simpa using h (j + 1) (by simpa using hj))
         have h0 := h 0 (by simp)
         simp at h0
         refine ⟨(n + max 0 (c - g)) :: l, ?_, fun j hj => ?_⟩
         · rw [askC, if_pos (by omega), hl]; rfl
         · cases j with
           | zero => simp; omega
           | succ j => simpa using hle j (by simpa using hj)
theorem pred_ok (hm : MdlOk m) {r : Rul} (hr : r ∈ m.rs) {x y : V} (hx : oneP 8 m.t x = true) (hy : y ∈ predR r x) : oneP 8 m.t y = true := by
 obtain ⟨s, cs, rfl, s0, s1, hl, hc⟩ := one_flat.1 hx
 have R := hm.ru r hr
 unfold predR at hy
 split at hy
 · cases hy
 · rename_i hst
   split at hy
   · cases hy
   · rename_i l hl2
     rw [List.mem_singleton] at hy
     subst hy
     rw [csV_cfg] at hl2
     obtain ⟨e1, e2⟩ := askC_len (by rw [R.nl, hl]) (by rw [R.gl, hl]) hl2
     refine one_flat.2 ⟨_, _, rfl, R.fr.1, R.fr.2, by rw [e1, hl], fun c hcm => ?_⟩
     obtain ⟨j, hj, rfl⟩ := List.getElem_of_mem hcm
     have h1 := e2 j (by omega)
     have h2 := R.n0 j (by omega)
     rw [show l.getD j 0 = l[j] by simp [List.getD, hj]] at h1
     omega
theorem pred_up (hm : MdlOk m) {r : Rul} (hr : r ∈ m.rs) {x : V} (hx : oneP 8 m.t x = true) {cs : List Int} (hc : oneP 8 m.t (cfgV r.fr cs) = true) (hn : leC r.need cs = true) (hu : belowP 8 m.t x (cfgV r.tz (fireC cs r.need r.give)) = true) :
   ∃ y ∈ predR r x, belowP 8 m.t y (cfgV r.fr cs) = true := by
 obtain ⟨s, xs, rfl, s0, s1, hl, hxc⟩ := one_flat.1 hx
 have R := hm.ru r hr
 obtain ⟨s2, cs2, e, _, _, hl2, hcc⟩ := one_flat.1 hc
 obtain ⟨rfl, rfl⟩ := cfgV_inj e
 have hfl := fireC_length (cs := cs) (ns := r.need) (gs := r.give) (by rw [R.nl, hl2]) (by rw [R.gl, hl2])
 unfold Mdl.t at hu
 rw [below_flat hl (by rw [hfl, hl2]), Bool.and_eq_true, beq_iff_eq, leC_iff (by rw [hfl, hl, hl2])] at hu
 obtain ⟨rfl, hu⟩ := hu
 rw [leC_iff (by rw [R.nl, hl2])] at hn
 obtain ⟨l, e1, e2⟩ := askC_some (ns := r.need) (gs := r.give) (cs := xs) (ds := cs) (by rw [R.nl, hl]) (by rw [R.gl, hl]) (by rw [hl2, hl]) (fun j hj => by
   have h1 := hn j (by omega)
   have h2 := hu j (by omega)
   rw [fireC_get (by rw [R.nl, hl2]) (by rw [R.gl, hl2]) (by omega)] at h2
   have h3 := hcc (cs[j]'(by omega)) (List.getElem_mem _)
   rw [show cs[j]'(by omega) = cs.getD j 0 by simp [List.getD, show j < cs.length by omega]] at h3
   exact ⟨h1, h3.2, h2⟩)
 refine ⟨cfgV r.fr l, ?_, ?_⟩
 · unfold predR
   rw [stV_cfg, if_neg (by simp), csV_cfg, e1]
   simp
 · obtain ⟨e3, _⟩ := askC_len (by rw [R.nl, hl]) (by rw [R.gl, hl]) e1
   unfold Mdl.t
   rw [below_flat (by rw [e3, hl]) hl2, Bool.and_eq_true, leC_iff (by rw [e3, hl, hl2])]
   exact ⟨by simp, fun j hj => e2 j (by omega)⟩

structure SInv (m : Mdl) (tg : List V) (px : V → Prop) (s : Sk) : Prop where
 ok : ∀ x ∈ s.ba, oneP 8 m.t x = true
 tu : ∀ x ∈ tg, up m s.ba x
 cl : ∀ x ∈ s.ba, x ∈ s.fr ∨ px x ∨ ∀ r ∈ m.rs, ∀ y ∈ predR r x, up m s.ba y
 og : ∀ o ∈ s.og, (o.r = -2 ∧ o.v ∈ tg) ∨ (0 ≤ o.r ∧ o.r.toNat < m.rs.length)
theorem up_min (hm : MdlOk m) {b : List V} {v y : V} (hb : ∀ x ∈ b, oneP 8 m.t x = true) (hv : oneP 8 m.t v = true) (hy : oneP 8 m.t y = true) (h : up m b y ∨ belowP 8 m.t v y = true) : up m (minimalP (belowP 8 m.t) (b ++ [v])) y := by
 have hall : ∀ x ∈ b ++ [v], oneP 8 m.t x = true := fun x hx => by
   rcases List.mem_append.1 hx with hx | hx
   · exact hb x hx
   · rw [List.mem_singleton.1 hx]; exact hv
 refine (minP_spec hm.ord hall).2.2 y hy ?_
 rcases h with ⟨x, hx, hxy⟩ | h
 · exact ⟨x, List.mem_append_left _ hx, hxy⟩
 · exact ⟨v, by simp, h⟩
theorem limB_ok {l : List V} (h : (limB l).2 = 0) : (limB l).1 = l := by
 unfold limB at h ⊢
 split at h
 · cases h
 · rename_i hn; rw [if_neg hn]
theorem add_inv (hm : MdlOk m) {tg : List V} (htg : ∀ x ∈ tg, oneP 8 m.t x = true) {px : V → Prop} {s : Sk} (h : SInv m tg px s) {v : V} (hv : oneP 8 m.t v = true) {r : Int} (hr : 0 ≤ r ∧ r.toNat < m.rs.length) {x : V} (he : (addS m.t s v r x).2 = 0) :
   SInv m tg px (addS m.t s v r x).1 ∧ up m (addS m.t s v r x).1.ba v ∧ (∀ y, oneP 8 m.t y = true → up m s.ba y → up m (addS m.t s v r x).1.ba y) := by
 unfold addS at he ⊢
 by_cases hh : hasP m.t s.ba v = true
 · rw [if_pos hh]
   exact ⟨h, hasP_up.1 hh, fun _ _ hy => hy⟩
 · rw [if_neg hh] at he ⊢
   simp only at he ⊢
   by_cases h1 : (limB (minimalP (belowP 8 m.t) (s.ba ++ [v]))).2 ≠ 0
   · rw [if_pos h1] at he; exact absurd he h1
   · rw [if_neg h1] at he ⊢
     by_cases h2 : 512 ≤ s.og.length
     · rw [if_pos h2] at he; cases he
     · rw [if_neg h2]
       have e := limB_ok (by simpa using h1 : (limB (minimalP (belowP 8 m.t) (s.ba ++ [v]))).2 = 0)
       rw [e]
       have hall : ∀ x ∈ s.ba ++ [v], oneP 8 m.t x = true := fun x hx => by
         rcases List.mem_append.1 hx with hx | hx
         · exact h.ok x hx
         · rw [List.mem_singleton.1 hx]; exact hv
       obtain ⟨_, hsub, _⟩ := minP_spec hm.ord hall
       have hup : ∀ y, oneP 8 m.t y = true → up m s.ba y → up m (minimalP (belowP 8 m.t) (s.ba ++ [v])) y := fun y hy hu => up_min hm h.ok hv hy (.inl hu)
       refine ⟨⟨fun z hz => hall z (hsub z hz), fun z hz => hup z (htg z hz) (h.tu z hz), fun z hz => ?_, fun o ho => ?_⟩, up_min hm h.ok hv hv (.inr (hm.ord.refl v hv)), hup⟩
       · rcases List.mem_append.1 (hsub z hz) with hz2 | hz2
         · rcases h.cl z hz2 with hf | hp | hc
           · exact .inl (List.mem_append_left _ hf)
           · exact .inr (.inl hp)
           · exact .inr (.inr fun r hr y hy => hup y (pred_ok hm hr (h.ok z hz2) hy) (hc r hr y hy))
         · exact .inl (List.mem_append_right _ hz2)
       · rcases List.mem_append.1 ho with ho | ho
         · exact h.og o ho
         · rw [List.mem_singleton.1 ho]; exact .inr hr
theorem addAll_inv (hm : MdlOk m) {tg : List V} (htg : ∀ x ∈ tg, oneP 8 m.t x = true) {px : V → Prop} {r : Int} (hr : 0 ≤ r ∧ r.toNat < m.rs.length) {x : V} : ∀ (l : List V) {s : Sk}, SInv m tg px s → (∀ v ∈ l, oneP 8 m.t v = true) → (addAll m.t s r x l).2 = 0 →
   SInv m tg px (addAll m.t s r x l).1 ∧ (∀ v ∈ l, up m (addAll m.t s r x l).1.ba v) ∧ (∀ y, oneP 8 m.t y = true → up m s.ba y → up m (addAll m.t s r x l).1.ba y) := by
 intro l
 induction l with
 | nil => intro s h _ _; exact ⟨h, fun v hv => (by cases hv), fun _ _ hy => hy⟩
 | cons v l ih =>
   intro s h hl he
   rw [addAll] at he ⊢
   (try simp only at he ⊢)
   by_cases h1 : (addS m.t s v r x).2 ≠ 0
   · rw [if_pos h1] at he; exact absurd he h1
   · rw [if_neg h1] at he ⊢
     obtain ⟨a1, a2, a3⟩ := add_inv hm htg h (hl v (by simp)) hr (by simpa using h1 : (addS m.t s v r x).2 = 0)
     obtain ⟨b1, b2, b3⟩ := ih a1 (fun u hu => hl u (by simp [hu])) he
     refine ⟨b1, fun u hu => ?_, fun y hy hu => b3 y hy (a3 y hy hu)⟩
     rcases List.mem_cons.1 hu with rfl | hu
     · exact b3 _ (hl _ (by simp)) a2
     · exact b2 u hu
theorem lookR_inv (hm : MdlOk m) {tg : List V} (htg : ∀ x ∈ tg, oneP 8 m.t x = true) {px : V → Prop} {x : V} (hx : oneP 8 m.t x = true) : ∀ (rs : List Rul) (k : Nat) {s : Sk}, m.rs.drop k = rs → SInv m tg px s → (lookR m.t x k rs s).2 = 0 →
   SInv m tg px (lookR m.t x k rs s).1 ∧ (∀ r ∈ rs, ∀ y ∈ predR r x, up m (lookR m.t x k rs s).1.ba y) ∧ (∀ y, oneP 8 m.t y = true → up m s.ba y → up m (lookR m.t x k rs s).1.ba y) := by
 intro rs
 induction rs with
 | nil => intro k s _ h _; exact ⟨h, fun r hr => (by cases hr), fun _ _ hy => hy⟩
 | cons r rs ih =>
   intro k s hd h he
   rw [lookR] at he ⊢
   (try simp only at he ⊢)
   have hk : k < m.rs.length := by
     rcases Nat.lt_or_ge k m.rs.length with h | h
     · exact h
     · rw [List.drop_of_length_le h] at hd; cases hd
   have hrm : r ∈ m.rs := List.mem_of_mem_drop (by rw [hd]; simp)
   have hd2 : m.rs.drop (k + 1) = rs := by rw [← List.drop_drop, hd]; rfl
   by_cases h1 : (addAll m.t s (k : Int) x (predR r x)).2 ≠ 0
   · rw [if_pos h1] at he; exact absurd he h1
   · rw [if_neg h1] at he ⊢
     have hpo : ∀ v ∈ predR r x, oneP 8 m.t v = true := fun v hv => pred_ok hm hrm hx hv
     obtain ⟨a1, a2, a3⟩ := addAll_inv hm htg ⟨by omega, by simpa using hk⟩ _ h hpo (by simpa using h1 : (addAll m.t s (k : Int) x (predR r x)).2 = 0)
     obtain ⟨b1, b2, b3⟩ := ih (k + 1) hd2 a1 he
     refine ⟨b1, fun q hq y hy => ?_, fun y hy hu => b3 y hy (a3 y hy hu)⟩
     rcases List.mem_cons.1 hq with rfl | hq
     · exact b3 y (hpo y hy) (a2 y hy)
     · exact b2 q hq y hy
def noV : V → Prop := fun _ => False
theorem look_inv (hm : MdlOk m) {tg : List V} (htg : ∀ x ∈ tg, oneP 8 m.t x = true) {s : Sk} (h : SInv m tg noV s) (he : (lookS m s).2 = 0) : SInv m tg noV (lookS m s).1 := by
 unfold lookS at he ⊢
 split at he
 · rename_i hf; (try simp only [hf]); exact h
 · rename_i x fr hf
   (try simp only [hf])
   by_cases hb : s.ba.any (fun b => cmpV b x == 0) = true
   · rw [if_pos hb] at he ⊢
     obtain ⟨z, hz, hzx⟩ := List.any_eq_true.1 hb
     have e : z = x := cmp_eq.1 (by simpa using hzx)
     subst e
     have h0 : SInv m tg (fun y => y = z) ⟨s.ba, s.og, fr, s.us + 1⟩ := ⟨h.ok, h.tu, fun y hy => by
       rcases h.cl y hy with hc | hc | hc
       · rw [hf] at hc
         rcases List.mem_cons.1 hc with rfl | hc
         · exact .inr (.inl rfl)
         · exact .inl hc
       · exact hc.elim
       · exact .inr (.inr hc), h.og⟩
     obtain ⟨a1, a2, a3⟩ := lookR_inv hm htg (h.ok z hz) m.rs 0 rfl h0 he
     exact ⟨a1.ok, a1.tu, fun y hy => by
       rcases a1.cl y hy with hc | rfl | hc
       · exact .inl hc
       · exact .inr (.inr fun r hr u hu => a2 r hr u hu)
       · exact .inr (.inr hc), a1.og⟩
   · rw [if_neg hb]
     exact ⟨h.ok, h.tu, fun y hy => by
       rcases h.cl y hy with hc | hc | hc
       · rw [hf] at hc
         rcases List.mem_cons.1 hc with rfl | hc
         · exact absurd (List.any_eq_true.2 ⟨y, hy, by simp [cmp_self]⟩) hb
         · exact .inl hc
       · exact hc.elim
       · exact .inr (.inr hc), h.og⟩
theorem step_inv (hm : MdlOk m) {tg : List V} (htg : ∀ x ∈ tg, oneP 8 m.t x = true) {s : Sk} (h : SInv m tg noV s) (he : (stepS m s).2.2 = 0) : SInv m tg noV (stepS m s).1 := by
 unfold stepS at he ⊢
 split at he
 · rename_i hf; (try simp only [hf]); exact h
 · rename_i a b hf
   (try simp only [hf] at he ⊢)
   by_cases h1 : (lookS m s).2 ≠ 0
   · rw [if_pos h1] at he; exact absurd he h1
   · rw [if_neg h1]
     exact look_inv hm htg h (by simpa using h1)
theorem loop_inv (hm : MdlOk m) {tg : List V} (htg : ∀ x ∈ tg, oneP 8 m.t x = true) : ∀ (n : Nat) {s : Sk}, SInv m tg noV s → (loopS m n s).2 = 0 → SInv m tg noV (loopS m n s).1 := by
 intro n
 induction n with
 | zero => intro s h _; exact h
 | succ n ih =>
   intro s h he
   rw [loopS] at he ⊢
   split at he
   · rename_i hc; rw [if_pos hc]; exact h
   · rename_i hc
     rw [if_neg hc]
     (try simp only at he ⊢)
     by_cases h1 : (stepS m s).2.2 ≠ 0
     · rw [if_pos h1] at he; exact absurd he h1
     · rw [if_neg h1] at he ⊢
       exact ih (step_inv hm htg h (by simpa using h1)) he
theorem start_inv (hm : MdlOk m) {tg : List V} (htg : ∀ x ∈ tg, oneP 8 m.t x = true) (he : (startS m.t tg).2 = 0) : SInv m tg noV (startS m.t tg).1 := by
 unfold startS at he ⊢
 simp only at he ⊢
 by_cases h1 : (limB (minimalP (belowP 8 m.t) tg)).2 ≠ 0
 · rw [if_pos h1] at he; exact absurd he h1
 · rw [if_neg h1]
   rw [limB_ok (by simpa using h1 : (limB (minimalP (belowP 8 m.t) tg)).2 = 0)]
   obtain ⟨_, hsub, hd⟩ := minP_spec hm.ord htg
   exact ⟨fun x hx => htg x (hsub x hx), fun x hx => hd x (htg x hx) ⟨x, hx, hm.ord.refl x (htg x hx)⟩, fun x hx => .inl hx, fun o ho => by
     obtain ⟨v, hv, rfl⟩ := List.mem_map.1 ho
     exact .inl ⟨rfl, hsub v hv⟩⟩
theorem closed_step (hm : MdlOk m) {tg : List V} {s : Sk} (h : SInv m tg noV s) (hf : s.fr = []) {r : Rul} (hr : r ∈ m.rs) {cs : List Int} (hc : oneP 8 m.t (cfgV r.fr cs) = true) (hn : leC r.need cs = true) (hu : up m s.ba (cfgV r.tz (fireC cs r.need r.give))) : up m s.ba (cfgV r.fr cs) := by
 obtain ⟨x, hx, hxu⟩ := hu
 have hxo := h.ok x hx
 obtain ⟨y, hy, hyc⟩ := pred_up hm hr hxo hc hn hxu
 rcases h.cl x hx with hc2 | hc2 | hc2
 · rw [hf] at hc2; cases hc2
 · exact hc2.elim
 · obtain ⟨z, hz, hzy⟩ := hc2 r hr y hy
   exact ⟨z, hz, hm.ord.trans z y _ (h.ok z hz) (pred_ok hm hr hxo hy) hc hzy hyc⟩
end
section
open Go.RowKit
def StrAt (w : World) (S : Nat → Prop) (v : Value) (l : List ByteArray) : Prop :=
 ∃ A n c, v = .slice A n c ∧ l.length = n ∧ n ≤ c ∧ c ≤ maxLen ∧ (0 < n → ∃ ad, A = some ad ∧ S ad.block ∧ ∀ k (h : k < l.length), w.cell? (ad.add k) = some (.string l[k]))
def rlCells (r : Rul) (nd gv : Value) : List Value := [.string r.nm, .int .i64 r.fr, .int .i64 r.tz, nd, gv, .slice none 0 0, .int .i64 0, .int .i64 0, .int .i64 0, .slice none 0 0, .slice none 0 0, .slice none 0 0, .slice none 0 0, .int .i64 0]
abbrev aggR (r : Rul) (nd gv : Value) : Value := .agg #[.string r.nm, .int .i64 r.fr, .int .i64 r.tz, nd, gv, .slice none 0 0, .int .i64 0, .int .i64 0, .int .i64 0, .slice none 0 0, .slice none 0 0, .slice none 0 0, .slice none 0 0, .int .i64 0]
def RlsAt (w : World) (S : Nat → Prop) (v : Value) (rs : List Rul) : Prop :=
 ∃ A n c, ∃ ns gs : List Value, v = .slice A n c ∧ rs.length = n ∧ n ≤ c ∧ c ≤ maxLen ∧ ns.length = n ∧ gs.length = n ∧
   (0 < n → ∃ ad, A = some ad ∧ S ad.block ∧ ∀ k (h : k < rs.length) (h1 : k < ns.length) (h2 : k < gs.length), ∀ j u, (rlCells rs[k] ns[k] gs[k])[j]? = some u → w.cell? (ad.add (k * 14 + j)) = some u) ∧
   ∀ k (h : k < rs.length) (h1 : k < ns.length) (h2 : k < gs.length), IAt w S ns[k] rs[k].need ∧ IAt w S gs[k] rs[k].give
section
variable {w w' : World} {S S' : Nat → Prop}
theorem StrAt.form {v : Value} {l : List ByteArray} (h : StrAt w S v l) : ∃ A n c, v = .slice A n c ∧ l.length = n ∧ n ≤ c ∧ c ≤ maxLen := by
 obtain ⟨A, n, c, h1, h2, h3, h4, _⟩ := h
 exact ⟨A, n, c, h1, h2, h3, h4⟩
theorem StrAt.keep {v : Value} {l : List ByteArray} (h : StrAt w S v l) (hS : ∀ b, S b → S' b) (hk : ∀ p : Addr, S p.block → w'.cell? p = w.cell? p) : StrAt w' S' v l := by
 obtain ⟨A, n, c, h1, h2, h3, h4, h5⟩ := h
 refine ⟨A, n, c, h1, h2, h3, h4, fun hn => ?_⟩
 obtain ⟨ad, e, hs, hc⟩ := h5 hn
 exact ⟨ad, e, hS _ hs, fun k h => (hk _ (by rw [add_block]; exact hs)).trans (hc k h)⟩
theorem StrAt.at_ {A : Option Addr} {n c : Nat} {l : List ByteArray} (h : StrAt w S (.slice A n c) l) {k : Nat} (hk : k < l.length) : ∃ ad, A = some ad ∧ S ad.block ∧ w.cell? (ad.add k) = some (.string l[k]) := by
 obtain ⟨A', n', c', e, h2, h3, h4, h5⟩ := h
 injection e with e1 e2 e3
 subst e1 e2 e3
 obtain ⟨ad, e, h6, h7⟩ := h5 (by omega)
 exact ⟨ad, e, h6, h7 k hk⟩
theorem StrAt.reads {B : Nat} {A : Option Addr} {n c : Nat} {l : List ByteArray} (h : StrAt w (· < B) (.slice A n c) l) : Reads w B 1 A n (l.map Value.string) := by
 obtain ⟨A', n', c', e, h2, h3, h4, h5⟩ := h
 injection e with e1 e2 e3
 subst e1 e2 e3
 refine ⟨by simp [h2], fun hn => ?_⟩
 obtain ⟨ad, e, h6, h7⟩ := h5 hn
 refine ⟨ad, e, h6, fun k u hu => ?_⟩
 rw [List.getElem?_map] at hu
 obtain ⟨x, hx, rfl⟩ := Option.map_eq_some_iff.1 hu
 obtain ⟨hk, rfl⟩ := List.getElem?_eq_some_iff.1 hx
 exact h7 k hk
theorem RlsAt.form {v : Value} {rs : List Rul} (h : RlsAt w S v rs) : ∃ A n c, v = .slice A n c ∧ rs.length = n ∧ n ≤ c ∧ c ≤ maxLen := by
 obtain ⟨A, n, c, _, _, h1, h2, h3, h4, _⟩ := h
 exact ⟨A, n, c, h1, h2, h3, h4⟩
theorem RlsAt.keep {v : Value} {rs : List Rul} (h : RlsAt w S v rs) (hS : ∀ b, S b → S' b) (hk : ∀ p : Addr, S p.block → w'.cell? p = w.cell? p) : RlsAt w' S' v rs := by
 obtain ⟨A, n, c, ns, gs, h1, h2, h3, h4, h5, h6, h7, h8⟩ := h
 refine ⟨A, n, c, ns, gs, h1, h2, h3, h4, h5, h6, fun hn => ?_, fun k a b c => ⟨(h8 k a b c).1.keep hS hk, (h8 k a b c).2.keep hS hk⟩⟩
 obtain ⟨ad, e, hs, hc⟩ := h7 hn
 exact ⟨ad, e, hS _ hs, fun k h h1 h2 j u hu => (hk _ (by rw [add_block]; exact hs)).trans (hc k h h1 h2 j u hu)⟩
structure RlIs (w : World) (p : Addr) (r : Rul) (nd gv : Value) : Prop where
 c0 : w.cell? p = some (.string r.nm)
 c1 : w.cell? ⟨p.block, p.off + 1, none⟩ = some (.int .i64 r.fr)
 c2 : w.cell? ⟨p.block, p.off + 2, none⟩ = some (.int .i64 r.tz)
 c3 : w.cell? ⟨p.block, p.off + 3, none⟩ = some nd
 c4 : w.cell? ⟨p.block, p.off + 4, none⟩ = some gv
 c5 : w.cell? ⟨p.block, p.off + 5, none⟩ = some (.slice none 0 0)
 c6 : w.cell? ⟨p.block, p.off + 6, none⟩ = some (.int .i64 0)
 c7 : w.cell? ⟨p.block, p.off + 7, none⟩ = some (.int .i64 0)
 c8 : w.cell? ⟨p.block, p.off + 8, none⟩ = some (.int .i64 0)
 c9 : w.cell? ⟨p.block, p.off + 9, none⟩ = some (.slice none 0 0)
 c10 : w.cell? ⟨p.block, p.off + 10, none⟩ = some (.slice none 0 0)
 c11 : w.cell? ⟨p.block, p.off + 11, none⟩ = some (.slice none 0 0)
 c12 : w.cell? ⟨p.block, p.off + 12, none⟩ = some (.slice none 0 0)
 c13 : w.cell? ⟨p.block, p.off + 13, none⟩ = some (.int .i64 0)
theorem RlIs.of {p : Addr} {r : Rul} {nd gv : Value} (h : ∀ j u, (rlCells r nd gv)[j]? = some u → w.cell? (p.add j) = some u) : RlIs w p r nd gv := by
 have g : ∀ j u, (rlCells r nd gv)[j + 1]? = some u → w.cell? ⟨p.block, p.off + (j + 1), none⟩ = some u := fun j u hu => by
   have := h (j + 1) u hu
   have e := add_off p 0 j
   rw [Nat.zero_add] at e
   rw [e] at this
   simpa [Addr.add] using this
 have h0 := h 0 _ rfl
 rw [Addr.add] at h0
 exact ⟨by simpa using h0, g 0 _ rfl, g 1 _ rfl, g 2 _ rfl, g 3 _ rfl, g 4 _ rfl, g 5 _ rfl, g 6 _ rfl, g 7 _ rfl, g 8 _ rfl, g 9 _ rfl, g 10 _ rfl, g 11 _ rfl, g 12 _ rfl⟩
theorem RlsAt.at_ {A : Option Addr} {n c : Nat} {rs : List Rul} (h : RlsAt w S (.slice A n c) rs) {k : Nat} (hk : k < rs.length) : ∃ ad A1 n1 c1 A2 n2 c2, A = some ad ∧ S ad.block ∧ RlIs w (ad.add (k * 14)) rs[k] (.slice A1 n1 c1) (.slice A2 n2 c2) ∧ IAt w S (.slice A1 n1 c1) rs[k].need ∧ IAt w S (.slice A2 n2 c2) rs[k].give := by
 obtain ⟨A', n', c', ns, gs, e, h2, h3, h4, h5, h6, h7, h8⟩ := h
 injection e with e1 e2 e3
 subst e1 e2 e3
 obtain ⟨ad, e, hs, hc⟩ := h7 (by omega)
 obtain ⟨g1, g2⟩ := h8 k hk (by omega) (by omega)
 obtain ⟨A1, n1, c1, e1, _⟩ := g1.form
 obtain ⟨A2, n2, c2, e2, _⟩ := g2.form
 have hc' := hc k hk (by omega) (by omega)
 rw [e1, e2] at hc'
 rw [e1] at g1
 rw [e2] at g2
 refine ⟨ad, A1, n1, c1, A2, n2, c2, e, hs, RlIs.of fun j u hu => ?_, g1, g2⟩
 have := hc' j u hu
 rw [add_of_add]
 exact this
end
structure MAt (w : World) (S : Nat → Prop) (sv pv rv kv : Value) (m : Mdl) : Prop where
 s : StrAt w S sv m.ss
 p : StrAt w S pv m.ps
 r : RlsAt w S rv m.rs
 k : KAt w S kv m.start.ks
abbrev mdA (sv pv rv kv : Value) : Array Value := #[.int .i64 1, sv, pv, .slice none 0 0, .slice none 0 0, .int .i64 0, .int .i64 0, rv, .int .i64 0, kv]
abbrev aggM (sv pv rv kv : Value) : Value := .agg #[.int .i64 1, sv, pv, .slice none 0 0, .slice none 0 0, .int .i64 0, .int .i64 0, rv, .int .i64 0, kv]
section
variable {w w' : World} {S S' : Nat → Prop} {B B' : Nat}
theorem MAt.keep {sv pv rv kv : Value} {m : Mdl} (h : MAt w S sv pv rv kv m) (hS : ∀ b, S b → S' b) (hk : ∀ p : Addr, S p.block → w'.cell? p = w.cell? p) : MAt w' S' sv pv rv kv m := ⟨h.s.keep hS hk, h.p.keep hS hk, h.r.keep hS hk, h.k.keep hS hk⟩
abbrev MB (w : World) (B : Nat) (sv pv rv kv : Value) (m : Mdl) : Prop := MAt w (· < B) sv pv rv kv m
theorem MAt.bw {sv pv rv kv : Value} {m : Mdl} (h : MB w w.heap.size sv pv rv kv m) (g : Bw w w') : MB w' w'.heap.size sv pv rv kv m := h.keep (fun b hb => Nat.lt_of_lt_of_le hb g.size) (fun p hp => g.b.cell hp)
theorem StrAt.bw {v : Value} {l : List ByteArray} (h : StrAt w (· < w.heap.size) v l) (g : Bw w w') : StrAt w' (· < w'.heap.size) v l := h.keep (fun b hb => Nat.lt_of_lt_of_le hb g.size) (fun p hp => g.b.cell hp)
theorem RlsAt.bw {v : Value} {l : List Rul} (h : RlsAt w (· < w.heap.size) v l) (g : Bw w w') : RlsAt w' (· < w'.heap.size) v l := h.keep (fun b hb => Nat.lt_of_lt_of_le hb g.size) (fun p hp => g.b.cell hp)
theorem MAt.under {sv pv rv kv : Value} {m : Mdl} (h : MB w B sv pv rv kv m) (g : Below B w w') : MB w' B sv pv rv kv m := h.keep (fun b hb => hb) (fun p hp => g.cell hp)
theorem MAt.form {sv pv rv kv : Value} {m : Mdl} (h : MAt w S sv pv rv kv m) : ∃ A1 c1 A2 c2 A3 c3 A4 c4, sv = .slice A1 m.ss.length c1 ∧ pv = .slice A2 m.ps.length c2 ∧ rv = .slice A3 m.rs.length c3 ∧ kv = .slice A4 (1 + m.cs.length) c4 := by
 obtain ⟨A1, n1, c1, e1, l1, _⟩ := h.s.form
 obtain ⟨A2, n2, c2, e2, l2, _⟩ := h.p.form
 obtain ⟨A3, n3, c3, e3, l3, _⟩ := h.r.form
 obtain ⟨A4, n4, c4, e4, l4, _⟩ := h.k.form
 refine ⟨A1, c1, A2, c2, A3, c3, A4, c4, by rw [e1, l1], by rw [e2, l2], by rw [e3, l3], ?_⟩
 rw [e4, ← l4]
 simp [Mdl.start, cfgV, Nat.add_comm]
end
def letterB (c : UInt8) : Bool := decide (97 ≤ c.toNat) && decide (c.toNat ≤ 122)
def digitB (c : UInt8) : Bool := decide (48 ≤ c.toNat) && decide (c.toNat ≤ 57)
def partB (c : UInt8) : Bool := letterB c || digitB c || decide (c.toNat = 95)
def runL (p : UInt8 → Bool) (l : List UInt8) : Nat := (l.takeWhile p).length
theorem runL_le (p : UInt8 → Bool) (l : List UInt8) : runL p l ≤ l.length := by
 unfold runL; exact List.Sublist.length_le (List.takeWhile_sublist _)
theorem runL_lt {p : UInt8 → Bool} {l : List UInt8} {k : Nat} (hk : k ≤ runL p l) (hl : k < l.length) (hp : p l[k] = true) : k + 1 ≤ runL p l := by
 unfold runL at *
 induction l generalizing k with
 | nil => simp at hl
 | cons a l ih =>
   cases k with
   | zero => simp at hp; simp [List.takeWhile_cons, hp]
   | succ k =>
     by_cases ha : p a = true
     · simp only [List.takeWhile_cons, ha, if_true, List.length_cons] at hk ⊢
       have := ih (k := k) (by omega) (by simpa using hl) (by simpa using hp)
       omega
     · simp [List.takeWhile_cons, ha] at hk
theorem runL_eq {p : UInt8 → Bool} {l : List UInt8} {k : Nat} (hk : k ≤ runL p l) (hl : k < l.length) (hp : p l[k] = false) : runL p l = k := by
 unfold runL at *
 induction l generalizing k with
 | nil => simp at hl
 | cons a l ih =>
   cases k with
   | zero => simp at hp; simp [List.takeWhile_cons, hp]
   | succ k =>
     by_cases ha : p a = true
     · simp only [List.takeWhile_cons, ha, if_true, List.length_cons] at hk ⊢
       have := ih (k := k) (by omega) (by simpa using hl) (by simpa using hp)
       omega
     · simp [List.takeWhile_cons, ha] at hk
def wordL (l : List UInt8) : Bool := !l.isEmpty && decide (l.length ≤ 12) && letterB (l.headD 0) && decide (runL partB l = l.length)
theorem wordL_eq (s : ByteArray) : wordL s.data.toList = (decide (s.size ≠ 0) && decide (s.size ≤ 12) && letterB (s.data.toList.headD 0) && decide (runL partB s.data.toList = s.size)) := by
 have h := size_data s
 have : s.data.toList.isEmpty = decide (s.size = 0) := by rw [Bool.eq_iff_iff, List.isEmpty_iff_length_eq_zero, h]; simp
 simp only [wordL, this, h]; simp
def numL (l : List UInt8) : Bool := !l.isEmpty && decide (l.length ≤ 7) && decide (runL digitB l = l.length) && (decide (l.headD 0 ≠ 48) || decide (l.length = 1))
def valL (l : List UInt8) : Nat := l.foldl (fun b c => 10 * b + (c.toNat - 48)) 0
def nlB (c : UInt8) : Bool := decide (c.toNat = 10)
def nl (l : List UInt8) : Nat := l.countP nlB
end
structure Ln where
 k : Int
 a : Int
 n : Int
structure Th where
 nm : ByteArray
 ls : List Ln
def kwValues : List UInt8 := [118, 97, 108, 117, 101, 115]
def kwThread : List UInt8 := [116, 104, 114, 101, 97, 100]
def kwEnd : List UInt8 := [101, 110, 100]
def kwOf (k : Nat) : List UInt8 :=
 if k = 1 then [115, 101, 116] else if k = 2 then [119, 104, 101, 110] else if k = 3 then [106, 117, 109, 112] else if k = 4 then [109, 97, 121, 98, 101]
 else if k = 5 then [115, 112, 97, 119, 110] else if k = 6 then [115, 116, 111, 112] else if k = 7 then [102, 97, 105, 108] else []
def kindOf (x : List UInt8) : Nat :=
 if x = kwOf 1 then 1 else if x = kwOf 2 then 2 else if x = kwOf 3 then 3 else if x = kwOf 4 then 4 else if x = kwOf 5 then 5 else if x = kwOf 6 then 6 else if x = kwOf 7 then 7 else 0
def argOf (k : Nat) : Nat := if k = 1 ∨ k = 2 then 1 else if k = 3 ∨ k = 4 then 2 else if k = 5 then 3 else 0
def namedL (x : List UInt8) : Bool := wordL x && !(x == kwValues || x == kwThread || x == kwEnd)

structure PS where
 v : Int
 ts : List Th
 op : Bool
 ns : List (List UInt8)
def valD (l : List UInt8) : Int := (valL l : Int)
def putLn (ts : List Th) (l : Ln) : List Th := match ts.getLast? with
 | none => ts
 | some t => ts.dropLast ++ [⟨t.nm, t.ls ++ [l]⟩]
def cutL (x : List UInt8) : List UInt8 × List UInt8 × Bool := (x.takeWhile (fun c => decide (c.toNat ≠ 32)), (x.dropWhile (fun c => decide (c.toNat ≠ 32))).tail, x.any fun c => decide (c.toNat = 32))
def rdLine (st : PS) (at_ : Nat) (key rest : List UInt8) (more : Bool) : Option PS :=
 if kindOf key = 0 then none
 else if argOf (kindOf key) = 0 then (if more then none else some { st with ts := putLn st.ts ⟨kindOf key, 0, at_⟩, ns := st.ns ++ [[]] })
 else if argOf (kindOf key) = 3 then (if namedL rest then some { st with ts := putLn st.ts ⟨kindOf key, 0, at_⟩, ns := st.ns ++ [rest] } else none)
 else if numL rest then some { st with ts := putLn st.ts ⟨kindOf key, valD rest, at_⟩, ns := st.ns ++ [[]] } else none
def rdText (st : PS) (at_ : Nat) (x : List UInt8) : Option PS :=
 if at_ = 1 then (if (cutL x).1 = kwValues ∧ numL (cutL x).2.1 = true then some { st with v := valD (cutL x).2.1 } else none)
 else if st.op = false then (if (cutL x).1 = kwThread ∧ namedL (cutL x).2.1 = true then some { st with ts := st.ts ++ [⟨⟨(cutL x).2.1.toArray⟩, []⟩], op := true } else none)
 else if x = kwEnd then some { st with op := false }
 else rdLine st at_ (cutL x).1 (cutL x).2.1 (cutL x).2.2
def rd (st : PS) (at_ : Nat) (x : List UInt8) : Option PS := if x.getLast? = some 10 then rdText st at_ x.dropLast else none
section
open Go.RowKit
theorem Blk.c2 {W : World} {b : Nat} {t : TypeId} {u0 u1 : Value} (h : Blk W b t #[u0, u1]) : b < W.heap.size ∧ W.cell? ⟨b, 0, none⟩ = some u0 ∧ W.cell? ⟨b, 1, none⟩ = some u1 :=
 ⟨h.lt, h.cell 0, h.cell 1⟩
theorem Blk.c3 {W : World} {b : Nat} {t : TypeId} {u0 u1 u2 : Value} (h : Blk W b t #[u0, u1, u2]) : b < W.heap.size ∧ W.cell? ⟨b, 0, none⟩ = some u0 ∧ W.cell? ⟨b, 1, none⟩ = some u1 ∧ W.cell? ⟨b, 2, none⟩ = some u2 :=
 ⟨h.lt, h.cell 0, h.cell 1, h.cell 2⟩
theorem Blk.c4 {W : World} {b : Nat} {t : TypeId} {u0 u1 u2 u3 : Value} (h : Blk W b t #[u0, u1, u2, u3]) : b < W.heap.size ∧ W.cell? ⟨b, 0, none⟩ = some u0 ∧ W.cell? ⟨b, 1, none⟩ = some u1 ∧ W.cell? ⟨b, 2, none⟩ = some u2 ∧ W.cell? ⟨b, 3, none⟩ = some u3 :=
 ⟨h.lt, h.cell 0, h.cell 1, h.cell 2, h.cell 3⟩
theorem Blk.c5 {W : World} {b : Nat} {t : TypeId} {u0 u1 u2 u3 u4 : Value} (h : Blk W b t #[u0, u1, u2, u3, u4]) : b < W.heap.size ∧ W.cell? ⟨b, 0, none⟩ = some u0 ∧ W.cell? ⟨b, 1, none⟩ = some u1 ∧ W.cell? ⟨b, 2, none⟩ = some u2 ∧ W.cell? ⟨b, 3, none⟩ = some u3 ∧ W.cell? ⟨b, 4, none⟩ = some u4 :=
 ⟨h.lt, h.cell 0, h.cell 1, h.cell 2, h.cell 3, h.cell 4⟩
theorem Blk.c10 {W : World} {b : Nat} {t : TypeId} {u0 u1 u2 u3 u4 u5 u6 u7 u8 u9 : Value} (h : Blk W b t #[u0, u1, u2, u3, u4, u5, u6, u7, u8, u9]) : b < W.heap.size ∧ W.cell? ⟨b, 0, none⟩ = some u0 ∧ W.cell? ⟨b, 1, none⟩ = some u1 ∧ W.cell? ⟨b, 2, none⟩ = some u2 ∧ W.cell? ⟨b, 3, none⟩ = some u3 ∧ W.cell? ⟨b, 4, none⟩ = some u4 ∧ W.cell? ⟨b, 5, none⟩ = some u5 ∧ W.cell? ⟨b, 6, none⟩ = some u6 ∧ W.cell? ⟨b, 7, none⟩ = some u7 ∧ W.cell? ⟨b, 8, none⟩ = some u8 ∧ W.cell? ⟨b, 9, none⟩ = some u9 :=
 ⟨h.lt, h.cell 0, h.cell 1, h.cell 2, h.cell 3, h.cell 4, h.cell 5, h.cell 6, h.cell 7, h.cell 8, h.cell 9⟩
theorem Blk.c14 {W : World} {b : Nat} {t : TypeId} {u0 u1 u2 u3 u4 u5 u6 u7 u8 u9 u10 u11 u12 u13 : Value} (h : Blk W b t #[u0, u1, u2, u3, u4, u5, u6, u7, u8, u9, u10, u11, u12, u13]) : b < W.heap.size ∧ W.cell? ⟨b, 0, none⟩ = some u0 ∧ W.cell? ⟨b, 1, none⟩ = some u1 ∧ W.cell? ⟨b, 2, none⟩ = some u2 ∧ W.cell? ⟨b, 3, none⟩ = some u3 ∧ W.cell? ⟨b, 4, none⟩ = some u4 ∧ W.cell? ⟨b, 5, none⟩ = some u5 ∧ W.cell? ⟨b, 6, none⟩ = some u6 ∧ W.cell? ⟨b, 7, none⟩ = some u7 ∧ W.cell? ⟨b, 8, none⟩ = some u8 ∧ W.cell? ⟨b, 9, none⟩ = some u9 ∧ W.cell? ⟨b, 10, none⟩ = some u10 ∧ W.cell? ⟨b, 11, none⟩ = some u11 ∧ W.cell? ⟨b, 12, none⟩ = some u12 ∧ W.cell? ⟨b, 13, none⟩ = some u13 :=
 ⟨h.lt, h.cell 0, h.cell 1, h.cell 2, h.cell 3, h.cell 4, h.cell 5, h.cell 6, h.cell 7, h.cell 8, h.cell 9, h.cell 10, h.cell 11, h.cell 12, h.cell 13⟩
theorem box1 (w : World) (t0 : TypeId) (c0 : Array Value) : Bw w (w.alloc (.cells c0 t0)) ∧ ∀ W, Bw (w.alloc (.cells c0 t0)) W → Bw w W ∧ Blk W (w.heap.size) t0 c0 := ⟨((Bw.refl w).alloc _), fun W g => by
 have h0 := Blk.new w t0 c0
 have k0 := h0.below g.b h0.lt
 exact ⟨((Bw.refl w).alloc _).trans g, k0⟩⟩
theorem box2 (w : World) (t0 : TypeId) (c0 : Array Value) (t1 : TypeId) (c1 : Array Value) : Bw w ((w.alloc (.cells c0 t0)).alloc (.cells c1 t1)) ∧ ∀ W, Bw ((w.alloc (.cells c0 t0)).alloc (.cells c1 t1)) W → Bw w W ∧ Blk W (w.heap.size) t0 c0 ∧ Blk W (w.heap.size + 1) t1 c1 := ⟨(((Bw.refl w).alloc _).alloc _), fun W g => by
 have h0 := Blk.new w t0 c0
 have k0 := (h0.alloc (.cells c1 t1)).below g.b (h0.alloc (.cells c1 t1)).lt
 have h1 := Blk.new (w.alloc (.cells c0 t0)) t1 c1
 simp only [World.size_alloc] at h1
 have k1 := h1.below g.b h1.lt
 exact ⟨(((Bw.refl w).alloc _).alloc _).trans g, k0, k1⟩⟩
theorem box3 (w : World) (t0 : TypeId) (c0 : Array Value) (t1 : TypeId) (c1 : Array Value) (t2 : TypeId) (c2 : Array Value) : Bw w (((w.alloc (.cells c0 t0)).alloc (.cells c1 t1)).alloc (.cells c2 t2)) ∧ ∀ W, Bw (((w.alloc (.cells c0 t0)).alloc (.cells c1 t1)).alloc (.cells c2 t2)) W → Bw w W ∧ Blk W (w.heap.size) t0 c0 ∧ Blk W (w.heap.size + 1) t1 c1 ∧ Blk W (w.heap.size + 1 + 1) t2 c2 := ⟨((((Bw.refl w).alloc _).alloc _).alloc _), fun W g => by
 have h0 := Blk.new w t0 c0
 have k0 := ((h0.alloc (.cells c1 t1)).alloc (.cells c2 t2)).below g.b ((h0.alloc (.cells c1 t1)).alloc (.cells c2 t2)).lt
 have h1 := Blk.new (w.alloc (.cells c0 t0)) t1 c1
 simp only [World.size_alloc] at h1
 have k1 := (h1.alloc (.cells c2 t2)).below g.b (h1.alloc (.cells c2 t2)).lt
 have h2 := Blk.new ((w.alloc (.cells c0 t0)).alloc (.cells c1 t1)) t2 c2
 simp only [World.size_alloc] at h2
 have k2 := h2.below g.b h2.lt
 exact ⟨((((Bw.refl w).alloc _).alloc _).alloc _).trans g, k0, k1, k2⟩⟩
end
section
open Go.RowKit Go.WideMaps Go.Maps
theorem plainElem_bool_inv {H : Type} {P : Program} {e : TypeId} (he : P.underlying e = some .bool) {v : Value} {z : DataW H × List MemPlace} (h : plainElem P e v = some z) : ∃ a, v = .bool a ∧ z = (.lit (.bool a), []) := by
 unfold plainElem at h
 rw [he] at h
 cases v <;> simp at h
 exact ⟨_, rfl, h.symm⟩
def SetAt (w : World) (b : Nat) (ns : List (List UInt8)) : Prop := ∃ D : DataW Unit, IsMap D ∧ (∀ x : List UInt8, D.atKey (.string x) (.lit (.bool false)) = .lit (.bool (ns.contains x))) ∧ w.ownsMap Tryz.prog 9 (plainElem Tryz.prog 4) b ns.length D
theorem sKeyed : Keyed Tryz.prog 9 := string_keyed Tryz.underlying9
theorem zeroBool (w : World) : (zeroValue 4).run Tryz.prog w = .ok (.bool false) w := by kernel_rfl
theorem SetAt.new (w : World) : SetAt (w.alloc (.map #[] 0)) w.heap.size [] := ⟨.map [], isMap_empty, fun x => rfl, World.ownsMap_made _ _ _ _⟩
theorem SetAt.kept {w w' : World} {b : Nat} {ns : List (List UInt8)} {row : Option Nat} (h : SetAt w b ns) (hg : w.grownBy w' row) (hne : some b ≠ row) : SetAt w' b ns := by
 obtain ⟨D, h1, h2, h3⟩ := h
 exact ⟨D, h1, h2, h3.kept hg hne⟩
theorem SetAt.below {w w' : World} {b B : Nat} {ns : List (List UInt8)} (h : SetAt w b ns) (hb : Below B w w') (hB : b < B) : SetAt w' b ns := by
 obtain ⟨D, h1, h2, es, clock, he, F, hs, hD⟩ := h
 exact ⟨D, h1, h2, es, clock, (hb.block b hB).trans he, F, hs, hD⟩
theorem SetAt.lt {w : World} {b : Nat} {ns : List (List UInt8)} (h : SetAt w b ns) : b < w.heap.size := by
 obtain ⟨D, h1, h2, h3⟩ := h
 exact h3.lt
theorem SetAt.look {w : World} {b : Nat} {ns : List (List UInt8)} (h : SetAt w b ns) {s : ByteArray} (hs : s.size ≤ maxLen) {c : Bool} (hc : ns.contains s.data.toList = c) :
   (Instr.lookup 181 (.map (some b)) (.string s) false).run Tryz.prog w = .ok (.bool c) w := by
 obtain ⟨D, h1, h2, h3⟩ := h
 obtain ⟨v, ps, hrun, hv⟩ := h3.lookup sKeyed Tryz.underlying181 (zeroBool w) (plainElem_bool Tryz.underlying4 false) (keyOf_string_mk Tryz.underlying9 hs)
 obtain ⟨a, rfl, ha⟩ := plainElem_bool_inv Tryz.underlying4 hv
 have hd : D.atKey (.string s.data.toList) (.lit (.bool false)) = .lit (.bool a) := congrArg Prod.fst ha
 have he := (h2 s.data.toList).symm.trans hd
 have hf : ns.contains s.data.toList = a := Lit.bool.inj (DataW.lit.inj he)
 obtain rfl : c = a := hc.symm.trans hf
 exact hrun
theorem contains_snoc (ns : List (List UInt8)) (a x : List UInt8) : (ns ++ [a]).contains x = if x = a then true else ns.contains x := by
 rw [Bool.eq_iff_iff]
 by_cases h : x = a
 · simp [h]
 · rw [if_neg h]; simp [h]
theorem wpList_setPut {P : Program} (w : World) {ops : Array Oper} {rest : List Oper} {o : Oper} {a : Act} {Q : Exit → Act → World → Prop} (hP : P = Tryz.prog)
   (hg : o.guard = none) (m x v : Operand) (hop : o.op = Op.mapUpdate 181 m x v) (b : Nat) (ns : List (List UInt8))
   (hm : a.eval m = .map (some b)) (h : SetAt w b ns) (hn : ns.length < maxLen) (s : ByteArray) (hs : s.size ≤ maxLen) (hx : a.eval x = .string s) (hv : a.eval v = .bool true)
   (hK : ∀ w', SetAt w' b (ns ++ [s.data.toList]) → w.grownBy w' (some b) → wpList P ops Q rest (a.put o.dst undef) w') :
   wpList P ops Q (o :: rest) a w := by
 subst hP
 obtain ⟨D, h1, h2, h3⟩ := h
 refine wpList_mapUpdate_own w hg m x v 181 hop 9 4 sKeyed Tryz.underlying181 _ b ns.length D hm h3 hn (.string s) (.bool true) (.string s.data.toList) hx hv (keyOf_string_mk Tryz.underlying9 hs) (.lit (.bool true)) [] (plainElem_bool Tryz.underlying4 true) ?_
 intro w' r1 r2
 refine hK w' ⟨D.put (.string s.data.toList) (.lit (.bool true)), h1.put _ _, fun y => ?_, by rw [List.length_append]; exact r1⟩ r2
 rw [contains_snoc]
 by_cases hy : y = s.data.toList
 · subst hy; rw [if_pos rfl]; exact atKey_put_same (k := .string s.data.toList) h1 trivial _ _
 · rw [if_neg hy, atKey_put_other (fun e => hy (by injection e))]; exact h2 y
end
section
open Go.RowKit
theorem letter_any (c : UInt8) (w : World) : Calls Tryz.prog 222 #[.int .u8 (c.toNat : Int)] w fun e w' => e = .returned (.bool (letterB c)) ∧ w = w' := by
 go_enter Tryz.func222, Tryz.ntmps222
 go_wp2
 all_goals (go_ret; exact ⟨ret_bool (by rw [Bool.eq_iff_iff]; simp [letterB]; omega), rfl⟩)
theorem digit_any (c : UInt8) (w : World) : Calls Tryz.prog 288 #[.int .u8 (c.toNat : Int)] w fun e w' => e = .returned (.bool (digitB c)) ∧ w = w' := by
 go_enter Tryz.func288, Tryz.ntmps288
 go_wp2
 all_goals (go_ret; exact ⟨ret_bool (by rw [Bool.eq_iff_iff]; simp [digitB]; omega), rfl⟩)
theorem part_any (c : UInt8) (w : World) : Calls Tryz.prog 224 #[.int .u8 (c.toNat : Int)] w fun e w' => e = .returned (.bool (partB c)) ∧ w = w' := by
 rcases h1 : letterB c with _ | _ <;> rcases h2 : digitB c with _ | _
 all_goals
   have H1 := Lib.hid h1
   have H2 := Lib.hid h2
   clear h1 h2
   go_enter Tryz.func224, Tryz.ntmps224
   go_wp2_with (first | (go_at_call 222; refine (letter_any _ _).mono ?_; rintro e w' ⟨rfl, rfl⟩; rw [H1.out]) | (go_at_call 288; refine (digit_any _ _).mono ?_; rintro e w' ⟨rfl, rfl⟩; rw [H2.out]))
   go_ret
   exact ⟨ret_bool (by rw [Bool.eq_iff_iff]; simp [partB, H1.out, H2.out]; try omega), rfl⟩

theorem run_part (s : ByteArray) (w : World) (hs : s.size ≤ 9223372036854775807) :
   Calls Tryz.prog 223 #[.string s, .func (.func 224) #[] #[]] w fun e w' => e = .returned (.int .i64 (runL partB s.data.toList)) ∧ w = w' := by
 have hle := runL_le partB s.data.toList
 have hsz : s.data.toList.length = s.size := by simp
 go_enter Tryz.func223, Tryz.ntmps223
 go_wp2
 go_loop [5] (fun i => ∃ k : Nat, k ≤ runL partB s.data.toList ∧ i = .int .i64 k) (fun i => s.size - (intOf i).toNat)
 case atStart => exact ⟨0, Nat.zero_le _, rfl⟩
 case round =>
   obtain ⟨k, hk, rfl⟩ := hrel
   by_cases hlt : k < s.size
   · rcases hp : partB s.data.toList[k] with _ | _
     all_goals
       have HP := Lib.hid hp
       clear hp
     · go_wp2_with (go_at_call 224; go_must (refine (part_any s[k] _).mono ?_; rintro e w' ⟨rfl, rfl⟩; rw [show partB s[k] = false from HP.out]))
       go_ret
       exact ⟨ret_int (by rw [runL_eq hk (by omega) HP.out]), rfl⟩
     · go_wp2_with (go_at_call 224; refine (part_any s[k] _).mono ?_; rintro e w' ⟨rfl, rfl⟩; rw [show partB s[k] = true from HP.out])
       go_round
       case rel => exact ⟨k + 1, runL_lt hk (by omega) HP.out, by go_num⟩
       case measure => simp [intOf]; omega
   · go_wp2
     go_ret
     exact ⟨ret_int (by omega), rfl⟩

theorem word_any (s : ByteArray) (w : World) (hs : s.size ≤ 9223372036854775807) :
   Calls Tryz.prog 155 #[.string s] w fun e w' => e = .returned (.bool (wordL s.data.toList)) ∧ w = w' := by
 have hle := runL_le partB s.data.toList
 have hsz : s.data.toList.length = s.size := by simp
 by_cases h0 : s.size = 0
 · have e1 := str_nil h0
   have e2 := str_empty h0
   have HF : Hid (wordL s.data.toList = false) := by show _ = _; rw [wordL_eq]; simp [h0]
   go_enter Tryz.func155, Tryz.ntmps155
   go_wp2
   go_ret
   exact ⟨ret_bool HF.out.symm, rfl⟩
 · have e1 := str_ne h0
   have hpos : 0 < s.size := by omega
   have hd : s.data.toList.headD 0 = s[0] := by
     rw [List.headD_eq_head?_getD, List.head?_eq_getElem?, List.getElem?_eq_getElem (by omega)]; rfl
   by_cases h12 : s.size ≤ 12
   · rcases hp : letterB s[0] with _ | _
     all_goals
       have HP := Lib.hid hp
       clear hp
     · have HF : Hid (wordL s.data.toList = false) := by show _ = _; rw [wordL_eq, hd]; simp [HP.out]
       clear hd h0
       go_enter Tryz.func155, Tryz.ntmps155
       go_wp2_with (first | (go_at_call 222; refine (letter_any s[0] _).mono ?_; rintro e w' ⟨rfl, rfl⟩; rw [HP.out]))
       go_ret
       exact ⟨ret_bool HF.out.symm, rfl⟩
     · have HF : Hid (wordL s.data.toList = decide (runL partB s.data.toList = s.size)) := by show _ = _; rw [wordL_eq, hd]; simp [HP.out, h0, h12]
       clear hd h0
       go_enter Tryz.func155, Tryz.ntmps155
       go_wp2_with (first | (go_at_call 222; refine (letter_any s[0] _).mono ?_; rintro e w' ⟨rfl, rfl⟩; rw [HP.out]) | (go_at_call 223; refine (run_part _ _ hs).mono ?_; rintro e w' ⟨rfl, rfl⟩))
       go_ret
       exact ⟨ret_bool (by rw [HF.out, Bool.eq_iff_iff]; simp; try omega), rfl⟩
   · have HF : Hid (wordL s.data.toList = false) := by show _ = _; rw [wordL_eq]; simp [h12]
     clear hd h0
     go_enter Tryz.func155, Tryz.ntmps155
     go_wp2
     go_ret
     exact ⟨ret_bool HF.out.symm, rfl⟩
def IdxPost (w : World) (zs : List ByteArray) (x : ByteArray) (e : Ending) (w' : World) : Prop := ∃ r : Int, e = .returned (.int .i64 r) ∧ decide (0 ≤ r) = zs.any (fun z => z.data.toList == x.data.toList) ∧ r ≤ 100000 ∧ -1 ≤ r ∧ w = w'
theorem toList_data (s : ByteArray) : s.toList = s.data.toList := by
 have : ∀ (n i : Nat) (r : List UInt8), s.size - i ≤ n → ByteArray.toList.loop s i r = r.reverse ++ s.data.toList.drop i := by
   intro n
   induction n with
   | zero =>
     intro i r h
     rw [ByteArray.toList.loop, if_neg (by omega)]
     rw [List.drop_of_length_le (show s.data.toList.length ≤ i from by show s.size ≤ i; omega)]
     simp
   | succ n ih =>
     intro i r h
     rw [ByteArray.toList.loop]
     by_cases hi : i < s.size
     · rw [if_pos hi, ih (i + 1) _ (by omega), List.drop_eq_getElem_cons (show i < s.data.toList.length from hi)]
       simp [ByteArray.get!]
       rw [getElem!_pos s.data i hi]
     · rw [if_neg hi, List.drop_of_length_le (show s.data.toList.length ≤ i from by show s.size ≤ i; omega)]
       simp
 have h := this s.size 0 [] (by omega)
 rw [ByteArray.toList, h]; simp
theorem str_eq_dec (a b : ByteArray) : (a.toList == b.toList) = (a.data.toList == b.data.toList) := by rw [toList_data, toList_data]
theorem idxStr_any (A : Option Addr) (n c : Nat) (zs : List ByteArray) (x : ByteArray) (w : World) (B : Nat) (hz : zs.length = n) (hn : n ≤ 100000) (h : Reads w B 1 A n (zs.map Value.string)) :
   Calls Tryz.prog 289 #[.slice A n c, .string x] w (IdxPost w zs x) := by
 have H := Lib.hid h
 have HZ := Lib.hid hz
 clear h hz
 go_enter Tryz.func289, Tryz.ntmps289
 go_wp2
 go_loop [8] (fun i => ∃ k : Nat, k ≤ n ∧ i = .int .i64 k ∧ (zs.take k).any (fun z => z.data.toList == x.data.toList) = false) (fun i => n - (intOf i).toNat)
 case atStart => exact ⟨0, by omega, rfl, rfl⟩
 case round =>
   obtain ⟨k, hk, rfl, hno⟩ := hrel
   have HNO := Lib.hid hno
   clear hno
   by_cases hlt : k < n
   · obtain ⟨ad, u, rfl, hb, hu, hc⟩ := H.out.at_ hlt
     have hkz : k < zs.length := by rw [HZ.out]; exact hlt
     obtain rfl : u = .string (zs[k]'hkz) := by
       rw [List.getElem?_map, List.getElem?_eq_getElem hkz] at hu
       injection hu with hu; exact hu.symm
     have HT : Hid (zs.take (k + 1) = zs.take k ++ [zs[k]'hkz]) := Lib.hid (List.take_succ_eq_append_getElem hkz)
     have HM : Hid (zs[k]'hkz ∈ zs) := Lib.hid (List.getElem_mem hkz)
     clear hu
     generalize zs[k]'hkz = z at *
     by_cases he : x.data.toList = z.data.toList
     · have c1 : (x.toList == z.toList) = true := by rw [str_eq_dec]; simpa using he
       have HE := Lib.hid he
       clear he
       go_wp2
       go_ret
       refine ⟨k, rfl, ?_, by omega, by omega, rfl⟩
       rw [decide_eq_true (by omega)]
       symm
       rw [List.any_eq_true]
       exact ⟨z, HM.out, by simp [HE.out]⟩
     · have c1 : (x.toList == z.toList) = false := by rw [str_eq_dec]; simpa using he
       have HE := Lib.hid he
       clear he
       go_wp2
       go_round
       case rel =>
         refine ⟨k + 1, by omega, by go_num, ?_⟩
         rw [HT.out, List.any_append, HNO.out]
         simp only [List.any_cons, List.any_nil, Bool.or_false, Bool.false_or, beq_eq_false_iff_ne, ne_eq]
         exact fun e => HE.out e.symm
       case measure => simp [intOf]; omega
   · obtain rfl : k = n := by omega
     go_wp2
     go_ret
     refine ⟨-1, rfl, ?_, by omega, by omega, rfl⟩
     have := HNO.out
     rw [List.take_of_length_le (by rw [HZ.out]; exact Nat.le_refl _)] at this
     rw [this]; decide
theorem contStr_any (A : Option Addr) (n c : Nat) (zs : List ByteArray) (x : ByteArray) (w : World) (B : Nat) (hz : zs.length = n) (hn : n ≤ 100000) (h : Reads w B 1 A n (zs.map Value.string)) (b : Bool) (hb : zs.any (fun z => z.data.toList == x.data.toList) = b) :
   Calls Tryz.prog 225 #[.slice A n c, .string x] w fun e w' => e = .returned (.bool b) ∧ w = w' := by
 have HI := Lib.hid (idxStr_any A n c zs x w B hz hn h)
 have HB := Lib.hid hb
 clear h hz hb
 go_enter Tryz.func225, Tryz.ntmps225
 go_wp2_with (go_at_call 289; go_must (refine HI.out.mono ?_; rintro e w' ⟨r, rfl, hr, _, _, rfl⟩; (have HR := Lib.hid hr); clear hr))
 go_ret
 exact ⟨ret_bool (by rw [← HB.out, ← HR.out]), rfl⟩
end
section
open Go
section
variable {P : Program} {ops : Array Oper} {Q : Exit → Act → World → Prop} {md : Region.Mode} {S : World → Prop} {T : List Nat}

def wpAnyT (P : Program) (md : Region.Mode) (ops : Array Oper) (Q : Exit → Act → World → Prop) (S : World → Prop) (T : List Nat) : Nat → Array Bool → Act → World → Prop
 | 0, listed, a, w => Region.ready md ops listed = [] ∧ Q .normal a w
 | fuel + 1, listed, a, w =>
   (Region.ready md ops listed = [] → Q .normal a w) ∧
   ∀ i ∈ Region.ready md ops listed, wpOp P ops Q i (fun a' w' => (T.contains i = false → S w') ∧ wpAnyT P md ops Q S T fuel (listed.setIfInBounds i true) a' w') a w
theorem wpAny_of_tail : ∀ (fuel : Nat) (listed : Array Bool) (a : Act) (w : World), wpAnyT P md ops Q S T fuel listed a w → wpAny P md ops Q fuel listed a w
 | 0, _, _, _, h => h
 | fuel + 1, _, _, _, h => ⟨h.1, fun i hi => wpOp_mono (fun a' w' h' => wpAny_of_tail fuel _ a' w' h'.2) (h.2 i hi)⟩
def tailB (md : Region.Mode) (ops : Array Oper) (T : List Nat) (i : Nat) : Bool := T.all fun j => match ops[j]? with
 | some oj => oj.after.any fun e => Region.binds md e && e.on == i
 | none => true
theorem tailB_spec {i j : Nat} {oj : Oper} (h : tailB md ops T i = true) (hj : T.contains j = true) (ho : ops[j]? = some oj) : ∃ e ∈ oj.after, Region.binds md e = true ∧ e.on = i := by
 have h1 := List.all_eq_true.1 h j (by simpa using hj)
 rw [ho] at h1
 obtain ⟨e, he, h2⟩ := Array.any_eq_true'.1 h1
 rw [Bool.and_eq_true, beq_iff_eq] at h2
 exact ⟨e, he, h2⟩
theorem wpAnyT_first {i : Nat} {oi : Oper} {v : Value} (hi : ops[i]? = some oi) (hsel : ∀ (j : Nat) (o : Oper) cs b, ops[j]? = some o → o.op ≠ .select cs b)
   (hQ : ∀ c a w, Q (.panic c) (a.put oi.dst v) w → Q (.panic c) a w) (hT : tailB md ops T i = true) :
   ∀ (fuel : Nat) (listed : Array Bool) (a : Act) (w : World),
     (∀ j oj, ops[j]? = some oj → j ≠ i → listed.getD j true = false → (∀ e ∈ oj.after, Region.binds md e = true → e.on ≠ i) → oi.apart ops oj = true) →
     i ∈ Region.ready md ops listed → YieldsIf P ops S oi v a → S w →
     wpAnyT P md ops Q S T fuel (listed.setIfInBounds i true) (a.put oi.dst v) w → wpAnyT P md ops Q S T (fuel + 1) listed a w := by
 intro fuel
 induction fuel with
 | zero =>
   intro listed a w _ hr hy hS H
   refine ⟨fun h => (by rw [h] at hr; cases hr), fun j hj => ?_⟩
   by_cases hji : j = i
   · subst hji; exact hy.wpOp hi hS ⟨fun _ => hS, H⟩
   · have := ready_mono hj hji
     rw [H.1] at this
     cases this
 | succ fuel ih =>
   intro listed a w hfree hr hy hS H
   refine ⟨fun h => (by rw [h] at hr; cases hr), fun j hj => ?_⟩
   by_cases hji : j = i
   · subst hji; exact hy.wpOp hi hS ⟨fun _ => hS, H⟩
   · have h1 := H.2 j (ready_mono hj hji)
     obtain ⟨hjun, oj, hoj, hall⟩ := mem_ready.1 hj
     have hnot : ∀ e ∈ oj.after, Region.binds md e = true → e.on ≠ i := fun e he hb heq => by
       have h1 := hall e he hb
       have h0 := (mem_ready.1 hr).1
       rw [heq] at h1
       rcases Nat.lt_or_ge i listed.size with h' | h'
       · simp [h'] at h0 h1; rw [h0] at h1; cases h1
       · simp [Array.getElem?_eq_none h'] at h1
     have hjT : T.contains j = false := by
       rcases hc : T.contains j with _ | _
       · rfl
       · obtain ⟨e, he, hb, hon⟩ := tailB_spec hT hc hoj
         exact absurd hon (hnot e he hb)
     have h2 := wpOp_putIf hoj (hfree j oj hoj hji hjun hnot) (fun cs b => hsel i oi cs b hi) (fun cs b => hsel j oj cs b hoj) hQ hy h1
     have hfree' : ∀ k ok, ops[k]? = some ok → k ≠ i → (listed.setIfInBounds j true).getD k true = false →
         (∀ e ∈ ok.after, Region.binds md e = true → e.on ≠ i) → oi.apart ops ok = true := fun k ok hk hki hun hno => by
       refine hfree k ok hk hki ?_ hno
       by_cases hjk : j = k
       · subst hjk; exact hjun
       · rw [getD_set_ne true hjk] at hun; exact hun
     refine wpOp_mono (fun a' w' h3 => ⟨h3.2.1, ih (listed.setIfInBounds j true) a' w' hfree' (ready_mono hr (Ne.symm hji)) h3.1 (h3.2.1 hjT) ?_⟩) h2
     rw [Array.setIfInBounds_comm _ _ hji]
     exact h3.2.2
theorem wpAnyT_take {i : Nat} {oi : Oper} {v : Value} {fuel : Nat} {listed : Array Bool} {a : Act} {w : World} (hi : ops[i]? = some oi)
   (hs : Region.noSelect ops = true) (hf : Region.free md ops listed i = true) (hT : tailB md ops T i = true) (hr : (Region.ready md ops listed).contains i = true)
   (hQ : ∀ c a w, Q (.panic c) (a.put oi.dst v) w → Q (.panic c) a w) (hy : YieldsIf P ops S oi v a) (hS : S w)
   (h : wpAnyT P md ops Q S T fuel (listed.setIfInBounds i true) (a.put oi.dst v) w) : wpAnyT P md ops Q S T (fuel + 1) listed a w :=
 wpAnyT_first hi (Region.noSelect_spec hs) hQ hT fuel listed a w (Region.free_spec hi hf) (by simpa using hr) hy hS h
theorem wpAnyT_free_ {i : Nat} {oi : Oper} {v : Value} (hi : ops[i]? = some oi) (hsel : ∀ (j : Nat) (o : Oper) cs b, ops[j]? = some o → o.op ≠ .select cs b)
   (hQ : ∀ c a w, Q (.panic c) (a.put oi.dst v) w → Q (.panic c) a w) (hiT : T.contains i = true) :
   ∀ (fuel : Nat) (listed : Array Bool) (a : Act) (w : World),
     (∀ j oj, ops[j]? = some oj → j ≠ i → listed.getD j true = false → (∀ e ∈ oj.after, Region.binds md e = true → e.on ≠ i) → oi.apart ops oj = true) →
     i ∈ Region.ready md ops listed → YieldsIf P ops (fun _ => True) oi v a →
     wpAnyT P md ops Q S T fuel (listed.setIfInBounds i true) (a.put oi.dst v) w → wpAnyT P md ops Q S T (fuel + 1) listed a w := by
 intro fuel
 induction fuel with
 | zero =>
   intro listed a w _ hr hy H
   refine ⟨fun h => (by rw [h] at hr; cases hr), fun j hj => ?_⟩
   by_cases hji : j = i
   · subst hji; exact hy.wpOp hi trivial ⟨(fun e => by rw [hiT] at e; cases e), H⟩
   · have := ready_mono hj hji
     rw [H.1] at this
     cases this
 | succ fuel ih =>
   intro listed a w hfree hr hy H
   refine ⟨fun h => (by rw [h] at hr; cases hr), fun j hj => ?_⟩
   by_cases hji : j = i
   · subst hji; exact hy.wpOp hi trivial ⟨(fun e => by rw [hiT] at e; cases e), H⟩
   · have h1 := H.2 j (ready_mono hj hji)
     obtain ⟨hjun, oj, hoj, hall⟩ := mem_ready.1 hj
     have hnot : ∀ e ∈ oj.after, Region.binds md e = true → e.on ≠ i := fun e he hb heq => by
       have h1 := hall e he hb
       have h0 := (mem_ready.1 hr).1
       rw [heq] at h1
       rcases Nat.lt_or_ge i listed.size with h' | h'
       · simp [h'] at h0 h1; rw [h0] at h1; cases h1
       · simp [Array.getElem?_eq_none h'] at h1
     have h2 := wpOp_putIf hoj (hfree j oj hoj hji hjun hnot) (fun cs b => hsel i oi cs b hi) (fun cs b => hsel j oj cs b hoj) hQ hy h1
     have hfree' : ∀ k ok, ops[k]? = some ok → k ≠ i → (listed.setIfInBounds j true).getD k true = false →
         (∀ e ∈ ok.after, Region.binds md e = true → e.on ≠ i) → oi.apart ops ok = true := fun k ok hk hki hun hno => by
       refine hfree k ok hk hki ?_ hno
       by_cases hjk : j = k
       · subst hjk; exact hjun
       · rw [getD_set_ne true hjk] at hun; exact hun
     refine wpOp_mono (fun a' w' h3 => ⟨h3.2.1, ih (listed.setIfInBounds j true) a' w' hfree' (ready_mono hr (Ne.symm hji)) h3.1 ?_⟩) h2
     rw [Array.setIfInBounds_comm _ _ hji]
     exact h3.2.2
theorem wpAnyT_free {i : Nat} {oi : Oper} {v : Value} {fuel : Nat} {listed : Array Bool} {a : Act} {w : World} (hi : ops[i]? = some oi)
   (hs : Region.noSelect ops = true) (hf : Region.free md ops listed i = true) (hiT : T.contains i = true) (hr : (Region.ready md ops listed).contains i = true)
   (hQ : ∀ c a w, Q (.panic c) (a.put oi.dst v) w → Q (.panic c) a w) (hy : YieldsIf P ops (fun _ => True) oi v a)
   (h : wpAnyT P md ops Q S T fuel (listed.setIfInBounds i true) (a.put oi.dst v) w) : wpAnyT P md ops Q S T (fuel + 1) listed a w :=
 wpAnyT_free_ hi (Region.noSelect_spec hs) hQ hiT fuel listed a w (Region.free_spec hi hf) (by simpa using hr) hy h
theorem wpAnyT_done {listed : Array Bool} {a : Act} {w : World} (hr : Region.ready md ops listed = []) (h : Q .normal a w) :
   ∀ fuel, wpAnyT P md ops Q S T fuel listed a w
 | 0 => ⟨hr, h⟩
 | _ + 1 => ⟨fun _ => h, by rw [hr]; simp⟩
def AllReadyT (P : Program) (md : Region.Mode) (ops : Array Oper) (Q : Exit → Act → World → Prop) (S : World → Prop) (T : List Nat) (fuel : Nat) (listed : Array Bool) (a : Act) (w : World) (rs : List Nat) : Prop :=
 ∀ i ∈ rs, wpOp P ops Q i (fun a' w' => (T.contains i = false → S w') ∧ wpAnyT P md ops Q S T fuel (listed.setIfInBounds i true) a' w') a w
theorem AllReadyT.nil {fuel : Nat} {listed : Array Bool} {a : Act} {w : World} : AllReadyT P md ops Q S T fuel listed a w [] := fun _ h => by cases h
theorem AllReadyT.cons {fuel : Nat} {listed : Array Bool} {a : Act} {w : World} {i : Nat} {o : Oper} {rs : List Nat} (ho : ops[i]? = some o)
   (h : ∀ K' : Act → World → Prop, Shut (∀ a w, S w → (S w → wpAnyT P md ops Q S T fuel (listed.setIfInBounds i true) a w) → K' a w) → if Region.wanted o (yielded ops a.tmps) = true then Oper.wp P o a w K' Q else K' (a.put o.dst undef) w)
   (hs : AllReadyT P md ops Q S T fuel listed a w rs) : AllReadyT P md ops Q S T fuel listed a w (i :: rs) := fun j hj => by
 rcases List.mem_cons.1 hj with rfl | hj
 · exact wpOp_step ho (fun K' hK => h K' (fun a w hS hW => hK a w ⟨fun _ => hS, hW hS⟩))
 · exact hs j hj
theorem AllReadyT.last {fuel : Nat} {listed : Array Bool} {a : Act} {w : World} {i : Nat} {o : Oper} {rs : List Nat} (ho : ops[i]? = some o) (hl : T.contains i = true)
   (h : ∀ K' : Act → World → Prop, Shut (∀ a w, wpAnyT P md ops Q S T fuel (listed.setIfInBounds i true) a w → K' a w) → if Region.wanted o (yielded ops a.tmps) = true then Oper.wp P o a w K' Q else K' (a.put o.dst undef) w)
   (hs : AllReadyT P md ops Q S T fuel listed a w rs) : AllReadyT P md ops Q S T fuel listed a w (i :: rs) := fun j hj => by
 rcases List.mem_cons.1 hj with rfl | hj
 · exact wpOp_step ho (fun K' hK => h K' (fun a w hW => hK a w ⟨(fun e => by rw [hl] at e; cases e), hW⟩))
 · exact hs j hj
theorem wpAnyT_ready {rs : List Nat} {fuel : Nat} {listed : Array Bool} {a : Act} {w : World} (hr : Region.ready md ops listed = rs) (hne : rs ≠ [])
   (h : AllReadyT P md ops Q S T fuel listed a w rs) : wpAnyT P md ops Q S T (fuel + 1) listed a w :=
 ⟨fun h0 => absurd (hr ▸ h0) hne, hr ▸ h⟩
theorem wp_region_tail {id : Nat} {a : Act} {w : World} (T : List Nat) (hm : P.follows .mixedOrders = true) (hS : S w.drew)
   (h : S w.drew → wpAnyT P .any ops Q S T ops.size (Array.replicate ops.size false) a w.drew) : (Code.region id ops true).wp P Q a w :=
 wp_region_any hm (wpAny_of_tail _ _ _ _ (h hS))
theorem wp_build_one {P : Program} {ops : Array Oper} {o : Oper} {a : Act} {w : World} {K : Act → World → Prop} {Q : Exit → Act → World → Prop} {E : Prop} (hgd : o.guard = none) (t e : TypeId) (parts : Array (Nat × Operand)) (ho : o.op = .buildSlice t 1 parts) (v : Value) (s : Nat)
   (hu : P.underlying t = some (.slice e)) (ie : TypeInfo) (z : Value) (hie : P.info? e = some ie) (hz : ie.zero = some z) (hs : ie.size = s) (h0 : 0 < s) (h2 : s ≤ 2 ^ 24) (cs : Array Value) (hv : v.cells = cs) (hn : cs.size = s)
   (hparts : (parts.map fun (i, x) => (i, a.eval x)).toList = [(0, v)])
   (h : K (a.put o.dst (.slice (some ⟨w.heap.size, 0, none⟩) 1 1)) (w.alloc (.cells cs e))) : if Region.wanted o (yielded ops a.tmps) = true then Oper.wp P o a w K Q else E := by
 have hw : Region.wanted o (yielded ops a.tmps) = true := by simp [Region.wanted, hgd]
 rw [if_pos hw]
 refine wp_buildSlice t e 1 parts ho cs ie z hu hie hz (by rw [hs]; omega) (by rw [hs]; omega) ?_ h
 rw [hparts, hs]
 obtain ⟨r, hr, hsz, hk⟩ := Great.fill_dense h0 [v] 0 ((Array.range (1 * s)).map (z.cells[· % z.cells.size]!)) (by simp [hv, hn]) (by simp)
 have e : r = cs := Array.ext_getElem? (fun k => by
   rw [hk k]
   simp only [Array.size_map, Array.size_range, Nat.one_mul] at hsz
   by_cases hlt : k < s
   · rw [if_pos (by simp; omega)]
     simp [Nat.div_eq_of_lt hlt, Nat.mod_eq_of_lt hlt, hv]
   · rw [if_neg (by simp; omega)]
     rw [Array.getElem?_eq_none (by simp; omega), Array.getElem?_eq_none (by omega)])
 rw [← e]
 exact hr
theorem oiA {α : Type} {xs : List α} {i : Nat} : xs.toArray[i]? = xs[i]? := List.getElem?_toArray
theorem oiS {α : Type} {a : α} {xs : List α} {i : Nat} : (a :: xs)[i + 1]? = xs[i]? := List.getElem?_cons_succ
theorem oiZ {α : Type} {a : α} {xs : List α} : (a :: xs)[0]? = some a := List.getElem?_cons_zero
theorem puA {α : Type} {xs : List α} {i : Nat} {b : α} : xs.toArray.setIfInBounds i b = (xs.set i b).toArray := by simp
theorem puS {α : Type} {a b : α} {xs : List α} {i : Nat} : (a :: xs).set (i + 1) b = a :: xs.set i b := rfl
theorem puZ {α : Type} {a b : α} {xs : List α} : (a :: xs).set 0 b = b :: xs := rfl
end
end
end Go.Proofs.YthhbkabdhkdafaaGreat
