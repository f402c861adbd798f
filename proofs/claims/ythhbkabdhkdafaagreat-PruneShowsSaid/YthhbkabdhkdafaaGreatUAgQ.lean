/- Part of a proof of pruneShows_holds. -/
import Derived.Test.YthhbkabdhkdafaaGreatUAfQ
import Derived.Deep.RegionLaw
import Derived.Deep.DeepCutAuto
import Derived.Maps.Own
import Derived.Maps.OwnSet
import Derived.Maps.Views
set_option linter.unusedSimpArgs false
set_option linter.unusedVariables false
set_option maxRecDepth 100000
set_option maxHeartbeats 16000000
namespace Go.Proofs.YthhbkabdhkdafaaGreat
def insV (x : V) : List V → List V
 | [] => [x]
 | y :: r => if cmpV x y ≤ 0 then x :: y :: r else y :: insV x r
def sortV (l : List V) : List V := l.foldr insV []
theorem insV_perm (x : V) : ∀ l, (insV x l).Perm (x :: l)
 | [] => List.Perm.refl _
 | y :: r => by
   unfold insV
   split
   · exact List.Perm.refl _
   · exact ((insV_perm x r).cons y).trans (List.Perm.swap _ _ _)
theorem sortV_perm : ∀ l, (sortV l).Perm l
 | [] => List.Perm.refl _
 | x :: r => (insV_perm x _).trans ((sortV_perm r).cons x)
theorem cmp_le_trans {a b c : V} (h1 : cmpV a b ≤ 0) (h2 : cmpV b c ≤ 0) : cmpV a c ≤ 0 := by
 by_cases e1 : cmpV a b = 0
 · rw [cmp_zero _ _ e1]; exact h2
 · by_cases e2 : cmpV b c = 0
   · rw [← cmp_zero _ _ e2]; exact h1
   · have r1 := cmp_range a b; have r2 := cmp_range b c
     have := cmp_trans a b c (by omega) (by omega); omega
theorem insV_pair (x : V) : ∀ {l : List V}, (l.Pairwise fun a b => cmpV a b ≤ 0) → (insV x l).Pairwise fun a b => cmpV a b ≤ 0
 | [], _ => by simp [insV]
 | y :: r, h => by
   have h2 := List.pairwise_cons.1 h
   unfold insV
   split
   · rename_i h0
     refine .cons (fun z hz => ?_) h
     rcases List.mem_cons.1 hz with rfl | hz
     · exact h0
     · exact cmp_le_trans h0 (h2.1 z hz)
   · rename_i h0
     refine .cons (fun z hz => ?_) (insV_pair x h2.2)
     rcases List.mem_cons.1 ((insV_perm x r).subset hz) with rfl | hz
     · have := cmp_anti z y; omega
     · exact h2.1 z hz
theorem sortV_pair : ∀ l, (sortV l).Pairwise fun a b => cmpV a b ≤ 0
 | [] => .nil
 | x :: r => insV_pair x (sortV_pair r)
theorem sortV_sorted (l : List V) : sortedB (sortV l) = true := pair_sorted (sortV_pair l)
theorem sortV_eq {l l' : List V} (h : l'.Perm l) (hs : sortedB l' = true) : l' = sortV l := sorted_perm hs (sortV_sorted l) (h.trans (sortV_perm l).symm)
theorem sortV_mem {l : List V} {x : V} : x ∈ sortV l ↔ x ∈ l := (sortV_perm l).mem_iff
def minStep (f : V → V → Bool) (out : List V) (v : V) : List V := if out.any (fun x => f x v) then out else (out.filter fun x => !f v x) ++ [v]
def minL (f : V → V → Bool) (l : List V) : List V := l.foldl (minStep f) []
def minimalP (f : V → V → Bool) (l : List V) : List V := sortV (minL f l)

structure POrd (f : V → V → Bool) (ok : V → Prop) : Prop where
 refl : ∀ a, ok a → f a a = true
 trans : ∀ a b c, ok a → ok b → ok c → f a b = true → f b c = true → f a c = true
 anti : ∀ a b, ok a → ok b → f a b = true → f b a = true → a = b
def Anti (f : V → V → Bool) (l : List V) : Prop := l.Pairwise fun a b => f a b = false ∧ f b a = false
theorem Anti.perm {f : V → V → Bool} {a b : List V} (h : Anti f a) (p : a.Perm b) : Anti f b := (p.pairwise_iff (fun {x y} h => ⟨h.2, h.1⟩)).1 h
section
variable {f : V → V → Bool} {ok : V → Prop}
theorem minStep_anti {out : List V} (v : V) (h : Anti f out) : Anti f (minStep f out v) := by
 unfold minStep
 split
 · exact h
 · rename_i h0
   refine List.pairwise_append.2 ⟨List.Pairwise.sublist List.filter_sublist h, by simp, fun a ha b hb => ?_⟩
   obtain rfl := List.mem_singleton.1 hb
   have h1 := List.mem_filter.1 ha
   simp only [Bool.not_eq_true, List.any_eq_false] at h0
   exact ⟨by simpa using h0 a h1.1, by simpa using h1.2⟩
theorem minStep_mem {out : List V} {v x : V} (h : x ∈ minStep f out v) : x ∈ out ∨ x = v := by
 unfold minStep at h
 split at h
 · exact .inl h
 · rcases List.mem_append.1 h with h | h
   · exact .inl (List.mem_filter.1 h).1
   · exact .inr (List.mem_singleton.1 h)
theorem minStep_dom (P : POrd f ok) {out : List V} {v y : V} (ho : ∀ x ∈ out, ok x) (hv : ok v) (hy : ok y) (h : (∃ x ∈ out, f x y = true) ∨ f v y = true) : ∃ x ∈ minStep f out v, f x y = true := by
 unfold minStep
 split
 · rename_i h0
   rcases h with h | h
   · exact h
   · obtain ⟨x, hx, h1⟩ := List.any_eq_true.1 h0
     exact ⟨x, hx, P.trans _ _ _ (ho x hx) hv hy h1 h⟩
 · rcases h with ⟨x, hx, h⟩ | h
   · by_cases h1 : f v x = true
     · exact ⟨v, by simp, P.trans _ _ _ hv (ho x hx) hy h1 h⟩
     · exact ⟨x, List.mem_append_left _ (List.mem_filter.2 ⟨hx, by simpa using h1⟩), h⟩
   · exact ⟨v, by simp, h⟩
theorem fold_spec (P : POrd f ok) : ∀ (l out : List V), (∀ x ∈ out, ok x) → (∀ x ∈ l, ok x) → Anti f out →
   Anti f (l.foldl (minStep f) out) ∧ (∀ x ∈ l.foldl (minStep f) out, x ∈ out ∨ x ∈ l) ∧ (∀ y, ok y → ((∃ x ∈ out, f x y = true) ∨ ∃ x ∈ l, f x y = true) → ∃ x ∈ l.foldl (minStep f) out, f x y = true)
 | [], out, _, _, h => ⟨h, fun x hx => .inl hx, fun y _ hy => by simpa using hy⟩
 | v :: l, out, ho, hl, h => by
   have hv := hl v (by simp)
   obtain ⟨a, b, c⟩ := fold_spec P l (minStep f out v) (fun x hx => by
     rcases minStep_mem hx with hx | rfl
     · exact ho x hx
     · exact hv) (fun x hx => hl x (by simp [hx])) (minStep_anti v h)
   refine ⟨a, fun x hx => ?_, fun y oy hy => c y oy ?_⟩
   · rcases b x hx with hx | hx
     · rcases minStep_mem hx with hx | rfl
       · exact .inl hx
       · exact .inr (by simp)
     · exact .inr (by simp [hx])
   · rcases hy with hy | ⟨x, hx, hy⟩
     · exact .inl (minStep_dom P ho hv oy (.inl hy))
     · rcases List.mem_cons.1 hx with rfl | hx
       · exact .inl (minStep_dom P ho hv oy (.inr hy))
       · exact .inr ⟨x, hx, hy⟩
theorem minL_spec (P : POrd f ok) {l : List V} (hl : ∀ x ∈ l, ok x) : Anti f (minL f l) ∧ (∀ x ∈ minL f l, x ∈ l) ∧ (∀ y, ok y → (∃ x ∈ l, f x y = true) → ∃ x ∈ minL f l, f x y = true) := by
 obtain ⟨a, b, c⟩ := fold_spec P l [] (fun x hx => by simp at hx) hl .nil
 exact ⟨a, fun x hx => by simpa using b x hx, fun y oy hy => c y oy (.inr hy)⟩
theorem minP_spec (P : POrd f ok) {l : List V} (hl : ∀ x ∈ l, ok x) : Anti f (minimalP f l) ∧ (∀ x ∈ minimalP f l, x ∈ l) ∧ (∀ y, ok y → (∃ x ∈ l, f x y = true) → ∃ x ∈ minimalP f l, f x y = true) := by
 obtain ⟨a, b, c⟩ := minL_spec P hl
 exact ⟨a.perm (sortV_perm _).symm, fun x hx => b x (sortV_mem.1 hx), fun y oy hy => by
   obtain ⟨x, hx, h⟩ := c y oy hy
   exact ⟨x, sortV_mem.2 hx, h⟩⟩
theorem minStep_length (out : List V) (v : V) : (minStep f out v).length ≤ out.length + 1 := by
 unfold minStep
 split
 · omega
 · have := List.length_filter_le (fun x => !f v x) out; simp; omega
theorem fold_length : ∀ (l out : List V), (l.foldl (minStep f) out).length ≤ out.length + l.length
 | [], out => by simp
 | v :: l, out => by have := fold_length l (minStep f out v); have := minStep_length (f := f) out v; simp; omega
end
theorem below_ord {d : Nat} {t : T} (ht : rightP d t = true) : POrd (belowP d t) (fun v => oneP d t v = true) :=
 ⟨fun a ha => below_refl d t a ht ha, fun a b c ha hb hc h1 h2 => below_trans d t a b c ht ha hb hc h1 h2, fun a b ha hb h1 h2 => below_anti ht ha hb h1 h2⟩

theorem validP_one {t : T} {v : V} (h : validP t v = true) : oneP 8 t v = true := by
 unfold validP at h; simp only [Bool.and_eq_true] at h; exact h.2
def natT : T := .mk 1 0 [] []
def labT (n : Nat) : T := .mk 2 n [] []
def typF (n k : Nat) : T := .mk 3 0 [] (labT n :: List.replicate k natT)
def cfgV (s : Int) (cs : List Int) : V := .mk 0 (.mk s [] :: cs.map fun c => .mk c [])
def stV (v : V) : Int := (v.ks.headD (.mk 0 [])).n
def csV (v : V) : List Int := v.ks.tail.map V.n
@[simp] theorem stV_cfg (s : Int) (cs : List Int) : stV (cfgV s cs) = s := rfl
@[simp] theorem csV_cfg (s : Int) (cs : List Int) : csV (cfgV s cs) = cs := by simp [csV, cfgV, Function.comp_def]
theorem cfgV_inj {s s' : Int} {a b : List Int} (h : cfgV s a = cfgV s' b) : s = s' ∧ a = b := by
 have h1 := congrArg stV h
 have h2 := congrArg csV h
 simpa using And.intro h1 h2
theorem natT_right (d : Nat) : rightP (d + 1) natT = true := by simp [rightP, natT]
theorem labT_right (d : Nat) {n : Nat} (h1 : 1 ≤ n) (h2 : n ≤ 16) : rightP (d + 1) (labT n) = true := by
 have e1 : decide (1 ≤ (n : Int)) = true := by simp; omega
 have e2 : decide ((n : Int) ≤ 16) = true := by simp; omega
 rw [show rightP (d + 1) (labT n) = (true && decide (1 ≤ (n : Int)) && decide ((n : Int) ≤ 16)) from rfl, e1, e2]
 rfl
theorem typF_right {n k : Nat} (h1 : 1 ≤ n) (h2 : n ≤ 16) (h3 : k ≤ 7) : rightP 8 (typF n k) = true := by
 have e1 := labT_right 6 h1 h2
 have e2 := natT_right 6
 simp only [rightP.eq_2 (d := 7), typF, T.ranks_mk, T.kind_mk, T.parts_mk, T.size_mk, List.length_nil, List.all_cons, List.length_cons, List.length_replicate, List.isEmpty_cons, e1]
 simp [e2]; omega
theorem oneZ_nats (d : Nat) : ∀ (k : Nat) (vs : List V), oneZ (oneP (d + 1)) (List.replicate k natT) vs = true ↔ ∃ cs : List Int, vs = cs.map (fun c => V.mk c []) ∧ cs.length = k ∧ ∀ c ∈ cs, 0 ≤ c ∧ c ≤ 1048576 := by
 intro k
 induction k with
 | zero =>
   intro vs
   cases vs with
   | nil => simp [oneZ]
   | cons v vs =>
     constructor
     · intro h; simp [oneZ] at h
     · rintro ⟨cs, h1, h2, _⟩
       obtain rfl : cs = [] := by simpa using h2
       cases h1
 | succ k ih =>
   intro vs
   cases vs with
   | nil =>
     constructor
     · intro h; simp [oneZ, List.replicate_succ] at h
     · rintro ⟨cs, h1, h2, _⟩
       cases cs with
       | nil => simp at h2
       | cons c cs => simp at h1
   | cons v vs =>
     rw [List.replicate_succ, oneZ, Bool.and_eq_true, ih]
     have e : oneP (d + 1) natT v = true ↔ ∃ c : Int, v = .mk c [] ∧ 0 ≤ c ∧ c ≤ 1048576 := by
       cases v with
       | mk c ks =>
         rw [show oneP (d + 1) natT (.mk c ks) = (decide (0 ≤ c) && decide (c ≤ 1048576) && ks.isEmpty) from rfl, Bool.and_eq_true, Bool.and_eq_true, decide_eq_true_eq, decide_eq_true_eq, List.isEmpty_iff]
         constructor
         · rintro ⟨⟨a, b⟩, rfl⟩; exact ⟨c, rfl, a, b⟩
         · rintro ⟨c', h, a, b⟩
           injection h with h1 h2
           subst h1 h2
           exact ⟨⟨a, b⟩, rfl⟩
     rw [e]
     constructor
     · rintro ⟨⟨c, rfl, a, b⟩, cs, rfl, hl, hb⟩
       exact ⟨c :: cs, rfl, by simp [hl], by simpa using ⟨⟨a, b⟩, hb⟩⟩
     · rintro ⟨cs, h1, h2, h3⟩
       cases cs with
       | nil => simp at h2
       | cons c cs =>
         simp only [List.map_cons, List.cons.injEq] at h1
         exact ⟨⟨c, h1.1, h3 c (by simp)⟩, cs, h1.2, by simpa using h2, fun x hx => h3 x (by simp [hx])⟩
theorem one_flat {n k : Nat} {v : V} : oneP 8 (typF n k) v = true ↔ ∃ s cs, v = cfgV s cs ∧ 0 ≤ s ∧ s < n ∧ cs.length = k ∧ ∀ c ∈ cs, 0 ≤ c ∧ c ≤ 1048576 := by
 have hlab : ∀ u : V, oneP 7 (labT n) u = true ↔ ∃ s : Int, u = .mk s [] ∧ 0 ≤ s ∧ s < n := by
   intro u
   cases u with
   | mk s ks =>
     rw [show oneP 7 (labT n) (.mk s ks) = (decide (0 ≤ s) && decide (s < (n : Int)) && ks.isEmpty) from rfl, Bool.and_eq_true, Bool.and_eq_true, decide_eq_true_eq, decide_eq_true_eq, List.isEmpty_iff]
     constructor
     · rintro ⟨⟨a, b⟩, rfl⟩; exact ⟨s, rfl, a, b⟩
     · rintro ⟨s', h, a, b⟩
       injection h with h1 h2
       subst h1 h2
       exact ⟨⟨a, b⟩, rfl⟩
 rw [oneP.eq_2 (d := 7)]
 simp only [typF, T.kind_mk, T.parts_mk, show ¬ ((3 : Int) = 1) by decide, show ¬ ((3 : Int) = 2) by decide, if_false, if_true, Bool.and_eq_true, beq_iff_eq]
 cases v with
 | mk m ks =>
   simp only [V.n_mk, V.ks_mk]
   cases ks with
   | nil => simp [cfgV]
   | cons u ks =>
     rw [oneZ, Bool.and_eq_true, hlab, oneZ_nats]
     constructor
     · rintro ⟨⟨rfl, _⟩, ⟨s, rfl, a, b⟩, cs, rfl, hl, hb⟩
       exact ⟨s, cs, rfl, a, b, hl, hb⟩
     · rintro ⟨s, cs, h, a, b, hl, hb⟩
       injection h with h1 h2
       injection h2 with h3 h4
       subst h1 h3 h4
       exact ⟨⟨rfl, by simp [hl]⟩, ⟨s, rfl, a, b⟩, cs, rfl, hl, hb⟩
def Mdl.t (m : Mdl) : T := typF m.ss.length m.ps.length
def Mdl.start (m : Mdl) : V := cfgV m.st m.cs
structure Ori where
 v : V
 r : Int
 nx : V
structure Sk where
 ba : List V
 og : List Ori
 fr : List V
 us : Int
def limB (l : List V) : List V × Int := if 256 < l.length then ([], 1) else (l, 0)
def startS (t : T) (l : List V) : Sk × Int :=
 let b := limB (minimalP (belowP 8 t) l)
 if b.2 ≠ 0 then (⟨[], [], [], 0⟩, b.2) else (⟨b.1, b.1.map fun v => ⟨v, -2, .mk 0 []⟩, b.1, 0⟩, 0)
structure RulOk (n k : Nat) (r : Rul) : Prop where
 fr : 0 ≤ r.fr ∧ r.fr < n
 tz : 0 ≤ r.tz ∧ r.tz < n
 nl : r.need.length = k
 gl : r.give.length = k
 n0 : ∀ j, j < k → 0 ≤ r.need.getD j 0 ∧ r.need.getD j 0 ≤ 16
 g0 : ∀ j, j < k → 0 ≤ r.give.getD j 0 ∧ r.give.getD j 0 ≤ 16
structure MdlOk (m : Mdl) : Prop where
 n1 : 1 ≤ m.ss.length ∧ m.ss.length ≤ 8
 k1 : 1 ≤ m.ps.length ∧ m.ps.length ≤ 6
 ru : ∀ r ∈ m.rs, RulOk m.ss.length m.ps.length r
 st : oneP 8 m.t m.start = true
section
variable {m : Mdl}
theorem MdlOk.right (h : MdlOk m) : rightP 8 m.t = true := typF_right h.n1.1 (by have := h.n1.2; omega) (by have := h.k1.2; omega)
theorem MdlOk.ord (h : MdlOk m) : POrd (belowP 8 m.t) (fun v => oneP 8 m.t v = true) := below_ord h.right
def up (m : Mdl) (b : List V) (v : V) : Prop := ∃ x ∈ b, belowP 8 m.t x v = true
end
section
open Go.RowKit
def StrAt (w : World) (S : Nat → Prop) (v : Value) (l : List ByteArray) : Prop :=
 ∃ A n c, v = .slice A n c ∧ l.length = n ∧ n ≤ c ∧ c ≤ maxLen ∧ (0 < n → ∃ ad, A = some ad ∧ S ad.block ∧ ∀ k (h : k < l.length), w.cell? (ad.add k) = some (.string l[k]))
def rlCells (r : Rul) (nd gv : Value) : List Value := [.string r.nm, .int .i64 r.fr, .int .i64 r.tz, nd, gv, .slice none 0 0, .int .i64 0, .int .i64 0, .int .i64 0, .slice none 0 0, .slice none 0 0, .slice none 0 0, .slice none 0 0, .int .i64 0]
abbrev aggR (r : Rul) (nd gv : Value) : Value := .agg #[.string r.nm, .int .i64 r.fr, .int .i64 r.tz, nd, gv, .slice none 0 0, .int .i64 0, .int .i64 0, .int .i64 0, .slice none 0 0, .slice none 0 0, .slice none 0 0, .slice none 0 0, .int .i64 0]
def RlsAt (w : World) (S : Nat → Prop) (v : Value) (rs : List Rul) : Prop :=
 ∃ A n c, ∃ ns gs : List Value, v = .slice A n c ∧ rs.length = n ∧ n ≤ c ∧ c ≤ maxLen ∧ ns.length = n ∧ gs.length = n ∧
   (0 < n → ∃ ad, A = some ad ∧ S ad.block ∧ ∀ k (h : k < rs.length) (h1 : k < ns.length) (h2 : k < gs.length), ∀ j u, (rlCells rs[k] ns[k] gs[k])[j]? = some u → w.cell? (ad.add (k * 14 + j)) = some u) ∧
   ∀ k (h : k < rs.length) (h1 : k < ns.length) (h2 : k < gs.length), IAt w S ns[k] rs[k].need ∧ IAt w S gs[k] rs[k].give
section
variable {w w' : World} {S S' : Nat → Prop}
theorem StrAt.form {v : Value} {l : List ByteArray} (h : StrAt w S v l) : ∃ A n c, v = .slice A n c ∧ l.length = n ∧ n ≤ c ∧ c ≤ maxLen := by
 obtain ⟨A, n, c, h1, h2, h3, h4, _⟩ := h
 exact ⟨A, n, c, h1, h2, h3, h4⟩
theorem StrAt.keep {v : Value} {l : List ByteArray} (h : StrAt w S v l) (hS : ∀ b, S b → S' b) (hk : ∀ p : Addr, S p.block → w'.cell? p = w.cell? p) : StrAt w' S' v l := by
 obtain ⟨A, n, c, h1, h2, h3, h4, h5⟩ := h
 refine ⟨A, n, c, h1, h2, h3, h4, fun hn => ?_⟩
 obtain ⟨ad, e, hs, hc⟩ := h5 hn
 exact ⟨ad, e, hS _ hs, fun k h => (hk _ (by rw [add_block]; exact hs)).trans (hc k h)⟩
theorem StrAt.at_ {A : Option Addr} {n c : Nat} {l : List ByteArray} (h : StrAt w S (.slice A n c) l) {k : Nat} (hk : k < l.length) : ∃ ad, A = some ad ∧ S ad.block ∧ w.cell? (ad.add k) = some (.string l[k]) := by
 obtain ⟨A', n', c', e, h2, h3, h4, h5⟩ := h
 injection e with e1 e2 e3
 subst e1 e2 e3
 obtain ⟨ad, e, h6, h7⟩ := h5 (by omega)
 exact ⟨ad, e, h6, h7 k hk⟩
theorem StrAt.reads {B : Nat} {A : Option Addr} {n c : Nat} {l : List ByteArray} (h : StrAt w (· < B) (.slice A n c) l) : Reads w B 1 A n (l.map Value.string) := by
 obtain ⟨A', n', c', e, h2, h3, h4, h5⟩ := h
 injection e with e1 e2 e3
 subst e1 e2 e3
 refine ⟨by simp [h2], fun hn => ?_⟩
 obtain ⟨ad, e, h6, h7⟩ := h5 hn
 refine ⟨ad, e, h6, fun k u hu => ?_⟩
 rw [List.getElem?_map] at hu
 obtain ⟨x, hx, rfl⟩ := Option.map_eq_some_iff.1 hu
 obtain ⟨hk, rfl⟩ := List.getElem?_eq_some_iff.1 hx
 exact h7 k hk
theorem RlsAt.form {v : Value} {rs : List Rul} (h : RlsAt w S v rs) : ∃ A n c, v = .slice A n c ∧ rs.length = n ∧ n ≤ c ∧ c ≤ maxLen := by
 obtain ⟨A, n, c, _, _, h1, h2, h3, h4, _⟩ := h
 exact ⟨A, n, c, h1, h2, h3, h4⟩
theorem RlsAt.keep {v : Value} {rs : List Rul} (h : RlsAt w S v rs) (hS : ∀ b, S b → S' b) (hk : ∀ p : Addr, S p.block → w'.cell? p = w.cell? p) : RlsAt w' S' v rs := by
 obtain ⟨A, n, c, ns, gs, h1, h2, h3, h4, h5, h6, h7, h8⟩ := h
 refine ⟨A, n, c, ns, gs, h1, h2, h3, h4, h5, h6, fun hn => ?_, fun k a b c => ⟨(h8 k a b c).1.keep hS hk, (h8 k a b c).2.keep hS hk⟩⟩
 obtain ⟨ad, e, hs, hc⟩ := h7 hn
 exact ⟨ad, e, hS _ hs, fun k h h1 h2 j u hu => (hk _ (by rw [add_block]; exact hs)).trans (hc k h h1 h2 j u hu)⟩
structure RlIs (w : World) (p : Addr) (r : Rul) (nd gv : Value) : Prop where
 c0 : w.cell? p = some (.string r.nm)
 c1 : w.cell? ⟨p.block, p.off + 1, none⟩ = some (.int .i64 r.fr)
 c2 : w.cell? ⟨p.block, p.off + 2, none⟩ = some (.int .i64 r.tz)
 c3 : w.cell? ⟨p.block, p.off + 3, none⟩ = some nd
 c4 : w.cell? ⟨p.block, p.off + 4, none⟩ = some gv
 c5 : w.cell? ⟨p.block, p.off + 5, none⟩ = some (.slice none 0 0)
 c6 : w.cell? ⟨p.block, p.off + 6, none⟩ = some (.int .i64 0)
 c7 : w.cell? ⟨p.block, p.off + 7, none⟩ = some (.int .i64 0)
 c8 : w.cell? ⟨p.block, p.off + 8, none⟩ = some (.int .i64 0)
 c9 : w.cell? ⟨p.block, p.off + 9, none⟩ = some (.slice none 0 0)
 c10 : w.cell? ⟨p.block, p.off + 10, none⟩ = some (.slice none 0 0)
 c11 : w.cell? ⟨p.block, p.off + 11, none⟩ = some (.slice none 0 0)
 c12 : w.cell? ⟨p.block, p.off + 12, none⟩ = some (.slice none 0 0)
 c13 : w.cell? ⟨p.block, p.off + 13, none⟩ = some (.int .i64 0)
theorem RlIs.of {p : Addr} {r : Rul} {nd gv : Value} (h : ∀ j u, (rlCells r nd gv)[j]? = some u → w.cell? (p.add j) = some u) : RlIs w p r nd gv := by
 have g : ∀ j u, (rlCells r nd gv)[j + 1]? = some u → w.cell? ⟨p.block, p.off + (j + 1), none⟩ = some u := fun j u hu => by
   have := h (j + 1) u hu
   have e := add_off p 0 j
   rw [Nat.zero_add] at e
   rw [e] at this
   simpa [Addr.add] using this
 have h0 := h 0 _ rfl
 rw [Addr.add] at h0
 exact ⟨by simpa using h0, g 0 _ rfl, g 1 _ rfl, g 2 _ rfl, g 3 _ rfl, g 4 _ rfl, g 5 _ rfl, g 6 _ rfl, g 7 _ rfl, g 8 _ rfl, g 9 _ rfl, g 10 _ rfl, g 11 _ rfl, g 12 _ rfl⟩
theorem RlsAt.at_ {A : Option Addr} {n c : Nat} {rs : List Rul} (h : RlsAt w S (.slice A n c) rs) {k : Nat} (hk : k < rs.length) : ∃ ad A1 n1 c1 A2 n2 c2, A = some ad ∧ S ad.block ∧ RlIs w (ad.add (k * 14)) rs[k] (.slice A1 n1 c1) (.slice A2 n2 c2) ∧ IAt w S (.slice A1 n1 c1) rs[k].need ∧ IAt w S (.slice A2 n2 c2) rs[k].give := by
 obtain ⟨A', n', c', ns, gs, e, h2, h3, h4, h5, h6, h7, h8⟩ := h
 injection e with e1 e2 e3
 subst e1 e2 e3
 obtain ⟨ad, e, hs, hc⟩ := h7 (by omega)
 obtain ⟨g1, g2⟩ := h8 k hk (by omega) (by omega)
 obtain ⟨A1, n1, c1, e1, _⟩ := g1.form
 obtain ⟨A2, n2, c2, e2, _⟩ := g2.form
 have hc' := hc k hk (by omega) (by omega)
 rw [e1, e2] at hc'
 rw [e1] at g1
 rw [e2] at g2
 refine ⟨ad, A1, n1, c1, A2, n2, c2, e, hs, RlIs.of fun j u hu => ?_, g1, g2⟩
 have := hc' j u hu
 rw [add_of_add]
 exact this
end
structure MAt (w : World) (S : Nat → Prop) (sv pv rv kv : Value) (m : Mdl) : Prop where
 s : StrAt w S sv m.ss
 p : StrAt w S pv m.ps
 r : RlsAt w S rv m.rs
 k : KAt w S kv m.start.ks
abbrev mdA (sv pv rv kv : Value) : Array Value := #[.int .i64 1, sv, pv, .slice none 0 0, .slice none 0 0, .int .i64 0, .int .i64 0, rv, .int .i64 0, kv]
abbrev aggM (sv pv rv kv : Value) : Value := .agg #[.int .i64 1, sv, pv, .slice none 0 0, .slice none 0 0, .int .i64 0, .int .i64 0, rv, .int .i64 0, kv]
section
variable {w w' : World} {S S' : Nat → Prop} {B B' : Nat}
theorem MAt.keep {sv pv rv kv : Value} {m : Mdl} (h : MAt w S sv pv rv kv m) (hS : ∀ b, S b → S' b) (hk : ∀ p : Addr, S p.block → w'.cell? p = w.cell? p) : MAt w' S' sv pv rv kv m := ⟨h.s.keep hS hk, h.p.keep hS hk, h.r.keep hS hk, h.k.keep hS hk⟩
abbrev MB (w : World) (B : Nat) (sv pv rv kv : Value) (m : Mdl) : Prop := MAt w (· < B) sv pv rv kv m
theorem MAt.bw {sv pv rv kv : Value} {m : Mdl} (h : MB w w.heap.size sv pv rv kv m) (g : Bw w w') : MB w' w'.heap.size sv pv rv kv m := h.keep (fun b hb => Nat.lt_of_lt_of_le hb g.size) (fun p hp => g.b.cell hp)
theorem StrAt.bw {v : Value} {l : List ByteArray} (h : StrAt w (· < w.heap.size) v l) (g : Bw w w') : StrAt w' (· < w'.heap.size) v l := h.keep (fun b hb => Nat.lt_of_lt_of_le hb g.size) (fun p hp => g.b.cell hp)
theorem RlsAt.bw {v : Value} {l : List Rul} (h : RlsAt w (· < w.heap.size) v l) (g : Bw w w') : RlsAt w' (· < w'.heap.size) v l := h.keep (fun b hb => Nat.lt_of_lt_of_le hb g.size) (fun p hp => g.b.cell hp)
theorem MAt.form {sv pv rv kv : Value} {m : Mdl} (h : MAt w S sv pv rv kv m) : ∃ A1 c1 A2 c2 A3 c3 A4 c4, sv = .slice A1 m.ss.length c1 ∧ pv = .slice A2 m.ps.length c2 ∧ rv = .slice A3 m.rs.length c3 ∧ kv = .slice A4 (1 + m.cs.length) c4 := by
 obtain ⟨A1, n1, c1, e1, l1, _⟩ := h.s.form
 obtain ⟨A2, n2, c2, e2, l2, _⟩ := h.p.form
 obtain ⟨A3, n3, c3, e3, l3, _⟩ := h.r.form
 obtain ⟨A4, n4, c4, e4, l4, _⟩ := h.k.form
 refine ⟨A1, c1, A2, c2, A3, c3, A4, c4, by rw [e1, l1], by rw [e2, l2], by rw [e3, l3], ?_⟩
 rw [e4, ← l4]
 simp [Mdl.start, cfgV, Nat.add_comm]
end
section
variable {P : Program} {ops : Array Oper} {Q : Exit → Act → World → Prop} {md : Region.Mode}
theorem count_set_false : ∀ (l : List Bool) (i : Nat) (h : i < l.length), l[i] = false → ((l.set i true).filter fun b => !b).length + 1 = (l.filter fun b => !b).length
 | [], i, h, _ => by simp at h
 | b :: r, 0, h, e => by simp at e; subst e; simp
 | b :: r, i + 1, h, e => by
   have := count_set_false r i (by simpa using h) (by simpa using e)
   cases b <;> simp at this ⊢ <;> omega
def leftN (l : Array Bool) : Nat := (l.toList.filter fun b => !b).length
theorem wpAny_inv (I : Array Bool → Act → World → Prop)
   (hs : ∀ l a w, I l a w → ∀ i ∈ Region.ready md ops l, wpOp P ops Q i (fun a' w' => I (l.setIfInBounds i true) a' w') a w)
   (hd : ∀ l a w, I l a w → Region.ready md ops l = [] → Q .normal a w) : ∀ (fuel : Nat) (l : Array Bool) (a : Act) (w : World), l.size = ops.size → leftN l ≤ fuel → I l a w → wpAny P md ops Q fuel l a w := by
 intro fuel
 induction fuel with
 | zero =>
   intro l a w hz hl h
   have hr : Region.ready md ops l = [] := by
     rcases e : Region.ready md ops l with _ | ⟨i, r⟩
     · rfl
     · exfalso
       have hi : i ∈ Region.ready md ops l := by rw [e]; simp
       have h1 := (mem_ready.1 hi).1
       have hlt : i < l.size := by
         rcases Nat.lt_or_ge i l.size with h2 | h2
         · exact h2
         · simp [Array.getElem?_eq_none h2] at h1
       have h2 : l.toList[i]'(by simpa using hlt) = false := by simpa [hlt] using h1
       have h3 := count_set_false l.toList i (by simpa using hlt) h2
       unfold leftN at hl
       omega
   exact ⟨hr, hd l a w h hr⟩
 | succ fuel ih =>
   intro l a w hz hl h
   refine ⟨fun hr => hd l a w h hr, fun i hi => ?_⟩
   have h1 := (mem_ready.1 hi).1
   have hlt : i < l.size := by
     rcases Nat.lt_or_ge i l.size with h2 | h2
     · exact h2
     · simp [Array.getElem?_eq_none h2] at h1
   have h2 : l.toList[i]'(by simpa using hlt) = false := by simpa [hlt] using h1
   have h3 := count_set_false l.toList i (by simpa using hlt) h2
   refine wpOp_mono (fun a' w' h' => ih _ a' w' (by simpa using hz) ?_ h') (hs l a w h i hi)
   unfold leftN at hl ⊢
   rw [Array.toList_setIfInBounds]
   omega
theorem wp_region_inv {id : Nat} {a : Act} {w : World} (hm : P.follows .mixedOrders = true) (I : Array Bool → Act → World → Prop)
   (hs : ∀ l a w, I l a w → ∀ i ∈ Region.ready .any ops l, wpOp P ops Q i (fun a' w' => I (l.setIfInBounds i true) a' w') a w)
   (hd : ∀ l a w, I l a w → Region.ready .any ops l = [] → Q .normal a w)
   (h0 : I (Array.replicate ops.size false) a w.drew) : (Code.region id ops true).wp P Q a w :=
 wp_region_any hm (wpAny_inv I hs hd _ _ _ _ (by simp) (by unfold leftN; simp) h0)
theorem wpOp_of {i : Nat} {o : Oper} {a : Act} {w : World} {K : Act → World → Prop} (hi : ops[i]? = some o) (hg : o.guard = none) (h : o.wp P a w K Q) : wpOp P ops Q i K a w := by
 unfold wpOp
 simp only [hi]
 rw [if_pos (by simp [Region.wanted, hg])]
 exact .inl h
end
theorem put_getD {a : Act} {d0 d : Nat} {v : Value} (h : d0 < a.tmps.size) : (a.put (some d0) v).tmps[d]?.getD undef = if d = d0 then v else a.tmps[d]?.getD undef := by
 show (a.tmps.setIfInBounds d0 v)[d]?.getD undef = _
 by_cases e : d = d0
 · subst e; rw [if_pos rfl]; simp [h]
 · rw [if_neg e, Array.getElem?_setIfInBounds_ne (fun x => e x.symm)]
theorem put_size {a : Act} {d0 : Nat} {v : Value} : (a.put (some d0) v).tmps.size = a.tmps.size := by show (a.tmps.setIfInBounds d0 v).size = _; simp
theorem act_ext {a a' : Act} (hd : a.defers = a'.defers) (hs : a.tmps.size = a'.tmps.size) (h : ∀ d : Nat, a.tmps[d]?.getD undef = a'.tmps[d]?.getD undef) : a = a' := by
 obtain ⟨x, y⟩ := a
 obtain ⟨x', y'⟩ := a'
 simp only at hd hs h
 subst hd
 congr 1
 apply Array.ext hs
 intro i h1 h2
 have := h i
 simpa [h1, h2] using this
def depB (ops : Array Oper) (i m : Nat) : Bool := match ops[i]? with | some o => o.after.any (fun e => Region.binds .any e && e.on == m) | none => false
theorem dep_listed {ops : Array Oper} {l : Array Bool} {i m : Nat} (hd : depB ops i m = true) (hi : i ∈ Region.ready .any ops l) : l.getD m false = true := by
 obtain ⟨_, o, ho, h⟩ := mem_ready.1 hi
 unfold depB at hd
 rw [ho] at hd
 simp only [Array.any_eq_true, Bool.and_eq_true, beq_iff_eq] at hd
 obtain ⟨q, hq, h1, h2⟩ := hd
 have := h o.after[q] (Array.getElem_mem hq) h1
 rwa [h2] at this
abbrev o_on_lt (x y : Nat) : Prop := x < y
def acycB (ops : Array Oper) : Bool := (List.range ops.size).all fun i => match ops[i]? with | some o => o.after.all (fun e => !Region.binds .any e || decide (e.on < i)) | none => true
theorem all_listed {ops : Array Oper} {l : Array Bool} (ha : acycB ops = true) (hz : l.size = ops.size) (hr : Region.ready .any ops l = []) : ∀ i, i < ops.size → l.getD i false = true := by
 intro i
 induction i using Nat.strongRecOn with
 | _ i ih =>
   intro hi
   by_cases h : l.getD i false = true
   · exact h
   · exfalso
     have ho : ops[i]? = some ops[i] := by simp [hi]
     have hin : i ∈ Region.ready .any ops l := mem_ready.2 ⟨by
       have hil : i < l.size := by omega
       simp [hil] at h ⊢
       exact h, ops[i], ho, fun e he hb => by
       have h1 := List.all_eq_true.1 ha i (by simpa using hi)
       rw [ho] at h1
       simp only [Array.all_eq_true] at h1
       obtain ⟨q, hq, rfl⟩ := Array.getElem_of_mem he
       have h2 := h1 q hq
       rw [hb] at h2
       have h3 : o_on_lt (ops[i].after[q]).on i := by simpa [o_on_lt] using h2
       exact ih _ h3 (Nat.lt_trans h3 hi)⟩
     rw [hr] at hin
     simp at hin
theorem fold_ext {a : Act} : ∀ (l : List (Nat × Value)) (a0 : Act), a.defers = a0.defers → a.tmps.size = a0.tmps.size → (∀ p ∈ l, p.1 < a0.tmps.size ∧ a.tmps[p.1]?.getD undef = p.2) → (∀ d, (∀ p ∈ l, p.1 ≠ d) → a.tmps[d]?.getD undef = a0.tmps[d]?.getD undef) → a = l.foldl (fun a p => a.put (some p.1) p.2) a0
 | [], a0, hd, hs, _, ho => act_ext hd hs (fun d => ho d (fun p hp => absurd hp (List.not_mem_nil)))
 | p :: l, a0, hd, hs, hl, ho => by
   have hp := hl p List.mem_cons_self
   refine fold_ext l (a0.put (some p.1) p.2) hd (by rw [put_size]; exact hs) (fun q hq => by rw [put_size]; exact hl q (List.mem_cons_of_mem _ hq)) (fun d hq => ?_)
   rw [put_getD hp.1]
   by_cases e : d = p.1
   · rw [if_pos e, e]; exact hp.2
   · rw [if_neg e]
     exact ho d (fun q hm => by
       rcases List.mem_cons.1 hm with rfl | h
       · exact fun h => e h.symm
       · exact hq q h)

def usedB (ops : Array Oper) (N : Nat) : Bool := (List.range N).all fun i => depB ops N i || (List.range N).any fun j => decide (i < j) && depB ops j i
structure PrI (ops : Array Oper) (N : Nat) (D : Nat → Nat) (a0 : Act) (R : World → Prop) (V : Nat → Value → World → Prop) (l : Array Bool) (a : Act) (w : World) : Prop where
 lz : l.size = ops.size
 df : a.defers = a0.defers
 sz : a.tmps.size = a0.tmps.size
 oth : ∀ d, (∀ i, i < N → D i ≠ d) → a.tmps[d]?.getD undef = a0.tmps[d]?.getD undef
 rw : R w
 vs : ∀ i, i < N → l.getD i false = true → V i (a.tmps[D i]?.getD undef) w
 cl : ∀ i m, i < N → l.getD i false = true → depB ops i m = true → l.getD m false = true
theorem wp_region_prod {P : Program} {ops : Array Oper} {Q : Exit → Act → World → Prop} {id : Nat} {a0 : Act} {w : World} (hm : P.follows .mixedOrders = true) (N : Nat) (hN : ops.size = N + 1) (D : Nat → Nat) (hD : ∀ i j, i < N → j < N → D i = D j → i = j) (hDs : ∀ i, i < N → D i < a0.tmps.size)
   (R : World → Prop) (S : World → World → Prop) (V : Nat → Value → World → Prop) (h0 : R w.drew) (hst : ∀ i v W W', i < N → V i v W → S W W' → V i v W') (hu : usedB ops N = true) (hac : acycB ops = true)
   (hstep : ∀ i, i < N → ∀ a W, R W → (∀ d, (∀ j, j < N → D j ≠ d) → a.tmps[d]?.getD undef = a0.tmps[d]?.getD undef) → (∀ m, m < N → depB ops i m = true → V m (a.tmps[D m]?.getD undef) W) →
     ∀ K : Act → World → Prop, (∀ v W', V i v W' → R W' → S W W' → K (a.put (some (D i)) v) W') → ∃ o, ops[i]? = some o ∧ o.guard = none ∧ o.wp P a W K Q)
   (hlast : ∀ a W, a.defers = a0.defers → a.tmps.size = a0.tmps.size → R W → (∀ d, (∀ j, j < N → D j ≠ d) → a.tmps[d]?.getD undef = a0.tmps[d]?.getD undef) → (∀ i, i < N → V i (a.tmps[D i]?.getD undef) W) → ∃ o, ops[N]? = some o ∧ o.guard = none ∧ o.wp P a W (fun a' w' => Q .normal a' w') Q) :
   (Code.region id ops true).wp P Q a0 w := by
 refine wp_region_inv hm (fun l a W => (l.getD N false = false ∧ PrI ops N D a0 R V l a W) ∨ (l.getD N false = true ∧ (∀ i, i < N → l.getD i false = true) ∧ l.size = ops.size ∧ Q .normal a W)) ?_ ?_ ?_
 · rintro l a W (⟨hnl, h⟩ | ⟨hnl, hall, hlz, hq⟩) i hi
   · obtain ⟨hun, o, ho, -⟩ := mem_ready.1 hi
     have hi5 : i < ops.size := by
       rcases Nat.lt_or_ge i ops.size with h' | h'
       · exact h'
       · simp [Array.getElem?_eq_none h'] at ho
     have hil : i < l.size := by rw [h.lz]; exact hi5
     have hnot : l.getD i false = false := by simp [hil] at hun ⊢; exact hun
     have hz' : (l.setIfInBounds i true).size = ops.size := by simpa using h.lz
     by_cases hiN : i < N
     · have hK : ∀ v W', V i v W' → R W' → S W W' → ((l.setIfInBounds i true).getD N false = false ∧ PrI ops N D a0 R V (l.setIfInBounds i true) (a.put (some (D i)) v) W') ∨ ((l.setIfInBounds i true).getD N false = true ∧ (∀ j, j < N → (l.setIfInBounds i true).getD j false = true) ∧ (l.setIfInBounds i true).size = ops.size ∧ Q .normal (a.put (some (D i)) v) W') := fun v W' hv hR hS => .inl ⟨by rw [_root_.Go.getD_set_ne false (by omega)]; exact hnl, by
         have hlt : D i < a.tmps.size := by rw [h.sz]; exact hDs i hiN
         refine ⟨hz', h.df, by rw [put_size]; exact h.sz, fun d hd => ?_, hR, fun j hj hl => ?_, fun j m hj hl hd => ?_⟩
         · rw [put_getD hlt, if_neg (fun e => hd i hiN e.symm)]; exact h.oth d hd
         · rw [put_getD hlt]
           by_cases e : j = i
           · subst e; rw [if_pos rfl]; exact hv
           · rw [if_neg (fun e2 => e (hD j i hj hiN e2))]
             rw [_root_.Go.getD_set_ne false (Ne.symm e)] at hl
             exact hst j _ W W' hj (h.vs j hj hl) hS
         · have hset : ∀ m, l.getD m false = true → (l.setIfInBounds i true).getD m false = true := fun m hm => getD_set_true hm
           by_cases e : j = i
           · subst e; exact hset m (dep_listed hd hi)
           · rw [_root_.Go.getD_set_ne false (Ne.symm e)] at hl
             exact hset m (h.cl j m hj hl hd)⟩
       obtain ⟨o', ho', hg, hw⟩ := hstep i hiN a W h.rw h.oth (fun m hm hd => h.vs m hm (dep_listed hd hi)) (fun a' w' => ((l.setIfInBounds i true).getD N false = false ∧ PrI ops N D a0 R V (l.setIfInBounds i true) a' w') ∨ ((l.setIfInBounds i true).getD N false = true ∧ (∀ j, j < N → (l.setIfInBounds i true).getD j false = true) ∧ (l.setIfInBounds i true).size = ops.size ∧ Q .normal a' w')) hK
       exact wpOp_of ho' hg hw
     · obtain rfl : i = N := by omega
       have hall : ∀ k j, j < i → i - j ≤ k → l.getD j false = true := by
         intro k
         induction k with
         | zero => intro j hj hk; omega
         | succ k ih =>
           intro j hj hk
           have h1 := List.all_eq_true.1 hu j (List.mem_range.2 hj)
           rw [Bool.or_eq_true] at h1
           rcases h1 with h1 | h1
           · exact dep_listed h1 hi
           · obtain ⟨q, hq, h2⟩ := List.any_eq_true.1 h1
             rw [Bool.and_eq_true, decide_eq_true_eq] at h2
             have hqi := List.mem_range.1 hq
             exact h.cl q j hqi (ih q hqi (by omega)) h2.2
       have hall' : ∀ j, j < i → l.getD j false = true := fun j hj => hall (i - j) j hj (Nat.le_refl _)
       obtain ⟨o', ho', hg, hw⟩ := hlast a W h.df h.sz h.rw h.oth (fun j hj => h.vs j hj (hall' j hj))
       refine wpOp_of ho' hg (Oper.wp_mono (fun a' w' hq => .inr ⟨by simp [hil], fun j hj => getD_set_true (hall' j hj), hz', hq⟩) hw)
   · exfalso
     obtain ⟨hun, o, ho, -⟩ := mem_ready.1 hi
     have hi5 : i < ops.size := by
       rcases Nat.lt_or_ge i ops.size with h' | h'
       · exact h'
       · simp [Array.getElem?_eq_none h'] at ho
     have hil : i < l.size := by omega
     have h1 : l.getD i false = true := by
       rcases Nat.lt_or_ge i N with h2 | h2
       · exact hall i h2
       · rw [show i = N by omega]; exact hnl
     simp [hil] at hun h1
     rw [hun] at h1; cases h1
 · rintro l a W (⟨hnl, h⟩ | ⟨hnl, hall, hlz, hq⟩) hr
   · have := all_listed hac h.lz hr N (by omega)
     rw [hnl] at this; cases this
   · exact hq
 · left
   have hno : ∀ i, (Array.replicate ops.size false).getD i false = false := fun i => by
     by_cases h : i < ops.size <;> simp [h]
   exact ⟨hno N, by simp, rfl, rfl, fun _ _ => rfl, h0, (fun i _ hl => by rw [hno i] at hl; cases hl), (fun i m _ hl => by rw [hno i] at hl; cases hl)⟩
end
section
open Go.RowKit Go.WideMaps Go.Maps
theorem plainElem_bool_inv {H : Type} {P : Program} {e : TypeId} (he : P.underlying e = some .bool) {v : Value} {z : DataW H × List MemPlace} (h : plainElem P e v = some z) : ∃ a, v = .bool a ∧ z = (.lit (.bool a), []) := by
 unfold plainElem at h
 rw [he] at h
 cases v <;> simp at h
 exact ⟨_, rfl, h.symm⟩
def SetAt (w : World) (b : Nat) (ns : List (List UInt8)) : Prop := ∃ D : DataW Unit, IsMap D ∧ (∀ x : List UInt8, D.atKey (.string x) (.lit (.bool false)) = .lit (.bool (ns.contains x))) ∧ w.ownsMap Tryz.prog 9 (plainElem Tryz.prog 4) b ns.length D
theorem sKeyed : Keyed Tryz.prog 9 := string_keyed Tryz.underlying9
theorem zeroBool (w : World) : (zeroValue 4).run Tryz.prog w = .ok (.bool false) w := by kernel_rfl
theorem SetAt.new (w : World) : SetAt (w.alloc (.map #[] 0)) w.heap.size [] := ⟨.map [], isMap_empty, fun x => rfl, World.ownsMap_made _ _ _ _⟩
theorem SetAt.kept {w w' : World} {b : Nat} {ns : List (List UInt8)} {row : Option Nat} (h : SetAt w b ns) (hg : w.grownBy w' row) (hne : some b ≠ row) : SetAt w' b ns := by
 obtain ⟨D, h1, h2, h3⟩ := h
 exact ⟨D, h1, h2, h3.kept hg hne⟩
theorem SetAt.below {w w' : World} {b B : Nat} {ns : List (List UInt8)} (h : SetAt w b ns) (hb : Below B w w') (hB : b < B) : SetAt w' b ns := by
 obtain ⟨D, h1, h2, es, clock, he, F, hs, hD⟩ := h
 exact ⟨D, h1, h2, es, clock, (hb.block b hB).trans he, F, hs, hD⟩
theorem SetAt.lt {w : World} {b : Nat} {ns : List (List UInt8)} (h : SetAt w b ns) : b < w.heap.size := by
 obtain ⟨D, h1, h2, h3⟩ := h
 exact h3.lt
theorem SetAt.look {w : World} {b : Nat} {ns : List (List UInt8)} (h : SetAt w b ns) {s : ByteArray} (hs : s.size ≤ maxLen) {c : Bool} (hc : ns.contains s.data.toList = c) :
   (Instr.lookup 181 (.map (some b)) (.string s) false).run Tryz.prog w = .ok (.bool c) w := by
 obtain ⟨D, h1, h2, h3⟩ := h
 obtain ⟨v, ps, hrun, hv⟩ := h3.lookup sKeyed Tryz.underlying181 (zeroBool w) (plainElem_bool Tryz.underlying4 false) (keyOf_string_mk Tryz.underlying9 hs)
 obtain ⟨a, rfl, ha⟩ := plainElem_bool_inv Tryz.underlying4 hv
 have hd : D.atKey (.string s.data.toList) (.lit (.bool false)) = .lit (.bool a) := congrArg Prod.fst ha
 have he := (h2 s.data.toList).symm.trans hd
 have hf : ns.contains s.data.toList = a := Lit.bool.inj (DataW.lit.inj he)
 obtain rfl : c = a := hc.symm.trans hf
 exact hrun
theorem contains_snoc (ns : List (List UInt8)) (a x : List UInt8) : (ns ++ [a]).contains x = if x = a then true else ns.contains x := by
 rw [Bool.eq_iff_iff]
 by_cases h : x = a
 · simp [h]
 · rw [if_neg h]; simp [h]
theorem wpList_setPut {P : Program} (w : World) {ops : Array Oper} {rest : List Oper} {o : Oper} {a : Act} {Q : Exit → Act → World → Prop} (hP : P = Tryz.prog)
   (hg : o.guard = none) (m x v : Operand) (hop : o.op = Op.mapUpdate 181 m x v) (b : Nat) (ns : List (List UInt8))
   (hm : a.eval m = .map (some b)) (h : SetAt w b ns) (hn : ns.length < maxLen) (s : ByteArray) (hs : s.size ≤ maxLen) (hx : a.eval x = .string s) (hv : a.eval v = .bool true)
   (hK : ∀ w', SetAt w' b (ns ++ [s.data.toList]) → w.grownBy w' (some b) → wpList P ops Q rest (a.put o.dst undef) w') :
   wpList P ops Q (o :: rest) a w := by
 subst hP
 obtain ⟨D, h1, h2, h3⟩ := h
 refine wpList_mapUpdate_own w hg m x v 181 hop 9 4 sKeyed Tryz.underlying181 _ b ns.length D hm h3 hn (.string s) (.bool true) (.string s.data.toList) hx hv (keyOf_string_mk Tryz.underlying9 hs) (.lit (.bool true)) [] (plainElem_bool Tryz.underlying4 true) ?_
 intro w' r1 r2
 refine hK w' ⟨D.put (.string s.data.toList) (.lit (.bool true)), h1.put _ _, fun y => ?_, by rw [List.length_append]; exact r1⟩ r2
 rw [contains_snoc]
 by_cases hy : y = s.data.toList
 · subst hy; rw [if_pos rfl]; exact atKey_put_same (k := .string s.data.toList) h1 trivial _ _
 · rw [if_neg hy, atKey_put_other (fun e => hy (by injection e))]; exact h2 y
end
section
open Go.RowKit
theorem letter_any (c : UInt8) (w : World) : Calls Tryz.prog 222 #[.int .u8 (c.toNat : Int)] w fun e w' => e = .returned (.bool (letterB c)) ∧ w = w' := by
 go_enter Tryz.func222, Tryz.ntmps222
 go_wp2
 all_goals (go_ret; exact ⟨ret_bool (by rw [Bool.eq_iff_iff]; simp [letterB]; omega), rfl⟩)
theorem digit_any (c : UInt8) (w : World) : Calls Tryz.prog 288 #[.int .u8 (c.toNat : Int)] w fun e w' => e = .returned (.bool (digitB c)) ∧ w = w' := by
 go_enter Tryz.func288, Tryz.ntmps288
 go_wp2
 all_goals (go_ret; exact ⟨ret_bool (by rw [Bool.eq_iff_iff]; simp [digitB]; omega), rfl⟩)
theorem part_any (c : UInt8) (w : World) : Calls Tryz.prog 224 #[.int .u8 (c.toNat : Int)] w fun e w' => e = .returned (.bool (partB c)) ∧ w = w' := by
 rcases h1 : letterB c with _ | _ <;> rcases h2 : digitB c with _ | _
 all_goals
   have H1 := Lib.hid h1
   have H2 := Lib.hid h2
   clear h1 h2
   go_enter Tryz.func224, Tryz.ntmps224
   go_wp2_with (first | (go_at_call 222; refine (letter_any _ _).mono ?_; rintro e w' ⟨rfl, rfl⟩; rw [H1.out]) | (go_at_call 288; refine (digit_any _ _).mono ?_; rintro e w' ⟨rfl, rfl⟩; rw [H2.out]))
   go_ret
   exact ⟨ret_bool (by rw [Bool.eq_iff_iff]; simp [partB, H1.out, H2.out]; try omega), rfl⟩

theorem run_part (s : ByteArray) (w : World) (hs : s.size ≤ 9223372036854775807) :
   Calls Tryz.prog 223 #[.string s, .func (.func 224) #[] #[]] w fun e w' => e = .returned (.int .i64 (runL partB s.data.toList)) ∧ w = w' := by
 have hle := runL_le partB s.data.toList
 have hsz : s.data.toList.length = s.size := by simp
 go_enter Tryz.func223, Tryz.ntmps223
 go_wp2
 go_loop [5] (fun i => ∃ k : Nat, k ≤ runL partB s.data.toList ∧ i = .int .i64 k) (fun i => s.size - (intOf i).toNat)
 case atStart => exact ⟨0, Nat.zero_le _, rfl⟩
 case round =>
   obtain ⟨k, hk, rfl⟩ := hrel
   by_cases hlt : k < s.size
   · rcases hp : partB s.data.toList[k] with _ | _
     all_goals
       have HP := Lib.hid hp
       clear hp
     · go_wp2_with (go_at_call 224; go_must (refine (part_any s[k] _).mono ?_; rintro e w' ⟨rfl, rfl⟩; rw [show partB s[k] = false from HP.out]))
       go_ret
       exact ⟨ret_int (by rw [runL_eq hk (by omega) HP.out]), rfl⟩
     · go_wp2_with (go_at_call 224; refine (part_any s[k] _).mono ?_; rintro e w' ⟨rfl, rfl⟩; rw [show partB s[k] = true from HP.out])
       go_round
       case rel => exact ⟨k + 1, runL_lt hk (by omega) HP.out, by go_num⟩
       case measure => simp [intOf]; omega
   · go_wp2
     go_ret
     exact ⟨ret_int (by omega), rfl⟩

theorem word_any (s : ByteArray) (w : World) (hs : s.size ≤ 9223372036854775807) :
   Calls Tryz.prog 155 #[.string s] w fun e w' => e = .returned (.bool (wordL s.data.toList)) ∧ w = w' := by
 have hle := runL_le partB s.data.toList
 have hsz : s.data.toList.length = s.size := by simp
 by_cases h0 : s.size = 0
 · have e1 := str_nil h0
   have e2 := str_empty h0
   have HF : Hid (wordL s.data.toList = false) := by show _ = _; rw [wordL_eq]; simp [h0]
   go_enter Tryz.func155, Tryz.ntmps155
   go_wp2
   go_ret
   exact ⟨ret_bool HF.out.symm, rfl⟩
 · have e1 := str_ne h0
   have hpos : 0 < s.size := by omega
   have hd : s.data.toList.headD 0 = s[0] := by
     rw [List.headD_eq_head?_getD, List.head?_eq_getElem?, List.getElem?_eq_getElem (by omega)]; rfl
   by_cases h12 : s.size ≤ 12
   · rcases hp : letterB s[0] with _ | _
     all_goals
       have HP := Lib.hid hp
       clear hp
     · have HF : Hid (wordL s.data.toList = false) := by show _ = _; rw [wordL_eq, hd]; simp [HP.out]
       clear hd h0
       go_enter Tryz.func155, Tryz.ntmps155
       go_wp2_with (first | (go_at_call 222; refine (letter_any s[0] _).mono ?_; rintro e w' ⟨rfl, rfl⟩; rw [HP.out]))
       go_ret
       exact ⟨ret_bool HF.out.symm, rfl⟩
     · have HF : Hid (wordL s.data.toList = decide (runL partB s.data.toList = s.size)) := by show _ = _; rw [wordL_eq, hd]; simp [HP.out, h0, h12]
       clear hd h0
       go_enter Tryz.func155, Tryz.ntmps155
       go_wp2_with (first | (go_at_call 222; refine (letter_any s[0] _).mono ?_; rintro e w' ⟨rfl, rfl⟩; rw [HP.out]) | (go_at_call 223; refine (run_part _ _ hs).mono ?_; rintro e w' ⟨rfl, rfl⟩))
       go_ret
       exact ⟨ret_bool (by rw [HF.out, Bool.eq_iff_iff]; simp; try omega), rfl⟩
   · have HF : Hid (wordL s.data.toList = false) := by show _ = _; rw [wordL_eq]; simp [h12]
     clear hd h0
     go_enter Tryz.func155, Tryz.ntmps155
     go_wp2
     go_ret
     exact ⟨ret_bool HF.out.symm, rfl⟩
end
end Go.Proofs.YthhbkabdhkdafaaGreat
