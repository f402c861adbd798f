/- Plain: values, how they are compared, their sizes. Plain: embeddings of lists, matchings, trees, words with ranks: reflexive, transitive; nothing is below both ways but itself. Plain: types, their values, when one is below another one; a partial order. Plain: the nodes of a tree by number. -/
import Derived.Lib.Hide
namespace Go.Proofs.YtlmnkcfnihhlgaaGreatDoor
set_option linter.unusedSimpArgs false
set_option linter.unusedVariables false

inductive V where | mk (n : Int) (ks : List V)
def V.n : V → Int | .mk n _ => n
def V.ks : V → List V | .mk _ k => k
@[simp] theorem V.n_mk (n : Int) (ks : List V) : (V.mk n ks).n = n := rfl
@[simp] theorem V.ks_mk (n : Int) (ks : List V) : (V.mk n ks).ks = ks := rfl
theorem V.eta (v : V) : V.mk v.n v.ks = v := by cases v; rfl
instance : Inhabited V := ⟨.mk 0 []⟩
theorem V.ind {P : V → Prop} (h : ∀ n ks, (∀ k ∈ ks, P k) → P (.mk n ks)) : ∀ v, P v
  | .mk n ks => h n ks fun k hk => V.ind h k
termination_by v => SizeOf.sizeOf v
decreasing_by have := List.sizeOf_lt_of_mem hk; simp; omega

mutual
def V.size : V → Nat | .mk _ ks => 1 + sizeL ks
def sizeL : List V → Nat | [] => 0 | v :: r => v.size + sizeL r
end
theorem V.size_pos (v : V) : 1 ≤ v.size := by cases v; simp [V.size]
theorem V.size_eq (v : V) : v.size = 1 + sizeL v.ks := by cases v; simp [V.size]
theorem sizeL_append (a b : List V) : sizeL (a ++ b) = sizeL a + sizeL b := by
  induction a with
  | nil => simp [sizeL]
  | cons x r ih => simp [sizeL, ih]; omega
theorem sizeL_mem {v : V} {l : List V} (h : v ∈ l) : v.size ≤ sizeL l := by
  induction l with
  | nil => simp at h
  | cons x r ih =>
    rcases List.mem_cons.1 h with rfl | h
    · simp [sizeL]
    · have := ih h; simp [sizeL]; omega
theorem sizeL_length (l : List V) : l.length ≤ sizeL l := by
  induction l with
  | nil => simp [sizeL]
  | cons x r ih => have := x.size_pos; simp [sizeL]; omega
theorem sizeL_take_le (l : List V) (k : Nat) : sizeL (l.take k) ≤ sizeL l := by
  have := sizeL_append (l.take k) (l.drop k)
  rw [List.take_append_drop] at this; omega
theorem sizeL_snoc {l : List V} {k : Nat} (h : k < l.length) : sizeL (l.take (k + 1)) = sizeL (l.take k) + l[k].size := by
  rw [List.take_succ_eq_append_getElem h, sizeL_append]; simp [sizeL]
theorem V.size_kid {v k : V} (h : k ∈ v.ks) : k.size < v.size := by
  have := sizeL_mem h; rw [v.size_eq]; omega

mutual
def cmpV : V → V → Int
  | .mk n ks, .mk m js => if n < m then -1 else if m < n then 1 else if ks.length < js.length then -1 else if js.length < ks.length then 1 else cmpL ks js
def cmpL : List V → List V → Int
  | [], [] => 0
  | [], _ :: _ => -1
  | _ :: _, [] => 1
  | a :: r, b :: q => if cmpV a b = 0 then cmpL r q else cmpV a b
end
theorem cmp_range (v : V) : ∀ u, cmpV v u = -1 ∨ cmpV v u = 0 ∨ cmpV v u = 1 := by
  induction v using V.ind with
  | h n ks ih =>
    have hl : ∀ js, cmpL ks js = -1 ∨ cmpL ks js = 0 ∨ cmpL ks js = 1 := by
      induction ks with
      | nil => intro js; cases js <;> simp [cmpL]
      | cons x r ihr =>
        intro js
        cases js with
        | nil => simp [cmpL]
        | cons y q =>
          simp only [cmpL]
          split
          · exact ihr (fun k hk => ih k (by simp [hk])) q
          · exact ih x (by simp) y
    intro u
    cases u with
    | mk m js =>
      simp only [cmpV]
      repeat' split
      all_goals (try simp)
      exact hl js
theorem cmp_zero (v : V) : ∀ u, cmpV v u = 0 → v = u := by
  induction v using V.ind with
  | h n ks ih =>
    have hl : ∀ js, cmpL ks js = 0 → ks = js := by
      induction ks with
      | nil => intro js; cases js <;> simp [cmpL]
      | cons x r ihr =>
        intro js
        cases js with
        | nil => simp [cmpL]
        | cons y q =>
          simp only [cmpL]
          split
          · intro h
            rename_i h0
            rw [ih x (by simp) y h0, ihr (fun k hk => ih k (by simp [hk])) q h]
          · intro h; rename_i h0; exact absurd h h0
    intro u
    cases u with
    | mk m js =>
      simp only [cmpV]
      repeat' split
      all_goals (try simp)
      intro h
      exact ⟨by omega, hl js h⟩
theorem cmp_anti (v : V) : ∀ u, cmpV u v = - cmpV v u := by
  induction v using V.ind with
  | h n ks ih =>
    have hl : ∀ js, cmpL js ks = - cmpL ks js := by
      induction ks with
      | nil => intro js; cases js <;> simp [cmpL]
      | cons x r ihr =>
        intro js
        cases js with
        | nil => simp [cmpL]
        | cons y q =>
          simp only [cmpL]
          rw [ih x (by simp) y, ihr (fun k hk => ih k (by simp [hk])) q]
          by_cases h0 : cmpV x y = 0
          · rw [if_pos (by omega), if_pos h0]
          · rw [if_neg (by omega), if_neg h0]
    intro u
    cases u with
    | mk m js =>
      simp only [cmpV]
      repeat' split
      all_goals first | omega | (simp; done) | exact hl js
theorem cmp_self (v : V) : cmpV v v = 0 := by have := cmp_anti v v; omega
theorem cmp_eq {v u : V} : cmpV v u = 0 ↔ v = u := ⟨cmp_zero v u, fun h => by rw [h, cmp_self]⟩
theorem cmp_trans (v : V) : ∀ u x, cmpV v u = -1 → cmpV u x = -1 → cmpV v x = -1 := by
  induction v using V.ind with
  | h n ks ih =>
    have hl : ∀ js xs, ks.length = js.length → js.length = xs.length → cmpL ks js = -1 → cmpL js xs = -1 → cmpL ks xs = -1 := by
      induction ks with
      | nil => intro js xs e1 e2; cases js <;> simp [cmpL] at e1 ⊢
      | cons x r ihr =>
        intro js xs e1 e2
        cases js with
        | nil => simp at e1
        | cons y q =>
          cases xs with
          | nil => simp at e2
          | cons z t =>
            simp only [cmpL]
            have ih1 := ihr (fun k hk => ih k (by simp [hk])) q t (by simpa using e1) (by simpa using e2)
            by_cases h1 : cmpV x y = 0
            · obtain rfl := cmp_zero _ _ h1
              rw [if_pos h1]
              by_cases h2 : cmpV x z = 0
              · rw [if_pos h2, if_pos h2]; exact ih1
              · rw [if_neg h2, if_neg h2]; exact fun _ h => h
            · rw [if_neg h1]
              intro h3
              by_cases h2 : cmpV y z = 0
              · obtain rfl := cmp_zero _ _ h2
                rw [if_neg h1]; exact fun _ => h3
              · rw [if_neg h2]
                intro h4
                have h5 := ih x (by simp) y z h3 h4
                rw [if_neg (by omega)]; exact h5
    intro u x
    cases u with
    | mk m js =>
      cases x with
      | mk p xs =>
        simp only [cmpV]
        intro h1 h2
        have g1 : n < m ∨ (n = m ∧ (ks.length < js.length ∨ (ks.length = js.length ∧ cmpL ks js = -1))) := by
          repeat' split at h1
          all_goals (first | (left; assumption) | (right; omega) | omega)
        have g2 : m < p ∨ (m = p ∧ (js.length < xs.length ∨ (js.length = xs.length ∧ cmpL js xs = -1))) := by
          repeat' split at h2
          all_goals (first | (left; assumption) | (right; omega) | omega)
        rcases g1 with g1 | ⟨g1, g1'⟩
        · rw [if_pos (by omega)]
        · rcases g2 with g2 | ⟨g2, g2'⟩
          · rw [if_pos (by omega)]
          · rw [if_neg (by omega), if_neg (by omega)]
            rcases g1' with g1' | ⟨e1, c1⟩
            · rw [if_pos (by omega)]
            · rcases g2' with g2' | ⟨e2, c2⟩
              · rw [if_pos (by omega)]
              · rw [if_neg (by omega), if_neg (by omega)]
                exact hl js xs e1 e2 c1 c2
def ltV (a b : V) : Bool := decide (cmpV a b < 0)
theorem ltV_iff {a b : V} : ltV a b = true ↔ cmpV a b = -1 := by
  unfold ltV; have := cmp_range a b; simp; omega
theorem ltV_trans {a b c : V} (h1 : ltV a b = true) (h2 : ltV b c = true) : ltV a c = true := ltV_iff.2 (cmp_trans _ _ _ (ltV_iff.1 h1) (ltV_iff.1 h2))
theorem ltV_irrefl (a : V) : ltV a a = false := by simp [ltV, cmp_self]
theorem ltV_tri (a b : V) : ltV a b = true ∨ a = b ∨ ltV b a = true := by
  rcases cmp_range a b with h | h | h
  · exact .inl (ltV_iff.2 h)
  · exact .inr (.inl (cmp_zero _ _ h))
  · refine .inr (.inr (ltV_iff.2 ?_)); rw [cmp_anti]; omega
instance : DecidableEq V := fun a b => decidable_of_iff (cmpV a b = 0) cmp_eq
def sameL (a b : List V) : Bool := decide (a = b)

/-- ascending lists (no two alike) with the same members are the same -/
def Asc : List V → Prop
  | [] => True
  | a :: r => (∀ b ∈ r, cmpV a b = -1) ∧ Asc r
theorem Asc.ext : ∀ {a b : List V}, Asc a → Asc b → (∀ x, x ∈ a ↔ x ∈ b) → a = b := by
  intro a
  induction a with
  | nil =>
    intro b _ _ h
    cases b with
    | nil => rfl
    | cons y q => exact absurd ((h y).2 (by simp)) (by simp)
  | cons x r ih =>
    intro b h1 h2 h
    cases b with
    | nil => exact absurd ((h x).1 (by simp)) (by simp)
    | cons y q =>
      have e : x = y := by
        rcases List.mem_cons.1 ((h x).1 (by simp)) with e | e
        · exact e
        · rcases List.mem_cons.1 ((h y).2 (by simp)) with e' | e'
          · exact e'.symm
          · have c1 := h2.1 x e
            have c2 := h1.1 y e'
            rw [cmp_anti] at c1; omega
      subst e
      congr 1
      refine ih h1.2 h2.2 (fun z => ⟨fun hz => ?_, fun hz => ?_⟩)
      · rcases List.mem_cons.1 ((h z).1 (by simp [hz])) with e | e
        · subst e; have := h1.1 z hz; rw [cmp_self] at this; omega
        · exact e
      · rcases List.mem_cons.1 ((h z).2 (by simp [hz])) with e | e
        · subst e; have := h2.1 z hz; rw [cmp_self] at this; omega
        · exact e
end Go.Proofs.YtlmnkcfnihhlgaaGreatDoor
namespace Go.Proofs.YtlmnkcfnihhlgaaGreatDoor
set_option linter.unusedSimpArgs false
set_option linter.unusedVariables false

inductive All2 {α β : Type} (R : α → β → Prop) : List α → List β → Prop
  | nil : All2 R [] []
  | cons {a b as bs} : R a b → All2 R as bs → All2 R (a :: as) (b :: bs)
theorem All2.length_eq {α β : Type} {R : α → β → Prop} {as : List α} {bs : List β} (h : All2 R as bs) : as.length = bs.length := by
  induction h with
  | nil => rfl
  | cons _ _ ih => simp [ih]
theorem All2.trans {α : Type} {R : α → α → Prop} {as bs : List α} (h : All2 R as bs) : ∀ {cs}, All2 R bs cs → (∀ a b c, a ∈ as → b ∈ bs → c ∈ cs → R a b → R b c → R a c) → All2 R as cs := by
  induction h with
  | nil => intro cs h _; cases h; exact .nil
  | cons h1 _ ih =>
    intro cs h2 t
    cases h2 with
    | cons h3 h4 => exact .cons (t _ _ _ (by simp) (by simp) (by simp) h1 h3) (ih h4 fun a b c ha hb hc => t a b c (by simp [ha]) (by simp [hb]) (by simp [hc]))
theorem All2.refl_ {α : Type} {R : α → α → Prop} : ∀ {as : List α}, (∀ a ∈ as, R a a) → All2 R as as
  | [], _ => .nil
  | a :: as, h => .cons (h a (by simp)) (All2.refl_ fun b hb => h b (by simp [hb]))
theorem All2.append_inv {α β : Type} {R : α → β → Prop} : ∀ {a1 a2 : List α} {bs : List β}, All2 R (a1 ++ a2) bs → ∃ b1 b2, bs = b1 ++ b2 ∧ All2 R a1 b1 ∧ All2 R a2 b2
  | [], _, bs, h => ⟨[], bs, rfl, .nil, h⟩
  | a :: a1, a2, _, .cons h1 h2 => by
    obtain ⟨b1, b2, rfl, h3, h4⟩ := All2.append_inv h2
    exact ⟨_ :: b1, b2, rfl, .cons h1 h3, h4⟩
theorem All2.perm {α β : Type} {R : α → β → Prop} {as as' : List α} (hp : as.Perm as') : ∀ {bs : List β}, All2 R as bs → ∃ bs', bs.Perm bs' ∧ All2 R as' bs' := by
  induction hp with
  | nil => intro bs h; exact ⟨bs, List.Perm.refl _, h⟩
  | cons x _ ih =>
    intro bs h
    cases h with
    | cons h1 h2 =>
      obtain ⟨bs', hp, h3⟩ := ih h2
      exact ⟨_ :: bs', hp.cons _, .cons h1 h3⟩
  | swap x y l =>
    intro bs h
    cases h with
    | cons h1 h2 =>
      cases h2 with
      | cons h3 h4 => exact ⟨_, List.Perm.swap _ _ _, .cons h3 (.cons h1 h4)⟩
  | trans _ _ ih1 ih2 =>
    intro bs h
    obtain ⟨b1, p1, h1⟩ := ih1 h
    obtain ⟨b2, p2, h2⟩ := ih2 h1
    exact ⟨b2, p1.trans p2, h2⟩

/-- as goes into bs, in order -/
inductive Emb {α : Type} (R : α → α → Prop) : List α → List α → Prop
  | nil {bs} : Emb R [] bs
  | cons {a b as bs} : R a b → Emb R as bs → Emb R (a :: as) (b :: bs)
  | skip {b as bs} : Emb R as bs → Emb R as (b :: bs)
theorem Emb.tail {α : Type} {R : α → α → Prop} {a : α} {as bs : List α} (h : Emb R (a :: as) bs) : Emb R as bs := by
  generalize hx : a :: as = x at h
  induction h generalizing a as with
  | nil => cases hx
  | cons h1 h2 _ => injection hx with e1 e2; subst e1 e2; exact .skip h2
  | skip h ih => subst hx; exact .skip (ih rfl)
theorem Emb.refl_ {α : Type} {R : α → α → Prop} : ∀ {as : List α}, (∀ a ∈ as, R a a) → Emb R as as
  | [], _ => .nil
  | a :: as, h => .cons (h a (by simp)) (Emb.refl_ fun b hb => h b (by simp [hb]))
theorem Emb.trans {α : Type} {R : α → α → Prop} {bs cs : List α} (h2 : Emb R bs cs) : ∀ {as}, Emb R as bs → (∀ a b c, a ∈ as → b ∈ bs → c ∈ cs → R a b → R b c → R a c) → Emb R as cs := by
  induction h2 with
  | nil =>
    intro as h1 _
    cases h1
    exact .nil
  | cons h3 h4 ih =>
    intro as h1 t
    cases h1 with
    | nil => exact .nil
    | cons h5 h6 => exact .cons (t _ _ _ (by simp) (by simp) (by simp) h5 h3) (ih h6 fun a b c ha hb hc => t a b c (by simp [ha]) (by simp [hb]) (by simp [hc]))
    | skip h6 => exact .skip (ih h6 fun a b c ha hb hc => t a b c ha (by simp [hb]) (by simp [hc]))
  | skip h4 ih => intro as h1 t; exact .skip (ih h1 fun a b c ha hb hc => t a b c ha hb (by simp [hc]))
theorem Emb.mem {α : Type} {R : α → α → Prop} {as bs : List α} (h : Emb R as bs) : ∀ a ∈ as, ∃ b ∈ bs, R a b := by
  induction h with
  | nil => intro a h; cases h
  | cons h1 _ ih =>
    intro a ha
    rcases List.mem_cons.1 ha with rfl | ha
    · exact ⟨_, by simp, h1⟩
    · obtain ⟨b, hb, hr⟩ := ih a ha; exact ⟨b, by simp [hb], hr⟩
  | skip _ ih => intro a ha; obtain ⟨b, hb, hr⟩ := ih a ha; exact ⟨b, by simp [hb], hr⟩
def embG {α : Type} (f : α → α → Bool) : List α → List α → Bool
  | [], _ => true
  | _ :: _, [] => false
  | a :: as, b :: bs => if f a b then embG f as bs else embG f (a :: as) bs
theorem embG_iff {α : Type} (f : α → α → Bool) : ∀ (bs as : List α), embG f as bs = true ↔ Emb (fun a b => f a b = true) as bs
  | bs, [] => by simp [embG]; exact .nil
  | [], a :: as => by simp [embG]; intro h; cases h
  | b :: bs, a :: as => by
    simp only [embG]
    by_cases h : f a b = true
    · rw [if_pos h, embG_iff f bs as]
      exact ⟨fun h1 => .cons h h1, fun h1 => by
        cases h1 with
        | cons _ h2 => exact h2
        | skip h2 => exact h2.tail⟩
    · rw [if_neg h, embG_iff f bs (a :: as)]
      exact ⟨fun h1 => .skip h1, fun h1 => by
        cases h1 with
        | cons h2 _ => exact absurd h2 h
        | skip h2 => exact h2⟩
/-- sums: what goes into a list has no greater sum, and the same one only if it is the same -/
def SumLe {α : Type} (μ : α → Nat) (as bs : List α) : Prop := (as.map fun a => 1 + μ a).sum ≤ (bs.map fun a => 1 + μ a).sum
theorem Emb.sum {α : Type} {R : α → α → Prop} (μ : α → Nat) {as bs : List α} (h : Emb R as bs) (hR : ∀ a b, a ∈ as → b ∈ bs → R a b → μ a ≤ μ b ∧ (μ a = μ b → a = b)) :
    (as.map fun a => 1 + μ a).sum ≤ (bs.map fun a => 1 + μ a).sum ∧ ((as.map fun a => 1 + μ a).sum = (bs.map fun a => 1 + μ a).sum → as = bs) := by
  induction h with
  | @nil bs =>
    refine ⟨by simp, ?_⟩
    cases bs with
    | nil => simp
    | cons b bs => simp; omega
  | @cons a b as bs h1 _ ih =>
    have ih := ih (fun a b ha hb => hR a b (by simp [ha]) (by simp [hb]))
    have h2 := hR a b (by simp) (by simp) h1
    simp only [List.map_cons, List.sum_cons]
    refine ⟨by omega, fun e => ?_⟩
    rw [h2.2 (by omega), ih.2 (by omega)]
  | @skip b as bs h ih =>
    have ih := ih (fun a b ha hb => hR a b ha (by simp [hb]))
    simp only [List.map_cons, List.sum_cons]
    exact ⟨by omega, fun e => by omega⟩

/-- as can be matched with other members of bs -/
def domG {α : Type} (f : α → α → Bool) : List α → List α → Bool
  | [], _ => true
  | a :: as, bs => (List.range bs.length).any fun i => (match bs[i]? with | some b => f a b | none => false) && domG f as (bs.eraseIdx i)
def Dom {α : Type} (R : α → α → Prop) (as bs : List α) : Prop := ∃ b1 b2, All2 R as b1 ∧ bs.Perm (b1 ++ b2)
theorem perm_eraseIdx {α : Type} : ∀ {l : List α} {i : Nat} (h : i < l.length), l.Perm (l[i] :: l.eraseIdx i)
  | a :: l, 0, _ => List.Perm.refl _
  | a :: l, i + 1, h => by
    have h' : i < l.length := by simpa using h
    have := perm_eraseIdx h'
    simp only [List.getElem_cons_succ, List.eraseIdx_cons_succ]
    exact (this.cons a).trans (List.Perm.swap _ _ _)
theorem domG_iff {α : Type} [DecidableEq α] (f : α → α → Bool) : ∀ (as bs : List α), domG f as bs = true ↔ Dom (fun a b => f a b = true) as bs
  | [], bs => by simp [domG]; exact ⟨[], bs, .nil, List.Perm.refl _⟩
  | a :: as, bs => by
    simp only [domG, List.any_eq_true, List.mem_range, Bool.and_eq_true]
    constructor
    · rintro ⟨i, hi, h1, h2⟩
      rw [List.getElem?_eq_getElem hi] at h1
      obtain ⟨b1, b2, h3, h4⟩ := (domG_iff f as _).1 h2
      exact ⟨bs[i] :: b1, b2, .cons h1 h3, (perm_eraseIdx hi).trans (h4.cons _)⟩
    · rintro ⟨b1, b2, h1, h2⟩
      cases h1 with
      | @cons _ b _ b1 h1 h3 =>
        have hm : b ∈ bs := h2.symm.subset (by simp)
        obtain ⟨i, hi, e⟩ := List.getElem_of_mem hm
        refine ⟨i, hi, by rw [List.getElem?_eq_getElem hi, e]; exact h1, (domG_iff f as _).2 ⟨b1, b2, h3, ?_⟩⟩
        have h4 := (perm_eraseIdx hi).symm.trans h2
        rw [e] at h4
        exact (List.perm_cons b).1 h4
theorem Dom.refl_ {α : Type} {R : α → α → Prop} {as : List α} (h : ∀ a ∈ as, R a a) : Dom R as as := ⟨as, [], All2.refl_ h, by simp⟩
theorem Dom.trans {α : Type} {R : α → α → Prop} {as bs cs : List α} (h1 : Dom R as bs) (h2 : Dom R bs cs) (t : ∀ a b c, a ∈ as → b ∈ bs → c ∈ cs → R a b → R b c → R a c) : Dom R as cs := by
  obtain ⟨b1, b2, h3, p1⟩ := h1
  obtain ⟨c1, c2, h4, p2⟩ := h2
  obtain ⟨c1', p3, h5⟩ := h4.perm p1
  obtain ⟨d1, d2, rfl, h6, h7⟩ := h5.append_inv
  have p4 : cs.Perm (d1 ++ (d2 ++ c2)) := by
    have := p2.trans (p3.append_right c2)
    rwa [List.append_assoc] at this
  exact ⟨d1, d2 ++ c2, h3.trans h6 fun a b c ha hb hc => t a b c ha (p1.symm.subset (by simp [hb])) (p4.symm.subset (by simp [hc])), p4⟩
theorem All2.sum {α : Type} {R : α → α → Prop} (μ : α → Nat) {as bs : List α} (h : All2 R as bs) (hR : ∀ a b, a ∈ as → b ∈ bs → R a b → μ a ≤ μ b ∧ (μ a = μ b → a = b)) :
    (as.map fun a => 1 + μ a).sum ≤ (bs.map fun a => 1 + μ a).sum ∧ ((as.map fun a => 1 + μ a).sum = (bs.map fun a => 1 + μ a).sum → as = bs) := by
  induction h with
  | nil => simp
  | @cons a b as bs h1 _ ih =>
    have ih := ih (fun a b ha hb => hR a b (by simp [ha]) (by simp [hb]))
    have h2 := hR a b (by simp) (by simp) h1
    simp only [List.map_cons, List.sum_cons]
    refine ⟨by omega, fun e => ?_⟩
    rw [h2.2 (by omega), ih.2 (by omega)]
theorem Dom.sum {α : Type} {R : α → α → Prop} (μ : α → Nat) {as bs : List α} (h : Dom R as bs) (hR : ∀ a b, a ∈ as → b ∈ bs → R a b → μ a ≤ μ b ∧ (μ a = μ b → a = b)) :
    (as.map fun a => 1 + μ a).sum ≤ (bs.map fun a => 1 + μ a).sum ∧ ((as.map fun a => 1 + μ a).sum = (bs.map fun a => 1 + μ a).sum → as.Perm bs) := by
  obtain ⟨b1, b2, h1, p⟩ := h
  have h2 := h1.sum μ (fun a b ha hb => hR a b ha (p.symm.subset (by simp [hb])))
  have h3 : (bs.map fun a => 1 + μ a).sum = ((b1 ++ b2).map fun a => 1 + μ a).sum := (p.map _).sum_nat
  rw [List.map_append, List.sum_append] at h3
  refine ⟨by omega, fun e => ?_⟩
  have h4 : b2 = [] := by
    cases b2 with
    | nil => rfl
    | cons x r => simp at h3; omega
  subst h4
  rw [h2.2 (by omega)]
  simpa using p.symm

/- trees -/
mutual
def embT : V → V → Bool
  | a, .mk y bs => (a.n == y && subT a.ks bs) || anyT a bs
def subT : List V → List V → Bool
  | as, [] => as.isEmpty
  | as, b :: bs => match as with
    | [] => true
    | a :: as' => if embT a b then subT as' bs else subT (a :: as') bs
def anyT : V → List V → Bool
  | _, [] => false
  | a, b :: bs => embT a b || anyT a bs
end
theorem subT_eq : ∀ (bs as : List V), subT as bs = embG embT as bs
  | [], [] => rfl
  | [], _ :: _ => rfl
  | _ :: _, [] => rfl
  | b :: bs, a :: as => by
    simp only [subT, embG]
    rw [subT_eq bs as, subT_eq bs (a :: as)]
theorem anyT_eq (a : V) : ∀ bs, anyT a bs = bs.any (embT a)
  | [] => rfl
  | b :: bs => by simp [anyT, anyT_eq a bs]
theorem embT_iff (a b : V) : embT a b = true ↔ (a.n = b.n ∧ Emb (fun a b => embT a b = true) a.ks b.ks) ∨ ∃ k ∈ b.ks, embT a k = true := by
  cases b with
  | mk y bs => simp [embT, anyT_eq, subT_eq, embG_iff]
theorem embT_trans (n : Nat) : ∀ c b a : V, c.size + b.size ≤ n → embT a b = true → embT b c = true → embT a c = true := by
  induction n with
  | zero => intro c b a h; have := c.size_pos; omega
  | succ n ih =>
    intro c b a hn h1 h2
    rw [embT_iff] at h2 ⊢
    rcases h2 with ⟨e, h2⟩ | ⟨k, hk, h2⟩
    · rw [embT_iff] at h1
      rcases h1 with ⟨e', h1⟩ | ⟨k, hk, h1⟩
      · refine .inl ⟨e'.trans e, h2.trans h1 fun x y z hx hy hz => ih z y x (by have := V.size_kid hz; have := V.size_kid hy; omega)⟩
      · obtain ⟨z, hz, hr⟩ := h2.mem k hk
        exact .inr ⟨z, hz, ih z k a (by have := V.size_kid hz; have := V.size_kid hk; omega) h1 hr⟩
    · exact .inr ⟨k, hk, ih k b a (by have := V.size_kid hk; omega) h1 h2⟩
theorem embT_refl (a : V) : embT a a = true := by
  induction a using V.ind with
  | h n ks ih => exact (embT_iff _ _).2 (.inl ⟨rfl, Emb.refl_ ih⟩)
theorem sizeL_sum (l : List V) : (l.map fun a => 1 + (a.size - 1)).sum = sizeL l := by
  induction l with
  | nil => rfl
  | cons x r ih => have := x.size_pos; simp only [List.map_cons, List.sum_cons, sizeL, ih]; omega
theorem embT_size (b : V) : ∀ a : V, embT a b = true → a.size - 1 ≤ b.size - 1 ∧ (a.size - 1 = b.size - 1 → a = b) := by
  induction b using V.ind with
  | h n ks ih =>
    intro a h
    rw [embT_iff] at h
    rcases h with ⟨e, h⟩ | ⟨k, hk, h⟩
    · have := h.sum (fun v => v.size - 1) (fun a b _ hb => ih b hb a)
      rw [sizeL_sum, sizeL_sum] at this
      simp only [V.ks_mk] at this
      rw [a.size_eq]
      simp only [V.size]
      refine ⟨by omega, fun e' => ?_⟩
      have e2 := this.2 (by omega)
      rw [← a.eta, e, e2]; rfl
    · have h2 := (ih k hk a h).1
      have h3 : k.size < (V.mk n ks).size := V.size_kid hk
      have := k.size_pos; have := a.size_pos
      exact ⟨by omega, fun e => by omega⟩

/- words with ranks: a letter may be dropped ahead of one of at least its rank -/
inductive PLe (r : Int → Int) : List Int → List Int → Prop
  | nil : PLe r [] []
  | keep {x a b} : PLe r a b → PLe r (x :: a) (x :: b)
  | skip {x y a b} : PLe r (x :: a) b → r y ≤ r x → PLe r (x :: a) (y :: b)
theorem PLe.refl_ (r : Int → Int) : ∀ a, PLe r a a
  | [] => .nil
  | x :: a => .keep (PLe.refl_ r a)
theorem PLe.len {r : Int → Int} {a b : List Int} (h : PLe r a b) : a.length ≤ b.length ∧ (a.length = b.length → a = b) := by
  induction h with
  | nil => simp
  | keep _ ih => refine ⟨by simp; exact ih.1, fun e => ?_⟩; rw [ih.2 (by simpa using e)]
  | skip _ _ ih => refine ⟨by have := ih.1; simp at this ⊢; omega, fun e => ?_⟩; have := ih.1; simp at this e; omega
theorem PLe.trans {r : Int → Int} {b c : List Int} (h2 : PLe r b c) : ∀ {a}, PLe r a b → PLe r a c := by
  induction h2 with
  | nil => intro a h; cases h; exact .nil
  | keep h ih =>
    intro a h1
    cases h1 with
    | keep h3 => exact .keep (ih h3)
    | skip h3 h4 => exact .skip (ih h3) h4
  | @skip x y b c h h4 ih =>
    intro a h1
    have h5 := ih h1
    cases h1 with
    | keep h3 => exact .skip h5 h4
    | skip h3 h6 => exact .skip h5 (by omega)
def pleB (r : Int → Int) : List Int → List Int → Bool
  | [], b => b.isEmpty
  | _ :: _, [] => false
  | x :: a, y :: b => (x == y && pleB r a b) || (decide (r y ≤ r x) && pleB r (x :: a) b)
theorem pleB_iff (r : Int → Int) : ∀ b a, pleB r a b = true ↔ PLe r a b
  | [], [] => by simp [pleB]; exact .nil
  | _ :: _, [] => by simp [pleB]; intro h; cases h
  | [], _ :: _ => by simp [pleB]; intro h; cases h
  | y :: b, x :: a => by
    simp only [pleB, Bool.or_eq_true, Bool.and_eq_true, beq_iff_eq, decide_eq_true_eq, pleB_iff r b a, pleB_iff r b (x :: a)]
    constructor
    · rintro (⟨rfl, h⟩ | ⟨h1, h2⟩)
      · exact .keep h
      · exact .skip h2 h1
    · intro h
      cases h with
      | keep h => exact .inl ⟨rfl, h⟩
      | skip h1 h2 => exact .inr ⟨h2, h1⟩
end Go.Proofs.YtlmnkcfnihhlgaaGreatDoor
namespace Go.Proofs.YtlmnkcfnihhlgaaGreatDoor
set_option linter.unusedSimpArgs false
set_option linter.unusedVariables false

inductive T where | mk (kind size : Int) (ranks : List Int) (parts : List T)
instance : Inhabited T := ⟨.mk 0 0 [] []⟩
def T.kind : T → Int | .mk k _ _ _ => k
def T.size : T → Int | .mk _ s _ _ => s
def T.ranks : T → List Int | .mk _ _ r _ => r
def T.parts : T → List T | .mk _ _ _ p => p
def T.p0 (t : T) : T := t.parts.headD default
@[simp] theorem T.kind_mk (k s : Int) (r : List Int) (p : List T) : (T.mk k s r p).kind = k := rfl
@[simp] theorem T.size_mk (k s : Int) (r : List Int) (p : List T) : (T.mk k s r p).size = s := rfl
@[simp] theorem T.ranks_mk (k s : Int) (r : List Int) (p : List T) : (T.mk k s r p).ranks = r := rfl
@[simp] theorem T.parts_mk (k s : Int) (r : List Int) (p : List T) : (T.mk k s r p).parts = p := rfl

def rankedP (r : List Int) : Bool := decide (1 ≤ r.length) && decide (r.length ≤ 6) && r.all fun x => decide (0 ≤ x) && decide (x < 6)
def rightP : Nat → T → Bool
  | 0, _ => false
  | d + 1, t => !(decide (0 < t.ranks.length) && !(t.kind == 7)) &&
    (if t.kind = 1 then t.parts.isEmpty && t.size == 0
     else if t.kind = 2 ∨ t.kind = 6 then t.parts.isEmpty && decide (1 ≤ t.size) && decide (t.size ≤ 16)
     else if t.kind = 7 then t.parts.isEmpty && t.size == t.ranks.length && rankedP t.ranks
     else if t.kind = 3 then t.size == 0 && !t.parts.isEmpty && decide (t.parts.length ≤ 8) && t.parts.all (rightP d)
     else if t.kind = 4 ∨ t.kind = 5 then t.size == 0 && t.parts.length == 1 && t.parts.all (rightP d)
     else false)
def labelP (s : Int) (v : V) : Bool := decide (0 ≤ v.n) && decide (v.n < s) && v.ks.isEmpty
mutual
def taggedP (s : Int) : V → Bool | .mk n ks => decide (0 ≤ n) && decide (n < s) && taggedL s ks
def taggedL (s : Int) : List V → Bool | [] => true | v :: r => taggedP s v && taggedL s r
end
theorem taggedL_eq (s : Int) : ∀ l, taggedL s l = l.all (taggedP s)
  | [] => rfl
  | v :: r => by simp [taggedL, taggedL_eq s r]
theorem taggedP_eq (s : Int) (v : V) : taggedP s v = (decide (0 ≤ v.n) && decide (v.n < s) && v.ks.all (taggedP s)) := by
  cases v; rw [taggedP, taggedL_eq]; rfl
def oneZ (f : T → V → Bool) : List T → List V → Bool
  | [], [] => true
  | p :: ps, v :: vs => f p v && oneZ f ps vs
  | _, _ => false
/-- adjacent ones in order -/
def sortedB : List V → Bool
  | [] => true
  | a :: r => (match r with | [] => true | b :: _ => decide (0 ≤ cmpV b a)) && sortedB r
def oneP : Nat → T → V → Bool
  | 0, _, _ => false
  | d + 1, t, v =>
    if t.kind = 1 then decide (0 ≤ v.n) && decide (v.n ≤ 1048576) && v.ks.isEmpty
    else if t.kind = 2 then labelP t.size v
    else if t.kind = 3 then v.n == 0 && v.ks.length == t.parts.length && oneZ (oneP d) t.parts v.ks
    else if t.kind = 4 then v.n == 0 && decide (v.ks.length ≤ 12) && v.ks.all (oneP d t.p0)
    else if t.kind = 5 then v.n == 0 && decide (v.ks.length ≤ 12) && v.ks.all (oneP d t.p0) && sortedB v.ks
    else if t.kind = 6 then decide (v.size ≤ 12) && taggedP t.size v
    else v.n == 0 && decide (v.ks.length ≤ 12) && v.ks.all (labelP t.size)
def validP (t : T) (v : V) : Bool := rightP 8 t && decide (v.size ≤ 128) && oneP 8 t v
def belZ (f : T → V → V → Bool) : List T → List V → List V → Bool
  | [], _, _ => true
  | p :: ps, a :: as, b :: bs => f p a b && belZ f ps as bs
  | _ :: _, _, _ => false
def rankAt (r : List Int) (x : Int) : Int := r.getD x.toNat 0
def belowP : Nat → T → V → V → Bool
  | 0, _, _, _ => false
  | d + 1, t, a, b =>
    if t.kind = 1 then decide (a.n ≤ b.n)
    else if t.kind = 2 then a.n == b.n
    else if t.kind = 3 then belZ (belowP d) t.parts a.ks b.ks
    else if t.kind = 4 then embG (belowP d t.p0) a.ks b.ks
    else if t.kind = 5 then domG (belowP d t.p0) a.ks b.ks
    else if t.kind = 6 then embT a b
    else pleB (rankAt t.ranks) (a.ks.map V.n) (b.ks.map V.n)

theorem oneZ_length {f : T → V → Bool} : ∀ {ps : List T} {vs : List V}, oneZ f ps vs = true → ps.length = vs.length
  | [], [], _ => rfl
  | _ :: ps, _ :: vs, h => by simp only [oneZ, Bool.and_eq_true] at h; simp [oneZ_length h.2]
  | [], _ :: _, h => by simp [oneZ] at h
  | _ :: _, [], h => by simp [oneZ] at h
theorem sorted_pair : ∀ {l : List V}, sortedB l = true → l.Pairwise fun a b => cmpV a b ≤ 0
  | [], _ => .nil
  | [a], _ => by simp
  | a :: b :: r, h => by
    simp only [sortedB, Bool.and_eq_true, decide_eq_true_eq] at h
    have ih := sorted_pair (l := b :: r) (by simp only [sortedB, Bool.and_eq_true]; exact h.2)
    refine .cons (fun c hc => ?_) ih
    have h1 : cmpV a b ≤ 0 := by have := cmp_anti a b; omega
    rcases List.mem_cons.1 hc with rfl | hc
    · exact h1
    · have h2 : cmpV b c ≤ 0 := (List.pairwise_cons.1 ih).1 c hc
      by_cases e1 : cmpV a b = 0
      · rw [cmp_zero _ _ e1]; exact h2
      · by_cases e2 : cmpV b c = 0
        · rw [← cmp_zero _ _ e2]; exact h1
        · have r1 := cmp_range a b; have r2 := cmp_range b c
          have := cmp_trans a b c (by omega) (by omega); omega
theorem pair_sorted : ∀ {l : List V}, (l.Pairwise fun a b => cmpV a b ≤ 0) → sortedB l = true
  | [], _ => rfl
  | [a], _ => rfl
  | a :: b :: r, h => by
    have h2 := List.pairwise_cons.1 h
    have ih := pair_sorted h2.2
    simp only [sortedB, Bool.and_eq_true, decide_eq_true_eq] at ih ⊢
    exact ⟨by have := h2.1 b (by simp); have := cmp_anti a b; omega, ih⟩
theorem sorted_perm {a b : List V} (ha : sortedB a = true) (hb : sortedB b = true) (h : a.Perm b) : a = b := by
  replace ha := sorted_pair ha
  replace hb := sorted_pair hb
  induction a generalizing b with
  | nil => exact (List.nil_perm.1 h).symm
  | cons x r ih =>
    cases b with
    | nil => exact absurd h.length_eq (by simp)
    | cons y q =>
      have ha2 := List.pairwise_cons.1 ha
      have hb2 := List.pairwise_cons.1 hb
      have e : x = y := by
        have h1 : x ∈ y :: q := h.subset (by simp)
        have h2 : y ∈ x :: r := h.symm.subset (by simp)
        rcases List.mem_cons.1 h1 with e | h1
        · exact e
        · rcases List.mem_cons.1 h2 with e | h2
          · exact e.symm
          · have c1 := ha2.1 y h2
            have c2 := hb2.1 x h1
            have c3 := cmp_anti x y
            exact cmp_zero _ _ (by omega)
      subst e
      rw [ih ((List.perm_cons x).1 h) ha2.2 hb2.2]

theorem oneP_all {d : Nat} {t : T} {v k : V} (h : v.ks.all (oneP d t) = true) (hk : k ∈ v.ks) : oneP d t k = true := List.all_eq_true.1 h k hk

theorem below_refl (d : Nat) : ∀ (t : T) (v : V), rightP d t = true → oneP d t v = true → belowP d t v v = true := by
  induction d with
  | zero => intro t v h; simp [rightP] at h
  | succ d ih =>
    intro t v hr ho
    simp only [rightP, Bool.and_eq_true] at hr
    have hr := hr.2
    simp only [oneP] at ho
    simp only [belowP]
    by_cases k1 : t.kind = 1
    · simp [k1]
    rw [if_neg k1] at hr ho ⊢
    by_cases k2 : t.kind = 2
    · simp [k2]
    rw [if_neg k2] at ho ⊢
    by_cases k3 : t.kind = 3
    · rw [if_pos k3] at ho ⊢
      rw [if_neg (by omega), if_neg (by omega), if_pos k3] at hr
      simp only [Bool.and_eq_true] at hr ho
      have h1 := hr.2
      have h2 := ho.2
      clear hr ho
      generalize t.parts = ps at h1 h2 ⊢
      generalize v.ks = vs at h2 ⊢
      induction ps generalizing vs with
      | nil => simp [belZ]
      | cons p ps ihp =>
        cases vs with
        | nil => simp [oneZ] at h2
        | cons v vs =>
          simp only [oneZ, List.all_cons, Bool.and_eq_true] at h1 h2
          simp only [belZ, Bool.and_eq_true]
          exact ⟨ih p v h1.1 h2.1, ihp h1.2 vs h2.2⟩
    rw [if_neg k3] at ho ⊢
    by_cases k4 : t.kind = 4
    · rw [if_pos k4] at ho ⊢
      rw [if_neg (by omega), if_neg (by omega), if_neg (by omega), if_pos (.inl k4)] at hr
      simp only [Bool.and_eq_true, beq_iff_eq] at hr ho
      have hp : rightP d t.p0 = true := by
        unfold T.p0
        rcases hps : t.parts with _ | ⟨p, r⟩
        · rw [hps] at hr; simp at hr
        · rw [hps] at hr; simp at hr; exact hr.2.1
      exact (embG_iff _ _ _).2 (Emb.refl_ fun a ha => ih _ a hp (oneP_all ho.2 ha))
    rw [if_neg k4] at ho ⊢
    by_cases k5 : t.kind = 5
    · rw [if_pos k5] at ho ⊢
      rw [if_neg (by omega), if_neg (by omega), if_neg (by omega), if_pos (.inr k5)] at hr
      simp only [Bool.and_eq_true, beq_iff_eq] at hr ho
      have hp : rightP d t.p0 = true := by
        unfold T.p0
        rcases hps : t.parts with _ | ⟨p, r⟩
        · rw [hps] at hr; simp at hr
        · rw [hps] at hr; simp at hr; exact hr.2.1
      exact (domG_iff _ _ _).2 (Dom.refl_ fun a ha => ih _ a hp (oneP_all ho.1.2 ha))
    rw [if_neg k5] at ho ⊢
    by_cases k6 : t.kind = 6
    · rw [if_pos k6]; exact embT_refl v
    rw [if_neg k6]
    exact (pleB_iff _ _ _).2 (PLe.refl_ _ _)

theorem p0_right {d : Nat} {t : T} (hr : rightP (d + 1) t = true) (hk : t.kind = 4 ∨ t.kind = 5) : rightP d t.p0 = true ∧ t.parts = [t.p0] := by
  simp only [rightP, Bool.and_eq_true] at hr
  have hr := hr.2
  rw [if_neg (by omega), if_neg (by omega), if_neg (by omega), if_neg (by omega), if_pos hk] at hr
  simp only [Bool.and_eq_true, beq_iff_eq] at hr
  unfold T.p0
  rcases hps : t.parts with _ | ⟨p, r⟩
  · rw [hps] at hr; simp at hr
  · rw [hps] at hr; simp at hr; exact ⟨hr.2.1, by rw [hr.1.2]; rfl⟩
theorem parts_right {d : Nat} {t : T} (hr : rightP (d + 1) t = true) (hk : t.kind = 3) : t.parts.all (rightP d) = true ∧ t.parts.length ≤ 8 ∧ t.parts ≠ [] := by
  simp only [rightP, Bool.and_eq_true] at hr
  have hr := hr.2
  rw [if_neg (by omega), if_neg (by omega), if_neg (by omega), if_pos hk] at hr
  simp only [Bool.and_eq_true, decide_eq_true_eq, Bool.not_eq_true', List.isEmpty_eq_false_iff] at hr
  exact ⟨hr.2, hr.1.2, hr.1.1.2⟩

theorem below_trans (d : Nat) : ∀ (t : T) (a b c : V), rightP d t = true → oneP d t a = true → oneP d t b = true → oneP d t c = true → belowP d t a b = true → belowP d t b c = true → belowP d t a c = true := by
  induction d with
  | zero => intro t a b c h; simp [rightP] at h
  | succ d ih =>
    intro t a b c hr oa ob oc
    simp only [oneP] at oa ob oc
    simp only [belowP]
    by_cases k1 : t.kind = 1
    · simp only [if_pos k1, decide_eq_true_eq]; omega
    rw [if_neg k1] at oa ob oc
    rw [if_neg k1, if_neg k1, if_neg k1]
    by_cases k2 : t.kind = 2
    · simp only [if_pos k2, beq_iff_eq]; omega
    rw [if_neg k2] at oa ob oc
    rw [if_neg k2, if_neg k2, if_neg k2]
    by_cases k3 : t.kind = 3
    · rw [if_pos k3] at oa ob oc
      rw [if_pos k3, if_pos k3, if_pos k3]
      have h1 := (parts_right hr k3).1
      simp only [Bool.and_eq_true] at oa ob oc
      have ha := oa.2
      have hb := ob.2
      have hc := oc.2
      clear hr oa ob oc
      generalize t.parts = ps at h1 ha hb hc ⊢
      generalize a.ks = as at ha ⊢
      generalize b.ks = bs at hb ⊢
      generalize c.ks = cs at hc ⊢
      induction ps generalizing as bs cs with
      | nil => simp [belZ]
      | cons p ps ihp =>
        cases as with
        | nil => simp [oneZ] at ha
        | cons x as =>
          cases bs with
          | nil => simp [oneZ] at hb
          | cons y bs =>
            cases cs with
            | nil => simp [oneZ] at hc
            | cons z cs =>
              simp only [oneZ, List.all_cons, Bool.and_eq_true] at h1 ha hb hc
              simp only [belZ, Bool.and_eq_true]
              exact fun e1 e2 => ⟨ih p x y z h1.1 ha.1 hb.1 hc.1 e1.1 e2.1, ihp h1.2 as ha.2 bs hb.2 cs hc.2 e1.2 e2.2⟩
    rw [if_neg k3] at oa ob oc
    rw [if_neg k3, if_neg k3, if_neg k3]
    by_cases k4 : t.kind = 4
    · rw [if_pos k4] at oa ob oc
      rw [if_pos k4, if_pos k4, if_pos k4]
      have hp := (p0_right hr (.inl k4)).1
      simp only [Bool.and_eq_true] at oa ob oc
      rw [embG_iff, embG_iff, embG_iff]
      exact fun e1 e2 => e2.trans e1 fun x y z hx hy hz => ih _ x y z hp (oneP_all oa.2 hx) (oneP_all ob.2 hy) (oneP_all oc.2 hz)
    rw [if_neg k4] at oa ob oc
    rw [if_neg k4, if_neg k4, if_neg k4]
    by_cases k5 : t.kind = 5
    · rw [if_pos k5] at oa ob oc
      rw [if_pos k5, if_pos k5, if_pos k5]
      have hp := (p0_right hr (.inr k5)).1
      simp only [Bool.and_eq_true] at oa ob oc
      rw [domG_iff, domG_iff, domG_iff]
      exact fun e1 e2 => e1.trans e2 fun x y z hx hy hz => ih _ x y z hp (oneP_all oa.1.2 hx) (oneP_all ob.1.2 hy) (oneP_all oc.1.2 hz)
    rw [if_neg k5, if_neg k5, if_neg k5]
    by_cases k6 : t.kind = 6
    · rw [if_pos k6, if_pos k6, if_pos k6]; exact fun e1 e2 => embT_trans _ c b a (Nat.le_refl _) e1 e2
    rw [if_neg k6, if_neg k6, if_neg k6, pleB_iff, pleB_iff, pleB_iff]
    exact fun e1 e2 => e2.trans e1

/-- a size that grows -/
def muZ (f : T → V → Nat) : List T → List V → Nat
  | p :: ps, v :: vs => f p v + muZ f ps vs
  | _, _ => 0
def mu : Nat → T → V → Nat
  | 0, _, _ => 0
  | d + 1, t, v =>
    if t.kind = 1 then v.n.toNat
    else if t.kind = 2 then 0
    else if t.kind = 3 then muZ (mu d) t.parts v.ks
    else if t.kind = 4 ∨ t.kind = 5 then (v.ks.map fun k => 1 + mu d t.p0 k).sum
    else if t.kind = 6 then v.size - 1
    else v.ks.length
theorem label_eq {s : Int} {as : List V} : ∀ {bs : List V}, as.all (labelP s) = true → bs.all (labelP s) = true → as.map V.n = bs.map V.n → as = bs := by
  induction as with
  | nil => intro bs _ _ h; cases bs with | nil => rfl | cons => simp at h
  | cons a as ih =>
    intro bs h1 h2 h
    cases bs with
    | nil => simp at h
    | cons b bs =>
      simp only [List.all_cons, Bool.and_eq_true, labelP, List.isEmpty_iff] at h1 h2
      simp only [List.map_cons, List.cons.injEq] at h
      rw [ih h1.2 h2.2 h.2, ← a.eta, ← b.eta, h.1, h1.1.2, h2.1.2]
theorem below_mu (d : Nat) : ∀ (t : T) (a b : V), rightP d t = true → oneP d t a = true → oneP d t b = true → belowP d t a b = true → mu d t a ≤ mu d t b ∧ (mu d t a = mu d t b → a = b) := by
  induction d with
  | zero => intro t a b h; simp [rightP] at h
  | succ d ih =>
    intro t a b hr oa ob
    simp only [oneP] at oa ob
    simp only [belowP, mu]
    by_cases k1 : t.kind = 1
    · rw [if_pos k1] at oa ob
      rw [if_pos k1, if_pos k1, if_pos k1]
      simp only [Bool.and_eq_true, decide_eq_true_eq, List.isEmpty_iff] at oa ob
      intro h
      have h := of_decide_eq_true h
      exact ⟨by omega, fun e => by rw [← a.eta, ← b.eta, oa.2, ob.2, show a.n = b.n by omega]⟩
    rw [if_neg k1] at oa ob
    rw [if_neg k1, if_neg k1, if_neg k1]
    by_cases k2 : t.kind = 2
    · rw [if_pos k2] at oa ob
      rw [if_pos k2, if_pos k2, if_pos k2]
      simp only [labelP, Bool.and_eq_true, decide_eq_true_eq, List.isEmpty_iff] at oa ob
      simp only [beq_iff_eq]
      exact fun h => ⟨by omega, fun _ => by rw [← a.eta, ← b.eta, oa.2, ob.2, h]⟩
    rw [if_neg k2] at oa ob
    rw [if_neg k2, if_neg k2, if_neg k2]
    by_cases k3 : t.kind = 3
    · rw [if_pos k3] at oa ob
      rw [if_pos k3, if_pos k3, if_pos k3]
      have h1 := (parts_right hr k3).1
      simp only [Bool.and_eq_true, beq_iff_eq] at oa ob
      have key : belZ (belowP d) t.parts a.ks b.ks = true → muZ (mu d) t.parts a.ks ≤ muZ (mu d) t.parts b.ks ∧ (muZ (mu d) t.parts a.ks = muZ (mu d) t.parts b.ks → a.ks = b.ks) := by
        have ha := oa.2
        have hb := ob.2
        clear hr oa ob
        generalize t.parts = ps at h1 ha hb ⊢
        generalize a.ks = as at ha ⊢
        generalize b.ks = bs at hb ⊢
        induction ps generalizing as bs with
        | nil => cases as <;> cases bs <;> simp [oneZ, belZ, muZ] at ha hb ⊢
        | cons p ps ihp =>
          cases as with
          | nil => simp [oneZ] at ha
          | cons x as =>
            cases bs with
            | nil => simp [oneZ] at hb
            | cons y bs =>
              simp only [oneZ, List.all_cons, Bool.and_eq_true] at h1 ha hb
              simp only [belZ, muZ, Bool.and_eq_true]
              intro e
              have i1 := ih p x y h1.1 ha.1 hb.1 e.1
              have i2 := ihp h1.2 as ha.2 bs hb.2 e.2
              exact ⟨by omega, fun e => by rw [i1.2 (by omega), i2.2 (by omega)]⟩
      intro h
      have := key h
      exact ⟨this.1, fun e => by rw [← a.eta, ← b.eta, oa.1.1, ob.1.1, this.2 e]⟩
    rw [if_neg k3] at oa ob
    rw [if_neg k3, if_neg k3, if_neg k3]
    by_cases k4 : t.kind = 4
    · rw [if_pos k4] at oa ob
      rw [if_pos k4, if_pos (.inl k4), if_pos (.inl k4), embG_iff]
      have hp := (p0_right hr (.inl k4)).1
      simp only [Bool.and_eq_true, beq_iff_eq] at oa ob
      intro h
      have := h.sum (mu d t.p0) fun x y hx hy hxy => ih _ x y hp (oneP_all oa.2 hx) (oneP_all ob.2 hy) hxy
      exact ⟨this.1, fun e => by rw [← a.eta, ← b.eta, oa.1.1, ob.1.1, this.2 e]⟩
    rw [if_neg k4] at oa ob
    rw [if_neg k4]
    by_cases k5 : t.kind = 5
    · rw [if_pos k5] at oa ob
      rw [if_pos k5, if_pos (.inr k5), if_pos (.inr k5), domG_iff]
      have hp := (p0_right hr (.inr k5)).1
      simp only [Bool.and_eq_true, beq_iff_eq] at oa ob
      intro h
      have := h.sum (mu d t.p0) fun x y hx hy hxy => ih _ x y hp (oneP_all oa.1.2 hx) (oneP_all ob.1.2 hy) hxy
      exact ⟨this.1, fun e => by rw [← a.eta, ← b.eta, oa.1.1.1, ob.1.1.1, sorted_perm oa.2 ob.2 (this.2 e)]⟩
    rw [if_neg k5] at oa ob
    have k45 : ¬ (t.kind = 4 ∨ t.kind = 5) := by omega
    rw [if_neg k5, if_neg k45, if_neg k45]
    by_cases k6 : t.kind = 6
    · rw [if_pos k6, if_pos k6, if_pos k6]; exact embT_size b a
    rw [if_neg k6] at oa ob
    rw [if_neg k6, if_neg k6, if_neg k6, pleB_iff]
    simp only [Bool.and_eq_true, beq_iff_eq] at oa ob
    intro h
    have := h.len
    simp only [List.length_map] at this
    exact ⟨this.1, fun e => by rw [← a.eta, ← b.eta, oa.1.1, ob.1.1, label_eq oa.2 ob.2 (this.2 e)]⟩
theorem below_anti {d : Nat} {t : T} {a b : V} (hr : rightP d t = true) (oa : oneP d t a = true) (ob : oneP d t b = true) (h1 : belowP d t a b = true) (h2 : belowP d t b a = true) : a = b := by
  have m1 := below_mu d t a b hr oa ob h1
  have m2 := below_mu d t b a hr ob oa h2
  exact m1.2 (by omega)
end Go.Proofs.YtlmnkcfnihhlgaaGreatDoor
namespace Go.Proofs.YtlmnkcfnihhlgaaGreatDoor
set_option linter.unusedSimpArgs false
set_option linter.unusedVariables false

mutual
def subs : V → List V | .mk n ks => .mk n ks :: subsL ks
def subsL : List V → List V | [] => [] | v :: r => subs v ++ subsL r
end
theorem subs_eq (v : V) : subs v = v :: subsL v.ks := by cases v; rfl
theorem subs_length (v : V) : (subs v).length = v.size := by
  induction v using V.ind with
  | h n ks ih =>
    have : (subsL ks).length = sizeL ks := by
      induction ks with
      | nil => rfl
      | cons x r ihr => simp [subsL, sizeL, ih x (by simp), ihr (fun k hk => ih k (by simp [hk]))]
    simp [subs, V.size, this]; omega
theorem subsL_length (l : List V) : (subsL l).length = sizeL l := by
  induction l with
  | nil => rfl
  | cons x r ih => simp [subsL, sizeL, subs_length, ih]
structure Nd where
  lab : Int
  fin : Nat
  kids : List Nat
def starts (k : Nat) : List V → List Nat
  | [] => []
  | v :: r => k :: starts (k + v.size) r
theorem starts_length (k : Nat) (l : List V) : (starts k l).length = l.length := by
  induction l generalizing k with
  | nil => rfl
  | cons x r ih => simp [starts, ih]
def ndOf (i : Nat) (v : V) : Nd := ⟨v.n, i + v.size, starts (i + 1) v.ks⟩
def numL (k : Nat) : List V → List Nd
  | [] => []
  | v :: l => ndOf k v :: numL (k + 1) l
theorem numL_length (k : Nat) (l : List V) : (numL k l).length = l.length := by
  induction l generalizing k with
  | nil => rfl
  | cons x r ih => simp [numL, ih]
theorem numL_append (k : Nat) (a b : List V) : numL k (a ++ b) = numL k a ++ numL (k + a.length) b := by
  induction a generalizing k with
  | nil => simp [numL]
  | cons x r ih => simp [numL, ih]; congr 1; omega
theorem numL_get (k : Nat) (l : List V) (i : Nat) (h : i < l.length) (h' : i < (numL k l).length) : (numL k l)[i] = ndOf (k + i) l[i] := by
  induction l generalizing k i with
  | nil => simp at h
  | cons x r ih =>
    cases i with
    | zero => simp [numL]
    | succ i => simp only [numL, List.getElem_cons_succ]; rw [ih (k + 1) i (by simpa using h) (by rw [numL_length]; simpa using h)]; congr 1; omega
/-- the nodes of a tree -/
def nodesP (t : V) : List Nd := numL 0 (subs t)
/-- from a node on, the list of subtrees begins with those of the node's own tree -/
theorem subs_pre (t : V) : ∀ i (h : i < (subs t).length), ∃ rest, (subs t).drop i = subs (subs t)[i] ++ rest := by
  induction t using V.ind with
  | h n ks ih =>
    intro i h
    cases i with
    | zero => exact ⟨[], by simp [subs]⟩
    | succ i =>
      have key : ∀ (l : List V), (∀ k ∈ l, ∀ i (h : i < (subs k).length), ∃ rest, (subs k).drop i = subs (subs k)[i] ++ rest) → ∀ i (h : i < (subsL l).length), ∃ rest, (subsL l).drop i = subs (subsL l)[i] ++ rest := by
        intro l
        induction l with
        | nil => intro _ i h; simp [subsL] at h
        | cons x r ihr =>
          intro hl i h
          simp only [subsL] at h ⊢
          by_cases hi : i < (subs x).length
          · obtain ⟨rest, hr⟩ := hl x (by simp) i hi
            refine ⟨rest ++ subsL r, ?_⟩
            rw [List.drop_append_of_le_length (by omega), hr, List.append_assoc]
            congr 2
            exact (List.getElem_append_left hi).symm
          · have hi2 : i - (subs x).length < (subsL r).length := by simp at h; omega
            obtain ⟨rest, hr⟩ := ihr (fun k hk => hl k (by simp [hk])) _ hi2
            refine ⟨rest, ?_⟩
            rw [List.drop_append, List.drop_eq_nil_of_le (by omega), List.nil_append, hr]
            congr 2
            rw [List.getElem_append_right (by omega)]
      have h' : i < (subsL ks).length := by simpa [subs] using h
      obtain ⟨rest, hr⟩ := key ks ih i h'
      exact ⟨rest, by simp only [subs, List.drop_succ_cons, List.getElem_cons_succ]; exact hr⟩
theorem subsL_at : ∀ (l : List V) (k j : Nat) (h : j < l.length), ∃ p, (starts k l)[j]? = some (k + p) ∧ (subsL l)[p]? = some l[j] ∧ p < sizeL l
  | x :: r, k, 0, _ => ⟨0, by simp [starts], by rw [subsL, subs_eq]; simp, by have := x.size_pos; simp [sizeL]; omega⟩
  | x :: r, k, j + 1, h => by
    obtain ⟨p, h1, h2, h3⟩ := subsL_at r (k + x.size) j (by simpa using h)
    refine ⟨x.size + p, by simp only [starts, List.getElem?_cons_succ]; rw [h1]; congr 1; omega, ?_, by simp [sizeL]; omega⟩
    simp only [subsL, List.getElem_cons_succ]
    rw [List.getElem?_append_right (by rw [subs_length]; omega), subs_length]
    rw [show x.size + p - x.size = p by omega]
    exact h2
/-- the j-th kid of node i: its number and its tree -/
theorem kid_at {t : V} {i j : Nat} (hi : i < (subs t).length) (hj : j < (subs t)[i].ks.length) : ∃ p, (starts (i + 1) (subs t)[i].ks)[j]? = some p ∧ ∃ (hp : p < (subs t).length), (subs t)[p] = (subs t)[i].ks[j] ∧ i < p ∧ p < i + (subs t)[i].size := by
  obtain ⟨p, h1, h2, h3⟩ := subsL_at (subs t)[i].ks (i + 1) j hj
  obtain ⟨rest, hr⟩ := subs_pre t i hi
  have hsz := (subs t)[i].size_eq
  have e : ((subs t).drop i)[1 + p]? = some (subs t)[i].ks[j] := by
    rw [hr, subs_eq]
    rw [List.cons_append, show 1 + p = p + 1 by omega, List.getElem?_cons_succ, List.getElem?_append_left (by rw [subsL_length]; exact h3)]
    exact h2
  rw [List.getElem?_drop] at e
  have hlt : i + (1 + p) < (subs t).length := by
    rcases Nat.lt_or_ge (i + (1 + p)) (subs t).length with h | h
    · exact h
    · rw [List.getElem?_eq_none h] at e; cases e
  rw [List.getElem?_eq_getElem hlt] at e
  refine ⟨i + 1 + p, h1, by omega, ?_, by omega, by omega⟩
  have e' := Option.some.inj e
  rw [← e']
  congr 1; omega
theorem end_le {t : V} {i : Nat} (hi : i < (subs t).length) : i + (subs t)[i].size ≤ t.size := by
  obtain ⟨rest, hr⟩ := subs_pre t i hi
  have := congrArg List.length hr
  rw [List.length_append, subs_length, List.length_drop, subs_length] at this
  have h2 : i < t.size := by rw [← subs_length]; exact hi
  omega
theorem sub_get {t : V} {i q : Nat} (hi : i < (subs t).length) (hq : q < (subs t)[i].size) : (subs t)[i + q]? = (subs (subs t)[i])[q]? := by
  obtain ⟨rest, hr⟩ := subs_pre t i hi
  have : ((subs t).drop i)[q]? = (subs (subs t)[i] ++ rest)[q]? := by rw [hr]
  rw [List.getElem?_drop, List.getElem?_append_left (by rw [subs_length]; exact hq)] at this
  exact this
def rootE (a b : V) : Bool := a.n == b.n && subT a.ks b.ks
theorem embT_subs (a b : V) : embT a b = (subs b).any (rootE a) := by
  induction b using V.ind with
  | h n ks ih =>
    have h1 : ∀ l : List V, (∀ k ∈ l, embT a k = (subs k).any (rootE a)) → anyT a l = (subsL l).any (rootE a) := by
      intro l
      induction l with
      | nil => intro _; rfl
      | cons x r ihr => intro h; simp [anyT, subsL, h x (by simp), ihr (fun k hk => h k (by simp [hk]))]
    simp only [embT, subs, List.any_cons, rootE, V.n_mk, V.ks_mk]
    rw [h1 ks ih]
/-- where a node's tree can go with its root: the numbers -/
def toP (a b : V) (i : Nat) : List Nat := (List.range b.size).filter fun j => match (subs a)[i]?, (subs b)[j]? with | some x, some y => rootE x y | _, _ => false
theorem toP_mem {a b : V} {i j : Nat} (hi : i < (subs a).length) (hj : j < (subs b).length) : j ∈ toP a b i ↔ rootE (subs a)[i] (subs b)[j] = true := by
  unfold toP
  rw [List.mem_filter, List.getElem?_eq_getElem hi, List.getElem?_eq_getElem hj]
  simp only [List.mem_range]
  rw [subs_length] at hj
  exact ⟨fun h => h.2, fun h => ⟨hj, h⟩⟩
theorem toP_lt {a b : V} {i j : Nat} (h : j ∈ toP a b i) : j < b.size := by
  unfold toP at h
  simpa using (List.mem_filter.1 h).1
/-- into: the first number in the subtree of j -/
def intoP (a b : V) (i j : Nat) : Int := match (subs b)[j]? with
  | some y => match (toP a b i).find? fun q => decide (j ≤ q) && decide (q < j + y.size) with | some q => (q : Int) | none => -1
  | none => -1
theorem into_iff {a b : V} {i j : Nat} (hi : i < (subs a).length) (hj : j < (subs b).length) : decide (0 ≤ intoP a b i j) = embT (subs a)[i] (subs b)[j] := by
  unfold intoP
  rw [List.getElem?_eq_getElem hj]
  simp only
  rw [embT_subs, Bool.eq_iff_iff, decide_eq_true_eq, List.any_eq_true]
  have hle := end_le hj
  constructor
  · rcases hf : (toP a b i).find? fun q => decide (j ≤ q) && decide (q < j + (subs b)[j].size) with _ | q
    · simp
    · intro _
      have h1 := List.find?_some hf
      have h2 := List.mem_of_find?_eq_some hf
      simp only [Bool.and_eq_true, decide_eq_true_eq] at h1
      have hq : q < (subs b).length := by rw [subs_length]; exact toP_lt h2
      have h3 := (toP_mem hi hq).1 h2
      have h4 := sub_get hj (q := q - j) (by omega)
      rw [show j + (q - j) = q by omega, List.getElem?_eq_getElem hq] at h4
      exact ⟨_, List.mem_of_getElem? h4.symm, h3⟩
  · rintro ⟨x, hx, hr⟩
    obtain ⟨q, hq, rfl⟩ := List.getElem_of_mem hx
    have hq' : q < (subs b)[j].size := by rwa [subs_length] at hq
    have h4 := sub_get hj hq'
    rw [List.getElem?_eq_getElem hq] at h4
    have hjq : j + q < (subs b).length := by rw [subs_length]; omega
    rw [List.getElem?_eq_getElem hjq] at h4
    have hmem : j + q ∈ toP a b i := (toP_mem hi hjq).2 (by rw [Option.some.inj h4]; exact hr)
    rcases hf : (toP a b i).find? fun q => decide (j ≤ q) && decide (q < j + (subs b)[j].size) with _ | q2
    · have := List.find?_eq_none.1 hf _ hmem
      simp at this; omega
    · simp
end Go.Proofs.YtlmnkcfnihhlgaaGreatDoor
