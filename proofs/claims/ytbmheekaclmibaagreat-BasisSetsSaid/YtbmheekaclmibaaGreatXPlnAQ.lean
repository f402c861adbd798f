/- Part of a proof of basisSets_holds. -/
import Derived.Lib.Hide
namespace Go.Proofs.YtbmheekaclmibaaGreat
set_option linter.unusedSimpArgs false
set_option linter.unusedVariables false
inductive V where | mk (n : Int) (ks : List V)
def V.n : V → Int | .mk n _ => n
def V.ks : V → List V | .mk _ k => k
@[simp] theorem V.n_mk (n : Int) (ks : List V) : (V.mk n ks).n = n := rfl
@[simp] theorem V.ks_mk (n : Int) (ks : List V) : (V.mk n ks).ks = ks := rfl
theorem V.eta (v : V) : V.mk v.n v.ks = v := by cases v; rfl
instance : Inhabited V := ⟨.mk 0 []⟩
theorem V.ind {P : V → Prop} (h : ∀ n ks, (∀ k ∈ ks, P k) → P (.mk n ks)) : ∀ v, P v
 | .mk n ks => h n ks fun k hk => V.ind h k
termination_by v => SizeOf.sizeOf v
decreasing_by have := List.sizeOf_lt_of_mem hk; simp; omega

mutual
def V.size : V → Nat | .mk _ ks => 1 + sizeL ks
def sizeL : List V → Nat | [] => 0 | v :: r => v.size + sizeL r
end
theorem V.size_pos (v : V) : 1 ≤ v.size := by cases v; simp [V.size]
theorem V.size_eq (v : V) : v.size = 1 + sizeL v.ks := by cases v; simp [V.size]
theorem sizeL_append (a b : List V) : sizeL (a ++ b) = sizeL a + sizeL b := by
 induction a with
 | nil => simp [sizeL]
 | cons x r ih => simp [sizeL, ih]; omega
theorem sizeL_mem {v : V} {l : List V} (h : v ∈ l) : v.size ≤ sizeL l := by
 induction l with
 | nil => simp at h
 | cons x r ih =>
   rcases List.mem_cons.1 h with rfl | h
   · simp [sizeL]
   · have := ih h; simp [sizeL]; omega
theorem sizeL_length (l : List V) : l.length ≤ sizeL l := by
 induction l with
 | nil => simp [sizeL]
 | cons x r ih => have := x.size_pos; simp [sizeL]; omega
theorem sizeL_take_le (l : List V) (k : Nat) : sizeL (l.take k) ≤ sizeL l := by
 have := sizeL_append (l.take k) (l.drop k)
 rw [List.take_append_drop] at this; omega
theorem sizeL_snoc {l : List V} {k : Nat} (h : k < l.length) : sizeL (l.take (k + 1)) = sizeL (l.take k) + l[k].size := by
 rw [List.take_succ_eq_append_getElem h, sizeL_append]; simp [sizeL]
theorem V.size_kid {v k : V} (h : k ∈ v.ks) : k.size < v.size := by
 have := sizeL_mem h; rw [v.size_eq]; omega

mutual
def cmpV : V → V → Int
 | .mk n ks, .mk m js => if n < m then -1 else if m < n then 1 else if ks.length < js.length then -1 else if js.length < ks.length then 1 else cmpL ks js
def cmpL : List V → List V → Int
 | [], [] => 0
 | [], _ :: _ => -1
 | _ :: _, [] => 1
 | a :: r, b :: q => if cmpV a b = 0 then cmpL r q else cmpV a b
end
theorem cmp_range (v : V) : ∀ u, cmpV v u = -1 ∨ cmpV v u = 0 ∨ cmpV v u = 1 := by
 induction v using V.ind with
 | h n ks ih =>
   have hl : ∀ js, cmpL ks js = -1 ∨ cmpL ks js = 0 ∨ cmpL ks js = 1 := by
     induction ks with
     | nil => intro js; cases js <;> simp [cmpL]
     | cons x r ihr =>
       intro js
       cases js with
       | nil => simp [cmpL]
       | cons y q =>
         simp only [cmpL]
         split
         · exact ihr (fun k hk => ih k (by simp [hk])) q
         · exact ih x (by simp) y
   intro u
   cases u with
   | mk m js =>
     simp only [cmpV]
     repeat' split
     all_goals (try simp)
     exact hl js
theorem cmp_zero (v : V) : ∀ u, cmpV v u = 0 → v = u := by
 induction v using V.ind with
 | h n ks ih =>
   have hl : ∀ js, cmpL ks js = 0 → ks = js := by
     induction ks with
     | nil => intro js; cases js <;> simp [cmpL]
     | cons x r ihr =>
       intro js
       cases js with
       | nil => simp [cmpL]
       | cons y q =>
         simp only [cmpL]
         split
         · intro h
           rename_i h0
           rw [ih x (by simp) y h0, ihr (fun k hk => ih k (by simp [hk])) q h]
         · intro h; rename_i h0; exact absurd h h0
   intro u
   cases u with
   | mk m js =>
     simp only [cmpV]
     repeat' split
     all_goals (try simp)
     intro h
     exact ⟨by omega, hl js h⟩
theorem cmp_anti (v : V) : ∀ u, cmpV u v = - cmpV v u := by
 induction v using V.ind with
 | h n ks ih =>
   have hl : ∀ js, cmpL js ks = - cmpL ks js := by
     induction ks with
     | nil => intro js; cases js <;> simp [cmpL]
     | cons x r ihr =>
       intro js
       cases js with
       | nil => simp [cmpL]
       | cons y q =>
         simp only [cmpL]
         rw [ih x (by simp) y, ihr (fun k hk => ih k (by simp [hk])) q]
         by_cases h0 : cmpV x y = 0
         · rw [if_pos (by omega), if_pos h0]
         · rw [if_neg (by omega), if_neg h0]
   intro u
   cases u with
   | mk m js =>
     simp only [cmpV]
     repeat' split
     all_goals first | omega | (simp; done) | exact hl js
theorem cmp_self (v : V) : cmpV v v = 0 := by have := cmp_anti v v; omega
theorem cmp_eq {v u : V} : cmpV v u = 0 ↔ v = u := ⟨cmp_zero v u, fun h => by rw [h, cmp_self]⟩
theorem cmp_trans (v : V) : ∀ u x, cmpV v u = -1 → cmpV u x = -1 → cmpV v x = -1 := by
 induction v using V.ind with
 | h n ks ih =>
   have hl : ∀ js xs, ks.length = js.length → js.length = xs.length → cmpL ks js = -1 → cmpL js xs = -1 → cmpL ks xs = -1 := by
     induction ks with
     | nil => intro js xs e1 e2; cases js <;> simp [cmpL] at e1 ⊢
     | cons x r ihr =>
       intro js xs e1 e2
       cases js with
       | nil => simp at e1
       | cons y q =>
         cases xs with
         | nil => simp at e2
         | cons z t =>
           simp only [cmpL]
           have ih1 := ihr (fun k hk => ih k (by simp [hk])) q t (by simpa using e1) (by simpa using e2)
           by_cases h1 : cmpV x y = 0
           · obtain rfl := cmp_zero _ _ h1
             rw [if_pos h1]
             by_cases h2 : cmpV x z = 0
             · rw [if_pos h2, if_pos h2]; exact ih1
             · rw [if_neg h2, if_neg h2]; exact fun _ h => h
           · rw [if_neg h1]
             intro h3
             by_cases h2 : cmpV y z = 0
             · obtain rfl := cmp_zero _ _ h2
               rw [if_neg h1]; exact fun _ => h3
             · rw [if_neg h2]
               intro h4
               have h5 := ih x (by simp) y z h3 h4
               rw [if_neg (by omega)]; exact h5
   intro u x
   cases u with
   | mk m js =>
     cases x with
     | mk p xs =>
       simp only [cmpV]
       intro h1 h2
       have g1 : n < m ∨ (n = m ∧ (ks.length < js.length ∨ (ks.length = js.length ∧ cmpL ks js = -1))) := by
         repeat' split at h1
         all_goals (first | (left; assumption) | (right; omega) | omega)
       have g2 : m < p ∨ (m = p ∧ (js.length < xs.length ∨ (js.length = xs.length ∧ cmpL js xs = -1))) := by
         repeat' split at h2
         all_goals (first | (left; assumption) | (right; omega) | omega)
       rcases g1 with g1 | ⟨g1, g1'⟩
       · rw [if_pos (by omega)]
       · rcases g2 with g2 | ⟨g2, g2'⟩
         · rw [if_pos (by omega)]
         · rw [if_neg (by omega), if_neg (by omega)]
           rcases g1' with g1' | ⟨e1, c1⟩
           · rw [if_pos (by omega)]
           · rcases g2' with g2' | ⟨e2, c2⟩
             · rw [if_pos (by omega)]
             · rw [if_neg (by omega), if_neg (by omega)]
               exact hl js xs e1 e2 c1 c2
instance : DecidableEq V := fun a b => decidable_of_iff (cmpV a b = 0) cmp_eq
def Asc : List V → Prop
 | [] => True
 | a :: r => (∀ b ∈ r, cmpV a b = -1) ∧ Asc r
theorem Asc.ext : ∀ {a b : List V}, Asc a → Asc b → (∀ x, x ∈ a ↔ x ∈ b) → a = b := by
 intro a
 induction a with
 | nil =>
   intro b _ _ h
   cases b with
   | nil => rfl
   | cons y q => exact absurd ((h y).2 (by simp)) (by simp)
 | cons x r ih =>
   intro b h1 h2 h
   cases b with
   | nil => exact absurd ((h x).1 (by simp)) (by simp)
   | cons y q =>
     have e : x = y := by
       rcases List.mem_cons.1 ((h x).1 (by simp)) with e | e
       · exact e
       · rcases List.mem_cons.1 ((h y).2 (by simp)) with e' | e'
         · exact e'.symm
         · have c1 := h2.1 x e
           have c2 := h1.1 y e'
           rw [cmp_anti] at c1; omega
     subst e
     congr 1
     refine ih h1.2 h2.2 (fun z => ⟨fun hz => ?_, fun hz => ?_⟩)
     · rcases List.mem_cons.1 ((h z).1 (by simp [hz])) with e | e
       · subst e; have := h1.1 z hz; rw [cmp_self] at this; omega
       · exact e
     · rcases List.mem_cons.1 ((h z).2 (by simp [hz])) with e | e
       · subst e; have := h2.1 z hz; rw [cmp_self] at this; omega
       · exact e
inductive All2 {α β : Type} (R : α → β → Prop) : List α → List β → Prop
 | nil : All2 R [] []
 | cons {a b as bs} : R a b → All2 R as bs → All2 R (a :: as) (b :: bs)
theorem All2.length_eq {α β : Type} {R : α → β → Prop} {as : List α} {bs : List β} (h : All2 R as bs) : as.length = bs.length := by
 induction h with
 | nil => rfl
 | cons _ _ ih => simp [ih]
theorem All2.trans {α : Type} {R : α → α → Prop} {as bs : List α} (h : All2 R as bs) : ∀ {cs}, All2 R bs cs → (∀ a b c, a ∈ as → b ∈ bs → c ∈ cs → R a b → R b c → R a c) → All2 R as cs := by
 induction h with
 | nil => intro cs h _; cases h; exact .nil
 | cons h1 _ ih =>
   intro cs h2 t
   cases h2 with
   | cons h3 h4 => exact .cons (t _ _ _ (by simp) (by simp) (by simp) h1 h3) (ih h4 fun a b c ha hb hc => t a b c (by simp [ha]) (by simp [hb]) (by simp [hc]))
theorem All2.refl_ {α : Type} {R : α → α → Prop} : ∀ {as : List α}, (∀ a ∈ as, R a a) → All2 R as as
 | [], _ => .nil
 | a :: as, h => .cons (h a (by simp)) (All2.refl_ fun b hb => h b (by simp [hb]))
theorem All2.append_inv {α β : Type} {R : α → β → Prop} : ∀ {a1 a2 : List α} {bs : List β}, All2 R (a1 ++ a2) bs → ∃ b1 b2, bs = b1 ++ b2 ∧ All2 R a1 b1 ∧ All2 R a2 b2
 | [], _, bs, h => ⟨[], bs, rfl, .nil, h⟩
 | a :: a1, a2, _, .cons h1 h2 => by
   obtain ⟨b1, b2, rfl, h3, h4⟩ := All2.append_inv h2
   exact ⟨_ :: b1, b2, rfl, .cons h1 h3, h4⟩
theorem All2.perm {α β : Type} {R : α → β → Prop} {as as' : List α} (hp : as.Perm as') : ∀ {bs : List β}, All2 R as bs → ∃ bs', bs.Perm bs' ∧ All2 R as' bs' := by
 induction hp with
 | nil => intro bs h; exact ⟨bs, List.Perm.refl _, h⟩
 | cons x _ ih =>
   intro bs h
   cases h with
   | cons h1 h2 =>
     obtain ⟨bs', hp, h3⟩ := ih h2
     exact ⟨_ :: bs', hp.cons _, .cons h1 h3⟩
 | swap x y l =>
   intro bs h
   cases h with
   | cons h1 h2 =>
     cases h2 with
     | cons h3 h4 => exact ⟨_, List.Perm.swap _ _ _, .cons h3 (.cons h1 h4)⟩
 | trans _ _ ih1 ih2 =>
   intro bs h
   obtain ⟨b1, p1, h1⟩ := ih1 h
   obtain ⟨b2, p2, h2⟩ := ih2 h1
   exact ⟨b2, p1.trans p2, h2⟩

inductive Emb {α : Type} (R : α → α → Prop) : List α → List α → Prop
 | nil {bs} : Emb R [] bs
 | cons {a b as bs} : R a b → Emb R as bs → Emb R (a :: as) (b :: bs)
 | skip {b as bs} : Emb R as bs → Emb R as (b :: bs)
theorem Emb.tail {α : Type} {R : α → α → Prop} {a : α} {as bs : List α} (h : Emb R (a :: as) bs) : Emb R as bs := by
 generalize hx : a :: as = x at h
 induction h generalizing a as with
 | nil => cases hx
 | cons h1 h2 _ => injection hx with e1 e2; subst e1 e2; exact .skip h2
 | skip h ih => subst hx; exact .skip (ih rfl)
theorem Emb.refl_ {α : Type} {R : α → α → Prop} : ∀ {as : List α}, (∀ a ∈ as, R a a) → Emb R as as
 | [], _ => .nil
 | a :: as, h => .cons (h a (by simp)) (Emb.refl_ fun b hb => h b (by simp [hb]))
theorem Emb.trans {α : Type} {R : α → α → Prop} {bs cs : List α} (h2 : Emb R bs cs) : ∀ {as}, Emb R as bs → (∀ a b c, a ∈ as → b ∈ bs → c ∈ cs → R a b → R b c → R a c) → Emb R as cs := by
 induction h2 with
 | nil =>
   intro as h1 _
   cases h1
   exact .nil
 | cons h3 h4 ih =>
   intro as h1 t
   cases h1 with
   | nil => exact .nil
   | cons h5 h6 => exact .cons (t _ _ _ (by simp) (by simp) (by simp) h5 h3) (ih h6 fun a b c ha hb hc => t a b c (by simp [ha]) (by simp [hb]) (by simp [hc]))
   | skip h6 => exact .skip (ih h6 fun a b c ha hb hc => t a b c ha (by simp [hb]) (by simp [hc]))
 | skip h4 ih => intro as h1 t; exact .skip (ih h1 fun a b c ha hb hc => t a b c ha hb (by simp [hc]))
theorem Emb.mem {α : Type} {R : α → α → Prop} {as bs : List α} (h : Emb R as bs) : ∀ a ∈ as, ∃ b ∈ bs, R a b := by
 induction h with
 | nil => intro a h; cases h
 | cons h1 _ ih =>
   intro a ha
   rcases List.mem_cons.1 ha with rfl | ha
   · exact ⟨_, by simp, h1⟩
   · obtain ⟨b, hb, hr⟩ := ih a ha; exact ⟨b, by simp [hb], hr⟩
 | skip _ ih => intro a ha; obtain ⟨b, hb, hr⟩ := ih a ha; exact ⟨b, by simp [hb], hr⟩
def embG {α : Type} (f : α → α → Bool) : List α → List α → Bool
 | [], _ => true
 | _ :: _, [] => false
 | a :: as, b :: bs => if f a b then embG f as bs else embG f (a :: as) bs
theorem embG_iff {α : Type} (f : α → α → Bool) : ∀ (bs as : List α), embG f as bs = true ↔ Emb (fun a b => f a b = true) as bs
 | bs, [] => by simp [embG]; exact .nil
 | [], a :: as => by simp [embG]; intro h; cases h
 | b :: bs, a :: as => by
   simp only [embG]
   by_cases h : f a b = true
   · rw [if_pos h, embG_iff f bs as]
     exact ⟨fun h1 => .cons h h1, fun h1 => by
       cases h1 with
       | cons _ h2 => exact h2
       | skip h2 => exact h2.tail⟩
   · rw [if_neg h, embG_iff f bs (a :: as)]
     exact ⟨fun h1 => .skip h1, fun h1 => by
       cases h1 with
       | cons h2 _ => exact absurd h2 h
       | skip h2 => exact h2⟩
theorem Emb.sum {α : Type} {R : α → α → Prop} (μ : α → Nat) {as bs : List α} (h : Emb R as bs) (hR : ∀ a b, a ∈ as → b ∈ bs → R a b → μ a ≤ μ b ∧ (μ a = μ b → a = b)) :
   (as.map fun a => 1 + μ a).sum ≤ (bs.map fun a => 1 + μ a).sum ∧ ((as.map fun a => 1 + μ a).sum = (bs.map fun a => 1 + μ a).sum → as = bs) := by
 induction h with
 | @nil bs =>
   refine ⟨by simp, ?_⟩
   cases bs with
   | nil => simp
   | cons b bs => simp; omega
 | @cons a b as bs h1 _ ih =>
   have ih := ih (fun a b ha hb => hR a b (by simp [ha]) (by simp [hb]))
   have h2 := hR a b (by simp) (by simp) h1
   simp only [List.map_cons, List.sum_cons]
   refine ⟨by omega, fun e => ?_⟩
   rw [h2.2 (by omega), ih.2 (by omega)]
 | @skip b as bs h ih =>
   have ih := ih (fun a b ha hb => hR a b ha (by simp [hb]))
   simp only [List.map_cons, List.sum_cons]
   exact ⟨by omega, fun e => by omega⟩

def domG {α : Type} (f : α → α → Bool) : List α → List α → Bool
 | [], _ => true
 | a :: as, bs => (List.range bs.length).any fun i => (match bs[i]? with | some b => f a b | none => false) && domG f as (bs.eraseIdx i)
def Dom {α : Type} (R : α → α → Prop) (as bs : List α) : Prop := ∃ b1 b2, All2 R as b1 ∧ bs.Perm (b1 ++ b2)
theorem perm_eraseIdx {α : Type} : ∀ {l : List α} {i : Nat} (h : i < l.length), l.Perm (l[i] :: l.eraseIdx i)
 | a :: l, 0, _ => List.Perm.refl _
 | a :: l, i + 1, h => by
   have h' : i < l.length := by simpa using h
   have := perm_eraseIdx h'
   simp only [List.getElem_cons_succ, List.eraseIdx_cons_succ]
   exact (this.cons a).trans (List.Perm.swap _ _ _)
theorem domG_iff {α : Type} [DecidableEq α] (f : α → α → Bool) : ∀ (as bs : List α), domG f as bs = true ↔ Dom (fun a b => f a b = true) as bs
 | [], bs => by simp [domG]; exact ⟨[], bs, .nil, List.Perm.refl _⟩
 | a :: as, bs => by
   simp only [domG, List.any_eq_true, List.mem_range, Bool.and_eq_true]
   constructor
   · rintro ⟨i, hi, h1, h2⟩
     rw [List.getElem?_eq_getElem hi] at h1
     obtain ⟨b1, b2, h3, h4⟩ := (domG_iff f as _).1 h2
     exact ⟨bs[i] :: b1, b2, .cons h1 h3, (perm_eraseIdx hi).trans (h4.cons _)⟩
   · rintro ⟨b1, b2, h1, h2⟩
     cases h1 with
     | @cons _ b _ b1 h1 h3 =>
       have hm : b ∈ bs := h2.symm.subset (by simp)
       obtain ⟨i, hi, e⟩ := List.getElem_of_mem hm
       refine ⟨i, hi, by rw [List.getElem?_eq_getElem hi, e]; exact h1, (domG_iff f as _).2 ⟨b1, b2, h3, ?_⟩⟩
       have h4 := (perm_eraseIdx hi).symm.trans h2
       rw [e] at h4
       exact (List.perm_cons b).1 h4
theorem Dom.refl_ {α : Type} {R : α → α → Prop} {as : List α} (h : ∀ a ∈ as, R a a) : Dom R as as := ⟨as, [], All2.refl_ h, by simp⟩
theorem Dom.trans {α : Type} {R : α → α → Prop} {as bs cs : List α} (h1 : Dom R as bs) (h2 : Dom R bs cs) (t : ∀ a b c, a ∈ as → b ∈ bs → c ∈ cs → R a b → R b c → R a c) : Dom R as cs := by
 obtain ⟨b1, b2, h3, p1⟩ := h1
 obtain ⟨c1, c2, h4, p2⟩ := h2
 obtain ⟨c1', p3, h5⟩ := h4.perm p1
 obtain ⟨d1, d2, rfl, h6, h7⟩ := h5.append_inv
 have p4 : cs.Perm (d1 ++ (d2 ++ c2)) := by
   have := p2.trans (p3.append_right c2)
   rwa [List.append_assoc] at this
 exact ⟨d1, d2 ++ c2, h3.trans h6 fun a b c ha hb hc => t a b c ha (p1.symm.subset (by simp [hb])) (p4.symm.subset (by simp [hc])), p4⟩
theorem All2.sum {α : Type} {R : α → α → Prop} (μ : α → Nat) {as bs : List α} (h : All2 R as bs) (hR : ∀ a b, a ∈ as → b ∈ bs → R a b → μ a ≤ μ b ∧ (μ a = μ b → a = b)) :
   (as.map fun a => 1 + μ a).sum ≤ (bs.map fun a => 1 + μ a).sum ∧ ((as.map fun a => 1 + μ a).sum = (bs.map fun a => 1 + μ a).sum → as = bs) := by
 induction h with
 | nil => simp
 | @cons a b as bs h1 _ ih =>
   have ih := ih (fun a b ha hb => hR a b (by simp [ha]) (by simp [hb]))
   have h2 := hR a b (by simp) (by simp) h1
   simp only [List.map_cons, List.sum_cons]
   refine ⟨by omega, fun e => ?_⟩
   rw [h2.2 (by omega), ih.2 (by omega)]
theorem Dom.sum {α : Type} {R : α → α → Prop} (μ : α → Nat) {as bs : List α} (h : Dom R as bs) (hR : ∀ a b, a ∈ as → b ∈ bs → R a b → μ a ≤ μ b ∧ (μ a = μ b → a = b)) :
   (as.map fun a => 1 + μ a).sum ≤ (bs.map fun a => 1 + μ a).sum ∧ ((as.map fun a => 1 + μ a).sum = (bs.map fun a => 1 + μ a).sum → as.Perm bs) := by
 obtain ⟨b1, b2, h1, p⟩ := h
 have h2 := h1.sum μ (fun a b ha hb => hR a b ha (p.symm.subset (by simp [hb])))
 have h3 : (bs.map fun a => 1 + μ a).sum = ((b1 ++ b2).map fun a => 1 + μ a).sum := (p.map _).sum_nat
 rw [List.map_append, List.sum_append] at h3
 refine ⟨by omega, fun e => ?_⟩
 have h4 : b2 = [] := by
   cases b2 with
   | nil => rfl
   | cons x r => simp at h3; omega
 subst h4
 rw [h2.2 (by omega)]
 simpa using p.symm

/- trees -/
mutual
def embT : V → V → Bool
 | a, .mk y bs => (a.n == y && subT a.ks bs) || anyT a bs
def subT : List V → List V → Bool
 | as, [] => as.isEmpty
 | as, b :: bs => match as with
   | [] => true
   | a :: as' => if embT a b then subT as' bs else subT (a :: as') bs
def anyT : V → List V → Bool
 | _, [] => false
 | a, b :: bs => embT a b || anyT a bs
end
theorem subT_eq : ∀ (bs as : List V), subT as bs = embG embT as bs
 | [], [] => rfl
 | [], _ :: _ => rfl
 | _ :: _, [] => rfl
 | b :: bs, a :: as => by
   simp only [subT, embG]
   rw [subT_eq bs as, subT_eq bs (a :: as)]
theorem anyT_eq (a : V) : ∀ bs, anyT a bs = bs.any (embT a)
 | [] => rfl
 | b :: bs => by simp [anyT, anyT_eq a bs]
theorem embT_iff (a b : V) : embT a b = true ↔ (a.n = b.n ∧ Emb (fun a b => embT a b = true) a.ks b.ks) ∨ ∃ k ∈ b.ks, embT a k = true := by
 cases b with
 | mk y bs => simp [embT, anyT_eq, subT_eq, embG_iff]
theorem embT_trans (n : Nat) : ∀ c b a : V, c.size + b.size ≤ n → embT a b = true → embT b c = true → embT a c = true := by
 induction n with
 | zero => intro c b a h; have := c.size_pos; omega
 | succ n ih =>
   intro c b a hn h1 h2
   rw [embT_iff] at h2 ⊢
   rcases h2 with ⟨e, h2⟩ | ⟨k, hk, h2⟩
   · rw [embT_iff] at h1
     rcases h1 with ⟨e', h1⟩ | ⟨k, hk, h1⟩
     · refine .inl ⟨e'.trans e, h2.trans h1 fun x y z hx hy hz => ih z y x (by have := V.size_kid hz; have := V.size_kid hy; omega)⟩
     · obtain ⟨z, hz, hr⟩ := h2.mem k hk
       exact .inr ⟨z, hz, ih z k a (by have := V.size_kid hz; have := V.size_kid hk; omega) h1 hr⟩
   · exact .inr ⟨k, hk, ih k b a (by have := V.size_kid hk; omega) h1 h2⟩
theorem embT_refl (a : V) : embT a a = true := by
 induction a using V.ind with
 | h n ks ih => exact (embT_iff _ _).2 (.inl ⟨rfl, Emb.refl_ ih⟩)
theorem sizeL_sum (l : List V) : (l.map fun a => 1 + (a.size - 1)).sum = sizeL l := by
 induction l with
 | nil => rfl
 | cons x r ih => have := x.size_pos; simp only [List.map_cons, List.sum_cons, sizeL, ih]; omega
theorem embT_size (b : V) : ∀ a : V, embT a b = true → a.size - 1 ≤ b.size - 1 ∧ (a.size - 1 = b.size - 1 → a = b) := by
 induction b using V.ind with
 | h n ks ih =>
   intro a h
   rw [embT_iff] at h
   rcases h with ⟨e, h⟩ | ⟨k, hk, h⟩
   · have := h.sum (fun v => v.size - 1) (fun a b _ hb => ih b hb a)
     rw [sizeL_sum, sizeL_sum] at this
     simp only [V.ks_mk] at this
     rw [a.size_eq]
     simp only [V.size]
     refine ⟨by omega, fun e' => ?_⟩
     have e2 := this.2 (by omega)
     rw [← a.eta, e, e2]; rfl
   · have h2 := (ih k hk a h).1
     have h3 : k.size < (V.mk n ks).size := V.size_kid hk
     have := k.size_pos; have := a.size_pos
     exact ⟨by omega, fun e => by omega⟩

/- words with ranks: a letter may be dropped ahead of one of at least its rank -/
inductive PLe (r : Int → Int) : List Int → List Int → Prop
 | nil : PLe r [] []
 | keep {x a b} : PLe r a b → PLe r (x :: a) (x :: b)
 | skip {x y a b} : PLe r (x :: a) b → r y ≤ r x → PLe r (x :: a) (y :: b)
theorem PLe.refl_ (r : Int → Int) : ∀ a, PLe r a a
 | [] => .nil
 | x :: a => .keep (PLe.refl_ r a)
theorem PLe.len {r : Int → Int} {a b : List Int} (h : PLe r a b) : a.length ≤ b.length ∧ (a.length = b.length → a = b) := by
 induction h with
 | nil => simp
 | keep _ ih => refine ⟨by simp; exact ih.1, fun e => ?_⟩; rw [ih.2 (by simpa using e)]
 | skip _ _ ih => refine ⟨by have := ih.1; simp at this ⊢; omega, fun e => ?_⟩; have := ih.1; simp at this e; omega
theorem PLe.trans {r : Int → Int} {b c : List Int} (h2 : PLe r b c) : ∀ {a}, PLe r a b → PLe r a c := by
 induction h2 with
 | nil => intro a h; cases h; exact .nil
 | keep h ih =>
   intro a h1
   cases h1 with
   | keep h3 => exact .keep (ih h3)
   | skip h3 h4 => exact .skip (ih h3) h4
 | @skip x y b c h h4 ih =>
   intro a h1
   have h5 := ih h1
   cases h1 with
   | keep h3 => exact .skip h5 h4
   | skip h3 h6 => exact .skip h5 (by omega)
def pleB (r : Int → Int) : List Int → List Int → Bool
 | [], b => b.isEmpty
 | _ :: _, [] => false
 | x :: a, y :: b => (x == y && pleB r a b) || (decide (r y ≤ r x) && pleB r (x :: a) b)
theorem pleB_iff (r : Int → Int) : ∀ b a, pleB r a b = true ↔ PLe r a b
 | [], [] => by simp [pleB]; exact .nil
 | _ :: _, [] => by simp [pleB]; intro h; cases h
 | [], _ :: _ => by simp [pleB]; intro h; cases h
 | y :: b, x :: a => by
   simp only [pleB, Bool.or_eq_true, Bool.and_eq_true, beq_iff_eq, decide_eq_true_eq, pleB_iff r b a, pleB_iff r b (x :: a)]
   constructor
   · rintro (⟨rfl, h⟩ | ⟨h1, h2⟩)
     · exact .keep h
     · exact .skip h2 h1
   · intro h
     cases h with
     | keep h => exact .inl ⟨rfl, h⟩
     | skip h1 h2 => exact .inr ⟨h2, h1⟩
inductive T where | mk (kind size : Int) (ranks : List Int) (parts : List T)
instance : Inhabited T := ⟨.mk 0 0 [] []⟩
def T.kind : T → Int | .mk k _ _ _ => k
def T.size : T → Int | .mk _ s _ _ => s
def T.ranks : T → List Int | .mk _ _ r _ => r
def T.parts : T → List T | .mk _ _ _ p => p
def T.p0 (t : T) : T := t.parts.headD default
@[simp] theorem T.kind_mk (k s : Int) (r : List Int) (p : List T) : (T.mk k s r p).kind = k := rfl
@[simp] theorem T.size_mk (k s : Int) (r : List Int) (p : List T) : (T.mk k s r p).size = s := rfl
@[simp] theorem T.ranks_mk (k s : Int) (r : List Int) (p : List T) : (T.mk k s r p).ranks = r := rfl
@[simp] theorem T.parts_mk (k s : Int) (r : List Int) (p : List T) : (T.mk k s r p).parts = p := rfl

def rankedP (r : List Int) : Bool := decide (1 ≤ r.length) && decide (r.length ≤ 6) && r.all fun x => decide (0 ≤ x) && decide (x < 6)
def rightP : Nat → T → Bool
 | 0, _ => false
 | d + 1, t => !(decide (0 < t.ranks.length) && !(t.kind == 7)) &&
   (if t.kind = 1 then t.parts.isEmpty && t.size == 0
    else if t.kind = 2 ∨ t.kind = 6 then t.parts.isEmpty && decide (1 ≤ t.size) && decide (t.size ≤ 16)
    else if t.kind = 7 then t.parts.isEmpty && t.size == t.ranks.length && rankedP t.ranks
    else if t.kind = 3 then t.size == 0 && !t.parts.isEmpty && decide (t.parts.length ≤ 8) && t.parts.all (rightP d)
    else if t.kind = 4 ∨ t.kind = 5 then t.size == 0 && t.parts.length == 1 && t.parts.all (rightP d)
    else false)
def labelP (s : Int) (v : V) : Bool := decide (0 ≤ v.n) && decide (v.n < s) && v.ks.isEmpty
mutual
def taggedP (s : Int) : V → Bool | .mk n ks => decide (0 ≤ n) && decide (n < s) && taggedL s ks
def taggedL (s : Int) : List V → Bool | [] => true | v :: r => taggedP s v && taggedL s r
end
theorem taggedL_eq (s : Int) : ∀ l, taggedL s l = l.all (taggedP s)
 | [] => rfl
 | v :: r => by simp [taggedL, taggedL_eq s r]
theorem taggedP_eq (s : Int) (v : V) : taggedP s v = (decide (0 ≤ v.n) && decide (v.n < s) && v.ks.all (taggedP s)) := by
 cases v; rw [taggedP, taggedL_eq]; rfl
def oneZ (f : T → V → Bool) : List T → List V → Bool
 | [], [] => true
 | p :: ps, v :: vs => f p v && oneZ f ps vs
 | _, _ => false
def sortedB : List V → Bool
 | [] => true
 | a :: r => (match r with | [] => true | b :: _ => decide (0 ≤ cmpV b a)) && sortedB r
def oneP : Nat → T → V → Bool
 | 0, _, _ => false
 | d + 1, t, v =>
   if t.kind = 1 then decide (0 ≤ v.n) && decide (v.n ≤ 1048576) && v.ks.isEmpty
   else if t.kind = 2 then labelP t.size v
   else if t.kind = 3 then v.n == 0 && v.ks.length == t.parts.length && oneZ (oneP d) t.parts v.ks
   else if t.kind = 4 then v.n == 0 && decide (v.ks.length ≤ 12) && v.ks.all (oneP d t.p0)
   else if t.kind = 5 then v.n == 0 && decide (v.ks.length ≤ 12) && v.ks.all (oneP d t.p0) && sortedB v.ks
   else if t.kind = 6 then decide (v.size ≤ 12) && taggedP t.size v
   else v.n == 0 && decide (v.ks.length ≤ 12) && v.ks.all (labelP t.size)
def validP (t : T) (v : V) : Bool := rightP 8 t && decide (v.size ≤ 128) && oneP 8 t v
def belZ (f : T → V → V → Bool) : List T → List V → List V → Bool
 | [], _, _ => true
 | p :: ps, a :: as, b :: bs => f p a b && belZ f ps as bs
 | _ :: _, _, _ => false
def rankAt (r : List Int) (x : Int) : Int := r.getD x.toNat 0
def belowP : Nat → T → V → V → Bool
 | 0, _, _, _ => false
 | d + 1, t, a, b =>
   if t.kind = 1 then decide (a.n ≤ b.n)
   else if t.kind = 2 then a.n == b.n
   else if t.kind = 3 then belZ (belowP d) t.parts a.ks b.ks
   else if t.kind = 4 then embG (belowP d t.p0) a.ks b.ks
   else if t.kind = 5 then domG (belowP d t.p0) a.ks b.ks
   else if t.kind = 6 then embT a b
   else pleB (rankAt t.ranks) (a.ks.map V.n) (b.ks.map V.n)

theorem oneZ_length {f : T → V → Bool} : ∀ {ps : List T} {vs : List V}, oneZ f ps vs = true → ps.length = vs.length
 | [], [], _ => rfl
 | _ :: ps, _ :: vs, h => by simp only [oneZ, Bool.and_eq_true] at h; simp [oneZ_length h.2]
 | [], _ :: _, h => by simp [oneZ] at h
 | _ :: _, [], h => by simp [oneZ] at h
theorem sorted_pair : ∀ {l : List V}, sortedB l = true → l.Pairwise fun a b => cmpV a b ≤ 0
 | [], _ => .nil
 | [a], _ => by simp
 | a :: b :: r, h => by
   simp only [sortedB, Bool.and_eq_true, decide_eq_true_eq] at h
   have ih := sorted_pair (l := b :: r) (by simp only [sortedB, Bool.and_eq_true]; exact h.2)
   refine .cons (fun c hc => ?_) ih
   have h1 : cmpV a b ≤ 0 := by have := cmp_anti a b; omega
   rcases List.mem_cons.1 hc with rfl | hc
   · exact h1
   · have h2 : cmpV b c ≤ 0 := (List.pairwise_cons.1 ih).1 c hc
     by_cases e1 : cmpV a b = 0
     · rw [cmp_zero _ _ e1]; exact h2
     · by_cases e2 : cmpV b c = 0
       · rw [← cmp_zero _ _ e2]; exact h1
       · have r1 := cmp_range a b; have r2 := cmp_range b c
         have := cmp_trans a b c (by omega) (by omega); omega
theorem pair_sorted : ∀ {l : List V}, (l.Pairwise fun a b => cmpV a b ≤ 0) → sortedB l = true
 | [], _ => rfl
 | [a], _ => rfl
 | a :: b :: r, h => by
   have h2 := List.pairwise_cons.1 h
   have ih := pair_sorted h2.2
   simp only [sortedB, Bool.and_eq_true, decide_eq_true_eq] at ih ⊢
   exact ⟨by have := h2.1 b (by simp); have := cmp_anti a b; omega, ih⟩
theorem sorted_perm {a b : List V} (ha : sortedB a = true) (hb : sortedB b = true) (h : a.Perm b) : a = b := by
 replace ha := sorted_pair ha
 replace hb := sorted_pair hb
 induction a generalizing b with
 | nil => exact (List.nil_perm.1 h).symm
 | cons x r ih =>
   cases b with
   | nil => exact absurd h.length_eq (by simp)
   | cons y q =>
     have ha2 := List.pairwise_cons.1 ha
     have hb2 := List.pairwise_cons.1 hb
     have e : x = y := by
       have h1 : x ∈ y :: q := h.subset (by simp)
       have h2 : y ∈ x :: r := h.symm.subset (by simp)
       rcases List.mem_cons.1 h1 with e | h1
       · exact e
       · rcases List.mem_cons.1 h2 with e | h2
         · exact e.symm
         · have c1 := ha2.1 y h2
           have c2 := hb2.1 x h1
           have c3 := cmp_anti x y
           exact cmp_zero _ _ (by omega)
     subst e
     rw [ih ((List.perm_cons x).1 h) ha2.2 hb2.2]

theorem oneP_all {d : Nat} {t : T} {v k : V} (h : v.ks.all (oneP d t) = true) (hk : k ∈ v.ks) : oneP d t k = true := List.all_eq_true.1 h k hk

theorem below_refl (d : Nat) : ∀ (t : T) (v : V), rightP d t = true → oneP d t v = true → belowP d t v v = true := by
 induction d with
 | zero => intro t v h; simp [rightP] at h
 | succ d ih =>
   intro t v hr ho
   simp only [rightP, Bool.and_eq_true] at hr
   have hr := hr.2
   simp only [oneP] at ho
   simp only [belowP]
   by_cases k1 : t.kind = 1
   · simp [k1]
   rw [if_neg k1] at hr ho ⊢
   by_cases k2 : t.kind = 2
   · simp [k2]
   rw [if_neg k2] at ho ⊢
   by_cases k3 : t.kind = 3
   · rw [if_pos k3] at ho ⊢
     rw [if_neg (by omega), if_neg (by omega), if_pos k3] at hr
     simp only [Bool.and_eq_true] at hr ho
     have h1 := hr.2
     have h2 := ho.2
     clear hr ho
     generalize t.parts = ps at h1 h2 ⊢
     generalize v.ks = vs at h2 ⊢
     induction ps generalizing vs with
     | nil => simp [belZ]
     | cons p ps ihp =>
       cases vs with
       | nil => simp [oneZ] at h2
       | cons v vs =>
         simp only [oneZ, List.all_cons, Bool.and_eq_true] at h1 h2
         simp only [belZ, Bool.and_eq_true]
         exact ⟨ih p v h1.1 h2.1, ihp h1.2 vs h2.2⟩
   rw [if_neg k3] at ho ⊢
   by_cases k4 : t.kind = 4
   · rw [if_pos k4] at ho ⊢
     rw [if_neg (by omega), if_neg (by omega), if_neg (by omega), if_pos (.inl k4)] at hr
     simp only [Bool.and_eq_true, beq_iff_eq] at hr ho
     have hp : rightP d t.p0 = true := by
       unfold T.p0
       rcases hps : t.parts with _ | ⟨p, r⟩
       · rw [hps] at hr; simp at hr
       · rw [hps] at hr; simp at hr; exact hr.2.1
     exact (embG_iff _ _ _).2 (Emb.refl_ fun a ha => ih _ a hp (oneP_all ho.2 ha))
   rw [if_neg k4] at ho ⊢
   by_cases k5 : t.kind = 5
   · rw [if_pos k5] at ho ⊢
     rw [if_neg (by omega), if_neg (by omega), if_neg (by omega), if_pos (.inr k5)] at hr
     simp only [Bool.and_eq_true, beq_iff_eq] at hr ho
     have hp : rightP d t.p0 = true := by
       unfold T.p0
       rcases hps : t.parts with _ | ⟨p, r⟩
       · rw [hps] at hr; simp at hr
       · rw [hps] at hr; simp at hr; exact hr.2.1
     exact (domG_iff _ _ _).2 (Dom.refl_ fun a ha => ih _ a hp (oneP_all ho.1.2 ha))
   rw [if_neg k5] at ho ⊢
   by_cases k6 : t.kind = 6
   · rw [if_pos k6]; exact embT_refl v
   rw [if_neg k6]
   exact (pleB_iff _ _ _).2 (PLe.refl_ _ _)

theorem p0_right {d : Nat} {t : T} (hr : rightP (d + 1) t = true) (hk : t.kind = 4 ∨ t.kind = 5) : rightP d t.p0 = true ∧ t.parts = [t.p0] := by
 simp only [rightP, Bool.and_eq_true] at hr
 have hr := hr.2
 rw [if_neg (by omega), if_neg (by omega), if_neg (by omega), if_neg (by omega), if_pos hk] at hr
 simp only [Bool.and_eq_true, beq_iff_eq] at hr
 unfold T.p0
 rcases hps : t.parts with _ | ⟨p, r⟩
 · rw [hps] at hr; simp at hr
 · rw [hps] at hr; simp at hr; exact ⟨hr.2.1, by rw [hr.1.2]; rfl⟩
theorem parts_right {d : Nat} {t : T} (hr : rightP (d + 1) t = true) (hk : t.kind = 3) : t.parts.all (rightP d) = true ∧ t.parts.length ≤ 8 ∧ t.parts ≠ [] := by
 simp only [rightP, Bool.and_eq_true] at hr
 have hr := hr.2
 rw [if_neg (by omega), if_neg (by omega), if_neg (by omega), if_pos hk] at hr
 simp only [Bool.and_eq_true, decide_eq_true_eq, Bool.not_eq_true', List.isEmpty_eq_false_iff] at hr
 exact ⟨hr.2, hr.1.2, hr.1.1.2⟩

theorem below_trans (d : Nat) : ∀ (t : T) (a b c : V), rightP d t = true → oneP d t a = true → oneP d t b = true → oneP d t c = true → belowP d t a b = true → belowP d t b c = true → belowP d t a c = true := by
 induction d with
 | zero => intro t a b c h; simp [rightP] at h
 | succ d ih =>
   intro t a b c hr oa ob oc
   simp only [oneP] at oa ob oc
   simp only [belowP]
   by_cases k1 : t.kind = 1
   · simp only [if_pos k1, decide_eq_true_eq]; omega
   rw [if_neg k1] at oa ob oc
   rw [if_neg k1, if_neg k1, if_neg k1]
   by_cases k2 : t.kind = 2
   · simp only [if_pos k2, beq_iff_eq]; omega
   rw [if_neg k2] at oa ob oc
   rw [if_neg k2, if_neg k2, if_neg k2]
   by_cases k3 : t.kind = 3
   · rw [if_pos k3] at oa ob oc
     rw [if_pos k3, if_pos k3, if_pos k3]
     have h1 := (parts_right hr k3).1
     simp only [Bool.and_eq_true] at oa ob oc
     have ha := oa.2
     have hb := ob.2
     have hc := oc.2
     clear hr oa ob oc
     generalize t.parts = ps at h1 ha hb hc ⊢
     generalize a.ks = as at ha ⊢
     generalize b.ks = bs at hb ⊢
     generalize c.ks = cs at hc ⊢
     induction ps generalizing as bs cs with
     | nil => simp [belZ]
     | cons p ps ihp =>
       cases as with
       | nil => simp [oneZ] at ha
       | cons x as =>
         cases bs with
         | nil => simp [oneZ] at hb
         | cons y bs =>
           cases cs with
           | nil => simp [oneZ] at hc
           | cons z cs =>
             simp only [oneZ, List.all_cons, Bool.and_eq_true] at h1 ha hb hc
             simp only [belZ, Bool.and_eq_true]
             exact fun e1 e2 => ⟨ih p x y z h1.1 ha.1 hb.1 hc.1 e1.1 e2.1, ihp h1.2 as ha.2 bs hb.2 cs hc.2 e1.2 e2.2⟩
   rw [if_neg k3] at oa ob oc
   rw [if_neg k3, if_neg k3, if_neg k3]
   by_cases k4 : t.kind = 4
   · rw [if_pos k4] at oa ob oc
     rw [if_pos k4, if_pos k4, if_pos k4]
     have hp := (p0_right hr (.inl k4)).1
     simp only [Bool.and_eq_true] at oa ob oc
     rw [embG_iff, embG_iff, embG_iff]
     exact fun e1 e2 => e2.trans e1 fun x y z hx hy hz => ih _ x y z hp (oneP_all oa.2 hx) (oneP_all ob.2 hy) (oneP_all oc.2 hz)
   rw [if_neg k4] at oa ob oc
   rw [if_neg k4, if_neg k4, if_neg k4]
   by_cases k5 : t.kind = 5
   · rw [if_pos k5] at oa ob oc
     rw [if_pos k5, if_pos k5, if_pos k5]
     have hp := (p0_right hr (.inr k5)).1
     simp only [Bool.and_eq_true] at oa ob oc
     rw [domG_iff, domG_iff, domG_iff]
     exact fun e1 e2 => e1.trans e2 fun x y z hx hy hz => ih _ x y z hp (oneP_all oa.1.2 hx) (oneP_all ob.1.2 hy) (oneP_all oc.1.2 hz)
   rw [if_neg k5, if_neg k5, if_neg k5]
   by_cases k6 : t.kind = 6
   · rw [if_pos k6, if_pos k6, if_pos k6]; exact fun e1 e2 => embT_trans _ c b a (Nat.le_refl _) e1 e2
   rw [if_neg k6, if_neg k6, if_neg k6, pleB_iff, pleB_iff, pleB_iff]
   exact fun e1 e2 => e2.trans e1

def muZ (f : T → V → Nat) : List T → List V → Nat
 | p :: ps, v :: vs => f p v + muZ f ps vs
 | _, _ => 0
def mu : Nat → T → V → Nat
 | 0, _, _ => 0
 | d + 1, t, v =>
   if t.kind = 1 then v.n.toNat
   else if t.kind = 2 then 0
   else if t.kind = 3 then muZ (mu d) t.parts v.ks
   else if t.kind = 4 ∨ t.kind = 5 then (v.ks.map fun k => 1 + mu d t.p0 k).sum
   else if t.kind = 6 then v.size - 1
   else v.ks.length
theorem label_eq {s : Int} {as : List V} : ∀ {bs : List V}, as.all (labelP s) = true → bs.all (labelP s) = true → as.map V.n = bs.map V.n → as = bs := by
 induction as with
 | nil => intro bs _ _ h; cases bs with | nil => rfl | cons => simp at h
 | cons a as ih =>
   intro bs h1 h2 h
   cases bs with
   | nil => simp at h
   | cons b bs =>
     simp only [List.all_cons, Bool.and_eq_true, labelP, List.isEmpty_iff] at h1 h2
     simp only [List.map_cons, List.cons.injEq] at h
     rw [ih h1.2 h2.2 h.2, ← a.eta, ← b.eta, h.1, h1.1.2, h2.1.2]
theorem below_mu (d : Nat) : ∀ (t : T) (a b : V), rightP d t = true → oneP d t a = true → oneP d t b = true → belowP d t a b = true → mu d t a ≤ mu d t b ∧ (mu d t a = mu d t b → a = b) := by
 induction d with
 | zero => intro t a b h; simp [rightP] at h
 | succ d ih =>
   intro t a b hr oa ob
   simp only [oneP] at oa ob
   simp only [belowP, mu]
   by_cases k1 : t.kind = 1
   · rw [if_pos k1] at oa ob
     rw [if_pos k1, if_pos k1, if_pos k1]
     simp only [Bool.and_eq_true, decide_eq_true_eq, List.isEmpty_iff] at oa ob
     intro h
     have h := of_decide_eq_true h
     exact ⟨by omega, fun e => by rw [← a.eta, ← b.eta, oa.2, ob.2, show a.n = b.n by omega]⟩
   rw [if_neg k1] at oa ob
   rw [if_neg k1, if_neg k1, if_neg k1]
   by_cases k2 : t.kind = 2
   · rw [if_pos k2] at oa ob
     rw [if_pos k2, if_pos k2, if_pos k2]
     simp only [labelP, Bool.and_eq_true, decide_eq_true_eq, List.isEmpty_iff] at oa ob
     simp only [beq_iff_eq]
     exact fun h => ⟨by omega, fun _ => by rw [← a.eta, ← b.eta, oa.2, ob.2, h]⟩
   rw [if_neg k2] at oa ob
   rw [if_neg k2, if_neg k2, if_neg k2]
   by_cases k3 : t.kind = 3
   · rw [if_pos k3] at oa ob
     rw [if_pos k3, if_pos k3, if_pos k3]
     have h1 := (parts_right hr k3).1
     simp only [Bool.and_eq_true, beq_iff_eq] at oa ob
     have key : belZ (belowP d) t.parts a.ks b.ks = true → muZ (mu d) t.parts a.ks ≤ muZ (mu d) t.parts b.ks ∧ (muZ (mu d) t.parts a.ks = muZ (mu d) t.parts b.ks → a.ks = b.ks) := by
       have ha := oa.2
       have hb := ob.2
       clear hr oa ob
       generalize t.parts = ps at h1 ha hb ⊢
       generalize a.ks = as at ha ⊢
       generalize b.ks = bs at hb ⊢
       induction ps generalizing as bs with
       | nil => cases as <;> cases bs <;> simp [oneZ, belZ, muZ] at ha hb ⊢
       | cons p ps ihp =>
         cases as with
         | nil => simp [oneZ] at ha
         | cons x as =>
           cases bs with
           | nil => simp [oneZ] at hb
           | cons y bs =>
             simp only [oneZ, List.all_cons, Bool.and_eq_true] at h1 ha hb
             simp only [belZ, muZ, Bool.and_eq_true]
             intro e
             have i1 := ih p x y h1.1 ha.1 hb.1 e.1
             have i2 := ihp h1.2 as ha.2 bs hb.2 e.2
             exact ⟨by omega, fun e => by rw [i1.2 (by omega), i2.2 (by omega)]⟩
     intro h
     have := key h
     exact ⟨this.1, fun e => by rw [← a.eta, ← b.eta, oa.1.1, ob.1.1, this.2 e]⟩
   rw [if_neg k3] at oa ob
   rw [if_neg k3, if_neg k3, if_neg k3]
   by_cases k4 : t.kind = 4
   · rw [if_pos k4] at oa ob
     rw [if_pos k4, if_pos (.inl k4), if_pos (.inl k4), embG_iff]
     have hp := (p0_right hr (.inl k4)).1
     simp only [Bool.and_eq_true, beq_iff_eq] at oa ob
     intro h
     have := h.sum (mu d t.p0) fun x y hx hy hxy => ih _ x y hp (oneP_all oa.2 hx) (oneP_all ob.2 hy) hxy
     exact ⟨this.1, fun e => by rw [← a.eta, ← b.eta, oa.1.1, ob.1.1, this.2 e]⟩
   rw [if_neg k4] at oa ob
   rw [if_neg k4]
   by_cases k5 : t.kind = 5
   · rw [if_pos k5] at oa ob
     rw [if_pos k5, if_pos (.inr k5), if_pos (.inr k5), domG_iff]
     have hp := (p0_right hr (.inr k5)).1
     simp only [Bool.and_eq_true, beq_iff_eq] at oa ob
     intro h
     have := h.sum (mu d t.p0) fun x y hx hy hxy => ih _ x y hp (oneP_all oa.1.2 hx) (oneP_all ob.1.2 hy) hxy
     exact ⟨this.1, fun e => by rw [← a.eta, ← b.eta, oa.1.1.1, ob.1.1.1, sorted_perm oa.2 ob.2 (this.2 e)]⟩
   rw [if_neg k5] at oa ob
   have k45 : ¬ (t.kind = 4 ∨ t.kind = 5) := by omega
   rw [if_neg k5, if_neg k45, if_neg k45]
   by_cases k6 : t.kind = 6
   · rw [if_pos k6, if_pos k6, if_pos k6]; exact embT_size b a
   rw [if_neg k6] at oa ob
   rw [if_neg k6, if_neg k6, if_neg k6, pleB_iff]
   simp only [Bool.and_eq_true, beq_iff_eq] at oa ob
   intro h
   have := h.len
   simp only [List.length_map] at this
   exact ⟨this.1, fun e => by rw [← a.eta, ← b.eta, oa.1.1, ob.1.1, label_eq oa.2 ob.2 (this.2 e)]⟩
theorem below_anti {d : Nat} {t : T} {a b : V} (hr : rightP d t = true) (oa : oneP d t a = true) (ob : oneP d t b = true) (h1 : belowP d t a b = true) (h2 : belowP d t b a = true) : a = b := by
 have m1 := below_mu d t a b hr oa ob h1
 have m2 := below_mu d t b a hr ob oa h2
 exact m1.2 (by omega)
mutual
def subs : V → List V | .mk n ks => .mk n ks :: subsL ks
def subsL : List V → List V | [] => [] | v :: r => subs v ++ subsL r
end
theorem subs_eq (v : V) : subs v = v :: subsL v.ks := by cases v; rfl
theorem subs_length (v : V) : (subs v).length = v.size := by
 induction v using V.ind with
 | h n ks ih =>
   have : (subsL ks).length = sizeL ks := by
     induction ks with
     | nil => rfl
     | cons x r ihr => simp [subsL, sizeL, ih x (by simp), ihr (fun k hk => ih k (by simp [hk]))]
   simp [subs, V.size, this]; omega
theorem subsL_length (l : List V) : (subsL l).length = sizeL l := by
 induction l with
 | nil => rfl
 | cons x r ih => simp [subsL, sizeL, subs_length, ih]
structure Nd where
 lab : Int
 fin : Nat
 kids : List Nat
def starts (k : Nat) : List V → List Nat
 | [] => []
 | v :: r => k :: starts (k + v.size) r
theorem starts_length (k : Nat) (l : List V) : (starts k l).length = l.length := by
 induction l generalizing k with
 | nil => rfl
 | cons x r ih => simp [starts, ih]
def ndOf (i : Nat) (v : V) : Nd := ⟨v.n, i + v.size, starts (i + 1) v.ks⟩
def numL (k : Nat) : List V → List Nd
 | [] => []
 | v :: l => ndOf k v :: numL (k + 1) l
theorem numL_length (k : Nat) (l : List V) : (numL k l).length = l.length := by
 induction l generalizing k with
 | nil => rfl
 | cons x r ih => simp [numL, ih]
theorem numL_append (k : Nat) (a b : List V) : numL k (a ++ b) = numL k a ++ numL (k + a.length) b := by
 induction a generalizing k with
 | nil => simp [numL]
 | cons x r ih => simp [numL, ih]; congr 1; omega
theorem numL_get (k : Nat) (l : List V) (i : Nat) (h : i < l.length) (h' : i < (numL k l).length) : (numL k l)[i] = ndOf (k + i) l[i] := by
 induction l generalizing k i with
 | nil => simp at h
 | cons x r ih =>
   cases i with
   | zero => simp [numL]
   | succ i => simp only [numL, List.getElem_cons_succ]; rw [ih (k + 1) i (by simpa using h) (by rw [numL_length]; simpa using h)]; congr 1; omega
def nodesP (t : V) : List Nd := numL 0 (subs t)
theorem subs_pre (t : V) : ∀ i (h : i < (subs t).length), ∃ rest, (subs t).drop i = subs (subs t)[i] ++ rest := by
 induction t using V.ind with
 | h n ks ih =>
   intro i h
   cases i with
   | zero => exact ⟨[], by simp [subs]⟩
   | succ i =>
     have key : ∀ (l : List V), (∀ k ∈ l, ∀ i (h : i < (subs k).length), ∃ rest, (subs k).drop i = subs (subs k)[i] ++ rest) → ∀ i (h : i < (subsL l).length), ∃ rest, (subsL l).drop i = subs (subsL l)[i] ++ rest := by
       intro l
       induction l with
       | nil => intro _ i h; simp [subsL] at h
       | cons x r ihr =>
         intro hl i h
         simp only [subsL] at h ⊢
         by_cases hi : i < (subs x).length
         · obtain ⟨rest, hr⟩ := hl x (by simp) i hi
           refine ⟨rest ++ subsL r, ?_⟩
           rw [List.drop_append_of_le_length (by omega), hr, List.append_assoc]
           congr 2
           exact (List.getElem_append_left hi).symm
         · have hi2 : i - (subs x).length < (subsL r).length := by simp at h; omega
           obtain ⟨rest, hr⟩ := ihr (fun k hk => hl k (by simp [hk])) _ hi2
           refine ⟨rest, ?_⟩
           rw [List.drop_append, List.drop_eq_nil_of_le (by omega), List.nil_append, hr]
           congr 2
           rw [List.getElem_append_right (by omega)]
     have h' : i < (subsL ks).length := by simpa [subs] using h
     obtain ⟨rest, hr⟩ := key ks ih i h'
     exact ⟨rest, by simp only [subs, List.drop_succ_cons, List.getElem_cons_succ]; exact hr⟩
theorem subsL_at : ∀ (l : List V) (k j : Nat) (h : j < l.length), ∃ p, (starts k l)[j]? = some (k + p) ∧ (subsL l)[p]? = some l[j] ∧ p < sizeL l
 | x :: r, k, 0, _ => ⟨0, by simp [starts], by rw [subsL, subs_eq]; simp, by have := x.size_pos; simp [sizeL]; omega⟩
 | x :: r, k, j + 1, h => by
   obtain ⟨p, h1, h2, h3⟩ := subsL_at r (k + x.size) j (by simpa using h)
   refine ⟨x.size + p, by simp only [starts, List.getElem?_cons_succ]; rw [h1]; congr 1; omega, ?_, by simp [sizeL]; omega⟩
   simp only [subsL, List.getElem_cons_succ]
   rw [List.getElem?_append_right (by rw [subs_length]; omega), subs_length]
   rw [show x.size + p - x.size = p by omega]
   exact h2
theorem kid_at {t : V} {i j : Nat} (hi : i < (subs t).length) (hj : j < (subs t)[i].ks.length) : ∃ p, (starts (i + 1) (subs t)[i].ks)[j]? = some p ∧ ∃ (hp : p < (subs t).length), (subs t)[p] = (subs t)[i].ks[j] ∧ i < p ∧ p < i + (subs t)[i].size := by
 obtain ⟨p, h1, h2, h3⟩ := subsL_at (subs t)[i].ks (i + 1) j hj
 obtain ⟨rest, hr⟩ := subs_pre t i hi
 have hsz := (subs t)[i].size_eq
 have e : ((subs t).drop i)[1 + p]? = some (subs t)[i].ks[j] := by
   rw [hr, subs_eq]
   rw [List.cons_append, show 1 + p = p + 1 by omega, List.getElem?_cons_succ, List.getElem?_append_left (by rw [subsL_length]; exact h3)]
   exact h2
 rw [List.getElem?_drop] at e
 have hlt : i + (1 + p) < (subs t).length := by
   rcases Nat.lt_or_ge (i + (1 + p)) (subs t).length with h | h
   · exact h
   · rw [List.getElem?_eq_none h] at e; cases e
 rw [List.getElem?_eq_getElem hlt] at e
 refine ⟨i + 1 + p, h1, by omega, ?_, by omega, by omega⟩
 have e' := Option.some.inj e
 rw [← e']
 congr 1; omega
theorem end_le {t : V} {i : Nat} (hi : i < (subs t).length) : i + (subs t)[i].size ≤ t.size := by
 obtain ⟨rest, hr⟩ := subs_pre t i hi
 have := congrArg List.length hr
 rw [List.length_append, subs_length, List.length_drop, subs_length] at this
 have h2 : i < t.size := by rw [← subs_length]; exact hi
 omega
theorem sub_get {t : V} {i q : Nat} (hi : i < (subs t).length) (hq : q < (subs t)[i].size) : (subs t)[i + q]? = (subs (subs t)[i])[q]? := by
 obtain ⟨rest, hr⟩ := subs_pre t i hi
 have : ((subs t).drop i)[q]? = (subs (subs t)[i] ++ rest)[q]? := by rw [hr]
 rw [List.getElem?_drop, List.getElem?_append_left (by rw [subs_length]; exact hq)] at this
 exact this
def rootE (a b : V) : Bool := a.n == b.n && subT a.ks b.ks
theorem embT_subs (a b : V) : embT a b = (subs b).any (rootE a) := by
 induction b using V.ind with
 | h n ks ih =>
   have h1 : ∀ l : List V, (∀ k ∈ l, embT a k = (subs k).any (rootE a)) → anyT a l = (subsL l).any (rootE a) := by
     intro l
     induction l with
     | nil => intro _; rfl
     | cons x r ihr => intro h; simp [anyT, subsL, h x (by simp), ihr (fun k hk => h k (by simp [hk]))]
   simp only [embT, subs, List.any_cons, rootE, V.n_mk, V.ks_mk]
   rw [h1 ks ih]
def toP (a b : V) (i : Nat) : List Nat := (List.range b.size).filter fun j => match (subs a)[i]?, (subs b)[j]? with | some x, some y => rootE x y | _, _ => false
theorem toP_mem {a b : V} {i j : Nat} (hi : i < (subs a).length) (hj : j < (subs b).length) : j ∈ toP a b i ↔ rootE (subs a)[i] (subs b)[j] = true := by
 unfold toP
 rw [List.mem_filter, List.getElem?_eq_getElem hi, List.getElem?_eq_getElem hj]
 simp only [List.mem_range]
 rw [subs_length] at hj
 exact ⟨fun h => h.2, fun h => ⟨hj, h⟩⟩
theorem toP_lt {a b : V} {i j : Nat} (h : j ∈ toP a b i) : j < b.size := by
 unfold toP at h
 simpa using (List.mem_filter.1 h).1
def intoP (a b : V) (i j : Nat) : Int := match (subs b)[j]? with
 | some y => match (toP a b i).find? fun q => decide (j ≤ q) && decide (q < j + y.size) with | some q => (q : Int) | none => -1
 | none => -1
theorem into_iff {a b : V} {i j : Nat} (hi : i < (subs a).length) (hj : j < (subs b).length) : decide (0 ≤ intoP a b i j) = embT (subs a)[i] (subs b)[j] := by
 unfold intoP
 rw [List.getElem?_eq_getElem hj]
 simp only
 rw [embT_subs, Bool.eq_iff_iff, decide_eq_true_eq, List.any_eq_true]
 have hle := end_le hj
 constructor
 · rcases hf : (toP a b i).find? fun q => decide (j ≤ q) && decide (q < j + (subs b)[j].size) with _ | q
   · simp
   · intro _
     have h1 := List.find?_some hf
     have h2 := List.mem_of_find?_eq_some hf
     simp only [Bool.and_eq_true, decide_eq_true_eq] at h1
     have hq : q < (subs b).length := by rw [subs_length]; exact toP_lt h2
     have h3 := (toP_mem hi hq).1 h2
     have h4 := sub_get hj (q := q - j) (by omega)
     rw [show j + (q - j) = q by omega, List.getElem?_eq_getElem hq] at h4
     exact ⟨_, List.mem_of_getElem? h4.symm, h3⟩
 · rintro ⟨x, hx, hr⟩
   obtain ⟨q, hq, rfl⟩ := List.getElem_of_mem hx
   have hq' : q < (subs b)[j].size := by rwa [subs_length] at hq
   have h4 := sub_get hj hq'
   rw [List.getElem?_eq_getElem hq] at h4
   have hjq : j + q < (subs b).length := by rw [subs_length]; omega
   rw [List.getElem?_eq_getElem hjq] at h4
   have hmem : j + q ∈ toP a b i := (toP_mem hi hjq).2 (by rw [Option.some.inj h4]; exact hr)
   rcases hf : (toP a b i).find? fun q => decide (j ≤ q) && decide (q < j + (subs b)[j].size) with _ | q2
   · have := List.find?_eq_none.1 hf _ hmem
     simp at this; omega
   · simp
abbrev KSt := Bool × List Int × List Bool
def srchL (rec : List Int → List Bool → Nat → KSt) (row : Nat) : Nat → List Bool → List Int → List Bool → KSt
 | _, [], o, s => (false, o, s)
 | j, ok :: rest, o, s =>
   if (!ok || s.getD j true) = true then srchL rec row (j + 1) rest o s
   else if o.getD j 0 = -1 then (true, o.set j row, s.set j true)
   else match rec o (s.set j true) (o.getD j 0).toNat with
     | (true, o2, s2) => (true, o2.set j row, s2)
     | (false, o2, s2) => srchL rec row (j + 1) rest o2 s2
def srch (tb : List (List Bool)) : Nat → List Int → List Bool → Nat → KSt
 | 0, o, s, _ => (false, o, s)
 | f + 1, o, s, row => srchL (srch tb f) row 0 (tb.getD row []) o s
def unseen (s : List Bool) : Nat := s.countP (! ·)
def mostL (tb : List (List Bool)) (m : Nat) : Nat → Nat → List Int → Nat
 | 0, _, _ => 0
 | k + 1, row, o => (if (srch tb (m + 1) o (List.replicate m false) row).1 then 1 else 0) + mostL tb m k (row + 1) (srch tb (m + 1) o (List.replicate m false) row).2.1
def mostP (tb : List (List Bool)) (m : Nat) : Nat := mostL tb m tb.length 0 (List.replicate m (-1))

theorem unseen_set {s : List Bool} {j : Nat} (h : s.getD j true = false) : unseen (s.set j true) + 1 = unseen s := by
 induction s generalizing j with
 | nil => simp at h
 | cons a s ih =>
   cases j with
   | zero => simp at h; subst h; simp [unseen]
   | succ j =>
     have := ih (j := j) (by simpa using h)
     unfold unseen at this ⊢
     simp only [List.set_cons_succ, List.countP_cons]
     omega

structure KOk (n m : Nat) (o : List Int) (s : List Bool) : Prop where
 ol : o.length = m
 sl : s.length = m
 ow : ∀ x ∈ o, x = -1 ∨ (0 ≤ x ∧ x < n)
def vals (o : List Int) : List Int := o.filter (· ≠ -1)
theorem vals_set_free {o : List Int} {j : Nat} {r : Int} (hj : j < o.length) (h : o.getD j 0 = -1) (hr : r ≠ -1) : (vals (o.set j r)).Perm (r :: vals o) := by
 induction o generalizing j with
 | nil => simp at hj
 | cons a o ih =>
   cases j with
   | zero => simp at h; subst h; simp [vals, hr]
   | succ j =>
     have := ih (j := j) (by simpa using hj) (by simpa using h)
     unfold vals at this ⊢
     simp only [List.set_cons_succ, List.filter_cons]
     by_cases ha : a = -1
     · simp [ha]; simpa using this
     · simp [ha]; exact ((by simpa using this : (List.filter (fun x => !decide (x = -1)) (o.set j r)).Perm (r :: List.filter (fun x => !decide (x = -1)) o)).cons a).trans (List.Perm.swap _ _ _)
theorem vals_set_own {o : List Int} {j : Nat} {r x : Int} (hj : j < o.length) (h : o.getD j 0 = x) (hx : x ≠ -1) (hr : r ≠ -1) : (x :: vals (o.set j r)).Perm (r :: vals o) := by
 induction o generalizing j with
 | nil => simp at hj
 | cons a o ih =>
   cases j with
   | zero => simp at h; subst h; simp [vals, hr, hx]; exact List.Perm.swap _ _ _
   | succ j =>
     have := ih (j := j) (by simpa using hj) (by simpa using h)
     unfold vals at this ⊢
     simp only [List.set_cons_succ, List.filter_cons]
     by_cases ha : a = -1
     · simp [ha]; simpa using this
     · simp [ha]
       have t : (x :: List.filter (fun x => !decide (x = -1)) (o.set j r)).Perm (r :: List.filter (fun x => !decide (x = -1)) o) := by simpa using this
       exact ((List.Perm.swap _ _ _).trans (t.cons a)).trans (List.Perm.swap _ _ _)
def EntOk (tb : List (List Bool)) (o : List Int) : Prop := ∀ j, j < o.length → o.getD j 0 = -1 ∨ (tb.getD (o.getD j 0).toNat []).getD j false = true
theorem EntOk.set_ {tb : List (List Bool)} {o : List Int} {j row : Nat} (h : EntOk tb o) (hr : (tb.getD row []).getD j false = true) : EntOk tb (o.set j (row : Int)) := by
 intro i hi
 simp at hi
 by_cases e : i = j
 · subst e
   right
   have : (o.set i (row : Int)).getD i 0 = row := by simp [hi]
   rw [this]; simpa using hr
 · have : (o.set j (row : Int)).getD i 0 = o.getD i 0 := by simp [List.getD_eq_getElem?_getD, List.getElem?_set, Ne.symm e]
   rw [this]; exact h i hi
structure Said (tb : List (List Bool)) (n m : Nat) (o : List Int) (s : List Bool) (row : Nat) (cols : Nat → Prop) (r : KSt) : Prop where
 ok : KOk n m r.2.1 r.2.2
 mono : ∀ j, j < m → s.getD j true = true → r.2.2.getD j true = true
 kept : ∀ j, j < m → s.getD j true = true → r.2.1.getD j 0 = o.getD j 0
 less : unseen r.2.2 ≤ unseen s
 yes : r.1 = true → EntOk tb r.2.1 ∧ (vals r.2.1).Perm ((row : Int) :: vals o)
 no : r.1 = false → r.2.1 = o ∧ (∀ j, j < m → cols j → (tb.getD row []).getD j false = true → r.2.2.getD j true = true) ∧
   ∀ j, j < m → r.2.2.getD j true = true → s.getD j true = false → o.getD j 0 ≠ -1 ∧ ∀ i, i < m → (tb.getD (o.getD j 0).toNat []).getD i false = true → r.2.2.getD i true = true
theorem getD_set_ne {α : Type} {l : List α} {i j : Nat} {x d : α} (h : i ≠ j) : (l.set i x).getD j d = l.getD j d := by
 simp [List.getD_eq_getElem?_getD, List.getElem?_set, h]
theorem getD_set_eq {α : Type} {l : List α} {i : Nat} {x d : α} (h : i < l.length) : (l.set i x).getD i d = x := by
 simp [List.getD_eq_getElem?_getD, List.getElem?_set, h]
theorem srchL_said {tb : List (List Bool)} {n m row : Nat} (hrow : row < n) (rec : List Int → List Bool → Nat → KSt) (bound : Nat)
   (hrec : ∀ o s r, r < n → KOk n m o s → EntOk tb o → unseen s < bound → Said tb n m o s r (fun _ => True) (rec o s r)) :
   ∀ (l : List Bool) (j : Nat) (o : List Int) (s : List Bool), (∀ i, (tb.getD row []).getD (j + i) false = l.getD i false) → KOk n m o s → EntOk tb o → unseen s ≤ bound → j + l.length ≤ m → Said tb n m o s row (fun i => j ≤ i) (srchL rec row j l o s)
 | [], j, o, s, hl, hk, he, hb, hm => by
   refine ⟨hk, fun _ _ h => h, fun _ _ _ => rfl, Nat.le_refl _, fun h => by simp [srchL] at h, fun _ => ⟨rfl, fun i hi hc ht => ?_, fun i hi h1 h2 => by have h1' : s.getD i true = true := h1; rw [h1'] at h2; cases h2⟩⟩
   have := hl (i - j)
   rw [show j + (i - j) = i by omega] at this
   rw [this] at ht; simp at ht
 | ok :: l, j, o, s, hl, hk, he, hb, hm => by
   have hj : j < m := by simp at hm; omega
   have hl0 : (tb.getD row []).getD j false = ok := by have := hl 0; simpa using this
   have hl1 : ∀ i, (tb.getD row []).getD (j + 1 + i) false = l.getD i false := fun i => by
     have := hl (i + 1)
     rw [show j + (i + 1) = j + 1 + i by omega] at this
     simpa using this
   simp only [srchL]
   by_cases h1 : (!ok || s.getD j true) = true
   · rw [if_pos h1]
     have ih := srchL_said hrow rec bound hrec l (j + 1) o s hl1 hk he hb (by simp at hm; omega)
     refine ⟨ih.ok, ih.mono, ih.kept, ih.less, ih.yes, fun hf => ?_⟩
     obtain ⟨a1, a2, a3⟩ := ih.no hf
     refine ⟨a1, fun i hi hc ht => ?_, a3⟩
     by_cases e : i = j
     · subst e
       rw [hl0] at ht
       subst ht
       simp at h1
       exact ih.mono i hi (by simpa using h1)
     · exact a2 i hi (by omega) ht
   · rw [if_neg h1]
     have h1' : ok = true ∧ s.getD j true = false := by
       revert h1; cases ok <;> cases s.getD j true <;> simp
     obtain ⟨rfl, hs⟩ := h1'
     have hsl := hk.sl
     have hol := hk.ol
     have hmono : ∀ i, s.getD i true = true → (s.set j true).getD i true = true := fun i h => by
       by_cases e : i = j
       · subst e; exact getD_set_eq (by omega)
       · rw [getD_set_ne (Ne.symm e)]; exact h
     have hus := unseen_set hs
     by_cases h2 : o.getD j 0 = -1
     · rw [if_pos h2]
       refine ⟨⟨by simp [hol], by simp [hsl], fun x hx => ?_⟩, fun i _ h => hmono i h, fun i hi h => ?_, by simp only; omega, fun _ => ⟨he.set_ hl0, vals_set_free (by omega) h2 (by omega)⟩, fun h => by cases h⟩
       · rcases List.mem_or_eq_of_mem_set hx with h | h
         · exact hk.ow x h
         · subst h; right; omega
       · exact getD_set_ne (by intro e; subst e; rw [hs] at h; cases h)
     · rw [if_neg h2]
       have hoj : 0 ≤ o.getD j 0 ∧ o.getD j 0 < n := by
         have hjo : j < o.length := by omega
         have : o.getD j 0 ∈ o := by simp [List.getD_eq_getElem?_getD, hjo]
         rcases hk.ow _ this with h | h
         · exact absurd h h2
         · exact h
       have hk1 : KOk n m o (s.set j true) := ⟨hol, by simp [hsl], hk.ow⟩
       have hR := hrec o (s.set j true) (o.getD j 0).toNat (by omega) hk1 he (by omega)
       rcases hres : rec o (s.set j true) (o.getD j 0).toNat with ⟨b, o2, s2⟩
       rw [hres] at hR
       have hsj : (s.set j true).getD j true = true := getD_set_eq (by omega)
       have hkj := hR.kept j hj hsj
       have hmj := hR.mono j hj hsj
       have ho2 := hR.ok.ol
       simp only at hkj hmj ho2
       cases b with
       | true =>
         simp only
         obtain ⟨y1, y2⟩ := hR.yes rfl
         simp only at y1 y2
         refine ⟨⟨by simp [ho2], hR.ok.sl, fun x hx => ?_⟩, fun i hi h => hR.mono i hi (hmono i h), fun i hi h => ?_, by have := hR.less; simp only at this ⊢; omega, fun _ => ⟨y1.set_ hl0, ?_⟩, fun h => by cases h⟩
         · rcases List.mem_or_eq_of_mem_set hx with h | h
           · exact hR.ok.ow x h
           · subst h; right; omega
         · simp only
           rw [getD_set_ne (by intro e; subst e; rw [hs] at h; cases h)]
           exact hR.kept i hi (hmono i h)
         · have e1 : (((o.getD j 0).toNat : Nat) : Int) = o.getD j 0 := by omega
           rw [e1] at y2
           have := vals_set_own (o := o2) (j := j) (r := (row : Int)) (by omega) hkj (by omega) (by omega)
           exact (List.perm_cons _).1 ((this.trans (y2.cons _)).trans (List.Perm.swap _ _ _))
       | false =>
         simp only
         obtain ⟨n1, n2, n3⟩ := hR.no rfl
         simp only at n1 n2 n3
         subst n1
         have hle := hR.less
         simp only at hle
         have ih := srchL_said hrow rec bound hrec l (j + 1) o2 s2 hl1 hR.ok he (by omega) (by simp at hm; omega)
         refine ⟨ih.ok, fun i hi h => ih.mono i hi (hR.mono i hi (hmono i h)), fun i hi h => ?_, by have := ih.less; omega, fun h => ?_, fun hf => ?_⟩
         · exact ih.kept i hi (hR.mono i hi (hmono i h))
         · exact ih.yes h
         · obtain ⟨a1, a2, a3⟩ := ih.no hf
           refine ⟨a1, fun i hi hc ht => ?_, fun i hi h3 h4 => ?_⟩
           · by_cases e : i = j
             · subst e; exact ih.mono i hi hmj
             · exact a2 i hi (by omega) ht
           · by_cases e : i = j
             · subst e
               exact ⟨h2, fun q hq ht => ih.mono q hq (n2 q hq trivial ht)⟩
             · rcases hs2 : s2.getD i true with _ | _
               · exact a3 i hi h3 hs2
               · obtain ⟨b1, b2⟩ := n3 i hi hs2 (by rw [getD_set_ne (Ne.symm e)]; exact h4)
                 exact ⟨b1, fun q hq ht => ih.mono q hq (b2 q hq ht)⟩
theorem srch_said {tb : List (List Bool)} {n m : Nat} (hn : tb.length = n) (hm : ∀ r ∈ tb, r.length = m) (f : Nat) : ∀ o s r, r < n → KOk n m o s → EntOk tb o → unseen s < f → Said tb n m o s r (fun _ => True) (srch tb f o s r) := by
 induction f with
 | zero => intro o s r _ _ _ h; omega
 | succ f ih =>
   intro o s r hr hk he hb
   have hlen : (tb.getD r []).length = m := by
     have : r < tb.length := by omega
     rw [List.getD_eq_getElem?_getD, List.getElem?_eq_getElem this]
     exact hm _ (List.getElem_mem _)
   have := srchL_said hr (srch tb f) f (fun o s q hq h1 h2 h3 => ih o s q hq h1 h2 h3) (tb.getD r []) 0 o s (fun i => by rw [Nat.zero_add]) hk he (by omega) (by omega)
   exact ⟨this.ok, this.mono, this.kept, this.less, this.yes, fun hf => by
     obtain ⟨a1, a2, a3⟩ := this.no hf
     exact ⟨a1, fun i hi _ ht => a2 i hi (by omega) ht, a3⟩⟩

theorem nodup_map {α β : Type} {f : α → β} : ∀ {l : List α}, (∀ x ∈ l, ∀ y ∈ l, f x = f y → x = y) → l.Nodup → (l.map f).Nodup
 | [], _, _ => List.nodup_nil
 | a :: l, h, hn => by
   have h1 := List.nodup_cons.1 hn
   rw [List.map_cons]
   refine List.nodup_cons.2 ⟨fun hm => ?_, nodup_map (fun x hx y hy => h x (by simp [hx]) y (by simp [hy])) h1.2⟩
   obtain ⟨b, hb, e⟩ := List.mem_map.1 hm
   rw [h b (by simp [hb]) a (by simp) e] at hb
   exact h1.1 hb
theorem nodup_inj {α : Type} {l : List α} (h : l.Nodup) {i j : Nat} (hi : i < l.length) (hj : j < l.length) (e : l[i] = l[j]) : i = j := by
 have h1 := List.pairwise_iff_getElem.1 h
 rcases Nat.lt_trichotomy i j with h2 | h2 | h2
 · exact absurd e (h1 i j hi hj h2)
 · exact h2
 · exact absurd e.symm (h1 j i hj hi h2)
theorem nodup_le {α : Type} [DecidableEq α] : ∀ {l l' : List α}, l.Nodup → (∀ x ∈ l, x ∈ l') → l.length ≤ l'.length
 | [], _, _, _ => by simp
 | a :: l, l', h, hs => by
   have h1 := List.nodup_cons.1 h
   have ha : a ∈ l' := hs a (by simp)
   have ih := nodup_le (l := l) (l' := l'.erase a) h1.2 (fun x hx => (List.mem_erase_of_ne (by rintro rfl; exact h1.1 hx)).2 (hs x (by simp [hx])))
   have := List.length_erase_of_mem ha
   have : 0 < l'.length := List.length_pos_of_mem ha
   simp; omega
def Cols (tb : List (List Bool)) (m : Nat) (gl : List Nat) : Prop := gl.Nodup ∧ (∀ j ∈ gl, j < m) ∧ ∀ i (h : i < gl.length), (tb.getD i []).getD gl[i] false = true
theorem hall {tb : List (List Bool)} {n m : Nat} {o : List Int} {row : Nat} {s' : List Bool} (hn : tb.length = n) (hr : row < n) (ho : o.length = m) (hs : s'.length = m) (hv : ((row : Int) :: vals o).Nodup) (hrng : ∀ x ∈ o, x = -1 ∨ (0 ≤ x ∧ x < n))
   (h1 : ∀ j, j < m → (tb.getD row []).getD j false = true → s'.getD j true = true) (h2 : ∀ j, j < m → s'.getD j true = true → o.getD j 0 ≠ -1 ∧ ∀ i, i < m → (tb.getD (o.getD j 0).toNat []).getD i false = true → s'.getD i true = true)
   {gl : List Nat} (hc : Cols tb m gl) (hgl : gl.length = n) : False := by
 let S := (List.range m).filter fun j => s'.getD j true
 have hS : ∀ j, j ∈ S ↔ j < m ∧ s'.getD j true = true := fun j => by simp [S]
 let Q : List Nat := row :: S.map fun j => (o.getD j 0).toNat
 have hval : ∀ j ∈ S, o.getD j 0 ∈ vals o ∧ 0 ≤ o.getD j 0 ∧ o.getD j 0 < n := fun j hj => by
   obtain ⟨a1, a2⟩ := (hS j).1 hj
   have a3 := (h2 j a1 a2).1
   have hjo : j < o.length := by omega
   have hm : o.getD j 0 ∈ o := by simp [List.getD_eq_getElem?_getD, hjo]
   refine ⟨List.mem_filter.2 ⟨hm, by simpa using a3⟩, ?_⟩
   rcases hrng _ hm with h | h
   · exact absurd h a3
   · exact h
 have hSn : S.Nodup := List.Pairwise.filter _ List.nodup_range
 -- distinct columns of S have distinct owners
 have inj : ∀ (o : List Int) (i j : Nat), i < j → j < o.length → o.getD i 0 = o.getD j 0 → o.getD i 0 ≠ -1 → ¬ (vals o).Nodup := by
   intro o
   induction o with
   | nil => intro i j _ h; simp at h
   | cons a o ih =>
     intro i j hij hj he hne
     cases j with
     | zero => omega
     | succ j =>
       cases i with
       | zero =>
         simp only [List.getD_cons_zero, List.getD_cons_succ] at he hne
         intro hnd
         have hj' : j < o.length := by simpa using hj
         have : a ∈ vals o := List.mem_filter.2 ⟨by rw [he]; simp [List.getD_eq_getElem?_getD, hj'], by simpa using hne⟩
         unfold vals at hnd this
         rw [List.filter_cons, if_pos (by simpa using hne)] at hnd
         exact (List.nodup_cons.1 hnd).1 this
       | succ i =>
         simp only [List.getD_cons_succ] at he hne
         intro hnd
         refine ih i j (by omega) (by simpa using hj) he hne ?_
         unfold vals at hnd ⊢
         rw [List.filter_cons] at hnd
         split at hnd
         · exact (List.nodup_cons.1 hnd).2
         · exact hnd
 have hv2 := List.nodup_cons.1 hv
 have hQn : Q.Nodup := by
   refine List.nodup_cons.2 ⟨fun hm => ?_, ?_⟩
   · obtain ⟨j, hj, e⟩ := List.mem_map.1 hm
     obtain ⟨b1, b2, b3⟩ := hval j hj
     exact hv2.1 (by rw [← e, show (((o.getD j 0).toNat : Nat) : Int) = o.getD j 0 by omega]; exact b1)
   · refine nodup_map ?_ hSn
     intro i hi j hj e
     obtain ⟨_, b2, _⟩ := hval i hi
     obtain ⟨_, c2, _⟩ := hval j hj
     have e2 : o.getD i 0 = o.getD j 0 := by omega
     have hiS := (hS i).1 hi
     have hjS := (hS j).1 hj
     rcases Nat.lt_trichotomy i j with h | h | h
     · exact absurd hv2.2 (inj o i j h (by omega) e2 (h2 i hiS.1 hiS.2).1)
     · exact h
     · exact absurd hv2.2 (inj o j i h (by omega) e2.symm (h2 j hjS.1 hjS.2).1)
 have hQr : ∀ q ∈ Q, q < n := fun q hq => by
   rcases List.mem_cons.1 hq with rfl | hq
   · exact hr
   · obtain ⟨j, hj, rfl⟩ := List.mem_map.1 hq
     have := hval j hj; omega
 have hG : ∀ q ∈ Q, gl.getD q 0 ∈ S := fun q hq => by
   have hq9 : q < gl.length := by rw [hgl]; exact hQr q hq
   have h3 := hc.2.2 q hq9
   have e : gl.getD q 0 = gl[q] := by simp [List.getD_eq_getElem?_getD, hq9]
   rw [e]
   have h4 : gl[q] < m := hc.2.1 _ (List.getElem_mem hq9)
   refine (hS _).2 ⟨h4, ?_⟩
   rcases List.mem_cons.1 hq with rfl | hq
   · exact h1 _ h4 h3
   · obtain ⟨j, hj, rfl⟩ := List.mem_map.1 hq
     have := (hS j).1 hj
     exact (h2 j this.1 this.2).2 _ h4 h3
 have hGn : (Q.map fun q => gl.getD q 0).Nodup := by
   refine nodup_map ?_ hQn
   intro i hi j hj e
   have hi9 : i < gl.length := by rw [hgl]; exact hQr i hi
   have hj9 : j < gl.length := by rw [hgl]; exact hQr j hj
   have e' : gl[i] = gl[j] := by simpa [List.getD_eq_getElem?_getD, hi9, hj9] using e
   exact nodup_inj hc.1 hi9 hj9 e'
 have := nodup_le hGn (l' := S) (fun x hx => by obtain ⟨q, hq, rfl⟩ := List.mem_map.1 hx; exact hG q hq)
 have e : (Q.map fun q => gl.getD q 0).length = S.length + 1 := by rw [List.length_map]; show (_ :: S.map _).length = _; rw [List.length_cons, List.length_map]
 omega

theorem most_said {tb : List (List Bool)} {n m : Nat} (hn : tb.length = n) (hm : ∀ r ∈ tb, r.length = m) : ∀ (k row : Nat) (o : List Int), row + k = n → o.length = m → (∀ x ∈ o, x = -1 ∨ (0 ≤ x ∧ x < row)) → EntOk tb o → (vals o).Nodup →
   mostL tb m k row o ≤ k ∧ (mostL tb m k row o = k → ∃ o' : List Int, o'.length = m ∧ EntOk tb o' ∧ (vals o').Perm ((List.range' row k).map (fun i => ((i : Nat) : Int)) ++ vals o)) ∧
   (∀ gl, Cols tb m gl → gl.length = n → mostL tb m k row o = k)
 | 0, row, o, _, hl, _, he, _ => ⟨Nat.le_refl _, fun _ => ⟨o, hl, he, by simp⟩, fun _ _ _ => rfl⟩
 | k + 1, row, o, hk, hl, hr, he, hnd => by
   have hks : KOk n m o (List.replicate m false) := ⟨hl, by simp, fun x hx => by rcases hr x hx with h | h; exact .inl h; right; omega⟩
   have hS := srch_said hn hm (m + 1) o (List.replicate m false) row (by omega) hks he (by simp [unseen, List.countP_replicate])
   simp only [mostL]
   rcases hb : (srch tb (m + 1) o (List.replicate m false) row) with ⟨b, o2, s2⟩
   rw [hb] at hS
   cases b with
   | true =>
     obtain ⟨y1, y2⟩ := hS.yes rfl
     have hsr := hS.ok
     simp only at y1 y2 hsr ⊢
     have hrow : (row : Int) ∉ vals o := fun h => by
       rcases hr _ (List.mem_filter.1 h).1 with h | h <;> omega
     have hr2 : ∀ x ∈ o2, x = -1 ∨ (0 ≤ x ∧ x < (row + 1 : Nat)) := fun x hx => by
       by_cases hx1 : x = -1
       · exact .inl hx1
       · right
         have : x ∈ vals o2 := List.mem_filter.2 ⟨hx, by simpa using hx1⟩
         rcases List.mem_cons.1 (y2.subset this) with h | h
         · subst h; omega
         · rcases hr _ (List.mem_filter.1 h).1 with h | h
           · exact absurd h hx1
           · omega
     obtain ⟨i1, i2, i3⟩ := most_said hn hm k (row + 1) o2 (by omega) hsr.ol hr2 y1 (y2.symm.nodup_iff.1 (List.nodup_cons.2 ⟨hrow, hnd⟩))
     refine ⟨by simp only [if_true]; omega, fun h => ?_, fun gl h1 h2 => ?_⟩
     · obtain ⟨o', a1, a2, a3⟩ := i2 (by simp only [if_true] at h; omega)
       refine ⟨o', a1, a2, a3.trans ?_⟩
       rw [List.range'_succ, List.map_cons]
       exact ((y2.append_left _).trans List.perm_middle)
     · have := i3 gl h1 h2; simp only [if_true]; omega
   | false =>
     obtain ⟨n1, n2, n3⟩ := hS.no rfl
     have hsr := hS.ok
     simp only at n1 n2 n3 hsr ⊢
     subst n1
     obtain ⟨i1, i2, i3⟩ := most_said hn hm k (row + 1) o2 (by omega) hl (fun x hx => by rcases hr x hx with h | h; exact .inl h; right; omega) he hnd
     have hrow : (row : Int) ∉ vals o2 := fun h => by
       rcases hr _ (List.mem_filter.1 h).1 with h | h <;> omega
     refine ⟨by simp; omega, fun h => by simp at h; omega, fun gl h1 h2 => ?_⟩
     exact (hall hn (by omega) hl hsr.sl (List.nodup_cons.2 ⟨hrow, hnd⟩) hks.ow (fun j hj h => n2 j hj trivial h) (fun j hj h => n3 j hj h (by simp [List.getD_eq_getElem?_getD, hj])) h1 h2).elim
theorem mostP_iff {tb : List (List Bool)} {m : Nat} (hm : ∀ r ∈ tb, r.length = m) : mostP tb m ≤ tb.length ∧ (mostP tb m = tb.length ↔ ∃ gl, Cols tb m gl ∧ gl.length = tb.length) := by
 have hv : vals (List.replicate m (-1)) = [] := List.filter_eq_nil_iff.2 (fun x hx => by rw [(List.mem_replicate.1 hx).2]; simp)
 obtain ⟨h1, h2, h3⟩ := most_said (n := tb.length) rfl hm tb.length 0 (List.replicate m (-1)) (by omega) (by simp) (fun x hx => .inl (List.mem_replicate.1 hx).2) (fun j hj => .inl (by simp at hj; simp [List.getD_eq_getElem?_getD, hj])) (by rw [hv]; exact List.nodup_nil)
 refine ⟨h1, fun h => ?_, fun ⟨gl, h4, h5⟩ => h3 gl h4 h5⟩
 obtain ⟨o, ol, oe, op⟩ := h2 h
 rw [hv, List.append_nil] at op
 -- the column of each row
 have hnd : (vals o).Nodup := op.symm.nodup_iff.1 (by
   refine nodup_map (fun x _ y _ e => by omega) ?_
   exact (List.nodup_range' : (List.range' 0 tb.length 1).Nodup))
 have hex : ∀ i, i < tb.length → ∃ j, j < m ∧ o.getD j 0 = (i : Int) := fun i hi => by
   have : (i : Int) ∈ vals o := op.symm.subset (List.mem_map.2 ⟨i, by simp [List.mem_range'_1]; omega, rfl⟩)
   obtain ⟨j, hj, e⟩ := List.getElem_of_mem (List.mem_filter.1 this).1
   exact ⟨j, by omega, by simp [List.getD_eq_getElem?_getD, hj, e]⟩
 have hch : ∀ k, k ≤ tb.length → ∃ gl : List Nat, gl.length = k ∧ ∀ i (h : i < gl.length), gl[i] < m ∧ o.getD gl[i] 0 = (i : Int) := by
   intro k
   induction k with
   | zero => intro _; exact ⟨[], rfl, fun i h => absurd h (by simp)⟩
   | succ k ih =>
     intro hk
     obtain ⟨gl, g1, g2⟩ := ih (by omega)
     obtain ⟨j, j1, j2⟩ := hex k (by omega)
     refine ⟨gl ++ [j], by simp [g1], fun i h => ?_⟩
     by_cases hi : i < gl.length
     · rw [List.getElem_append_left hi]; exact g2 i hi
     · have : i = k := by simp at h; omega
       subst this
       have e : (gl ++ [j])[i]'h = j := by simp [g1]
       rw [e]; exact ⟨j1, j2⟩
 obtain ⟨gl, g1, g2⟩ := hch tb.length (Nat.le_refl _)
 refine ⟨gl, ⟨?_, fun j hj => ?_, fun i hi => ?_⟩, g1⟩
 · refine List.pairwise_iff_getElem.2 fun i j hi hj hij e => ?_
   have a := (g2 i hi).2
   have b := (g2 j hj).2
   rw [e, b] at a; omega
 · obtain ⟨i, hi, rfl⟩ := List.getElem_of_mem hj
   exact (g2 i hi).1
 · obtain ⟨a, b⟩ := g2 i hi
   rcases oe gl[i] (by omega) with h | h
   · rw [b] at h; omega
   · rw [b] at h; simpa using h
def ColsG {α : Type} (f : α → α → Bool) (as bs : List α) (gl : List Nat) : Prop := gl.length = as.length ∧ gl.Nodup ∧ (∀ j ∈ gl, j < bs.length) ∧ ∀ i (h : i < gl.length) a b, as[i]? = some a → bs[gl[i]]? = some b → f a b = true
def shDown (j q : Nat) : Nat := if q < j then q else q - 1
def shUp (j q : Nat) : Nat := if q < j then q else q + 1
theorem erase_get {α : Type} (bs : List α) (j q : Nat) : (bs.eraseIdx j)[q]? = bs[shUp j q]? := by
 unfold shUp
 rw [List.getElem?_eraseIdx]
 split <;> rfl
theorem domG_cols {α : Type} (f : α → α → Bool) : ∀ (as bs : List α), domG f as bs = true ↔ ∃ gl, ColsG f as bs gl
 | [], bs => by
   simp only [domG, true_iff]
   exact ⟨[], rfl, List.nodup_nil, by simp, fun i h => absurd h (by simp)⟩
 | a :: as, bs => by
   simp only [domG, List.any_eq_true, List.mem_range, Bool.and_eq_true]
   constructor
   · rintro ⟨i, hi, h1, h2⟩
     rw [List.getElem?_eq_getElem hi] at h1
     obtain ⟨gl, g1, g2, g3, g4⟩ := (domG_cols f as _).1 h2
     have hlen : (bs.eraseIdx i).length = bs.length - 1 := List.length_eraseIdx_of_lt hi
     refine ⟨i :: gl.map (shUp i), by simp [g1], List.nodup_cons.2 ⟨fun hm => ?_, nodup_map (fun x _ y _ e => ?_) g2⟩, fun j hj => ?_, fun k hk x y hx hy => ?_⟩
     · obtain ⟨q, hq, e⟩ := List.mem_map.1 hm
       unfold shUp at e; split at e <;> omega
     · unfold shUp at e; split at e <;> split at e <;> omega
     · rcases List.mem_cons.1 hj with rfl | hj
       · exact hi
       · obtain ⟨q, hq, rfl⟩ := List.mem_map.1 hj
         have := g3 q hq
         unfold shUp; split <;> omega
     · cases k with
       | zero =>
         simp only [List.getElem?_cons_zero, Option.some.injEq, List.getElem_cons_zero] at hx hy
         subst hx
         rw [List.getElem?_eq_getElem hi] at hy
         rw [← Option.some.inj hy]; exact h1
       | succ k =>
         have hk' : k < gl.length := by simpa using hk
         simp only [List.getElem?_cons_succ, List.getElem_cons_succ, List.getElem_map] at hx hy
         rw [← erase_get] at hy
         exact g4 k hk' x y hx hy
   · rintro ⟨gl, g1, g2, g3, g4⟩
     cases gl with
     | nil => simp at g1
     | cons i gl =>
       have hi : i < bs.length := g3 i (by simp)
       have hn := List.nodup_cons.1 g2
       have hlen : (bs.eraseIdx i).length = bs.length - 1 := List.length_eraseIdx_of_lt hi
       refine ⟨i, hi, ?_, (domG_cols f as _).2 ⟨gl.map (shDown i), by simpa using g1, nodup_map (fun x hx y hy e => ?_) hn.2, fun j hj => ?_, fun k hk x y hx hy => ?_⟩⟩
       · rw [List.getElem?_eq_getElem hi]
         exact g4 0 (by simp) a _ (by simp) (by simp [hi])
       · have hxi : x ≠ i := by rintro rfl; exact hn.1 hx
         have hyi : y ≠ i := by rintro rfl; exact hn.1 hy
         unfold shDown at e; split at e <;> split at e <;> omega
       · obtain ⟨q, hq, rfl⟩ := List.mem_map.1 hj
         have hqi : q ≠ i := by rintro rfl; exact hn.1 hq
         have := g3 q (by simp [hq])
         unfold shDown; split <;> omega
       · have hk' : k < gl.length := by simpa using hk
         rw [erase_get, List.getElem_map] at hy
         have hqi : gl[k] ≠ i := by intro e; exact hn.1 (e ▸ List.getElem_mem hk')
         have e : shUp i (shDown i gl[k]) = gl[k] := by
           unfold shUp shDown
           by_cases h : gl[k] < i
           · rw [if_pos h, if_pos h]
           · rw [if_neg h, if_neg (by omega)]; omega
         rw [e] at hy
         exact g4 (k + 1) (by simp; omega) x y (by simpa using hx) (by simpa using hy)
def tabOf {α : Type} (f : α → α → Bool) (as bs : List α) : List (List Bool) := as.map fun a => bs.map (f a)
theorem dom_most {α : Type} (f : α → α → Bool) (as bs : List α) : decide (mostP (tabOf f as bs) bs.length = as.length) = domG f as bs := by
 have hm : ∀ r ∈ tabOf f as bs, r.length = bs.length := fun r hr => by obtain ⟨a, _, rfl⟩ := List.mem_map.1 hr; simp
 have hl : (tabOf f as bs).length = as.length := by simp [tabOf]
 have h := (mostP_iff hm).2
 rw [hl] at h
 rw [Bool.eq_iff_iff, decide_eq_true_eq, h, domG_cols]
 have key : ∀ (gl : List Nat) i (h1 : i < gl.length), gl.length = as.length → gl[i] < bs.length → (((tabOf f as bs).getD i []).getD gl[i] false = true ↔ ∀ a b, as[i]? = some a → bs[gl[i]]? = some b → f a b = true) := by
   intro gl i h1 h2 h3
   have h4 : i < as.length := by omega
   simp [tabOf, List.getD_eq_getElem?_getD, h4, h3]
 constructor
 · rintro ⟨gl, ⟨c1, c2, c3⟩, c4⟩
   exact ⟨gl, c4, c1, c2, fun i h => (key gl i h c4 (c2 _ (List.getElem_mem h))).1 (c3 i h)⟩
 · rintro ⟨gl, c1, c2, c3, c4⟩
   exact ⟨gl, ⟨c2, c3, fun i h => (key gl i h c1 (c3 _ (List.getElem_mem h))).2 (c4 i h)⟩, c1⟩
def insV (x : V) : List V → List V
 | [] => [x]
 | y :: r => if cmpV x y ≤ 0 then x :: y :: r else y :: insV x r
def sortV (l : List V) : List V := l.foldr insV []
theorem insV_perm (x : V) : ∀ l, (insV x l).Perm (x :: l)
 | [] => List.Perm.refl _
 | y :: r => by
   unfold insV
   split
   · exact List.Perm.refl _
   · exact ((insV_perm x r).cons y).trans (List.Perm.swap _ _ _)
theorem sortV_perm : ∀ l, (sortV l).Perm l
 | [] => List.Perm.refl _
 | x :: r => (insV_perm x _).trans ((sortV_perm r).cons x)
theorem cmp_le_trans {a b c : V} (h1 : cmpV a b ≤ 0) (h2 : cmpV b c ≤ 0) : cmpV a c ≤ 0 := by
 by_cases e1 : cmpV a b = 0
 · rw [cmp_zero _ _ e1]; exact h2
 · by_cases e2 : cmpV b c = 0
   · rw [← cmp_zero _ _ e2]; exact h1
   · have r1 := cmp_range a b; have r2 := cmp_range b c
     have := cmp_trans a b c (by omega) (by omega); omega
theorem insV_pair (x : V) : ∀ {l : List V}, (l.Pairwise fun a b => cmpV a b ≤ 0) → (insV x l).Pairwise fun a b => cmpV a b ≤ 0
 | [], _ => by simp [insV]
 | y :: r, h => by
   have h2 := List.pairwise_cons.1 h
   unfold insV
   split
   · rename_i h0
     refine .cons (fun z hz => ?_) h
     rcases List.mem_cons.1 hz with rfl | hz
     · exact h0
     · exact cmp_le_trans h0 (h2.1 z hz)
   · rename_i h0
     refine .cons (fun z hz => ?_) (insV_pair x h2.2)
     rcases List.mem_cons.1 ((insV_perm x r).subset hz) with rfl | hz
     · have := cmp_anti z y; omega
     · exact h2.1 z hz
theorem sortV_pair : ∀ l, (sortV l).Pairwise fun a b => cmpV a b ≤ 0
 | [] => .nil
 | x :: r => insV_pair x (sortV_pair r)
theorem sortV_sorted (l : List V) : sortedB (sortV l) = true := pair_sorted (sortV_pair l)
theorem sortV_eq {l l' : List V} (h : l'.Perm l) (hs : sortedB l' = true) : l' = sortV l := sorted_perm hs (sortV_sorted l) (h.trans (sortV_perm l).symm)
theorem sortV_mem {l : List V} {x : V} : x ∈ sortV l ↔ x ∈ l := (sortV_perm l).mem_iff
theorem sortV_length (l : List V) : (sortV l).length = l.length := (sortV_perm l).length_eq

def minStep (f : V → V → Bool) (out : List V) (v : V) : List V := if out.any (fun x => f x v) then out else (out.filter fun x => !f v x) ++ [v]
def minL (f : V → V → Bool) (l : List V) : List V := l.foldl (minStep f) []
def minimalP (f : V → V → Bool) (l : List V) : List V := sortV (minL f l)

structure POrd (f : V → V → Bool) (ok : V → Prop) : Prop where
 refl : ∀ a, ok a → f a a = true
 trans : ∀ a b c, ok a → ok b → ok c → f a b = true → f b c = true → f a c = true
 anti : ∀ a b, ok a → ok b → f a b = true → f b a = true → a = b
def Anti (f : V → V → Bool) (l : List V) : Prop := l.Pairwise fun a b => f a b = false ∧ f b a = false
theorem Anti.perm {f : V → V → Bool} {a b : List V} (h : Anti f a) (p : a.Perm b) : Anti f b := (p.pairwise_iff (fun {x y} h => ⟨h.2, h.1⟩)).1 h
section
variable {f : V → V → Bool} {ok : V → Prop}
theorem minStep_anti {out : List V} (v : V) (h : Anti f out) : Anti f (minStep f out v) := by
 unfold minStep
 split
 · exact h
 · rename_i h0
   refine List.pairwise_append.2 ⟨List.Pairwise.sublist List.filter_sublist h, by simp, fun a ha b hb => ?_⟩
   obtain rfl := List.mem_singleton.1 hb
   have h1 := List.mem_filter.1 ha
   simp only [Bool.not_eq_true, List.any_eq_false] at h0
   exact ⟨by simpa using h0 a h1.1, by simpa using h1.2⟩
theorem minStep_mem {out : List V} {v x : V} (h : x ∈ minStep f out v) : x ∈ out ∨ x = v := by
 unfold minStep at h
 split at h
 · exact .inl h
 · rcases List.mem_append.1 h with h | h
   · exact .inl (List.mem_filter.1 h).1
   · exact .inr (List.mem_singleton.1 h)
theorem minStep_dom (P : POrd f ok) {out : List V} {v y : V} (ho : ∀ x ∈ out, ok x) (hv : ok v) (hy : ok y) (h : (∃ x ∈ out, f x y = true) ∨ f v y = true) : ∃ x ∈ minStep f out v, f x y = true := by
 unfold minStep
 split
 · rename_i h0
   rcases h with h | h
   · exact h
   · obtain ⟨x, hx, h1⟩ := List.any_eq_true.1 h0
     exact ⟨x, hx, P.trans _ _ _ (ho x hx) hv hy h1 h⟩
 · rcases h with ⟨x, hx, h⟩ | h
   · by_cases h1 : f v x = true
     · exact ⟨v, by simp, P.trans _ _ _ hv (ho x hx) hy h1 h⟩
     · exact ⟨x, List.mem_append_left _ (List.mem_filter.2 ⟨hx, by simpa using h1⟩), h⟩
   · exact ⟨v, by simp, h⟩
theorem fold_spec (P : POrd f ok) : ∀ (l out : List V), (∀ x ∈ out, ok x) → (∀ x ∈ l, ok x) → Anti f out →
   Anti f (l.foldl (minStep f) out) ∧ (∀ x ∈ l.foldl (minStep f) out, x ∈ out ∨ x ∈ l) ∧ (∀ y, ok y → ((∃ x ∈ out, f x y = true) ∨ ∃ x ∈ l, f x y = true) → ∃ x ∈ l.foldl (minStep f) out, f x y = true)
 | [], out, _, _, h => ⟨h, fun x hx => .inl hx, fun y _ hy => by simpa using hy⟩
 | v :: l, out, ho, hl, h => by
   have hv := hl v (by simp)
   obtain ⟨a, b, c⟩ := fold_spec P l (minStep f out v) (fun x hx => by
     rcases minStep_mem hx with hx | rfl
     · exact ho x hx
     · exact hv) (fun x hx => hl x (by simp [hx])) (minStep_anti v h)
   refine ⟨a, fun x hx => ?_, fun y oy hy => c y oy ?_⟩
   · rcases b x hx with hx | hx
     · rcases minStep_mem hx with hx | rfl
       · exact .inl hx
       · exact .inr (by simp)
     · exact .inr (by simp [hx])
   · rcases hy with hy | ⟨x, hx, hy⟩
     · exact .inl (minStep_dom P ho hv oy (.inl hy))
     · rcases List.mem_cons.1 hx with rfl | hx
       · exact .inl (minStep_dom P ho hv oy (.inr hy))
       · exact .inr ⟨x, hx, hy⟩
theorem minL_spec (P : POrd f ok) {l : List V} (hl : ∀ x ∈ l, ok x) : Anti f (minL f l) ∧ (∀ x ∈ minL f l, x ∈ l) ∧ (∀ y, ok y → (∃ x ∈ l, f x y = true) → ∃ x ∈ minL f l, f x y = true) := by
 obtain ⟨a, b, c⟩ := fold_spec P l [] (fun x hx => by simp at hx) hl .nil
 exact ⟨a, fun x hx => by simpa using b x hx, fun y oy hy => c y oy (.inr hy)⟩
theorem minP_spec (P : POrd f ok) {l : List V} (hl : ∀ x ∈ l, ok x) : Anti f (minimalP f l) ∧ (∀ x ∈ minimalP f l, x ∈ l) ∧ (∀ y, ok y → (∃ x ∈ l, f x y = true) → ∃ x ∈ minimalP f l, f x y = true) := by
 obtain ⟨a, b, c⟩ := minL_spec P hl
 exact ⟨a.perm (sortV_perm _).symm, fun x hx => b x (sortV_mem.1 hx), fun y oy hy => by
   obtain ⟨x, hx, h⟩ := c y oy hy
   exact ⟨x, sortV_mem.2 hx, h⟩⟩
theorem Anti.asc (P : POrd f ok) {l : List V} (hl : ∀ x ∈ l, ok x) (h : Anti f l) (hs : l.Pairwise fun a b => cmpV a b ≤ 0) : Asc l := by
 induction l with
 | nil => trivial
 | cons a r ih =>
   have h1 := List.pairwise_cons.1 h
   have h2 := List.pairwise_cons.1 hs
   refine ⟨fun b hb => ?_, ih (fun x hx => hl x (by simp [hx])) h1.2 h2.2⟩
   have h3 := h2.1 b hb
   rcases cmp_range a b with e | e | e
   · exact e
   · obtain rfl := cmp_zero _ _ e
     have := (h1.1 a hb).1
     rw [P.refl a (hl a (by simp))] at this; cases this
   · omega
theorem minP_asc (P : POrd f ok) {l : List V} (hl : ∀ x ∈ l, ok x) : Asc (minimalP f l) :=
 (minP_spec P hl).1.asc P (fun x hx => hl x ((minP_spec P hl).2.1 x hx)) (sortV_pair _)
theorem fold_anti : ∀ (l out : List V), Anti f (out ++ l) → l.foldl (minStep f) out = out ++ l
 | [], out, _ => by simp
 | v :: l, out, h => by
   have h1 := List.pairwise_append.1 h
   have e : minStep f out v = out ++ [v] := by
     unfold minStep
     rw [if_neg, List.filter_eq_self.2]
     · intro x hx; simp [(h1.2.2 x hx v (by simp)).2]
     · simp only [Bool.not_eq_true, List.any_eq_false]
       intro x hx; simp [(h1.2.2 x hx v (by simp)).1]
   rw [List.foldl_cons, e, fold_anti l (out ++ [v]) (by simpa using h)]
   simp
theorem minL_anti {l : List V} (h : Anti f l) : minL f l = l := by unfold minL; rw [fold_anti l [] (by simpa using h)]; simp
theorem minStep_length (out : List V) (v : V) : (minStep f out v).length ≤ out.length + 1 := by
 unfold minStep
 split
 · omega
 · have := List.length_filter_le (fun x => !f v x) out; simp; omega
theorem fold_length : ∀ (l out : List V), (l.foldl (minStep f) out).length ≤ out.length + l.length
 | [], out => by simp
 | v :: l, out => by have := fold_length l (minStep f out v); have := minStep_length (f := f) out v; simp; omega
theorem fold_full : ∀ (l out : List V), Anti f out → (l.foldl (minStep f) out).length = out.length + l.length → Anti f (out ++ l)
 | [], out, h, _ => by simpa using h
 | v :: l, out, h, e => by
   have h1 := fold_length (f := f) l (minStep f out v)
   have h2 := minStep_length (f := f) out v
   simp only [List.foldl_cons, List.length_cons] at e
   have e3 : (minStep f out v).length = out.length + 1 := by omega
   have e2 : minStep f out v = out ++ [v] := by
     unfold minStep at e3 ⊢
     split at e3
     · omega
     · rename_i h0
       rw [if_neg h0]
       simp at e3
       rw [List.filter_eq_self.2]
       intro x hx; simpa using e3 x hx
   have h3 := fold_full l (minStep f out v) (minStep_anti v h) (by rw [e, e3]; omega)
   rw [e2] at h3
   simpa using h3
theorem minP_full {l : List V} : (minimalP f l).length = l.length ↔ Anti f l := by
 unfold minimalP
 rw [sortV_length]
 constructor
 · intro h
   have := fold_full l [] .nil (by unfold minL at h; simpa using h)
   simpa using this
 · intro h; rw [minL_anti h]
theorem minP_length_le (l : List V) : (minimalP f l).length ≤ l.length := by
 unfold minimalP; rw [sortV_length]; have := fold_length (f := f) l []; simpa [minL] using this
end
theorem below_ord {d : Nat} {t : T} (ht : rightP d t = true) : POrd (belowP d t) (fun v => oneP d t v = true) :=
 ⟨fun a ha => below_refl d t a ht ha, fun a b c ha hb hc h1 h2 => below_trans d t a b c ht ha hb hc h1 h2, fun a b ha hb h1 h2 => below_anti ht ha hb h1 h2⟩

def prevBad : Option V → V → Bool
 | some u, v => decide (0 ≤ cmpV u v)
 | none, _ => false
def chkE (t : T) : Option V → List V → Int
 | _, [] => 0
 | p, v :: r => if validP t v then (if prevBad p v then 4 else chkE t (some v) r) else 5
def checkB (t : T) (b : List V) : Int :=
 if rightP 8 t then (if 256 < b.length then 1 else if chkE t none b = 0 then (if (minimalP (belowP 8 t) b).length = b.length then 0 else 7) else chkE t none b) else 6
def hasP (t : T) (b : List V) (v : V) : Bool := b.any fun x => belowP 8 t x v
def subP (t : T) (a b : List V) : Bool := checkB t a == 0 && checkB t b == 0 && a.all (hasP t b)
theorem chkE_zero {t : T} : ∀ {l : List V} {p : Option V}, chkE t p l = 0 ↔ (∀ v ∈ l, validP t v = true) ∧ Asc l ∧ (∀ u ∈ p, ∀ v ∈ l.head?, cmpV u v = -1)
 | [], p => by simp [chkE, Asc]
 | v :: r, p => by
   unfold chkE
   by_cases hv : validP t v = true
   · rw [if_pos hv]
     have ih := chkE_zero (t := t) (l := r) (p := some v)
     have hp : prevBad p v = true ↔ ¬ (∀ u ∈ p, ∀ x ∈ (v :: r).head?, cmpV u x = -1) := by
       cases p with
       | none => simp [prevBad]
       | some u =>
         have := cmp_range u v
         simp [prevBad]; omega
     have hA : Asc (v :: r) ↔ Asc r ∧ (∀ u ∈ some v, ∀ x ∈ r.head?, cmpV u x = -1) := by
       simp only [Asc, Option.mem_def, Option.some.injEq]
       constructor
       · rintro ⟨h1, h2⟩
         refine ⟨h2, ?_⟩
         rintro u rfl x hx
         exact h1 x (List.mem_of_mem_head? hx)
       · rintro ⟨h1, h2⟩
         refine ⟨fun b hb => ?_, h1⟩
         cases r with
         | nil => simp at hb
         | cons y q =>
           have h3 := h2 v rfl y rfl
           rcases List.mem_cons.1 hb with rfl | hb
           · exact h3
           · exact cmp_trans _ _ _ h3 (h1.1 b hb)
     by_cases h0 : prevBad p v = true
     · rw [if_pos h0]
       exact ⟨fun h => by omega, fun h => absurd h.2.2 (hp.1 h0)⟩
     · rw [if_neg h0, ih]
       have h1 : (∀ u ∈ p, ∀ x ∈ (v :: r).head?, cmpV u x = -1) := Decidable.byContradiction fun h => h0 (hp.2 h)
       constructor
       · rintro ⟨a, b, c⟩
         exact ⟨by simpa using ⟨hv, a⟩, hA.2 ⟨b, c⟩, h1⟩
       · rintro ⟨a, b, _⟩
         exact ⟨fun x hx => a x (by simp [hx]), (hA.1 b).1, (hA.1 b).2⟩
   · rw [if_neg hv]
     exact ⟨fun h => by omega, fun h => absurd (h.1 v (by simp)) hv⟩
theorem validP_one {t : T} {v : V} (h : validP t v = true) : oneP 8 t v = true := by
 unfold validP at h; simp only [Bool.and_eq_true] at h; exact h.2
theorem checkB_zero {t : T} {b : List V} : checkB t b = 0 ↔ rightP 8 t = true ∧ b.length ≤ 256 ∧ (∀ v ∈ b, validP t v = true) ∧ Asc b ∧ Anti (belowP 8 t) b := by
 unfold checkB
 by_cases ht : rightP 8 t = true
 · rw [if_pos ht]
   by_cases hl : 256 < b.length
   · rw [if_pos hl]
     exact ⟨fun h => by omega, fun h => by omega⟩
   · rw [if_neg hl]
     have h1 := chkE_zero (t := t) (l := b) (p := none)
     by_cases h0 : chkE t none b = 0
     · rw [if_pos h0]
       have h2 := h1.1 h0
       by_cases hm : (minimalP (belowP 8 t) b).length = b.length
       · rw [if_pos hm]
         exact ⟨fun _ => ⟨ht, by omega, h2.1, h2.2.1, minP_full.1 hm⟩, fun _ => rfl⟩
       · rw [if_neg hm]
         exact ⟨fun h => by omega, fun h => absurd (minP_full.2 h.2.2.2.2) hm⟩
     · rw [if_neg h0]
       exact ⟨fun h => absurd h h0, fun h => absurd (h1.2 ⟨h.2.2.1, h.2.2.2.1, by simp⟩) h0⟩
 · rw [if_neg ht]
   exact ⟨fun h => by omega, fun h => absurd h.1 ht⟩
theorem checkB_min {t : T} (ht : rightP 8 t = true) {l : List V} (hl : ∀ v ∈ l, validP t v = true) (hn : l.length ≤ 256) : checkB t (minimalP (belowP 8 t) l) = 0 := by
 have P := below_ord ht
 have ho : ∀ v ∈ l, oneP 8 t v = true := fun v hv => validP_one (hl v hv)
 obtain ⟨a, b, c⟩ := minP_spec P ho
 exact checkB_zero.2 ⟨ht, by have := minP_length_le (f := belowP 8 t) l; omega, fun v hv => hl v (b v hv), minP_asc P ho, a⟩
structure MeetOk (bl : V → V → Bool) (ok : V → Bool) (a b : V) (L : List V) : Prop where
 sound : ∀ x ∈ L, ok x = true ∧ bl a x = true ∧ bl b x = true
 full : ∀ v, ok v = true → bl a v = true → bl b v = true → ∃ x ∈ L, bl x v = true
def hdV (x w : V) : V := .mk 0 (x :: w.ks)
def mergeP (f : V → V → List V) : List V → List V → List V
 | [], b => [.mk 0 b]
 | x :: a, [] => [.mk 0 (x :: a)]
 | x :: a, y :: b => (mergeP f a (y :: b)).map (hdV x) ++ (mergeP f (x :: a) b).map (hdV y) ++ (match f x y with | [] => [] | z :: _ => (mergeP f a b).map (hdV z))
termination_by a b => a.length + b.length
theorem hdV_ks (x w : V) : (hdV x w).ks = x :: w.ks := rfl
theorem merge_nil (f : V → V → List V) (b : List V) : mergeP f [] b = [.mk 0 b] := by rw [mergeP]
theorem merge_nil2 (f : V → V → List V) (a : List V) : mergeP f a [] = [.mk 0 a] := by cases a <;> rw [mergeP]
theorem merge_cons (f : V → V → List V) (x y : V) (a b : List V) : mergeP f (x :: a) (y :: b) = (mergeP f a (y :: b)).map (hdV x) ++ (mergeP f (x :: a) b).map (hdV y) ++ (match f x y with | [] => [] | z :: _ => (mergeP f a b).map (hdV z)) := by rw [mergeP]
section
variable {lb : V → V → Bool} {lok : V → Bool} {f : V → V → List V}
theorem merge_sound (hr : ∀ x, lok x = true → lb x x = true) (hf : ∀ x y, lok x = true → lok y = true → MeetOk lb lok x y (f x y)) : ∀ (n : Nat) (a b : List V), a.length + b.length ≤ n → (∀ x ∈ a, lok x = true) → (∀ x ∈ b, lok x = true) →
   ∀ w ∈ mergeP f a b, w.n = 0 ∧ (∀ x ∈ w.ks, lok x = true) ∧ Emb (fun a b => lb a b = true) a w.ks ∧ Emb (fun a b => lb a b = true) b w.ks ∧ w.ks.length ≤ a.length + b.length := by
 intro n
 induction n with
 | zero =>
   intro a b hn ha hb w hw
   have e1 : a = [] := List.eq_nil_of_length_eq_zero (by omega)
   have e2 : b = [] := List.eq_nil_of_length_eq_zero (by omega)
   subst e1 e2
   rw [merge_nil] at hw
   obtain rfl := List.mem_singleton.1 hw
   exact ⟨rfl, fun x hx => absurd hx (by simp [V.ks]), .nil, .nil, by simp [V.ks]⟩
 | succ n ih =>
   intro a b hn ha hb w hw
   match a, b with
   | [], b =>
     rw [merge_nil] at hw
     obtain rfl := List.mem_singleton.1 hw
     exact ⟨rfl, hb, .nil, Emb.refl_ (fun x hx => hr x (hb x hx)), by simp [V.ks]⟩
   | x :: a, [] =>
     rw [merge_nil2] at hw
     obtain rfl := List.mem_singleton.1 hw
     exact ⟨rfl, ha, Emb.refl_ (fun x hx => hr x (ha x hx)), .nil, by simp [V.ks]⟩
   | x :: a, y :: b =>
     have hx := ha x (by simp)
     have hy := hb y (by simp)
     have ha' : ∀ z ∈ a, lok z = true := fun z h => ha z (by simp [h])
     have hb' : ∀ z ∈ b, lok z = true := fun z h => hb z (by simp [h])
     simp only [List.length_cons] at hn ⊢
     rw [merge_cons, List.mem_append, List.mem_append] at hw
     rcases hw with (hw | hw) | hw
     · obtain ⟨u, hu, rfl⟩ := List.mem_map.1 hw
       obtain ⟨h1, h2, h3, h4, h5⟩ := ih a (y :: b) (by simp; omega) ha' hb u hu
       simp only [List.length_cons] at h5
       refine ⟨rfl, fun z hz => ?_, .cons (hr x hx) h3, .skip h4, by rw [hdV_ks, List.length_cons]; omega⟩
       rcases List.mem_cons.1 hz with rfl | hz
       · exact hx
       · exact h2 z hz
     · obtain ⟨u, hu, rfl⟩ := List.mem_map.1 hw
       obtain ⟨h1, h2, h3, h4, h5⟩ := ih (x :: a) b (by simp; omega) ha hb' u hu
       simp only [List.length_cons] at h5
       refine ⟨rfl, fun z hz => ?_, .skip h3, .cons (hr y hy) h4, by rw [hdV_ks, List.length_cons]; omega⟩
       rcases List.mem_cons.1 hz with rfl | hz
       · exact hy
       · exact h2 z hz
     · have hm := hf x y hx hy
       cases hfx : f x y with
       | nil => rw [hfx] at hw; simp at hw
       | cons z r =>
         rw [hfx] at hw
         obtain ⟨u, hu, rfl⟩ := List.mem_map.1 hw
         obtain ⟨h1, h2, h3, h4, h5⟩ := ih a b (by omega) ha' hb' u hu
         obtain ⟨k1, k2, k3⟩ := hm.sound z (by rw [hfx]; simp)
         refine ⟨rfl, fun q hq => ?_, .cons k2 h3, .cons k3 h4, by rw [hdV_ks, List.length_cons]; omega⟩
         rcases List.mem_cons.1 hq with rfl | hq
         · exact k1
         · exact h2 q hq
theorem merge_full (hr : ∀ x, lok x = true → lb x x = true) (hf : ∀ x y, lok x = true → lok y = true → MeetOk lb lok x y (f x y)) (hl : ∀ x y, (f x y).length ≤ 1) : ∀ (v a b : List V), (∀ x ∈ a, lok x = true) → (∀ x ∈ b, lok x = true) → (∀ x ∈ v, lok x = true) →
   Emb (fun a b => lb a b = true) a v → Emb (fun a b => lb a b = true) b v → ∃ w ∈ mergeP f a b, Emb (fun a b => lb a b = true) w.ks v := by
 intro v
 induction v with
 | nil =>
   intro a b ha hb hv h1 h2
   cases h1
   cases h2
   exact ⟨_, by rw [merge_nil]; exact List.mem_singleton.2 rfl, .nil⟩
 | cons z v ih =>
   intro a b ha hb hv h1 h2
   match a, b with
   | [], b => exact ⟨.mk 0 b, by rw [merge_nil]; exact List.mem_singleton.2 rfl, h2⟩
   | x :: a, [] => exact ⟨.mk 0 (x :: a), by rw [merge_nil2]; exact List.mem_singleton.2 rfl, h1⟩
   | x :: a, y :: b =>
     have hx := ha x (by simp)
     have hy := hb y (by simp)
     have hz := hv z (by simp)
     have ha' : ∀ z ∈ a, lok z = true := fun z h => ha z (by simp [h])
     have hb' : ∀ z ∈ b, lok z = true := fun z h => hb z (by simp [h])
     have hv' : ∀ z ∈ v, lok z = true := fun z h => hv z (by simp [h])
     rw [merge_cons]
     cases h1 with
     | skip h1 =>
       cases h2 with
       | skip h2 =>
         obtain ⟨w, hw, hE⟩ := ih (x :: a) (y :: b) ha hb hv' h1 h2
         rw [merge_cons] at hw
         exact ⟨w, hw, .skip hE⟩
       | cons k2 h2 =>
         obtain ⟨w, hw, hE⟩ := ih (x :: a) b ha hb' hv' h1 h2
         exact ⟨hdV y w, by simp only [List.mem_append, List.mem_map]; exact .inl (.inr ⟨w, hw, rfl⟩), .cons k2 hE⟩
     | cons k1 h1 =>
       cases h2 with
       | skip h2 =>
         obtain ⟨w, hw, hE⟩ := ih a (y :: b) ha' hb hv' h1 h2
         exact ⟨hdV x w, by simp only [List.mem_append, List.mem_map]; exact .inl (.inl ⟨w, hw, rfl⟩), .cons k1 hE⟩
       | cons k2 h2 =>
         obtain ⟨w, hw, hE⟩ := ih a b ha' hb' hv' h1 h2
         obtain ⟨l, hlm, hlz⟩ := (hf x y hx hy).full z hz k1 k2
         have hl1 := hl x y
         cases hfx : f x y with
         | nil => rw [hfx] at hlm; simp at hlm
         | cons q r =>
           rw [hfx] at hlm hl1
           have : r = [] := List.eq_nil_of_length_eq_zero (by simpa using hl1)
           subst this
           obtain rfl := List.mem_singleton.1 hlm
           exact ⟨hdV l w, by simp only [List.mem_append, List.mem_map]; exact .inr ⟨w, hw, rfl⟩, .cons hlz hE⟩
end
theorem merge_meet {d : Nat} {t : T} (hr : rightP (d + 1) t = true) (hk : t.kind = 4) {f : V → V → List V} (hf : ∀ x y, oneP d t.p0 x = true → oneP d t.p0 y = true → MeetOk (belowP d t.p0) (oneP d t.p0) x y (f x y)) (hl : ∀ x y, (f x y).length ≤ 1)
   {a b : V} (ha : oneP (d + 1) t a = true) (hb : oneP (d + 1) t b = true) (h8 : a.ks.length + b.ks.length ≤ 12) : MeetOk (belowP (d + 1) t) (oneP (d + 1) t) a b (mergeP f a.ks b.ks) := by
 have hp := (p0_right hr (.inl hk)).1
 have key : ∀ v, oneP (d + 1) t v = true ↔ (v.n = 0 ∧ v.ks.length ≤ 12 ∧ ∀ x ∈ v.ks, oneP d t.p0 x = true) := fun v => by
   simp only [oneP]
   rw [if_neg (by omega), if_neg (by omega), if_neg (by omega), if_pos hk]
   simp only [Bool.and_eq_true, decide_eq_true_eq, beq_iff_eq, List.all_eq_true, and_assoc]
 have kb : ∀ u v, belowP (d + 1) t u v = true ↔ Emb (fun a b => belowP d t.p0 a b = true) u.ks v.ks := fun u v => by
   simp only [belowP]
   rw [if_neg (by omega), if_neg (by omega), if_neg (by omega), if_pos hk]
   exact embG_iff _ _ _
 have rf : ∀ x, oneP d t.p0 x = true → belowP d t.p0 x x = true := fun x hx => below_refl d t.p0 x hp hx
 have a3 := (key a).1 ha
 have b3 := (key b).1 hb
 refine ⟨fun x hx => ?_, fun v hv h1 h2 => ?_⟩
 · obtain ⟨g1, g2, g3, g4, g5⟩ := merge_sound rf hf _ a.ks b.ks (Nat.le_refl _) a3.2.2 b3.2.2 x hx
   exact ⟨(key x).2 ⟨g1, by omega, g2⟩, (kb _ _).2 g3, (kb _ _).2 g4⟩
 · obtain ⟨w, hw, hE⟩ := merge_full rf hf hl v.ks a.ks b.ks a3.2.2 b3.2.2 ((key v).1 hv).2.2 ((kb _ _).1 h1) ((kb _ _).1 h2)
   exact ⟨w, hw, (kb _ _).2 hE⟩
theorem MeetOk.min {d : Nat} {t : T} (hr : rightP d t = true) {a b : V} {L : List V} (h : MeetOk (belowP d t) (oneP d t) a b L) : MeetOk (belowP d t) (oneP d t) a b (minimalP (belowP d t) L) := by
 obtain ⟨h1, h2, h3⟩ := minP_spec (below_ord hr) (l := L) (fun x hx => (h.sound x hx).1)
 refine ⟨fun x hx => h.sound x (h2 x hx), fun v hv ha hb => ?_⟩
 obtain ⟨x, hx, hxv⟩ := h.full v hv ha hb
 exact h3 v hv ⟨x, hx, hxv⟩
end Go.Proofs.YtbmheekaclmibaaGreat
