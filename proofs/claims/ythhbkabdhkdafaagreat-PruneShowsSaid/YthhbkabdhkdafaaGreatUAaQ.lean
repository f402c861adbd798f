/- Part of a proof of pruneShows_holds. -/
import Derived.Lib.Hide
set_option linter.unusedSimpArgs false
set_option linter.unusedVariables false
namespace Go.Proofs.YthhbkabdhkdafaaGreat
inductive V where | mk (n : Int) (ks : List V)
def V.n : V → Int | .mk n _ => n
def V.ks : V → List V | .mk _ k => k
@[simp] theorem V.n_mk (n : Int) (ks : List V) : (V.mk n ks).n = n := rfl
@[simp] theorem V.ks_mk (n : Int) (ks : List V) : (V.mk n ks).ks = ks := rfl
theorem V.eta (v : V) : V.mk v.n v.ks = v := by cases v; rfl
instance : Inhabited V := ⟨.mk 0 []⟩
theorem V.ind {P : V → Prop} (h : ∀ n ks, (∀ k ∈ ks, P k) → P (.mk n ks)) : ∀ v, P v
 | .mk n ks => h n ks fun k hk => V.ind h k
termination_by v => SizeOf.sizeOf v
decreasing_by have := List.sizeOf_lt_of_mem hk; simp; omega

mutual
def V.size : V → Nat | .mk _ ks => 1 + sizeL ks
def sizeL : List V → Nat | [] => 0 | v :: r => v.size + sizeL r
end
theorem V.size_pos (v : V) : 1 ≤ v.size := by cases v; simp [V.size]
theorem V.size_eq (v : V) : v.size = 1 + sizeL v.ks := by cases v; simp [V.size]
theorem sizeL_append (a b : List V) : sizeL (a ++ b) = sizeL a + sizeL b := by
 induction a with
 | nil => simp [sizeL]
 | cons x r ih => simp [sizeL, ih]; omega
theorem sizeL_mem {v : V} {l : List V} (h : v ∈ l) : v.size ≤ sizeL l := by
 induction l with
 | nil => simp at h
 | cons x r ih =>
   rcases List.mem_cons.1 h with rfl | h
   · simp [sizeL]
   · have := ih h; simp [sizeL]; omega
theorem sizeL_length (l : List V) : l.length ≤ sizeL l := by
 induction l with
 | nil => simp [sizeL]
 | cons x r ih => have := x.size_pos; simp [sizeL]; omega
theorem sizeL_take_le (l : List V) (k : Nat) : sizeL (l.take k) ≤ sizeL l := by
 have := sizeL_append (l.take k) (l.drop k)
 rw [List.take_append_drop] at this; omega
theorem sizeL_snoc {l : List V} {k : Nat} (h : k < l.length) : sizeL (l.take (k + 1)) = sizeL (l.take k) + l[k].size := by
 rw [List.take_succ_eq_append_getElem h, sizeL_append]; simp [sizeL]
theorem V.size_kid {v k : V} (h : k ∈ v.ks) : k.size < v.size := by
 have := sizeL_mem h; rw [v.size_eq]; omega

mutual
def cmpV : V → V → Int
 | .mk n ks, .mk m js => if n < m then -1 else if m < n then 1 else if ks.length < js.length then -1 else if js.length < ks.length then 1 else cmpL ks js
def cmpL : List V → List V → Int
 | [], [] => 0
 | [], _ :: _ => -1
 | _ :: _, [] => 1
 | a :: r, b :: q => if cmpV a b = 0 then cmpL r q else cmpV a b
end
theorem cmp_range (v : V) : ∀ u, cmpV v u = -1 ∨ cmpV v u = 0 ∨ cmpV v u = 1 := by
 induction v using V.ind with
 | h n ks ih =>
   have hl : ∀ js, cmpL ks js = -1 ∨ cmpL ks js = 0 ∨ cmpL ks js = 1 := by
     induction ks with
     | nil => intro js; cases js <;> simp [cmpL]
     | cons x r ihr =>
       intro js
       cases js with
       | nil => simp [cmpL]
       | cons y q =>
         simp only [cmpL]
         split
         · exact ihr (fun k hk => ih k (by simp [hk])) q
         · exact ih x (by simp) y
   intro u
   cases u with
   | mk m js =>
     simp only [cmpV]
     repeat' split
     all_goals (try simp)
     exact hl js
theorem cmp_zero (v : V) : ∀ u, cmpV v u = 0 → v = u := by
 induction v using V.ind with
 | h n ks ih =>
   have hl : ∀ js, cmpL ks js = 0 → ks = js := by
     induction ks with
     | nil => intro js; cases js <;> simp [cmpL]
     | cons x r ihr =>
       intro js
       cases js with
       | nil => simp [cmpL]
       | cons y q =>
         simp only [cmpL]
         split
         · intro h
           rename_i h0
           rw [ih x (by simp) y h0, ihr (fun k hk => ih k (by simp [hk])) q h]
         · intro h; rename_i h0; exact absurd h h0
   intro u
   cases u with
   | mk m js =>
     simp only [cmpV]
     repeat' split
     all_goals (try simp)
     intro h
     exact ⟨by omega, hl js h⟩
theorem cmp_anti (v : V) : ∀ u, cmpV u v = - cmpV v u := by
 induction v using V.ind with
 | h n ks ih =>
   have hl : ∀ js, cmpL js ks = - cmpL ks js := by
     induction ks with
     | nil => intro js; cases js <;> simp [cmpL]
     | cons x r ihr =>
       intro js
       cases js with
       | nil => simp [cmpL]
       | cons y q =>
         simp only [cmpL]
         rw [ih x (by simp) y, ihr (fun k hk => ih k (by simp [hk])) q]
         by_cases h0 : cmpV x y = 0
         · rw [if_pos (by omega), if_pos h0]
         · rw [if_neg (by omega), if_neg h0]
   intro u
   cases u with
   | mk m js =>
     simp only [cmpV]
     repeat' split
     all_goals first | omega | (simp; done) | exact hl js
theorem cmp_self (v : V) : cmpV v v = 0 := by have := cmp_anti v v; omega
theorem cmp_eq {v u : V} : cmpV v u = 0 ↔ v = u := ⟨cmp_zero v u, fun h => by rw [h, cmp_self]⟩
theorem cmp_trans (v : V) : ∀ u x, cmpV v u = -1 → cmpV u x = -1 → cmpV v x = -1 := by
 induction v using V.ind with
 | h n ks ih =>
   have hl : ∀ js xs, ks.length = js.length → js.length = xs.length → cmpL ks js = -1 → cmpL js xs = -1 → cmpL ks xs = -1 := by
     induction ks with
     | nil => intro js xs e1 e2; cases js <;> simp [cmpL] at e1 ⊢
     | cons x r ihr =>
       intro js xs e1 e2
       cases js with
       | nil => simp at e1
       | cons y q =>
         cases xs with
         | nil => simp at e2
         | cons z t =>
           simp only [cmpL]
           have ih1 := ihr (fun k hk => ih k (by simp [hk])) q t (by simpa using e1) (by simpa using e2)
           by_cases h1 : cmpV x y = 0
           · obtain rfl := cmp_zero _ _ h1
             rw [if_pos h1]
             by_cases h2 : cmpV x z = 0
             · rw [if_pos h2, if_pos h2]; exact ih1
             · rw [if_neg h2, if_neg h2]; exact fun _ h => h
           · rw [if_neg h1]
             intro h3
             by_cases h2 : cmpV y z = 0
             · obtain rfl := cmp_zero _ _ h2
               rw [if_neg h1]; exact fun _ => h3
             · rw [if_neg h2]
               intro h4
               have h5 := ih x (by simp) y z h3 h4
               rw [if_neg (by omega)]; exact h5
   intro u x
   cases u with
   | mk m js =>
     cases x with
     | mk p xs =>
       simp only [cmpV]
       intro h1 h2
       have g1 : n < m ∨ (n = m ∧ (ks.length < js.length ∨ (ks.length = js.length ∧ cmpL ks js = -1))) := by
         repeat' split at h1
         all_goals (first | (left; assumption) | (right; omega) | omega)
       have g2 : m < p ∨ (m = p ∧ (js.length < xs.length ∨ (js.length = xs.length ∧ cmpL js xs = -1))) := by
         repeat' split at h2
         all_goals (first | (left; assumption) | (right; omega) | omega)
       rcases g1 with g1 | ⟨g1, g1'⟩
       · rw [if_pos (by omega)]
       · rcases g2 with g2 | ⟨g2, g2'⟩
         · rw [if_pos (by omega)]
         · rw [if_neg (by omega), if_neg (by omega)]
           rcases g1' with g1' | ⟨e1, c1⟩
           · rw [if_pos (by omega)]
           · rcases g2' with g2' | ⟨e2, c2⟩
             · rw [if_pos (by omega)]
             · rw [if_neg (by omega), if_neg (by omega)]
               exact hl js xs e1 e2 c1 c2
instance : DecidableEq V := fun a b => decidable_of_iff (cmpV a b = 0) cmp_eq
inductive All2 {α β : Type} (R : α → β → Prop) : List α → List β → Prop
 | nil : All2 R [] []
 | cons {a b az bs} : R a b → All2 R az bs → All2 R (a :: az) (b :: bs)
theorem All2.trans {α : Type} {R : α → α → Prop} {az bs : List α} (h : All2 R az bs) : ∀ {cs}, All2 R bs cs → (∀ a b c, a ∈ az → b ∈ bs → c ∈ cs → R a b → R b c → R a c) → All2 R az cs := by
 induction h with
 | nil => intro cs h _; cases h; exact .nil
 | cons h1 _ ih =>
   intro cs h2 t
   cases h2 with
   | cons h3 h4 => exact .cons (t _ _ _ (by simp) (by simp) (by simp) h1 h3) (ih h4 fun a b c ha hb hc => t a b c (by simp [ha]) (by simp [hb]) (by simp [hc]))
theorem All2.refl_ {α : Type} {R : α → α → Prop} : ∀ {az : List α}, (∀ a ∈ az, R a a) → All2 R az az
 | [], _ => .nil
 | a :: az, h => .cons (h a (by simp)) (All2.refl_ fun b hb => h b (by simp [hb]))
theorem All2.append_inv {α β : Type} {R : α → β → Prop} : ∀ {a1 a2 : List α} {bs : List β}, All2 R (a1 ++ a2) bs → ∃ b1 b2, bs = b1 ++ b2 ∧ All2 R a1 b1 ∧ All2 R a2 b2
 | [], _, bs, h => ⟨[], bs, rfl, .nil, h⟩
 | a :: a1, a2, _, .cons h1 h2 => by
   obtain ⟨b1, b2, rfl, h3, h4⟩ := All2.append_inv h2
   exact ⟨_ :: b1, b2, rfl, .cons h1 h3, h4⟩
theorem All2.perm {α β : Type} {R : α → β → Prop} {az az' : List α} (hp : az.Perm az') : ∀ {bs : List β}, All2 R az bs → ∃ bs', bs.Perm bs' ∧ All2 R az' bs' := by
 induction hp with
 | nil => intro bs h; exact ⟨bs, List.Perm.refl _, h⟩
 | cons x _ ih =>
   intro bs h
   cases h with
   | cons h1 h2 =>
     obtain ⟨bs', hp, h3⟩ := ih h2
     exact ⟨_ :: bs', hp.cons _, .cons h1 h3⟩
 | swap x y l =>
   intro bs h
   cases h with
   | cons h1 h2 =>
     cases h2 with
     | cons h3 h4 => exact ⟨_, List.Perm.swap _ _ _, .cons h3 (.cons h1 h4)⟩
 | trans _ _ ih1 ih2 =>
   intro bs h
   obtain ⟨b1, p1, h1⟩ := ih1 h
   obtain ⟨b2, p2, h2⟩ := ih2 h1
   exact ⟨b2, p1.trans p2, h2⟩

inductive Emb {α : Type} (R : α → α → Prop) : List α → List α → Prop
 | nil {bs} : Emb R [] bs
 | cons {a b az bs} : R a b → Emb R az bs → Emb R (a :: az) (b :: bs)
 | skip {b az bs} : Emb R az bs → Emb R az (b :: bs)
theorem Emb.tail {α : Type} {R : α → α → Prop} {a : α} {az bs : List α} (h : Emb R (a :: az) bs) : Emb R az bs := by
 generalize hx : a :: az = x at h
 induction h generalizing a az with
 | nil => cases hx
 | cons h1 h2 _ => injection hx with e1 e2; subst e1 e2; exact .skip h2
 | skip h ih => subst hx; exact .skip (ih rfl)
theorem Emb.refl_ {α : Type} {R : α → α → Prop} : ∀ {az : List α}, (∀ a ∈ az, R a a) → Emb R az az
 | [], _ => .nil
 | a :: az, h => .cons (h a (by simp)) (Emb.refl_ fun b hb => h b (by simp [hb]))
theorem Emb.trans {α : Type} {R : α → α → Prop} {bs cs : List α} (h2 : Emb R bs cs) : ∀ {az}, Emb R az bs → (∀ a b c, a ∈ az → b ∈ bs → c ∈ cs → R a b → R b c → R a c) → Emb R az cs := by
 induction h2 with
 | nil =>
   intro az h1 _
   cases h1
   exact .nil
 | cons h3 h4 ih =>
   intro az h1 t
   cases h1 with
   | nil => exact .nil
   | cons h5 h6 => exact .cons (t _ _ _ (by simp) (by simp) (by simp) h5 h3) (ih h6 fun a b c ha hb hc => t a b c (by simp [ha]) (by simp [hb]) (by simp [hc]))
   | skip h6 => exact .skip (ih h6 fun a b c ha hb hc => t a b c ha (by simp [hb]) (by simp [hc]))
 | skip h4 ih => intro az h1 t; exact .skip (ih h1 fun a b c ha hb hc => t a b c ha hb (by simp [hc]))
theorem Emb.mem {α : Type} {R : α → α → Prop} {az bs : List α} (h : Emb R az bs) : ∀ a ∈ az, ∃ b ∈ bs, R a b := by
 induction h with
 | nil => intro a h; cases h
 | cons h1 _ ih =>
   intro a ha
   rcases List.mem_cons.1 ha with rfl | ha
   · exact ⟨_, by simp, h1⟩
   · obtain ⟨b, hb, hr⟩ := ih a ha; exact ⟨b, by simp [hb], hr⟩
 | skip _ ih => intro a ha; obtain ⟨b, hb, hr⟩ := ih a ha; exact ⟨b, by simp [hb], hr⟩
def embG {α : Type} (f : α → α → Bool) : List α → List α → Bool
 | [], _ => true
 | _ :: _, [] => false
 | a :: az, b :: bs => if f a b then embG f az bs else embG f (a :: az) bs
theorem embG_iff {α : Type} (f : α → α → Bool) : ∀ (bs az : List α), embG f az bs = true ↔ Emb (fun a b => f a b = true) az bs
 | bs, [] => by simp [embG]; exact .nil
 | [], a :: az => by simp [embG]; intro h; cases h
 | b :: bs, a :: az => by
   simp only [embG]
   by_cases h : f a b = true
   · rw [if_pos h, embG_iff f bs az]
     exact ⟨fun h1 => .cons h h1, fun h1 => by
       cases h1 with
       | cons _ h2 => exact h2
       | skip h2 => exact h2.tail⟩
   · rw [if_neg h, embG_iff f bs (a :: az)]
     exact ⟨fun h1 => .skip h1, fun h1 => by
       cases h1 with
       | cons h2 _ => exact absurd h2 h
       | skip h2 => exact h2⟩
theorem Emb.sum {α : Type} {R : α → α → Prop} (μ : α → Nat) {az bs : List α} (h : Emb R az bs) (hR : ∀ a b, a ∈ az → b ∈ bs → R a b → μ a ≤ μ b ∧ (μ a = μ b → a = b)) :
   (az.map fun a => 1 + μ a).sum ≤ (bs.map fun a => 1 + μ a).sum ∧ ((az.map fun a => 1 + μ a).sum = (bs.map fun a => 1 + μ a).sum → az = bs) := by
 induction h with
 | @nil bs =>
   refine ⟨by simp, ?_⟩
   cases bs with
   | nil => simp
   | cons b bs => simp; omega
 | @cons a b az bs h1 _ ih =>
   have ih := ih (fun a b ha hb => hR a b (by simp [ha]) (by simp [hb]))
   have h2 := hR a b (by simp) (by simp) h1
   simp only [List.map_cons, List.sum_cons]
   refine ⟨by omega, fun e => ?_⟩
   rw [h2.2 (by omega), ih.2 (by omega)]
 | @skip b az bs h ih =>
   have ih := ih (fun a b ha hb => hR a b ha (by simp [hb]))
   simp only [List.map_cons, List.sum_cons]
   exact ⟨by omega, fun e => by omega⟩

def domG {α : Type} (f : α → α → Bool) : List α → List α → Bool
 | [], _ => true
 | a :: az, bs => (List.range bs.length).any fun i => (match bs[i]? with | some b => f a b | none => false) && domG f az (bs.eraseIdx i)
def Dom {α : Type} (R : α → α → Prop) (az bs : List α) : Prop := ∃ b1 b2, All2 R az b1 ∧ bs.Perm (b1 ++ b2)
theorem perm_eraseIdx {α : Type} : ∀ {l : List α} {i : Nat} (h : i < l.length), l.Perm (l[i] :: l.eraseIdx i)
 | a :: l, 0, _ => List.Perm.refl _
 | a :: l, i + 1, h => by
   have h' : i < l.length := by simpa using h
   have := perm_eraseIdx h'
   simp only [List.getElem_cons_succ, List.eraseIdx_cons_succ]
   exact (this.cons a).trans (List.Perm.swap _ _ _)
theorem domG_iff {α : Type} [DecidableEq α] (f : α → α → Bool) : ∀ (az bs : List α), domG f az bs = true ↔ Dom (fun a b => f a b = true) az bs
 | [], bs => by simp [domG]; exact ⟨[], bs, .nil, List.Perm.refl _⟩
 | a :: az, bs => by
   simp only [domG, List.any_eq_true, List.mem_range, Bool.and_eq_true]
   constructor
   · rintro ⟨i, hi, h1, h2⟩
     rw [List.getElem?_eq_getElem hi] at h1
     obtain ⟨b1, b2, h3, h4⟩ := (domG_iff f az _).1 h2
     exact ⟨bs[i] :: b1, b2, .cons h1 h3, (perm_eraseIdx hi).trans (h4.cons _)⟩
   · rintro ⟨b1, b2, h1, h2⟩
     cases h1 with
     | @cons _ b _ b1 h1 h3 =>
       have hm : b ∈ bs := h2.symm.subset (by simp)
       obtain ⟨i, hi, e⟩ := List.getElem_of_mem hm
       refine ⟨i, hi, by rw [List.getElem?_eq_getElem hi, e]; exact h1, (domG_iff f az _).2 ⟨b1, b2, h3, ?_⟩⟩
       have h4 := (perm_eraseIdx hi).symm.trans h2
       rw [e] at h4
       exact (List.perm_cons b).1 h4
theorem Dom.refl_ {α : Type} {R : α → α → Prop} {az : List α} (h : ∀ a ∈ az, R a a) : Dom R az az := ⟨az, [], All2.refl_ h, by simp⟩
theorem Dom.trans {α : Type} {R : α → α → Prop} {az bs cs : List α} (h1 : Dom R az bs) (h2 : Dom R bs cs) (t : ∀ a b c, a ∈ az → b ∈ bs → c ∈ cs → R a b → R b c → R a c) : Dom R az cs := by
 obtain ⟨b1, b2, h3, p1⟩ := h1
 obtain ⟨c1, c2, h4, p2⟩ := h2
 obtain ⟨c1', p3, h5⟩ := h4.perm p1
 obtain ⟨d1, d2, rfl, h6, h7⟩ := h5.append_inv
 have p4 : cs.Perm (d1 ++ (d2 ++ c2)) := by
   have := p2.trans (p3.append_right c2)
   rwa [List.append_assoc] at this
 exact ⟨d1, d2 ++ c2, h3.trans h6 fun a b c ha hb hc => t a b c ha (p1.symm.subset (by simp [hb])) (p4.symm.subset (by simp [hc])), p4⟩
theorem All2.sum {α : Type} {R : α → α → Prop} (μ : α → Nat) {az bs : List α} (h : All2 R az bs) (hR : ∀ a b, a ∈ az → b ∈ bs → R a b → μ a ≤ μ b ∧ (μ a = μ b → a = b)) :
   (az.map fun a => 1 + μ a).sum ≤ (bs.map fun a => 1 + μ a).sum ∧ ((az.map fun a => 1 + μ a).sum = (bs.map fun a => 1 + μ a).sum → az = bs) := by
 induction h with
 | nil => simp
 | @cons a b az bs h1 _ ih =>
   have ih := ih (fun a b ha hb => hR a b (by simp [ha]) (by simp [hb]))
   have h2 := hR a b (by simp) (by simp) h1
   simp only [List.map_cons, List.sum_cons]
   refine ⟨by omega, fun e => ?_⟩
   rw [h2.2 (by omega), ih.2 (by omega)]
theorem Dom.sum {α : Type} {R : α → α → Prop} (μ : α → Nat) {az bs : List α} (h : Dom R az bs) (hR : ∀ a b, a ∈ az → b ∈ bs → R a b → μ a ≤ μ b ∧ (μ a = μ b → a = b)) :
   (az.map fun a => 1 + μ a).sum ≤ (bs.map fun a => 1 + μ a).sum ∧ ((az.map fun a => 1 + μ a).sum = (bs.map fun a => 1 + μ a).sum → az.Perm bs) := by
 obtain ⟨b1, b2, h1, p⟩ := h
 have h2 := h1.sum μ (fun a b ha hb => hR a b ha (p.symm.subset (by simp [hb])))
 have h3 : (bs.map fun a => 1 + μ a).sum = ((b1 ++ b2).map fun a => 1 + μ a).sum := (p.map _).sum_nat
 rw [List.map_append, List.sum_append] at h3
 refine ⟨by omega, fun e => ?_⟩
 have h4 : b2 = [] := by
   cases b2 with
   | nil => rfl
   | cons x r => simp at h3; omega
 subst h4
 rw [h2.2 (by omega)]
 simpa using p.symm

/- trees -/
mutual
def embT : V → V → Bool
 | a, .mk y bs => (a.n == y && subT a.ks bs) || anyT a bs
def subT : List V → List V → Bool
 | az, [] => az.isEmpty
 | az, b :: bs => match az with
   | [] => true
   | a :: az' => if embT a b then subT az' bs else subT (a :: az') bs
def anyT : V → List V → Bool
 | _, [] => false
 | a, b :: bs => embT a b || anyT a bs
end
theorem subT_eq : ∀ (bs az : List V), subT az bs = embG embT az bs
 | [], [] => rfl
 | [], _ :: _ => rfl
 | _ :: _, [] => rfl
 | b :: bs, a :: az => by
   simp only [subT, embG]
   rw [subT_eq bs az, subT_eq bs (a :: az)]
theorem anyT_eq (a : V) : ∀ bs, anyT a bs = bs.any (embT a)
 | [] => rfl
 | b :: bs => by simp [anyT, anyT_eq a bs]
theorem embT_iff (a b : V) : embT a b = true ↔ (a.n = b.n ∧ Emb (fun a b => embT a b = true) a.ks b.ks) ∨ ∃ k ∈ b.ks, embT a k = true := by
 cases b with
 | mk y bs => simp [embT, anyT_eq, subT_eq, embG_iff]
theorem embT_trans (n : Nat) : ∀ c b a : V, c.size + b.size ≤ n → embT a b = true → embT b c = true → embT a c = true := by
 induction n with
 | zero => intro c b a h; have := c.size_pos; omega
 | succ n ih =>
   intro c b a hn h1 h2
   rw [embT_iff] at h2 ⊢
   rcases h2 with ⟨e, h2⟩ | ⟨k, hk, h2⟩
   · rw [embT_iff] at h1
     rcases h1 with ⟨e', h1⟩ | ⟨k, hk, h1⟩
     · refine .inl ⟨e'.trans e, h2.trans h1 fun x y z hx hy hz => ih z y x (by have := V.size_kid hz; have := V.size_kid hy; omega)⟩
     · obtain ⟨z, hz, hr⟩ := h2.mem k hk
       exact .inr ⟨z, hz, ih z k a (by have := V.size_kid hz; have := V.size_kid hk; omega) h1 hr⟩
   · exact .inr ⟨k, hk, ih k b a (by have := V.size_kid hk; omega) h1 h2⟩
theorem embT_refl (a : V) : embT a a = true := by
 induction a using V.ind with
 | h n ks ih => exact (embT_iff _ _).2 (.inl ⟨rfl, Emb.refl_ ih⟩)
theorem sizeL_sum (l : List V) : (l.map fun a => 1 + (a.size - 1)).sum = sizeL l := by
 induction l with
 | nil => rfl
 | cons x r ih => have := x.size_pos; simp only [List.map_cons, List.sum_cons, sizeL, ih]; omega
theorem embT_size (b : V) : ∀ a : V, embT a b = true → a.size - 1 ≤ b.size - 1 ∧ (a.size - 1 = b.size - 1 → a = b) := by
 induction b using V.ind with
 | h n ks ih =>
   intro a h
   rw [embT_iff] at h
   rcases h with ⟨e, h⟩ | ⟨k, hk, h⟩
   · have := h.sum (fun v => v.size - 1) (fun a b _ hb => ih b hb a)
     rw [sizeL_sum, sizeL_sum] at this
     simp only [V.ks_mk] at this
     rw [a.size_eq]
     simp only [V.size]
     refine ⟨by omega, fun e' => ?_⟩
     have e2 := this.2 (by omega)
     rw [← a.eta, e, e2]; rfl
   · have h2 := (ih k hk a h).1
     have h3 : k.size < (V.mk n ks).size := V.size_kid hk
     have := k.size_pos; have := a.size_pos
     exact ⟨by omega, fun e => by omega⟩

/- words with ranks: a letter may be dropped ahead of one of at least its rank -/
inductive PLe (r : Int → Int) : List Int → List Int → Prop
 | nil : PLe r [] []
 | keep {x a b} : PLe r a b → PLe r (x :: a) (x :: b)
 | skip {x y a b} : PLe r (x :: a) b → r y ≤ r x → PLe r (x :: a) (y :: b)
theorem PLe.refl_ (r : Int → Int) : ∀ a, PLe r a a
 | [] => .nil
 | x :: a => .keep (PLe.refl_ r a)
theorem PLe.len {r : Int → Int} {a b : List Int} (h : PLe r a b) : a.length ≤ b.length ∧ (a.length = b.length → a = b) := by
 induction h with
 | nil => simp
 | keep _ ih => refine ⟨by simp; exact ih.1, fun e => ?_⟩; rw [ih.2 (by simpa using e)]
 | skip _ _ ih => refine ⟨by have := ih.1; simp at this ⊢; omega, fun e => ?_⟩; have := ih.1; simp at this e; omega
theorem PLe.trans {r : Int → Int} {b c : List Int} (h2 : PLe r b c) : ∀ {a}, PLe r a b → PLe r a c := by
 induction h2 with
 | nil => intro a h; cases h; exact .nil
 | keep h ih =>
   intro a h1
   cases h1 with
   | keep h3 => exact .keep (ih h3)
   | skip h3 h4 => exact .skip (ih h3) h4
 | @skip x y b c h h4 ih =>
   intro a h1
   have h5 := ih h1
   cases h1 with
   | keep h3 => exact .skip h5 h4
   | skip h3 h6 => exact .skip h5 (by omega)
def pleB (r : Int → Int) : List Int → List Int → Bool
 | [], b => b.isEmpty
 | _ :: _, [] => false
 | x :: a, y :: b => (x == y && pleB r a b) || (decide (r y ≤ r x) && pleB r (x :: a) b)
theorem pleB_iff (r : Int → Int) : ∀ b a, pleB r a b = true ↔ PLe r a b
 | [], [] => by simp [pleB]; exact .nil
 | _ :: _, [] => by simp [pleB]; intro h; cases h
 | [], _ :: _ => by simp [pleB]; intro h; cases h
 | y :: b, x :: a => by
   simp only [pleB, Bool.or_eq_true, Bool.and_eq_true, beq_iff_eq, decide_eq_true_eq, pleB_iff r b a, pleB_iff r b (x :: a)]
   constructor
   · rintro (⟨rfl, h⟩ | ⟨h1, h2⟩)
     · exact .keep h
     · exact .skip h2 h1
   · intro h
     cases h with
     | keep h => exact .inl ⟨rfl, h⟩
     | skip h1 h2 => exact .inr ⟨h2, h1⟩
end Go.Proofs.YthhbkabdhkdafaaGreat
