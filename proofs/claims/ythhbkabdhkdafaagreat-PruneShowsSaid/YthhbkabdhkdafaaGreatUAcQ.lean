/- Part of a proof of pruneShows_holds. -/
import Derived.Test.YthhbkabdhkdafaaGreatUAaQ
import Derived.Test.YthhbkabdhkdafaaGreatUAbQ
import Derived.Lib.AppendIntMem
set_option linter.unusedSimpArgs false
set_option linter.unusedVariables false
namespace Go.Proofs.YthhbkabdhkdafaaGreat
inductive T where | mk (kind size : Int) (ranks : List Int) (parts : List T)
instance : Inhabited T := ⟨.mk 0 0 [] []⟩
def T.kind : T → Int | .mk k _ _ _ => k
def T.size : T → Int | .mk _ s _ _ => s
def T.ranks : T → List Int | .mk _ _ r _ => r
def T.parts : T → List T | .mk _ _ _ p => p
def T.p0 (t : T) : T := t.parts.headD default
@[simp] theorem T.kind_mk (k s : Int) (r : List Int) (p : List T) : (T.mk k s r p).kind = k := rfl
@[simp] theorem T.size_mk (k s : Int) (r : List Int) (p : List T) : (T.mk k s r p).size = s := rfl
@[simp] theorem T.ranks_mk (k s : Int) (r : List Int) (p : List T) : (T.mk k s r p).ranks = r := rfl
@[simp] theorem T.parts_mk (k s : Int) (r : List Int) (p : List T) : (T.mk k s r p).parts = p := rfl

def rankedP (r : List Int) : Bool := decide (1 ≤ r.length) && decide (r.length ≤ 6) && r.all fun x => decide (0 ≤ x) && decide (x < 6)
def rightP : Nat → T → Bool
 | 0, _ => false
 | d + 1, t => !(decide (0 < t.ranks.length) && !(t.kind == 7)) &&
   (if t.kind = 1 then t.parts.isEmpty && t.size == 0
    else if t.kind = 2 ∨ t.kind = 6 then t.parts.isEmpty && decide (1 ≤ t.size) && decide (t.size ≤ 16)
    else if t.kind = 7 then t.parts.isEmpty && t.size == t.ranks.length && rankedP t.ranks
    else if t.kind = 3 then t.size == 0 && !t.parts.isEmpty && decide (t.parts.length ≤ 8) && t.parts.all (rightP d)
    else if t.kind = 4 ∨ t.kind = 5 then t.size == 0 && t.parts.length == 1 && t.parts.all (rightP d)
    else false)
def labelP (s : Int) (v : V) : Bool := decide (0 ≤ v.n) && decide (v.n < s) && v.ks.isEmpty
mutual
def taggedP (s : Int) : V → Bool | .mk n ks => decide (0 ≤ n) && decide (n < s) && taggedL s ks
def taggedL (s : Int) : List V → Bool | [] => true | v :: r => taggedP s v && taggedL s r
end
theorem taggedL_eq (s : Int) : ∀ l, taggedL s l = l.all (taggedP s)
 | [] => rfl
 | v :: r => by simp [taggedL, taggedL_eq s r]
theorem taggedP_eq (s : Int) (v : V) : taggedP s v = (decide (0 ≤ v.n) && decide (v.n < s) && v.ks.all (taggedP s)) := by
 cases v; rw [taggedP, taggedL_eq]; rfl
def oneZ (f : T → V → Bool) : List T → List V → Bool
 | [], [] => true
 | p :: ps, v :: vs => f p v && oneZ f ps vs
 | _, _ => false
def sortedB : List V → Bool
 | [] => true
 | a :: r => (match r with | [] => true | b :: _ => decide (0 ≤ cmpV b a)) && sortedB r
def oneP : Nat → T → V → Bool
 | 0, _, _ => false
 | d + 1, t, v =>
   if t.kind = 1 then decide (0 ≤ v.n) && decide (v.n ≤ 1048576) && v.ks.isEmpty
   else if t.kind = 2 then labelP t.size v
   else if t.kind = 3 then v.n == 0 && v.ks.length == t.parts.length && oneZ (oneP d) t.parts v.ks
   else if t.kind = 4 then v.n == 0 && decide (v.ks.length ≤ 12) && v.ks.all (oneP d t.p0)
   else if t.kind = 5 then v.n == 0 && decide (v.ks.length ≤ 12) && v.ks.all (oneP d t.p0) && sortedB v.ks
   else if t.kind = 6 then decide (v.size ≤ 12) && taggedP t.size v
   else v.n == 0 && decide (v.ks.length ≤ 12) && v.ks.all (labelP t.size)
def validP (t : T) (v : V) : Bool := rightP 8 t && decide (v.size ≤ 128) && oneP 8 t v
def belZ (f : T → V → V → Bool) : List T → List V → List V → Bool
 | [], _, _ => true
 | p :: ps, a :: az, b :: bs => f p a b && belZ f ps az bs
 | _ :: _, _, _ => false
def rankAt (r : List Int) (x : Int) : Int := r.getD x.toNat 0
def belowP : Nat → T → V → V → Bool
 | 0, _, _, _ => false
 | d + 1, t, a, b =>
   if t.kind = 1 then decide (a.n ≤ b.n)
   else if t.kind = 2 then a.n == b.n
   else if t.kind = 3 then belZ (belowP d) t.parts a.ks b.ks
   else if t.kind = 4 then embG (belowP d t.p0) a.ks b.ks
   else if t.kind = 5 then domG (belowP d t.p0) a.ks b.ks
   else if t.kind = 6 then embT a b
   else pleB (rankAt t.ranks) (a.ks.map V.n) (b.ks.map V.n)

theorem sorted_pair : ∀ {l : List V}, sortedB l = true → l.Pairwise fun a b => cmpV a b ≤ 0
 | [], _ => .nil
 | [a], _ => by simp
 | a :: b :: r, h => by
   simp only [sortedB, Bool.and_eq_true, decide_eq_true_eq] at h
   have ih := sorted_pair (l := b :: r) (by simp only [sortedB, Bool.and_eq_true]; exact h.2)
   refine .cons (fun c hc => ?_) ih
   have h1 : cmpV a b ≤ 0 := by have := cmp_anti a b; omega
   rcases List.mem_cons.1 hc with rfl | hc
   · exact h1
   · have h2 : cmpV b c ≤ 0 := (List.pairwise_cons.1 ih).1 c hc
     by_cases e1 : cmpV a b = 0
     · rw [cmp_zero _ _ e1]; exact h2
     · by_cases e2 : cmpV b c = 0
       · rw [← cmp_zero _ _ e2]; exact h1
       · have r1 := cmp_range a b; have r2 := cmp_range b c
         have := cmp_trans a b c (by omega) (by omega); omega
theorem pair_sorted : ∀ {l : List V}, (l.Pairwise fun a b => cmpV a b ≤ 0) → sortedB l = true
 | [], _ => rfl
 | [a], _ => rfl
 | a :: b :: r, h => by
   have h2 := List.pairwise_cons.1 h
   have ih := pair_sorted h2.2
   simp only [sortedB, Bool.and_eq_true, decide_eq_true_eq] at ih ⊢
   exact ⟨by have := h2.1 b (by simp); have := cmp_anti a b; omega, ih⟩
theorem sorted_perm {a b : List V} (ha : sortedB a = true) (hb : sortedB b = true) (h : a.Perm b) : a = b := by
 replace ha := sorted_pair ha
 replace hb := sorted_pair hb
 induction a generalizing b with
 | nil => exact (List.nil_perm.1 h).symm
 | cons x r ih =>
   cases b with
   | nil => exact absurd h.length_eq (by simp)
   | cons y q =>
     have ha2 := List.pairwise_cons.1 ha
     have hb2 := List.pairwise_cons.1 hb
     have e : x = y := by
       have h1 : x ∈ y :: q := h.subset (by simp)
       have h2 : y ∈ x :: r := h.symm.subset (by simp)
       rcases List.mem_cons.1 h1 with e | h1
       · exact e
       · rcases List.mem_cons.1 h2 with e | h2
         · exact e.symm
         · have c1 := ha2.1 y h2
           have c2 := hb2.1 x h1
           have c3 := cmp_anti x y
           exact cmp_zero _ _ (by omega)
     subst e
     rw [ih ((List.perm_cons x).1 h) ha2.2 hb2.2]

theorem oneP_all {d : Nat} {t : T} {v k : V} (h : v.ks.all (oneP d t) = true) (hk : k ∈ v.ks) : oneP d t k = true := List.all_eq_true.1 h k hk

theorem below_refl (d : Nat) : ∀ (t : T) (v : V), rightP d t = true → oneP d t v = true → belowP d t v v = true := by
 induction d with
 | zero => intro t v h; simp [rightP] at h
 | succ d ih =>
   intro t v hr ho
   simp only [rightP, Bool.and_eq_true] at hr
   have hr := hr.2
   simp only [oneP] at ho
   simp only [belowP]
   by_cases k1 : t.kind = 1
   · simp [k1]
   rw [if_neg k1] at hr ho ⊢
   by_cases k2 : t.kind = 2
   · simp [k2]
   rw [if_neg k2] at ho ⊢
   by_cases k3 : t.kind = 3
   · rw [if_pos k3] at ho ⊢
     rw [if_neg (by omega), if_neg (by omega), if_pos k3] at hr
     simp only [Bool.and_eq_true] at hr ho
     have h1 := hr.2
     have h2 := ho.2
     clear hr ho
     generalize t.parts = ps at h1 h2 ⊢
     generalize v.ks = vs at h2 ⊢
     induction ps generalizing vs with
     | nil => simp [belZ]
     | cons p ps ihp =>
       cases vs with
       | nil => simp [oneZ] at h2
       | cons v vs =>
         simp only [oneZ, List.all_cons, Bool.and_eq_true] at h1 h2
         simp only [belZ, Bool.and_eq_true]
         exact ⟨ih p v h1.1 h2.1, ihp h1.2 vs h2.2⟩
   rw [if_neg k3] at ho ⊢
   by_cases k4 : t.kind = 4
   · rw [if_pos k4] at ho ⊢
     rw [if_neg (by omega), if_neg (by omega), if_neg (by omega), if_pos (.inl k4)] at hr
     simp only [Bool.and_eq_true, beq_iff_eq] at hr ho
     have hp : rightP d t.p0 = true := by
       unfold T.p0
       rcases hps : t.parts with _ | ⟨p, r⟩
       · rw [hps] at hr; simp at hr
       · rw [hps] at hr; simp at hr; exact hr.2.1
     exact (embG_iff _ _ _).2 (Emb.refl_ fun a ha => ih _ a hp (oneP_all ho.2 ha))
   rw [if_neg k4] at ho ⊢
   by_cases k5 : t.kind = 5
   · rw [if_pos k5] at ho ⊢
     rw [if_neg (by omega), if_neg (by omega), if_neg (by omega), if_pos (.inr k5)] at hr
     simp only [Bool.and_eq_true, beq_iff_eq] at hr ho
     have hp : rightP d t.p0 = true := by
       unfold T.p0
       rcases hps : t.parts with _ | ⟨p, r⟩
       · rw [hps] at hr; simp at hr
       · rw [hps] at hr; simp at hr; exact hr.2.1
     exact (domG_iff _ _ _).2 (Dom.refl_ fun a ha => ih _ a hp (oneP_all ho.1.2 ha))
   rw [if_neg k5] at ho ⊢
   by_cases k6 : t.kind = 6
   · rw [if_pos k6]; exact embT_refl v
   rw [if_neg k6]
   exact (pleB_iff _ _ _).2 (PLe.refl_ _ _)

theorem p0_right {d : Nat} {t : T} (hr : rightP (d + 1) t = true) (hk : t.kind = 4 ∨ t.kind = 5) : rightP d t.p0 = true ∧ t.parts = [t.p0] := by
 simp only [rightP, Bool.and_eq_true] at hr
 have hr := hr.2
 rw [if_neg (by omega), if_neg (by omega), if_neg (by omega), if_neg (by omega), if_pos hk] at hr
 simp only [Bool.and_eq_true, beq_iff_eq] at hr
 unfold T.p0
 rcases hps : t.parts with _ | ⟨p, r⟩
 · rw [hps] at hr; simp at hr
 · rw [hps] at hr; simp at hr; exact ⟨hr.2.1, by rw [hr.1.2]; rfl⟩
theorem parts_right {d : Nat} {t : T} (hr : rightP (d + 1) t = true) (hk : t.kind = 3) : t.parts.all (rightP d) = true ∧ t.parts.length ≤ 8 ∧ t.parts ≠ [] := by
 simp only [rightP, Bool.and_eq_true] at hr
 have hr := hr.2
 rw [if_neg (by omega), if_neg (by omega), if_neg (by omega), if_pos hk] at hr
 simp only [Bool.and_eq_true, decide_eq_true_eq, Bool.not_eq_true', List.isEmpty_eq_false_iff] at hr
 exact ⟨hr.2, hr.1.2, hr.1.1.2⟩

theorem below_trans (d : Nat) : ∀ (t : T) (a b c : V), rightP d t = true → oneP d t a = true → oneP d t b = true → oneP d t c = true → belowP d t a b = true → belowP d t b c = true → belowP d t a c = true := by
 induction d with
 | zero => intro t a b c h; simp [rightP] at h
 | succ d ih =>
   intro t a b c hr oa ob oc
   simp only [oneP] at oa ob oc
   simp only [belowP]
   by_cases k1 : t.kind = 1
   · simp only [if_pos k1, decide_eq_true_eq]; omega
   rw [if_neg k1] at oa ob oc
   rw [if_neg k1, if_neg k1, if_neg k1]
   by_cases k2 : t.kind = 2
   · simp only [if_pos k2, beq_iff_eq]; omega
   rw [if_neg k2] at oa ob oc
   rw [if_neg k2, if_neg k2, if_neg k2]
   by_cases k3 : t.kind = 3
   · rw [if_pos k3] at oa ob oc
     rw [if_pos k3, if_pos k3, if_pos k3]
     have h1 := (parts_right hr k3).1
     simp only [Bool.and_eq_true] at oa ob oc
     have ha := oa.2
     have hb := ob.2
     have hc := oc.2
     clear hr oa ob oc
     generalize t.parts = ps at h1 ha hb hc ⊢
     generalize a.ks = az at ha ⊢
     generalize b.ks = bs at hb ⊢
     generalize c.ks = cs at hc ⊢
     induction ps generalizing az bs cs with
     | nil => simp [belZ]
     | cons p ps ihp =>
       cases az with
       | nil => simp [oneZ] at ha
       | cons x az =>
         cases bs with
         | nil => simp [oneZ] at hb
         | cons y bs =>
           cases cs with
           | nil => simp [oneZ] at hc
           | cons z cs =>
             simp only [oneZ, List.all_cons, Bool.and_eq_true] at h1 ha hb hc
             simp only [belZ, Bool.and_eq_true]
             exact fun e1 e2 => ⟨ih p x y z h1.1 ha.1 hb.1 hc.1 e1.1 e2.1, ihp h1.2 az ha.2 bs hb.2 cs hc.2 e1.2 e2.2⟩
   rw [if_neg k3] at oa ob oc
   rw [if_neg k3, if_neg k3, if_neg k3]
   by_cases k4 : t.kind = 4
   · rw [if_pos k4] at oa ob oc
     rw [if_pos k4, if_pos k4, if_pos k4]
     have hp := (p0_right hr (.inl k4)).1
     simp only [Bool.and_eq_true] at oa ob oc
     rw [embG_iff, embG_iff, embG_iff]
     exact fun e1 e2 => e2.trans e1 fun x y z hx hy hz => ih _ x y z hp (oneP_all oa.2 hx) (oneP_all ob.2 hy) (oneP_all oc.2 hz)
   rw [if_neg k4] at oa ob oc
   rw [if_neg k4, if_neg k4, if_neg k4]
   by_cases k5 : t.kind = 5
   · rw [if_pos k5] at oa ob oc
     rw [if_pos k5, if_pos k5, if_pos k5]
     have hp := (p0_right hr (.inr k5)).1
     simp only [Bool.and_eq_true] at oa ob oc
     rw [domG_iff, domG_iff, domG_iff]
     exact fun e1 e2 => e1.trans e2 fun x y z hx hy hz => ih _ x y z hp (oneP_all oa.1.2 hx) (oneP_all ob.1.2 hy) (oneP_all oc.1.2 hz)
   rw [if_neg k5, if_neg k5, if_neg k5]
   by_cases k6 : t.kind = 6
   · rw [if_pos k6, if_pos k6, if_pos k6]; exact fun e1 e2 => embT_trans _ c b a (Nat.le_refl _) e1 e2
   rw [if_neg k6, if_neg k6, if_neg k6, pleB_iff, pleB_iff, pleB_iff]
   exact fun e1 e2 => e2.trans e1

def muZ (f : T → V → Nat) : List T → List V → Nat
 | p :: ps, v :: vs => f p v + muZ f ps vs
 | _, _ => 0
def mu : Nat → T → V → Nat
 | 0, _, _ => 0
 | d + 1, t, v =>
   if t.kind = 1 then v.n.toNat
   else if t.kind = 2 then 0
   else if t.kind = 3 then muZ (mu d) t.parts v.ks
   else if t.kind = 4 ∨ t.kind = 5 then (v.ks.map fun k => 1 + mu d t.p0 k).sum
   else if t.kind = 6 then v.size - 1
   else v.ks.length
theorem label_eq {s : Int} {az : List V} : ∀ {bs : List V}, az.all (labelP s) = true → bs.all (labelP s) = true → az.map V.n = bs.map V.n → az = bs := by
 induction az with
 | nil => intro bs _ _ h; cases bs with | nil => rfl | cons => simp at h
 | cons a az ih =>
   intro bs h1 h2 h
   cases bs with
   | nil => simp at h
   | cons b bs =>
     simp only [List.all_cons, Bool.and_eq_true, labelP, List.isEmpty_iff] at h1 h2
     simp only [List.map_cons, List.cons.injEq] at h
     rw [ih h1.2 h2.2 h.2, ← a.eta, ← b.eta, h.1, h1.1.2, h2.1.2]
theorem below_mu (d : Nat) : ∀ (t : T) (a b : V), rightP d t = true → oneP d t a = true → oneP d t b = true → belowP d t a b = true → mu d t a ≤ mu d t b ∧ (mu d t a = mu d t b → a = b) := by
 induction d with
 | zero => intro t a b h; simp [rightP] at h
 | succ d ih =>
   intro t a b hr oa ob
   simp only [oneP] at oa ob
   simp only [belowP, mu]
   by_cases k1 : t.kind = 1
   · rw [if_pos k1] at oa ob
     rw [if_pos k1, if_pos k1, if_pos k1]
     simp only [Bool.and_eq_true, decide_eq_true_eq, List.isEmpty_iff] at oa ob
     intro h
     have h := of_decide_eq_true h
     exact ⟨by omega, fun e => by rw [← a.eta, ← b.eta, oa.2, ob.2, show a.n = b.n by omega]⟩
   rw [if_neg k1] at oa ob
   rw [if_neg k1, if_neg k1, if_neg k1]
   by_cases k2 : t.kind = 2
   · rw [if_pos k2] at oa ob
     rw [if_pos k2, if_pos k2, if_pos k2]
     simp only [labelP, Bool.and_eq_true, decide_eq_true_eq, List.isEmpty_iff] at oa ob
     simp only [beq_iff_eq]
     exact fun h => ⟨by omega, fun _ => by rw [← a.eta, ← b.eta, oa.2, ob.2, h]⟩
   rw [if_neg k2] at oa ob
   rw [if_neg k2, if_neg k2, if_neg k2]
   by_cases k3 : t.kind = 3
   · rw [if_pos k3] at oa ob
     rw [if_pos k3, if_pos k3, if_pos k3]
     have h1 := (parts_right hr k3).1
     simp only [Bool.and_eq_true, beq_iff_eq] at oa ob
     have key : belZ (belowP d) t.parts a.ks b.ks = true → muZ (mu d) t.parts a.ks ≤ muZ (mu d) t.parts b.ks ∧ (muZ (mu d) t.parts a.ks = muZ (mu d) t.parts b.ks → a.ks = b.ks) := by
       have ha := oa.2
       have hb := ob.2
       clear hr oa ob
       generalize t.parts = ps at h1 ha hb ⊢
       generalize a.ks = az at ha ⊢
       generalize b.ks = bs at hb ⊢
       induction ps generalizing az bs with
       | nil => cases az <;> cases bs <;> simp [oneZ, belZ, muZ] at ha hb ⊢
       | cons p ps ihp =>
         cases az with
         | nil => simp [oneZ] at ha
         | cons x az =>
           cases bs with
           | nil => simp [oneZ] at hb
           | cons y bs =>
             simp only [oneZ, List.all_cons, Bool.and_eq_true] at h1 ha hb
             simp only [belZ, muZ, Bool.and_eq_true]
             intro e
             have i1 := ih p x y h1.1 ha.1 hb.1 e.1
             have i2 := ihp h1.2 az ha.2 bs hb.2 e.2
             exact ⟨by omega, fun e => by rw [i1.2 (by omega), i2.2 (by omega)]⟩
     intro h
     have := key h
     exact ⟨this.1, fun e => by rw [← a.eta, ← b.eta, oa.1.1, ob.1.1, this.2 e]⟩
   rw [if_neg k3] at oa ob
   rw [if_neg k3, if_neg k3, if_neg k3]
   by_cases k4 : t.kind = 4
   · rw [if_pos k4] at oa ob
     rw [if_pos k4, if_pos (.inl k4), if_pos (.inl k4), embG_iff]
     have hp := (p0_right hr (.inl k4)).1
     simp only [Bool.and_eq_true, beq_iff_eq] at oa ob
     intro h
     have := h.sum (mu d t.p0) fun x y hx hy hxy => ih _ x y hp (oneP_all oa.2 hx) (oneP_all ob.2 hy) hxy
     exact ⟨this.1, fun e => by rw [← a.eta, ← b.eta, oa.1.1, ob.1.1, this.2 e]⟩
   rw [if_neg k4] at oa ob
   rw [if_neg k4]
   by_cases k5 : t.kind = 5
   · rw [if_pos k5] at oa ob
     rw [if_pos k5, if_pos (.inr k5), if_pos (.inr k5), domG_iff]
     have hp := (p0_right hr (.inr k5)).1
     simp only [Bool.and_eq_true, beq_iff_eq] at oa ob
     intro h
     have := h.sum (mu d t.p0) fun x y hx hy hxy => ih _ x y hp (oneP_all oa.1.2 hx) (oneP_all ob.1.2 hy) hxy
     exact ⟨this.1, fun e => by rw [← a.eta, ← b.eta, oa.1.1.1, ob.1.1.1, sorted_perm oa.2 ob.2 (this.2 e)]⟩
   rw [if_neg k5] at oa ob
   have k45 : ¬ (t.kind = 4 ∨ t.kind = 5) := by omega
   rw [if_neg k5, if_neg k45, if_neg k45]
   by_cases k6 : t.kind = 6
   · rw [if_pos k6, if_pos k6, if_pos k6]; exact embT_size b a
   rw [if_neg k6] at oa ob
   rw [if_neg k6, if_neg k6, if_neg k6, pleB_iff]
   simp only [Bool.and_eq_true, beq_iff_eq] at oa ob
   intro h
   have := h.len
   simp only [List.length_map] at this
   exact ⟨this.1, fun e => by rw [← a.eta, ← b.eta, oa.1.1, ob.1.1, label_eq oa.2 ob.2 (this.2 e)]⟩
theorem below_anti {d : Nat} {t : T} {a b : V} (hr : rightP d t = true) (oa : oneP d t a = true) (ob : oneP d t b = true) (h1 : belowP d t a b = true) (h2 : belowP d t b a = true) : a = b := by
 have m1 := below_mu d t a b hr oa ob h1
 have m2 := below_mu d t b a hr ob oa h2
 exact m1.2 (by omega)
section
open Go.RowKit
structure Gr (w w' : World) : Prop where
 b : Below w.heap.size w w'
 d : w.drawn ≤ w'.drawn
theorem Gr.refl (w : World) : Gr w w := ⟨Below.refl _ _, Nat.le_refl _⟩
theorem Gr.trans {a b c : World} (h : Gr a b) (k : Gr b c) : Gr a c := ⟨h.b.trans (k.b.mono h.b.size), Nat.le_trans h.d k.d⟩
theorem Gr.alloc {a w : World} (h : Gr a w) (o : Obj) : Gr a (w.alloc o) := ⟨h.b.alloc h.b.size o, h.d⟩
theorem Gr.drewN {a w : World} (h : Gr a w) (n : Nat) : Gr a (w.drewN n) := ⟨⟨h.b.os, h.b.tape, h.b.output, h.b.size, h.b.block⟩, Nat.le_trans h.d (Nat.le_add_right _ _)⟩
theorem Gr.drew {a w : World} (h : Gr a w) : Gr a w.drew := h.drewN 1
theorem Gr.size {a w : World} (h : Gr a w) : a.heap.size ≤ w.heap.size := h.b.size
theorem Gr.form {w w' : World} (h : Gr w w') : ∃ q os, w' = Sort.grow (w.drewN q) os := by
 refine ⟨w'.drawn - w.drawn, w'.heap.extract w.heap.size w'.heap.size, ?_⟩
 have e : w'.heap = w.heap ++ w'.heap.extract w.heap.size w'.heap.size := by
   apply Array.ext
   · simp; have := h.b.size; omega
   · intro i h1 h2
     rw [Array.getElem_append]
     split
     · rename_i hi
       have := h.b.block i hi
       rw [Array.getElem?_eq_getElem hi, Array.getElem?_eq_getElem h1] at this
       exact Option.some.inj this
     · simp; congr 1; have := h.b.size; omega
 have hd := h.d
 have h1 := h.b.os
 have h2 := h.b.tape
 have h3 := h.b.output
 cases w'; cases w
 simp only [Sort.grow, World.drewN, World.mk.injEq] at *
 exact ⟨e, h2, by omega, h1, h3⟩

def IAt (w : World) (S : Nat → Prop) (v : Value) (cs : List Int) : Prop :=
 ∃ A n c, v = .slice A n c ∧ cs.length = n ∧ n ≤ c ∧ c ≤ maxLen ∧ (0 < n → ∃ ad, A = some ad ∧ S ad.block ∧ ∀ k (h : k < cs.length), w.cell? (ad.add k) = some (.int .i64 cs[k]))
inductive KAt (w : World) (S : Nat → Prop) : Value → List V → Prop
 | mk (A : Option Addr) (n c : Nat) (l : List V) (ss : List Value) (hl : l.length = n) (hs : ss.length = n) (hc : n ≤ c) (hm : c ≤ maxLen)
     (ha : 0 < n → ∃ ad, A = some ad ∧ S ad.block ∧ ∀ k (h : k < l.length) (h' : k < ss.length), w.cell? (ad.add (k * 2)) = some (.int .i64 l[k].n) ∧ w.cell? ⟨(ad.add (k * 2)).block, (ad.add (k * 2)).off + 1, none⟩ = some ss[k])
     (hk : ∀ k (h : k < l.length) (h' : k < ss.length), KAt w S ss[k] l[k].ks) : KAt w S (.slice A n c) l
inductive PAt (w : World) (S : Nat → Prop) : Value → List T → Prop
 | mk (A : Option Addr) (n c : Nat) (l : List T) (rs ps : List Value) (hl : l.length = n) (hr : rs.length = n) (hp : ps.length = n) (hc : n ≤ c) (hm : c ≤ maxLen)
     (ha : 0 < n → ∃ ad, A = some ad ∧ S ad.block ∧ ∀ k (h : k < l.length) (h' : k < rs.length) (h'' : k < ps.length), w.cell? (ad.add (k * 4)) = some (.int .i64 l[k].kind) ∧
       w.cell? ⟨(ad.add (k * 4)).block, (ad.add (k * 4)).off + 1, none⟩ = some (.int .i64 l[k].size) ∧ w.cell? ⟨(ad.add (k * 4)).block, (ad.add (k * 4)).off + 2, none⟩ = some rs[k] ∧ w.cell? ⟨(ad.add (k * 4)).block, (ad.add (k * 4)).off + 3, none⟩ = some ps[k])
     (hi : ∀ k (h : k < l.length) (h' : k < rs.length), IAt w S rs[k] l[k].ranks)
     (hk : ∀ k (h : k < l.length) (h' : k < ps.length), PAt w S ps[k] l[k].parts) : PAt w S (.slice A n c) l
def TAt (w : World) (S : Nat → Prop) (rv pv : Value) (t : T) : Prop := IAt w S rv t.ranks ∧ PAt w S pv t.parts

section
variable {w w' : World} {S S' : Nat → Prop}
theorem IAt.keep {v : Value} {cs : List Int} (h : IAt w S v cs) (hS : ∀ b, S b → S' b) (hk : ∀ p : Addr, S p.block → w'.cell? p = w.cell? p) : IAt w' S' v cs := by
 obtain ⟨A, n, c, h1, h2, h3, h4, h5⟩ := h
 refine ⟨A, n, c, h1, h2, h3, h4, fun hn => ?_⟩
 obtain ⟨ad, e, hs, hc⟩ := h5 hn
 exact ⟨ad, e, hS _ hs, fun k h => (hk _ (by rw [add_block]; exact hs)).trans (hc k h)⟩
theorem KAt.keep {v : Value} {l : List V} (h : KAt w S v l) (hS : ∀ b, S b → S' b) (hk : ∀ p : Addr, S p.block → w'.cell? p = w.cell? p) : KAt w' S' v l := by
 induction h with
 | mk A n c l ss hl hs hc hm ha _ ih =>
   refine .mk A n c l ss hl hs hc hm (fun hn => ?_) ih
   obtain ⟨ad, e, h1, h2⟩ := ha hn
   exact ⟨ad, e, hS _ h1, fun k h h' => ⟨(hk _ (by rw [add_block]; exact h1)).trans (h2 k h h').1, (hk _ (by simp only [add_block]; exact h1)).trans (h2 k h h').2⟩⟩
theorem PAt.keep {v : Value} {l : List T} (h : PAt w S v l) (hS : ∀ b, S b → S' b) (hk : ∀ p : Addr, S p.block → w'.cell? p = w.cell? p) : PAt w' S' v l := by
 induction h with
 | mk A n c l rs ps hl hr hp hc hm ha hi _ ih =>
   refine .mk A n c l rs ps hl hr hp hc hm (fun hn => ?_) (fun k h h' => (hi k h h').keep hS hk) ih
   obtain ⟨ad, e, h1, h2⟩ := ha hn
   refine ⟨ad, e, hS _ h1, fun k h h' h'' => ?_⟩
   obtain ⟨q0, q1, q2, q3⟩ := h2 k h h' h''
   exact ⟨(hk _ (by rw [add_block]; exact h1)).trans q0, (hk _ (by simp only [add_block]; exact h1)).trans q1, (hk _ (by simp only [add_block]; exact h1)).trans q2, (hk _ (by simp only [add_block]; exact h1)).trans q3⟩
theorem KAt.nil (c : Nat) (A : Option Addr) (hc : c ≤ maxLen) : KAt w S (.slice A 0 c) [] :=
 .mk A 0 c [] [] rfl rfl (Nat.zero_le _) hc (fun h => absurd h (by omega)) (fun k h => absurd h (by simp))
theorem PAt.nil (c : Nat) (A : Option Addr) (hc : c ≤ maxLen) : PAt w S (.slice A 0 c) [] :=
 .mk A 0 c [] [] [] rfl rfl rfl (Nat.zero_le _) hc (fun h => absurd h (by omega)) (fun k h => absurd h (by simp)) (fun k h => absurd h (by simp))
theorem IAt.nil (c : Nat) (A : Option Addr) (hc : c ≤ maxLen) : IAt w S (.slice A 0 c) [] := ⟨A, 0, c, rfl, rfl, Nat.zero_le _, hc, fun h => absurd h (by omega)⟩
theorem KAt.form {v : Value} {l : List V} (h : KAt w S v l) : ∃ A n c, v = .slice A n c ∧ l.length = n ∧ n ≤ c ∧ c ≤ maxLen := by
 cases h with
 | mk A n c l ss hl hs hc hm ha hk => exact ⟨A, n, c, rfl, hl, hc, hm⟩
theorem PAt.form {v : Value} {l : List T} (h : PAt w S v l) : ∃ A n c, v = .slice A n c ∧ l.length = n ∧ n ≤ c ∧ c ≤ maxLen := by
 cases h with
 | mk A n c l rs ps hl hr hp hc hm ha hi hk => exact ⟨A, n, c, rfl, hl, hc, hm⟩
theorem IAt.form {v : Value} {l : List Int} (h : IAt w S v l) : ∃ A n c, v = .slice A n c ∧ l.length = n ∧ n ≤ c ∧ c ≤ maxLen := by
 obtain ⟨A, n, c, h1, h2, h3, h4, _⟩ := h
 exact ⟨A, n, c, h1, h2, h3, h4⟩
theorem KAt.at_ {A : Option Addr} {n c : Nat} {l : List V} (h : KAt w S (.slice A n c) l) {k : Nat} (hk : k < l.length) : ∃ ad A' n' c', A = some ad ∧ S ad.block ∧ w.cell? (ad.add (k * 2)) = some (.int .i64 l[k].n) ∧
   w.cell? ⟨(ad.add (k * 2)).block, (ad.add (k * 2)).off + 1, none⟩ = some (.slice A' n' c') ∧ l[k].ks.length = n' ∧ KAt w S (.slice A' n' c') l[k].ks := by
 cases h with
 | mk _ _ _ _ ss hl hs hc hm ha hkk =>
   obtain ⟨ad, e, h1, h2⟩ := ha (by omega)
   have h3 := h2 k hk (by omega)
   have h4 := hkk k hk (by omega)
   obtain ⟨A', n', c', e', h5, _, _⟩ := h4.form
   rw [e'] at h3 h4
   exact ⟨ad, A', n', c', e, h1, h3.1, h3.2, h5, h4⟩
theorem PAt.at_ {A : Option Addr} {n c : Nat} {l : List T} (h : PAt w S (.slice A n c) l) {k : Nat} (hk : k < l.length) : ∃ ad A' n' c' A'' n'' c'', A = some ad ∧ S ad.block ∧ w.cell? (ad.add (k * 4)) = some (.int .i64 l[k].kind) ∧
   w.cell? ⟨(ad.add (k * 4)).block, (ad.add (k * 4)).off + 1, none⟩ = some (.int .i64 l[k].size) ∧ w.cell? ⟨(ad.add (k * 4)).block, (ad.add (k * 4)).off + 2, none⟩ = some (.slice A' n' c') ∧
   w.cell? ⟨(ad.add (k * 4)).block, (ad.add (k * 4)).off + 3, none⟩ = some (.slice A'' n'' c'') ∧ TAt w S (.slice A' n' c') (.slice A'' n'' c'') l[k] := by
 cases h with
 | mk _ _ _ _ rs ps hl hr hp hc hm ha hi hkk =>
   obtain ⟨ad, e, h1, h2⟩ := ha (by omega)
   obtain ⟨q0, q1, q2, q3⟩ := h2 k hk (by omega) (by omega)
   have h3 := hi k hk (by omega)
   have h4 := hkk k hk (by omega)
   obtain ⟨A', n', c', e', _, _, _⟩ := h3.form
   obtain ⟨A'', n'', c'', e'', _, _, _⟩ := h4.form
   rw [e'] at h3 q2
   rw [e''] at h4 q3
   exact ⟨ad, A', n', c', A'', n'', c'', e, h1, q0, q1, q2, q3, h3, h4⟩
theorem IAt.at_ {A : Option Addr} {n c : Nat} {l : List Int} (h : IAt w S (.slice A n c) l) {k : Nat} (hk : k < l.length) : ∃ ad, A = some ad ∧ S ad.block ∧ w.cell? (ad.add k) = some (.int .i64 l[k]) := by
 obtain ⟨A', n', c', e, h2, h3, h4, h5⟩ := h
 injection e with e1 e2 e3
 subst e1 e2 e3
 obtain ⟨ad, e, h6, h7⟩ := h5 (by omega)
 exact ⟨ad, e, h6, h7 k hk⟩
end
abbrev KB (w : World) (B : Nat) (v : Value) (l : List V) : Prop := KAt w (· < B) v l
abbrev PB (w : World) (B : Nat) (v : Value) (l : List T) : Prop := PAt w (· < B) v l
abbrev IB (w : World) (B : Nat) (v : Value) (l : List Int) : Prop := IAt w (· < B) v l
abbrev TB (w : World) (B : Nat) (rv pv : Value) (t : T) : Prop := TAt w (· < B) rv pv t
section
variable {w w' : World} {B B' : Nat}
theorem KAt.gr {v : Value} {l : List V} (h : KB w w.heap.size v l) (g : Gr w w') : KB w' w'.heap.size v l := h.keep (fun b hb => Nat.lt_of_lt_of_le hb g.size) (fun p hp => g.b.cell hp)
theorem KAt.under {v : Value} {l : List V} (h : KB w B v l) (g : Below B w w') : KB w' B v l := h.keep (fun b hb => hb) (fun p hp => g.cell hp)
theorem PAt.under {v : Value} {l : List T} (h : PB w B v l) (g : Below B w w') : PB w' B v l := h.keep (fun b hb => hb) (fun p hp => g.cell hp)
theorem IAt.under {v : Value} {l : List Int} (h : IB w B v l) (g : Below B w w') : IB w' B v l := h.keep (fun b hb => hb) (fun p hp => g.cell hp)
theorem KAt.more {v : Value} {l : List V} (h : KB w B v l) (hB : B ≤ B') : KB w B' v l := h.keep (fun b hb => Nat.lt_of_lt_of_le hb hB) (fun _ _ => rfl)
theorem PAt.more {v : Value} {l : List T} (h : PB w B v l) (hB : B ≤ B') : PB w B' v l := h.keep (fun b hb => Nat.lt_of_lt_of_le hb hB) (fun _ _ => rfl)
theorem IAt.more {v : Value} {l : List Int} (h : IB w B v l) (hB : B ≤ B') : IB w B' v l := h.keep (fun b hb => Nat.lt_of_lt_of_le hb hB) (fun _ _ => rfl)
end
abbrev aggV (v : V) (s : Value) : Value := .agg #[.int .i64 v.n, s]
abbrev aggT (t : T) (r p : Value) : Value := .agg #[.int .i64 t.kind, .int .i64 t.size, r, p]
end
end Go.Proofs.YthhbkabdhkdafaaGreat
