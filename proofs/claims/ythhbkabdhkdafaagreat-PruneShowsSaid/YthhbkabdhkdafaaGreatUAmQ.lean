/- Part of a proof of pruneShows_holds. -/
import Derived.Test.YthhbkabdhkdafaaGreatUAkQ
import Derived.Test.YthhbkabdhkdafaaGreatUAlQ
set_option linter.unusedSimpArgs false
set_option linter.unusedVariables false
namespace Go.Proofs.YthhbkabdhkdafaaGreat
section
open Go.RowKit
abbrev DV (w : World) (v : Value) : Nat → Prop := fun b => b < w.heap.size ∧ v.ownBlock ≠ some b
section
variable {w A W : World} {B : Nat} {v v' : Value} {ps qs : List VS}
end
theorem pcells_one {w : World} {S : Nat → Prop} {ps : List VS} (h : ∀ p ∈ ps, KAt w S p.2 p.1.ks) : ∀ u ∈ pCells ps, u.oneCell' = true := by
 intro u hu
 obtain ⟨p, hp, hu⟩ := List.mem_flatMap.1 hu
 obtain ⟨A, n, c, e, _⟩ := (h p hp).form
 rw [e] at hu
 simp only [List.mem_cons, List.not_mem_nil, or_false] at hu
 rcases hu with rfl | rfl <;> rfl
theorem KAt.rows {w : World} {B : Nat} {A : Option Addr} {n c : Nat} {l : List V} (h : KAt w (· < B) (.slice A n c) l) :
   ∃ ps : List VS, ps.length = n ∧ ps.map (·.1) = l ∧ Reads w B 2 A n (pCells ps) ∧ ∀ p ∈ ps, KAt w (· < B) p.2 p.1.ks := by
 cases h with
 | mk _ _ _ _ ss hl hs hc hm ha hk =>
   refine ⟨l.zip ss, by simp; omega, by rw [List.map_fst_zip (by omega)], ⟨by rw [pCells_length, List.length_zip]; omega, fun hn => ?_⟩, ?_⟩
   · obtain ⟨ad, rfl, hS, h2⟩ := ha hn
     refine ⟨ad, rfl, hS, fun j u hu => ?_⟩
     have hj : j < n * 2 := by
       have : j < (pCells (l.zip ss)).length := by
         rcases Nat.lt_or_ge j (pCells (l.zip ss)).length with h | h
         · exact h
         · rw [List.getElem?_eq_none h] at hu; cases hu
       rw [pCells_length, List.length_zip] at this; omega
     have hk2 : j / 2 < (l.zip ss).length := by rw [List.length_zip]; omega
     have h3 := h2 (j / 2) (by omega) (by omega)
     have h4 := pCells_get hk2
     have e := Nat.div_add_mod j 2
     rcases Nat.mod_two_eq_zero_or_one j with h0 | h0
     · have e1 : j / 2 * 2 = j := by omega
       rw [e1] at h3 h4
       rw [h3.1, ← hu, h4.1]; simp
     · have e1 : j = j / 2 * 2 + 1 := by omega
       rw [e1] at hu ⊢
       rw [h4.2] at hu
       have := add_off ad (j / 2 * 2) 0
       rw [Nat.zero_add] at this
       rw [this, ← hu, h3.2]; simp
   · intro p hp
     obtain ⟨k, hk1, rfl⟩ := List.getElem_of_mem hp
     rw [List.length_zip] at hk1
     have := hk k (by omega) (by omega)
     simpa using this
end
section
open Go.RowKit
structure Enc (α : Type) where
 z : Nat
 enc : α → List Value
 len : ∀ x, (enc x).length = z
 kd : α → List (Value × List V)
variable {α : Type} {E : Enc α}
theorem flat_get (E : Enc α) : ∀ {xs : List α} {k j : Nat} (h : k < xs.length), j < E.z → (xs.flatMap E.enc)[k * E.z + j]? = (E.enc xs[k])[j]?
 | x :: r, 0, j, _, hj => by
   rw [List.flatMap_cons, List.getElem?_append_left (by rw [E.len]; omega)]
   simp
 | x :: r, k + 1, j, h, hj => by
   have := flat_get E (xs := r) (k := k) (j := j) (by simpa using h) hj
   rw [List.flatMap_cons, List.getElem?_append_right (by rw [E.len, Nat.add_mul]; omega), E.len, show (k + 1) * E.z + j - E.z = k * E.z + j from by rw [Nat.add_mul]; omega, this]
   simp
theorem add_zero_blk (g j : Nat) : (⟨g, 0, none⟩ : Addr).add j = ⟨g, j, none⟩ := by
 unfold Addr.add
 by_cases h0 : j = 0 <;> simp [h0]
def EAt (E : Enc α) (w : World) (S : Nat → Prop) (v : Value) (xs : List α) : Prop :=
 ∃ A n c, v = .slice A n c ∧ xs.length = n ∧ n ≤ c ∧ c ≤ maxLen ∧ (0 < n → ∃ ad, A = some ad ∧ S ad.block ∧ ∀ j u, (xs.flatMap E.enc)[j]? = some u → w.cell? (ad.add j) = some u) ∧ ∀ x ∈ xs, ∀ q ∈ E.kd x, KAt w S q.1 q.2
structure ERow (E : Enc α) (w : World) (e B : Nat) (D : Nat → Prop) (v : Value) (xs : List α) : Prop where
 own : w.ownsRow B e E.z v xs.length (xs.flatMap E.enc)
 kid : ∀ x ∈ xs, ∀ q ∈ E.kd x, KAt w D q.1 q.2
section
variable {w w' A W : World} {e B : Nat} {S S' D D' : Nat → Prop} {v v' : Value} {xs ys : List α}
theorem EAt.form (h : EAt E w S v xs) : ∃ A c, v = .slice A xs.length c ∧ xs.length ≤ c ∧ c ≤ maxLen := by
 obtain ⟨A, n, c, h1, h2, h3, h4, _⟩ := h
 subst h2
 exact ⟨A, c, h1, h3, h4⟩
theorem EAt.keep (h : EAt E w S v xs) (hS : ∀ b, S b → S' b) (hk : ∀ p : Addr, S p.block → w'.cell? p = w.cell? p) : EAt E w' S' v xs := by
 obtain ⟨A, n, c, h1, h2, h3, h4, h5, h6⟩ := h
 refine ⟨A, n, c, h1, h2, h3, h4, fun hn => ?_, fun x hx q hq => (h6 x hx q hq).keep hS hk⟩
 obtain ⟨ad, e, hs, hc⟩ := h5 hn
 exact ⟨ad, e, hS _ hs, fun j u hu => (hk _ (by rw [add_block]; exact hs)).trans (hc j u hu)⟩
theorem EAt.nil (c : Nat) (A : Option Addr) (hc : c ≤ maxLen) : EAt E w S (.slice A 0 c) [] := ⟨A, 0, c, rfl, rfl, Nat.zero_le _, hc, fun h => absurd h (by omega), fun x h => absurd h (by simp)⟩
theorem ERow.nil (w : World) (e B : Nat) (D : Nat → Prop) : ERow E w e B D (.slice none 0 0) [] := ⟨World.ownsRow_nil _ _ _ _, fun x h => absurd h (by simp)⟩
theorem ERow.form (h : ERow E w e B D v xs) : ∃ A c, v = .slice A xs.length c ∧ xs.length ≤ c ∧ c ≤ maxLen := own_bounds h.own
theorem ERow.keep (h : ERow E A e B D v xs) {row : Option Nat} (hg : A.grownBy W row) (hr : v.ownBlock = none ∨ row ≠ v.ownBlock) (hD : ∀ b, D b → D' b ∧ b < A.heap.size ∧ row ≠ some b) : ERow E W e B D' v xs := by
 refine ⟨h.own.kept hg ?_, fun x hx q hq => (h.kid x hx q hq).keep (fun b hb => (hD b hb).1) (fun p hp => World.cell?_of_block (hg.block p.block (hD _ hp).2.1 (fun e => (hD _ hp).2.2 e.symm)))⟩
 rcases hr with hr | hr
 · exact .inl hr
 · rcases hv : v.ownBlock with _ | k
   · exact .inl rfl
   · right; rw [hv] at hr; exact fun e => hr e.symm
theorem ERow.bw (h : ERow E A e B D v xs) (g : Bw A W) (hD : ∀ b, D b → D' b ∧ b < A.heap.size) : ERow E W e B D' v xs :=
 h.keep g.gr (by rcases v.ownBlock with _ | k <;> simp) (fun b hb => ⟨(hD b hb).1, (hD b hb).2, fun e => by cases e⟩)
theorem ERow.app (h : ERow E A e B D v xs) (hs : ∀ x ∈ ys, ∀ q ∈ E.kd x, KAt A D q.1 q.2) (hown : W.ownsRow B e E.z v' (xs.length + ys.length) (xs.flatMap E.enc ++ ys.flatMap E.enc)) (hg : A.grownBy W v.ownBlock) (hD : ∀ b, D b → D' b ∧ b < A.heap.size ∧ v.ownBlock ≠ some b) : ERow E W e B D' v' (xs ++ ys) := by
 refine ⟨by rw [List.length_append, List.flatMap_append]; exact hown, fun x hx q hq => ?_⟩
 have key : KAt A D q.1 q.2 := by
   rcases List.mem_append.1 hx with hx | hx
   · exact h.kid x hx q hq
   · exact hs x hx q hq
 exact key.keep (fun b hb => (hD b hb).1) (fun p hp => World.cell?_of_block (hg.block p.block (hD _ hp).2.1 (fun e => (hD _ hp).2.2 e.symm)))
theorem ERow.push (h : ERow E A e B D v xs) {x : α} (hs : ∀ q ∈ E.kd x, KAt A D q.1 q.2) (hown : W.ownsRow B e E.z v' (xs.length + 1) (xs.flatMap E.enc ++ E.enc x)) (hg : A.grownBy W v.ownBlock) (hD : ∀ b, D b → D' b ∧ b < A.heap.size ∧ v.ownBlock ≠ some b) : ERow E W e B D' v' (xs ++ [x]) :=
 h.app (ys := [x]) (fun y hy => by obtain rfl := List.mem_singleton.1 hy; exact hs) (by simpa using hown) hg hD
theorem ERow.eat (h : ERow E w e B D v xs) (hS : ∀ b, D b → S b) (hv : ∀ b, v.ownBlock = some b → S b) : EAt E w S v xs := by
 obtain ⟨Ad, c, rfl, h1, h2⟩ := h.form
 refine ⟨Ad, _, c, rfl, rfl, h1, h2, fun hn => ?_, fun x hx q hq => (h.kid x hx q hq).keep hS (fun _ _ => rfl)⟩
 obtain ⟨g, rfl, h3, h4, h5, h6⟩ := own_at h.own hn
 exact ⟨_, rfl, hv g h3, fun j u hu => h6 j u hu⟩
end
end
section
open Go.RowKit
theorem bvalid1_any (t : T) [Nonempty (FlatT t)] (v : V) (g : Nat) (rv pv s : Value) (W : World) (hg : Blk W g 50 #[.int .i64 t.kind, .int .i64 t.size, rv, pv]) (hT : TB W W.heap.size rv pv t) (h : KB W W.heap.size s v.ks) :
   Calls Tryz.prog 177 (#[.agg #[.int .i64 v.n, s]] ++ #[.pointer (some ⟨g, 0, none⟩)]) W (BoolPost W (!validP t v)) := by
 obtain ⟨A, n, c, rfl, _, _, _⟩ := h.form
 obtain ⟨A1, rn, c1, rfl, _, _⟩ := hT.1.form'
 obtain ⟨A2, pn, c2, rfl, _, _, _⟩ := hT.2.form
 have OV : Hid (∀ W', Bw W W' → Calls Tryz.prog 54 #[.agg #[.int .i64 t.kind, .int .i64 t.size, .slice A1 rn c1, .slice A2 pn c2], .agg #[.int .i64 v.n, .slice A n c]] W' (BoolPost W' (validP t v))) := Lib.hid (fun W' g => ovalid_any t v _ _ _ W' (TAt.bw hT g) (h.bw g) _ rfl)
 have q0 := hg.cell 0
 have q1 := hg.cell 1
 have q2 := hg.cell 2
 have q3 := hg.cell 3
 have q4 := hg.lt
 clear hg hT h
 generalize validP t v = q at *
 generalize v.n = x at *
 generalize t.kind = k at *
 generalize t.size = z at *
 go_enter Tryz.func177, Tryz.ntmps177
 go_wp2_with (go_at_call 54; go_must (refine (OV.out _ ((Bw.refl _).alloc _)).mono ?_; rintro e w6 ⟨rfl, hg6⟩; have HG6 := Lib.hid hg6; clear hg6))
 go_ret
 exact ⟨rfl, ((Bw.refl _).alloc _).trans HG6.out⟩
theorem bvalid_any (t : T) [Nonempty (FlatT t)] (l : List V) (rv pv s : Value) (w : World) (hT : TB w w.heap.size rv pv t) (h : KB w w.heap.size s l) :
   Calls Tryz.prog 114 #[.agg #[.int .i64 t.kind, .int .i64 t.size, rv, pv], s] w (BoolPost w (l.all (validP t))) := by
 obtain ⟨A, n, c, rfl, _, _, _⟩ := h.form
 obtain ⟨A1, rn, c1, rfl, _, _⟩ := hT.1.form'
 obtain ⟨A2, pn, c2, rfl, _, _, _⟩ := hT.2.form
 have CF : Hid (Calls Tryz.prog 174 #[.slice A n c, .func (.func 177) #[] #[.pointer (some ⟨w.heap.size, 0, none⟩)]] (w.alloc (.cells #[.int .i64 t.kind, .int .i64 t.size, .slice A1 rn c1, .slice A2 pn c2] 50)) (BoolPost (w.alloc (.cells #[.int .i64 t.kind, .int .i64 t.size, .slice A1 rn c1, .slice A2 pn c2] 50)) (l.any fun v => !validP t v))) := Lib.hid (by
   have hb := Blk.new w 50 #[.int .i64 t.kind, .int .i64 t.size, .slice A1 rn c1, .slice A2 pn c2]
   exact contVal_any l _ 177 _ (enters_of Tryz.func177 (by kernel_rfl) rfl) _ _ (h.bw ((Bw.refl _).alloc _)) (fun v _ s' W hg hk => bvalid1_any t v _ _ _ s' W (hb.below hg.b hb.lt) (TAt.bw hT (((Bw.refl _).alloc _).trans hg)) hk))
 have HA : Hid ((!(l.any fun v => !validP t v)) = l.all (validP t)) := Lib.hid (by rw [List.all_eq_not_any_not])
 rw [← HA.out]
 clear hT h HA
 generalize (l.any fun v => !validP t v) = q at *
 generalize t.kind = k at *
 generalize t.size = z at *
 go_enter Tryz.func114, Tryz.ntmps114
 go_wp2_with (go_at_call 174; go_must (refine CF.out.mono ?_; rintro e w6 ⟨rfl, hg6⟩; have HG6 := Lib.hid hg6; clear hg6))
 go_ret
 exact ⟨rfl, ((Bw.refl _).alloc _).trans HG6.out⟩
end
end Go.Proofs.YthhbkabdhkdafaaGreat
