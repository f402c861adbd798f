/- Part of a proof of orderExact_card. -/
import Derived.Test.YtlmnkcfnihhlgaaGreatDoorXGenCQ
set_option maxRecDepth 100000
set_option maxHeartbeats 16000000
namespace Go.Proofs.YtlmnkcfnihhlgaaGreatDoor
open Go.RowKit
section
variable {P : Program} {ops : Array Oper} {Q : Exit → Act → World → Prop} {md : Region.Mode}
theorem count_set_false : ∀ (l : List Bool) (i : Nat) (h : i < l.length), l[i] = false → ((l.set i true).filter fun b => !b).length + 1 = (l.filter fun b => !b).length
 | [], i, h, _ => by simp at h
 | b :: r, 0, h, e => by simp at e; subst e; simp
 | b :: r, i + 1, h, e => by
   have := count_set_false r i (by simpa using h) (by simpa using e)
   cases b <;> simp at this ⊢ <;> omega
def leftN (l : Array Bool) : Nat := (l.toList.filter fun b => !b).length
theorem wpAny_inv (I : Array Bool → Act → World → Prop)
   (hs : ∀ l a w, I l a w → ∀ i ∈ Region.ready md ops l, wpOp P ops Q i (fun a' w' => I (l.setIfInBounds i true) a' w') a w)
   (hd : ∀ l a w, I l a w → Region.ready md ops l = [] → Q .normal a w) : ∀ (fuel : Nat) (l : Array Bool) (a : Act) (w : World), l.size = ops.size → leftN l ≤ fuel → I l a w → wpAny P md ops Q fuel l a w := by
 intro fuel
 induction fuel with
 | zero =>
   intro l a w hz hl h
   have hr : Region.ready md ops l = [] := by
     rcases e : Region.ready md ops l with _ | ⟨i, r⟩
     · rfl
     · exfalso
       have hi : i ∈ Region.ready md ops l := by rw [e]; simp
       have h1 := (mem_ready.1 hi).1
       have hlt : i < l.size := by
         rcases Nat.lt_or_ge i l.size with h2 | h2
         · exact h2
         · simp [Array.getElem?_eq_none h2] at h1
       have h2 : l.toList[i]'(by simpa using hlt) = false := by simpa [hlt] using h1
       have h3 := count_set_false l.toList i (by simpa using hlt) h2
       unfold leftN at hl
       omega
   exact ⟨hr, hd l a w h hr⟩
 | succ fuel ih =>
   intro l a w hz hl h
   refine ⟨fun hr => hd l a w h hr, fun i hi => ?_⟩
   have h1 := (mem_ready.1 hi).1
   have hlt : i < l.size := by
     rcases Nat.lt_or_ge i l.size with h2 | h2
     · exact h2
     · simp [Array.getElem?_eq_none h2] at h1
   have h2 : l.toList[i]'(by simpa using hlt) = false := by simpa [hlt] using h1
   have h3 := count_set_false l.toList i (by simpa using hlt) h2
   refine wpOp_mono (fun a' w' h' => ih _ a' w' (by simpa using hz) ?_ h') (hs l a w h i hi)
   unfold leftN at hl ⊢
   rw [Array.toList_setIfInBounds]
   omega
theorem wp_region_inv {id : Nat} {a : Act} {w : World} (hm : P.follows .mixedOrders = true) (I : Array Bool → Act → World → Prop)
   (hs : ∀ l a w, I l a w → ∀ i ∈ Region.ready .any ops l, wpOp P ops Q i (fun a' w' => I (l.setIfInBounds i true) a' w') a w)
   (hd : ∀ l a w, I l a w → Region.ready .any ops l = [] → Q .normal a w)
   (h0 : I (Array.replicate ops.size false) a w.drew) : (Code.region id ops true).wp P Q a w :=
 wp_region_any hm (wpAny_inv I hs hd _ _ _ _ (by simp) (by unfold leftN; simp) h0)
theorem wpOp_of {i : Nat} {o : Oper} {a : Act} {w : World} {K : Act → World → Prop} (hi : ops[i]? = some o) (hg : o.guard = none) (h : o.wp P a w K Q) : wpOp P ops Q i K a w := by
 unfold wpOp
 simp only [hi]
 rw [if_pos (by simp [Region.wanted, hg])]
 exact .inl h
end
set_option linter.unusedSimpArgs false
set_option linter.unusedVariables false
variable {K : Act → World → Prop} {Q : Exit → Act → World → Prop} {a : Act} {w : World} {d x y : Nat} {ty : TypeId} {pos : String} {af : Array Edge}
theorem st_move (h : K (a.put (some d) (a.tmps[x]?.getD undef)) w) : Oper.wp Tryz.prog ⟨some d, Op.move (.tmp x), ty, pos, af, none⟩ a w K Q := by
 go_simp
 exact h
theorem st_load {g : Nat} {c0 c1 c2 c3 : Value} (hx : a.tmps[x]?.getD undef = .pointer (some ⟨g, 0, none⟩)) (h0 : w.cell? ⟨g, 0, none⟩ = some c0) (h1 : w.cell? ⟨g, 1, none⟩ = some c1) (h2 : w.cell? ⟨g, 2, none⟩ = some c2) (h3 : w.cell? ⟨g, 3, none⟩ = some c3)
   (h : K (a.put (some d) (.agg #[c0, c1, c2, c3])) w) : Oper.wp Tryz.prog ⟨some d, Op.load 25 (.tmp x), ty, pos, af, none⟩ a w K Q := by
 go_simp
 exact h
theorem st_alloc (h : K (a.put (some d) (.pointer (some ⟨w.heap.size, 0, none⟩))) (w.alloc (.cells #[.int .i64 0, .slice none 0 0] 28))) : Oper.wp Tryz.prog ⟨some d, Op.alloc 28, ty, pos, af, none⟩ a w K Q := by
 go_simp
 exact h
theorem st_store {g : Nat} {u0 u1 : Value} {v0 : Int} {A : Option Addr} {n c : Nat} (hx : a.tmps[x]?.getD undef = .pointer (some ⟨g, 0, none⟩)) (hy : a.tmps[y]?.getD undef = .agg #[.int .i64 v0, .slice A n c]) (c0 : w.cell? ⟨g, 0, none⟩ = some u0) (c1 : w.cell? ⟨g, 1, none⟩ = some u1) (f0 : w.frozen? ⟨g, 0, none⟩ = false) (f1 : w.frozen? ⟨g, 1, none⟩ = false)
   (h : K a ((w.setCell ⟨g, 0, none⟩ (.int .i64 v0)).setCell ⟨g, 1, none⟩ (.slice A n c))) : Oper.wp Tryz.prog ⟨none, Op.store 28 (.tmp x) (.tmp y), ty, pos, af, none⟩ a w K Q := by
 go_simp
 exact h
theorem st_call {u v : Value} {R : Ending → World → Prop} (hx : a.tmps[x]?.getD undef = u) (hy : a.tmps[y]?.getD undef = v) (hc : Calls Tryz.prog 15 #[u, v] w R) (hK : ∀ e w', R e w' → ∃ v, e = .returned v ∧ K (a.put (some d) v) w') : Oper.wp Tryz.prog ⟨some d, Op.call { callee := .value (.func 15), args := #[.tmp x, .tmp y], argTypes := #[33, 25] }, ty, pos, af, none⟩ a w K Q := by
 subst hx hy
 go_simp
 refine hc.mono fun e w' h => ?_
 obtain ⟨v, rfl, h2⟩ := hK e w' h
 exact h2
end Go.Proofs.YtlmnkcfnihhlgaaGreatDoor
namespace Go.Proofs.YtlmnkcfnihhlgaaGreatDoor
open Go.RowKit
set_option linter.unusedSimpArgs false
set_option linter.unusedVariables false
theorem put_getD {a : Act} {d0 d : Nat} {v : Value} (h : d0 < a.tmps.size) : (a.put (some d0) v).tmps[d]?.getD undef = if d = d0 then v else a.tmps[d]?.getD undef := by
 show (a.tmps.setIfInBounds d0 v)[d]?.getD undef = _
 by_cases e : d = d0
 · subst e; rw [if_pos rfl]; simp [h]
 · rw [if_neg e, Array.getElem?_setIfInBounds_ne (fun x => e x.symm)]
theorem put_size {a : Act} {d0 : Nat} {v : Value} : (a.put (some d0) v).tmps.size = a.tmps.size := by show (a.tmps.setIfInBounds d0 v).size = _; simp
theorem act_ext {a a' : Act} (hd : a.defers = a'.defers) (hs : a.tmps.size = a'.tmps.size) (h : ∀ d : Nat, a.tmps[d]?.getD undef = a'.tmps[d]?.getD undef) : a = a' := by
 obtain ⟨x, y⟩ := a
 obtain ⟨x', y'⟩ := a'
 simp only at hd hs h
 subst hd
 congr 1
 apply Array.ext hs
 intro i h1 h2
 have := h i
 simpa [h1, h2] using this
def slOf (s : Option Addr × Nat × Nat) : Value := .slice s.1 s.2.1 s.2.2
structure Jr (k b0 s0 N : Nat) (a0 : Act) (b : Nat) (W0 : World) (aT : Value) (t : T) (L : Nat → Prop) (X : Nat → V) (Sl : Nat → Option Addr × Nat × Nat) (G : Nat → Nat) (a : Act) (W : World) : Prop where
 df : a.defers = a0.defers
 sz : a.tmps.size = N
 oth : ∀ d : Nat, (d < b0 ∨ (b0 + k ≤ d ∧ d < s0) ∨ s0 + 3 * k ≤ d) → a.tmps[d]?.getD undef = a0.tmps[d]?.getD undef
 gd : GD b W0 W
 mv : ∀ j, j < k → L (3 * j) → a.tmps[s0 + 3 * j]?.getD undef = .pointer (some ⟨b, 0, none⟩)
 ld : ∀ j, j < k → L (3 * j + 1) → a.tmps[s0 + 3 * j + 1]?.getD undef = aT
 cl : ∀ j, j < k → L (3 * j + 2) → a.tmps[s0 + 3 * j + 2]?.getD undef = .agg #[.int .i64 (X j).n, slOf (Sl j)] ∧ validP t (X j) = true ∧ KAt W (fun x => W0.heap.size ≤ x ∧ x < W.heap.size ∧ ∀ i, i < k → L (3 * k + i) → x ≠ G i) (slOf (Sl j)) (X j).ks
 al : ∀ j, j < k → L (3 * k + j) → a.tmps[b0 + j]?.getD undef = .pointer (some ⟨G j, 0, none⟩) ∧ W0.heap.size ≤ G j ∧ G j < W.heap.size
 ne : ∀ i j, i < k → j < k → i ≠ j → L (3 * k + i) → L (3 * k + j) → G i ≠ G j
 bz : ∀ j, j < k → L (3 * k + j) → ¬ L (4 * k + j) → Blk W (G j) 28 #[.int .i64 0, .slice none 0 0]
 bf : ∀ j, j < k → L (4 * k + j) → Blk W (G j) 28 #[.int .i64 (X j).n, slOf (Sl j)]
 st : ∀ j, j < k → L (4 * k + j) → L (3 * j + 2) ∧ L (3 * k + j)
abbrev ins (L : Nat → Prop) (i0 : Nat) : Nat → Prop := fun i => i = i0 ∨ L i
theorem ins_out {L : Nat → Prop} {i0 i : Nat} (h : i = i0 ∨ L i) (hne : i ≠ i0) : L i := h.resolve_left hne
section
variable {k b0 s0 N : Nat} {a0 : Act} {b : Nat} {W0 : World} {aT : Value} {t : T} {L : Nat → Prop} {X : Nat → V} {Sl : Nat → Option Addr × Nat × Nat} {G : Nat → Nat} {a : Act} {W : World}
theorem Jr.slot (h : Jr k b0 s0 N a0 b W0 aT t L X Sl G a W) (hb : b0 + k ≤ s0) (hN : s0 + 3 * k ≤ N) {j0 r : Nat} (hj : j0 < k) (hr : r < 2) {v : Value} (hv0 : r = 0 → v = .pointer (some ⟨b, 0, none⟩)) (hv1 : r = 1 → v = aT) :
   Jr k b0 s0 N a0 b W0 aT t (ins L (3 * j0 + r)) X Sl G (a.put (some (s0 + 3 * j0 + r)) v) W := by
 have hlt : s0 + 3 * j0 + r < a.tmps.size := by rw [h.sz]; omega
 refine ⟨h.df, by rw [put_size]; exact h.sz, fun d hd => ?_, h.gd, fun j hj' hl => ?_, fun j hj' hl => ?_, fun j hj' hl => ?_, fun j hj' hl => ?_, fun i j hi hj' hne h1 h2 => ?_, fun j hj' h1 h2 => ?_, fun j hj' h1 => ?_, fun j hj' h1 => ?_⟩
 · rw [put_getD hlt, if_neg (by omega)]; exact h.oth d hd
 · rw [put_getD hlt]
   by_cases e : s0 + 3 * j = s0 + 3 * j0 + r
   · rw [if_pos e]; exact hv0 (by omega)
   · rw [if_neg e]
     rcases hl with hl | hl
     · omega
     · exact h.mv j hj' hl
 · rw [put_getD hlt]
   by_cases e : s0 + 3 * j + 1 = s0 + 3 * j0 + r
   · rw [if_pos e]; exact hv1 (by omega)
   · rw [if_neg e]
     rcases hl with hl | hl
     · omega
     · exact h.ld j hj' hl
 · have hl' : L (3 * j + 2) := ins_out hl (by omega)
   obtain ⟨q1, q2, q3⟩ := h.cl j hj' hl'
   rw [put_getD hlt, if_neg (by omega)]
   exact ⟨q1, q2, q3.keep (fun x hx => ⟨hx.1, hx.2.1, fun i hi hl2 => hx.2.2 i hi (ins_out hl2 (by omega))⟩) (fun _ _ => rfl)⟩
 · have hl' : L (3 * k + j) := ins_out hl (by omega)
   rw [put_getD hlt, if_neg (by omega)]
   exact h.al j hj' hl'
 · exact h.ne i j hi hj' hne (ins_out h1 (by omega)) (ins_out h2 (by omega))
 · exact h.bz j hj' (ins_out h1 (by omega)) (fun hx => h2 (.inr hx))
 · exact h.bf j hj' (ins_out h1 (by omega))
 · obtain ⟨q1, q2⟩ := h.st j hj' (ins_out h1 (by omega))
   exact ⟨.inr q1, .inr q2⟩
theorem Jr.call (h : Jr k b0 s0 N a0 b W0 aT t L X Sl G a W) (hb : b0 + k ≤ s0) (hN : s0 + 3 * k ≤ N) (hbl : b < W0.heap.size) {j0 : Nat} (hj : j0 < k) (hnot : ¬ L (3 * j0 + 2)) {W' : World} {v : V} {A : Option Addr} {n c : Nat} (hg : GD b W W') (hv : validP t v = true) (hk : KAt W' (FB W W') (.slice A n c) v.ks) :
   Jr k b0 s0 N a0 b W0 aT t (ins L (3 * j0 + 2)) (fun j => if j = j0 then v else X j) (fun j => if j = j0 then (A, n, c) else Sl j) G (a.put (some (s0 + 3 * j0 + 2)) (.agg #[.int .i64 v.n, .slice A n c])) W' := by
 have hlt : s0 + 3 * j0 + 2 < a.tmps.size := by rw [h.sz]; omega
 have hs := h.gd.size
 have hs2 := hg.size
 have kb : ∀ {g cs}, Blk W g 28 cs → W0.heap.size ≤ g → Blk W' g 28 cs := fun hB hge => hg.blk hB (by omega)
 refine ⟨h.df, by rw [put_size]; exact h.sz, fun d hd => ?_, h.gd.trans hg, fun j hj' hl => ?_, fun j hj' hl => ?_, fun j hj' hl => ?_, fun j hj' hl => ?_, fun i j hi hj' hne h1 h2 => ?_, fun j hj' h1 h2 => ?_, fun j hj' h1 => ?_, fun j hj' h1 => ?_⟩
 · rw [put_getD hlt, if_neg (by omega)]; exact h.oth d hd
 · rw [put_getD hlt, if_neg (by omega)]
   exact h.mv j hj' (ins_out hl (by omega))
 · rw [put_getD hlt, if_neg (by omega)]
   exact h.ld j hj' (ins_out hl (by omega))
 · by_cases e : j = j0
   · subst e
     rw [put_getD hlt, if_pos rfl]
     simp only [if_true]
     refine ⟨rfl, hv, hk.keep (fun x hx => ⟨by have := hx.1; omega, hx.2, fun i hi hl2 => ?_⟩) (fun _ _ => rfl)⟩
     have := (h.al i hi (ins_out hl2 (by omega))).2.2
     have := hx.1
     omega
   · rw [put_getD hlt, if_neg (by omega)]
     simp only [if_neg e]
     obtain ⟨q1, q2, q3⟩ := h.cl j hj' (ins_out hl (by omega))
     exact ⟨q1, q2, q3.keep (fun x hx => ⟨hx.1, by omega, fun i hi hl2 => hx.2.2 i hi (ins_out hl2 (by omega))⟩) (fun p hp => hg.cell hp.2.1 (by have := hp.1; omega))⟩
 · rw [put_getD hlt, if_neg (by omega)]
   obtain ⟨q1, q2, q3⟩ := h.al j hj' (ins_out hl (by omega))
   exact ⟨q1, q2, by omega⟩
 · exact h.ne i j hi hj' hne (ins_out h1 (by omega)) (ins_out h2 (by omega))
 · have h1' : L (3 * k + j) := ins_out h1 (by omega)
   exact kb (h.bz j hj' h1' (fun hx => h2 (.inr hx))) (h.al j hj' h1').2.1
 · have h1' : L (4 * k + j) := ins_out h1 (by omega)
   obtain ⟨q1, q2⟩ := h.st j hj' h1'
   have e : j ≠ j0 := fun e => hnot (by rw [← e]; exact q1)
   simp only [if_neg e]
   exact kb (h.bf j hj' h1') (h.al j hj' q2).2.1
 · obtain ⟨q1, q2⟩ := h.st j hj' (ins_out h1 (by omega))
   exact ⟨.inr q1, .inr q2⟩
theorem Jr.alloc (h : Jr k b0 s0 N a0 b W0 aT t L X Sl G a W) (hb : b0 + k ≤ s0) (hN : s0 + 3 * k ≤ N) (hbl : b < W0.heap.size) {j0 : Nat} (hj : j0 < k) (hnot : ¬ L (3 * k + j0)) :
   Jr k b0 s0 N a0 b W0 aT t (ins L (3 * k + j0)) X Sl (fun j => if j = j0 then W.heap.size else G j) (a.put (some (b0 + j0)) (.pointer (some ⟨W.heap.size, 0, none⟩))) (W.alloc (.cells #[.int .i64 0, .slice none 0 0] 28)) := by
 have hlt : b0 + j0 < a.tmps.size := by rw [h.sz]; omega
 have hs := h.gd.size
 have hz : (W.alloc (.cells #[.int .i64 0, .slice none 0 0] 28)).heap.size = W.heap.size + 1 := World.size_alloc _ _
 refine ⟨h.df, by rw [put_size]; exact h.sz, fun d hd => ?_, h.gd.bw ((Bw.refl _).alloc _), fun j hj' hl => ?_, fun j hj' hl => ?_, fun j hj' hl => ?_, fun j hj' hl => ?_, fun i j hi hj' hne h1 h2 => ?_, fun j hj' h1 h2 => ?_, fun j hj' h1 => ?_, fun j hj' h1 => ?_⟩
 · rw [put_getD hlt, if_neg (by omega)]; exact h.oth d hd
 · rw [put_getD hlt, if_neg (by omega)]
   exact h.mv j hj' (ins_out hl (by omega))
 · rw [put_getD hlt, if_neg (by omega)]
   exact h.ld j hj' (ins_out hl (by omega))
 · rw [put_getD hlt, if_neg (by omega)]
   obtain ⟨q1, q2, q3⟩ := h.cl j hj' (ins_out hl (by omega))
   refine ⟨q1, q2, q3.keep (fun x hx => ⟨hx.1, by rw [hz]; omega, fun i hi hl2 => ?_⟩) (fun p hp => World.cell?_alloc_lt W _ p hp.2.1)⟩
   by_cases e : i = j0
   · simp only [if_pos e]; have := hx.2.1; omega
   · simp only [if_neg e]
     exact hx.2.2 i hi (ins_out hl2 (by omega))
 · by_cases e : j = j0
   · subst e
     rw [put_getD hlt, if_pos rfl]
     simp only [if_true]
     exact ⟨trivial, hs, by rw [hz]; omega⟩
   · rw [put_getD hlt, if_neg (by omega)]
     simp only [if_neg e]
     obtain ⟨q1, q2, q3⟩ := h.al j hj' (ins_out hl (by omega))
     exact ⟨q1, q2, by rw [hz]; omega⟩
 · by_cases e1 : i = j0
   · have e2 : j ≠ j0 := by omega
     simp only [if_pos e1, if_neg e2]
     have := (h.al j hj' (ins_out h2 (by omega))).2.2
     omega
   · simp only [if_neg e1]
     by_cases e2 : j = j0
     · simp only [if_pos e2]
       have := (h.al i hi (ins_out h1 (by omega))).2.2
       omega
     · simp only [if_neg e2]
       exact h.ne i j hi hj' hne (ins_out h1 (by omega)) (ins_out h2 (by omega))
 · by_cases e : j = j0
   · simp only [if_pos e]; exact Blk.new _ _ _
   · simp only [if_neg e]
     exact (h.bz j hj' (ins_out h1 (by omega)) (fun hx => h2 (.inr hx))).alloc _
 · have h1' : L (4 * k + j) := ins_out h1 (by omega)
   obtain ⟨q1, q2⟩ := h.st j hj' h1'
   have e : j ≠ j0 := fun e => hnot (by rw [← e]; exact q2)
   simp only [if_neg e]
   exact (h.bf j hj' h1').alloc _
 · obtain ⟨q1, q2⟩ := h.st j hj' (ins_out h1 (by omega))
   exact ⟨.inr q1, .inr q2⟩
theorem Jr.store (h : Jr k b0 s0 N a0 b W0 aT t L X Sl G a W) (hbl : b < W0.heap.size) {j0 : Nat} (hj : j0 < k) (hc : L (3 * j0 + 2)) (ha : L (3 * k + j0)) (hnot : ¬ L (4 * k + j0)) :
   Jr k b0 s0 N a0 b W0 aT t (ins L (4 * k + j0)) X Sl G a ((W.setCell ⟨G j0, 0, none⟩ (.int .i64 (X j0).n)).setCell ⟨G j0, 1, none⟩ (slOf (Sl j0))) := by
 have hz := h.bz j0 hj ha hnot
 obtain ⟨-, g1, g2⟩ := h.al j0 hj ha
 have hsz : ((W.setCell ⟨G j0, 0, none⟩ (.int .i64 (X j0).n)).setCell ⟨G j0, 1, none⟩ (slOf (Sl j0))).heap.size = W.heap.size := by simp [World.setCell]
 have hgb : W.grownBy ((W.setCell ⟨G j0, 0, none⟩ (.int .i64 (X j0).n)).setCell ⟨G j0, 1, none⟩ (slOf (Sl j0))) (some (G j0)) := grownBy_setCell (p := ⟨G j0, 1, none⟩) (grownBy_setCell (p := ⟨G j0, 0, none⟩) (World.grownBy.refl _ _) (.inl rfl) _) (.inl rfl) _
 have far : ∀ {g : Nat} {cs}, Blk W g 28 cs → g ≠ G j0 → Blk ((W.setCell ⟨G j0, 0, none⟩ (.int .i64 (X j0).n)).setCell ⟨G j0, 1, none⟩ (slOf (Sl j0))) g 28 cs := fun hB hne => (hB.far hne _).far hne _
 refine ⟨h.df, h.sz, h.oth, h.gd.own hgb (fun r e => by injection e with e; subst e; exact g1) hbl, fun j hj' hl => ?_, fun j hj' hl => ?_, fun j hj' hl => ?_, fun j hj' hl => ?_, fun i j hi hj' hne h1 h2 => ?_, fun j hj' h1 h2 => ?_, fun j hj' h1 => ?_, fun j hj' h1 => ?_⟩
 · exact h.mv j hj' (ins_out hl (by omega))
 · exact h.ld j hj' (ins_out hl (by omega))
 · obtain ⟨q1, q2, q3⟩ := h.cl j hj' (ins_out hl (by omega))
   refine ⟨q1, q2, q3.keep (fun x hx => ⟨hx.1, by rw [hsz]; exact hx.2.1, fun i hi hl2 => hx.2.2 i hi (ins_out hl2 (by omega))⟩) (fun p hp => ?_)⟩
   have hne : p.block ≠ G j0 := hp.2.2 j0 hj ha
   exact World.cell?_of_block (hgb.block p.block hp.2.1 (fun e => hne (by injection e)))
 · obtain ⟨q1, q2, q3⟩ := h.al j hj' (ins_out hl (by omega))
   exact ⟨q1, q2, by rw [hsz]; exact q3⟩
 · exact h.ne i j hi hj' hne (ins_out h1 (by omega)) (ins_out h2 (by omega))
 · have h1' : L (3 * k + j) := ins_out h1 (by omega)
   have hnj : j ≠ j0 := fun e => h2 (.inl (by rw [e]))
   exact far (h.bz j hj' h1' (fun hx => h2 (.inr hx))) (h.ne j j0 hj' hj hnj h1' ha)
 · by_cases e : j = j0
   · subst e
     exact blk_set (i := 1) _ (blk_set (i := 0) _ hz)
   · have h1' : L (4 * k + j) := ins_out h1 (by omega)
     exact far (h.bf j hj' h1') (h.ne j j0 hj' hj e (h.st j hj' h1').2 ha)
 · rcases h1 with e | e
   · obtain rfl : j = j0 := by omega
     exact ⟨.inr hc, .inr ha⟩
   · obtain ⟨q1, q2⟩ := h.st j hj' e
     exact ⟨.inr q1, .inr q2⟩
end
abbrev o_on_lt (x y : Nat) : Prop := x < y
def depB (ops : Array Oper) (i m : Nat) : Bool := match ops[i]? with | some o => o.after.any (fun e => Region.binds .any e && e.on == m) | none => false
def acycB (ops : Array Oper) : Bool := (List.range ops.size).all fun i => match ops[i]? with | some o => o.after.all (fun e => !Region.binds .any e || decide (e.on < i)) | none => true
theorem dep_listed {ops : Array Oper} {l : Array Bool} {i m : Nat} (hd : depB ops i m = true) (hi : i ∈ Region.ready .any ops l) : l.getD m false = true := by
 obtain ⟨_, o, ho, h⟩ := mem_ready.1 hi
 unfold depB at hd
 rw [ho] at hd
 simp only [Array.any_eq_true, Bool.and_eq_true, beq_iff_eq] at hd
 obtain ⟨q, hq, h1, h2⟩ := hd
 have := h o.after[q] (Array.getElem_mem hq) h1
 rwa [h2] at this
theorem all_listed {ops : Array Oper} {l : Array Bool} (ha : acycB ops = true) (hz : l.size = ops.size) (hr : Region.ready .any ops l = []) : ∀ i, i < ops.size → l.getD i false = true := by
 intro i
 induction i using Nat.strongRecOn with
 | _ i ih =>
   intro hi
   by_cases h : l.getD i false = true
   · exact h
   · exfalso
     have ho : ops[i]? = some ops[i] := by simp [hi]
     have hin : i ∈ Region.ready .any ops l := mem_ready.2 ⟨by
       have hil : i < l.size := by omega
       simp [hil] at h ⊢
       exact h, ops[i], ho, fun e he hb => by
       have h1 := List.all_eq_true.1 ha i (by simpa using hi)
       rw [ho] at h1
       simp only [Array.all_eq_true] at h1
       obtain ⟨q, hq, rfl⟩ := Array.getElem_of_mem he
       have h2 := h1 q hq
       rw [hb] at h2
       have h3 : o_on_lt (ops[i].after[q]).on i := by simpa [o_on_lt] using h2
       exact ih _ h3 (Nat.lt_trans h3 hi)⟩
     rw [hr] at hin
     simp at hin
theorem deals_region {k b0 s0 N pd pt id : Nat} {ops : Array Oper} {Q : Exit → Act → World → Prop} {a0 : Act} {w : World} {b gt : Nat} {t : T} {kd z : Int} {r p : Value}
   (hM : ∀ j, j < k → ∃ ty pos af, ops[3 * j]? = some ⟨some (s0 + 3 * j), Op.move (.tmp pd), ty, pos, af, none⟩)
   (hL : ∀ j, j < k → ∃ ty pos af, ops[3 * j + 1]? = some ⟨some (s0 + 3 * j + 1), Op.load 25 (.tmp pt), ty, pos, af, none⟩)
   (hC : ∀ j, j < k → ∃ ty pos af, ops[3 * j + 2]? = some ⟨some (s0 + 3 * j + 2), Op.call { callee := .value (.func 15), args := #[.tmp (s0 + 3 * j), .tmp (s0 + 3 * j + 1)], argTypes := #[33, 25] }, ty, pos, af, none⟩)
   (hA : ∀ j, j < k → ∃ ty pos af, ops[3 * k + j]? = some ⟨some (b0 + j), Op.alloc 28, ty, pos, af, none⟩)
   (hS : ∀ j, j < k → ∃ ty pos af, ops[4 * k + j]? = some ⟨none, Op.store 28 (.tmp (b0 + j)) (.tmp (s0 + 3 * j + 2)), ty, pos, af, none⟩)
   (hsz : ops.size = 5 * k) (hd1 : ∀ j, j < k → depB ops (3 * j + 2) (3 * j) = true) (hd2 : ∀ j, j < k → depB ops (3 * j + 2) (3 * j + 1) = true) (hd3 : ∀ j, j < k → depB ops (4 * k + j) (3 * j + 2) = true) (hd4 : ∀ j, j < k → depB ops (4 * k + j) (3 * k + j) = true)
   (hac : acycB ops = true) (hb0 : b0 + k ≤ s0) (hN : s0 + 3 * k ≤ N) (hpd : pd < b0) (hpt : pt < b0) (ha0 : a0.tmps.size = N)
   (hvd : a0.tmps[pd]?.getD undef = .pointer (some ⟨b, 0, none⟩)) (hvt : a0.tmps[pt]?.getD undef = .pointer (some ⟨gt, 0, none⟩))
   (hdk : DeckOk w b) (hB : Blk w gt 25 #[.int .i64 kd, .int .i64 z, r, p]) (hgt : gt ≠ b) (hkd : t.kind = kd) (htz : t.size = z) (hT : TAt w (TD b w) r p t) (ht : rightP 8 t = true) (hs : lsz 8 3 t ≤ 128)
   (hQ : ∀ (L : Nat → Prop) X Sl G a W, (∀ i, i < 5 * k → L i) → Jr k b0 s0 N a0 b w.drew (.agg #[.int .i64 kd, .int .i64 z, r, p]) t L X Sl G a W → Q .normal a W) :
   (Code.region id ops true).wp Tryz.prog Q a0 w := by
 have hbl := hdk.lt
 subst hkd htz
 refine wp_region_inv (by kernel_rfl) (fun l a W => l.size = ops.size ∧ ∃ X Sl G, Jr k b0 s0 N a0 b w.drew (.agg #[.int .i64 t.kind, .int .i64 t.size, r, p]) t (fun i => l.getD i false = true) X Sl G a W) ?_ ?_ ?_
 · rintro l a W ⟨hz, X, Sl, G, h⟩ i hi
   obtain ⟨hun, o, ho, -⟩ := mem_ready.1 hi
   have hi5 : i < ops.size := by
     rcases Nat.lt_or_ge i ops.size with h' | h'
     · exact h'
     · simp [Array.getElem?_eq_none h'] at ho
   have hnot : ¬ l.getD i false = true := by
     have hil : i < l.size := by omega
     simp [hil] at hun ⊢
     exact hun
   have hset : (fun j => (l.setIfInBounds i true).getD j false = true) = ins (fun j => l.getD j false = true) i := by
     funext j
     refine propext ⟨fun hx => ?_, fun hx => ?_⟩
     · by_cases e : j = i
       · exact .inl e
       · right; rwa [_root_.Go.getD_set_ne false (Ne.symm e)] at hx
     · rcases hx with rfl | hx
       · simp [show j < l.size by omega]
       · exact getD_set_true hx
   have hz' : (l.setIfInBounds i true).size = ops.size := by simpa using hz
   rw [hsz] at hi5
   have hmod : i < 3 * k ∨ (3 * k ≤ i ∧ i < 4 * k) ∨ (4 * k ≤ i) := by omega
   rcases hmod with h3 | ⟨h3, h4⟩ | h4
   · obtain ⟨j, q, hq, rfl⟩ : ∃ j q, q < 3 ∧ i = 3 * j + q := ⟨i / 3, i % 3, Nat.mod_lt _ (by omega), by omega⟩
     have hj : j < k := by omega
     rcases (show q = 0 ∨ q = 1 ∨ q = 2 by omega) with rfl | rfl | rfl
     · obtain ⟨ty, pos, af, e⟩ := hM j hj
       refine wpOp_of e rfl (st_move ?_)
       refine ⟨hz', X, Sl, G, ?_⟩
       rw [hset, h.oth pd (.inl hpd), hvd]
       exact h.slot hb0 hN (r := 0) hj (by omega) (fun _ => rfl) (fun e => by omega)
     · obtain ⟨ty, pos, af, e⟩ := hL j hj
       have hB2 : Blk W gt 25 #[.int .i64 t.kind, .int .i64 t.size, r, p] := h.gd.blk (Blk.drew hB) hgt
       refine wpOp_of e rfl (st_load (by rw [h.oth pt (.inl hpt), hvt]) (hB2.cell 0) (hB2.cell 1) (hB2.cell 2) (hB2.cell 3) ?_)
       refine ⟨hz', X, Sl, G, ?_⟩
       rw [hset]
       exact h.slot hb0 hN (r := 1) hj (by omega) (fun e => by omega) (fun _ => rfl)
     · obtain ⟨ty, pos, af, e⟩ := hC j hj
       have m1 := h.mv j hj (dep_listed (hd1 j hj) hi)
       have m2 := h.ld j hj (dep_listed (hd2 j hj) hi)
       have hT2 : TAt W (TD b W) r p t := (show TAt w.drew (TD b w.drew) r p t from hT.keep (fun x hx => hx) (fun _ _ => rfl)).td h.gd
       refine wpOp_of e rfl (st_call m1 m2 (dvalue_any b t ht r p W h.gd.2 hT2) ?_)
       rintro e' W' ⟨v, s, rfl, hv, hk, hg⟩
       obtain ⟨A, n, c, rfl, -, -, -⟩ := hk.form
       refine ⟨.agg #[.int .i64 v.n, .slice A n c], rfl, hz', (fun q => if q = j then v else X q), (fun q => if q = j then (A, n, c) else Sl q), G, ?_⟩
       rw [hset]
       exact h.call hb0 hN hbl hj hnot hg (hv hs) hk
   · obtain ⟨j, rfl⟩ : ∃ j, i = 3 * k + j := ⟨i - 3 * k, by omega⟩
     have hj : j < k := by omega
     obtain ⟨ty, pos, af, e⟩ := hA j hj
     refine wpOp_of e rfl (st_alloc ⟨hz', X, Sl, (fun q => if q = j then W.heap.size else G q), ?_⟩)
     rw [hset]
     exact h.alloc hb0 hN hbl hj hnot
   · obtain ⟨j, rfl⟩ : ∃ j, i = 4 * k + j := ⟨i - 4 * k, by omega⟩
     have hj : j < k := by omega
     obtain ⟨ty, pos, af, e⟩ := hS j hj
     have l1 := dep_listed (hd3 j hj) hi
     have l2 := dep_listed (hd4 j hj) hi
     have hz0 := h.bz j hj l2 hnot
     refine wpOp_of e rfl (st_store (h.al j hj l2).1 (h.cl j hj l1).1 (hz0.cell 0) (hz0.cell 1) (hz0.frozen 0) (hz0.frozen 1) ⟨hz', X, Sl, G, ?_⟩)
     rw [hset]
     exact h.store hbl hj l1 l2 hnot
 · rintro l a W ⟨hz, X, Sl, G, h⟩ hr
   exact hQ _ X Sl G a W (fun i hi => all_listed hac hz hr i (by omega)) h
 · refine ⟨by simp, fun _ => default, fun _ => (none, 0, 0), fun _ => 0, ?_⟩
   have hno : ∀ i, ¬ (Array.replicate ops.size false).getD i false = true := fun i => by
     by_cases h : i < ops.size <;> simp [h]
   exact ⟨rfl, ha0, fun _ _ => rfl, GD.refl (hdk.below (Bw.refl w).drew.b hbl), fun j _ hl => absurd hl (hno _), fun j _ hl => absurd hl (hno _), fun j _ hl => absurd hl (hno _), fun j _ hl => absurd hl (hno _), fun i j _ _ _ hl => absurd hl (hno _), fun j _ hl => absurd hl (hno _), fun j _ hl => absurd hl (hno _), fun j _ hl => absurd hl (hno _)⟩
theorem fold_ext {a : Act} : ∀ (l : List (Nat × Value)) (a0 : Act), a.defers = a0.defers → a.tmps.size = a0.tmps.size → (∀ p ∈ l, p.1 < a0.tmps.size ∧ a.tmps[p.1]?.getD undef = p.2) → (∀ d, (∀ p ∈ l, p.1 ≠ d) → a.tmps[d]?.getD undef = a0.tmps[d]?.getD undef) → a = l.foldl (fun a p => a.put (some p.1) p.2) a0
 | [], a0, hd, hs, _, ho => act_ext hd hs (fun d => ho d (fun p hp => absurd hp (List.not_mem_nil)))
 | p :: l, a0, hd, hs, hl, ho => by
   have hp := hl p List.mem_cons_self
   refine fold_ext l (a0.put (some p.1) p.2) hd (by rw [put_size]; exact hs) (fun q hq => by rw [put_size]; exact hl q (List.mem_cons_of_mem _ hq)) (fun d hq => ?_)
   rw [put_getD hp.1]
   by_cases e : d = p.1
   · rw [if_pos e, e]; exact hp.2
   · rw [if_neg e]
     exact ho d (fun q hm => by
       rcases List.mem_cons.1 hm with rfl | h
       · exact fun h => e h.symm
       · exact hq q h)
end Go.Proofs.YtlmnkcfnihhlgaaGreatDoor
