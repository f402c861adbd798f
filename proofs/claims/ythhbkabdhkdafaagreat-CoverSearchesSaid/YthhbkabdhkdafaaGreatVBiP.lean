/- Part of a proof of coverSearches_holds. -/
import Derived.Test.YthhbkabdhkdafaaGreatVBhP
import Derived.Test.YthhbkabdhkdafaaGreatVBgP
import Derived.Deep.Slices
import Derived.Deep.Fields
set_option linter.unusedSimpArgs false
set_option linter.unusedVariables false
set_option maxRecDepth 100000
set_option maxHeartbeats 16000000
namespace Go.Proofs.YthhbkabdhkdafaaGreat
section
open Go.RowKit
section
variable {P : Program} {ops : Array Oper} {Q : Exit → Act → World → Prop} {md : Region.Mode}
theorem count_set_false : ∀ (l : List Bool) (i : Nat) (h : i < l.length), l[i] = false → ((l.set i true).filter fun b => !b).length + 1 = (l.filter fun b => !b).length
 | [], i, h, _ => by simp at h
 | b :: r, 0, h, e => by simp at e; subst e; simp
 | b :: r, i + 1, h, e => by
   have := count_set_false r i (by simpa using h) (by simpa using e)
   cases b <;> simp at this ⊢ <;> omega
def leftN (l : Array Bool) : Nat := (l.toList.filter fun b => !b).length
theorem wpAny_inv (I : Array Bool → Act → World → Prop)
   (hs : ∀ l a w, I l a w → ∀ i ∈ Region.ready md ops l, wpOp P ops Q i (fun a' w' => I (l.setIfInBounds i true) a' w') a w)
   (hd : ∀ l a w, I l a w → Region.ready md ops l = [] → Q .normal a w) : ∀ (fuel : Nat) (l : Array Bool) (a : Act) (w : World), l.size = ops.size → leftN l ≤ fuel → I l a w → wpAny P md ops Q fuel l a w := by
 intro fuel
 induction fuel with
 | zero =>
   intro l a w hz hl h
   have hr : Region.ready md ops l = [] := by
     rcases e : Region.ready md ops l with _ | ⟨i, r⟩
     · rfl
     · exfalso
       have hi : i ∈ Region.ready md ops l := by rw [e]; simp
       have h1 := (mem_ready.1 hi).1
       have hlt : i < l.size := by
         rcases Nat.lt_or_ge i l.size with h2 | h2
         · exact h2
         · simp [Array.getElem?_eq_none h2] at h1
       have h2 : l.toList[i]'(by simpa using hlt) = false := by simpa [hlt] using h1
       have h3 := count_set_false l.toList i (by simpa using hlt) h2
       unfold leftN at hl
       omega
   exact ⟨hr, hd l a w h hr⟩
 | succ fuel ih =>
   intro l a w hz hl h
   refine ⟨fun hr => hd l a w h hr, fun i hi => ?_⟩
   have h1 := (mem_ready.1 hi).1
   have hlt : i < l.size := by
     rcases Nat.lt_or_ge i l.size with h2 | h2
     · exact h2
     · simp [Array.getElem?_eq_none h2] at h1
   have h2 : l.toList[i]'(by simpa using hlt) = false := by simpa [hlt] using h1
   have h3 := count_set_false l.toList i (by simpa using hlt) h2
   refine wpOp_mono (fun a' w' h' => ih _ a' w' (by simpa using hz) ?_ h') (hs l a w h i hi)
   unfold leftN at hl ⊢
   rw [Array.toList_setIfInBounds]
   omega
theorem wp_region_inv {id : Nat} {a : Act} {w : World} (hm : P.follows .mixedOrders = true) (I : Array Bool → Act → World → Prop)
   (hs : ∀ l a w, I l a w → ∀ i ∈ Region.ready .any ops l, wpOp P ops Q i (fun a' w' => I (l.setIfInBounds i true) a' w') a w)
   (hd : ∀ l a w, I l a w → Region.ready .any ops l = [] → Q .normal a w)
   (h0 : I (Array.replicate ops.size false) a w.drew) : (Code.region id ops true).wp P Q a w :=
 wp_region_any hm (wpAny_inv I hs hd _ _ _ _ (by simp) (by unfold leftN; simp) h0)
theorem wpOp_of {i : Nat} {o : Oper} {a : Act} {w : World} {K : Act → World → Prop} (hi : ops[i]? = some o) (hg : o.guard = none) (h : o.wp P a w K Q) : wpOp P ops Q i K a w := by
 unfold wpOp
 simp only [hi]
 rw [if_pos (by simp [Region.wanted, hg])]
 exact .inl h
end
theorem put_getD {a : Act} {d0 d : Nat} {v : Value} (h : d0 < a.tmps.size) : (a.put (some d0) v).tmps[d]?.getD undef = if d = d0 then v else a.tmps[d]?.getD undef := by
 show (a.tmps.setIfInBounds d0 v)[d]?.getD undef = _
 by_cases e : d = d0
 · subst e; rw [if_pos rfl]; simp [h]
 · rw [if_neg e, Array.getElem?_setIfInBounds_ne (fun x => e x.symm)]
theorem put_size {a : Act} {d0 : Nat} {v : Value} : (a.put (some d0) v).tmps.size = a.tmps.size := by show (a.tmps.setIfInBounds d0 v).size = _; simp
theorem act_ext {a a' : Act} (hd : a.defers = a'.defers) (hs : a.tmps.size = a'.tmps.size) (h : ∀ d : Nat, a.tmps[d]?.getD undef = a'.tmps[d]?.getD undef) : a = a' := by
 obtain ⟨x, y⟩ := a
 obtain ⟨x', y'⟩ := a'
 simp only at hd hs h
 subst hd
 congr 1
 apply Array.ext hs
 intro i h1 h2
 have := h i
 simpa [h1, h2] using this
def depB (ops : Array Oper) (i m : Nat) : Bool := match ops[i]? with | some o => o.after.any (fun e => Region.binds .any e && e.on == m) | none => false
theorem dep_listed {ops : Array Oper} {l : Array Bool} {i m : Nat} (hd : depB ops i m = true) (hi : i ∈ Region.ready .any ops l) : l.getD m false = true := by
 obtain ⟨_, o, ho, h⟩ := mem_ready.1 hi
 unfold depB at hd
 rw [ho] at hd
 simp only [Array.any_eq_true, Bool.and_eq_true, beq_iff_eq] at hd
 obtain ⟨q, hq, h1, h2⟩ := hd
 have := h o.after[q] (Array.getElem_mem hq) h1
 rwa [h2] at this
abbrev o_on_lt (x y : Nat) : Prop := x < y
def acycB (ops : Array Oper) : Bool := (List.range ops.size).all fun i => match ops[i]? with | some o => o.after.all (fun e => !Region.binds .any e || decide (e.on < i)) | none => true
theorem all_listed {ops : Array Oper} {l : Array Bool} (ha : acycB ops = true) (hz : l.size = ops.size) (hr : Region.ready .any ops l = []) : ∀ i, i < ops.size → l.getD i false = true := by
 intro i
 induction i using Nat.strongRecOn with
 | _ i ih =>
   intro hi
   by_cases h : l.getD i false = true
   · exact h
   · exfalso
     have ho : ops[i]? = some ops[i] := by simp [hi]
     have hin : i ∈ Region.ready .any ops l := mem_ready.2 ⟨by
       have hil : i < l.size := by omega
       simp [hil] at h ⊢
       exact h, ops[i], ho, fun e he hb => by
       have h1 := List.all_eq_true.1 ha i (by simpa using hi)
       rw [ho] at h1
       simp only [Array.all_eq_true] at h1
       obtain ⟨q, hq, rfl⟩ := Array.getElem_of_mem he
       have h2 := h1 q hq
       rw [hb] at h2
       have h3 : o_on_lt (ops[i].after[q]).on i := by simpa [o_on_lt] using h2
       exact ih _ h3 (Nat.lt_trans h3 hi)⟩
     rw [hr] at hin
     simp at hin
theorem fold_ext {a : Act} : ∀ (l : List (Nat × Value)) (a0 : Act), a.defers = a0.defers → a.tmps.size = a0.tmps.size → (∀ p ∈ l, p.1 < a0.tmps.size ∧ a.tmps[p.1]?.getD undef = p.2) → (∀ d, (∀ p ∈ l, p.1 ≠ d) → a.tmps[d]?.getD undef = a0.tmps[d]?.getD undef) → a = l.foldl (fun a p => a.put (some p.1) p.2) a0
 | [], a0, hd, hs, _, ho => act_ext hd hs (fun d => ho d (fun p hp => absurd hp (List.not_mem_nil)))
 | p :: l, a0, hd, hs, hl, ho => by
   have hp := hl p List.mem_cons_self
   refine fold_ext l (a0.put (some p.1) p.2) hd (by rw [put_size]; exact hs) (fun q hq => by rw [put_size]; exact hl q (List.mem_cons_of_mem _ hq)) (fun d hq => ?_)
   rw [put_getD hp.1]
   by_cases e : d = p.1
   · rw [if_pos e, e]; exact hp.2
   · rw [if_neg e]
     exact ho d (fun q hm => by
       rcases List.mem_cons.1 hm with rfl | h
       · exact fun h => e h.symm
       · exact hq q h)

def usedB (ops : Array Oper) (N : Nat) : Bool := (List.range N).all fun i => depB ops N i || (List.range N).any fun j => decide (i < j) && depB ops j i
structure PrI (ops : Array Oper) (N : Nat) (D : Nat → Nat) (a0 : Act) (R : World → Prop) (V : Nat → Value → World → Prop) (l : Array Bool) (a : Act) (w : World) : Prop where
 lz : l.size = ops.size
 df : a.defers = a0.defers
 sz : a.tmps.size = a0.tmps.size
 oth : ∀ d, (∀ i, i < N → D i ≠ d) → a.tmps[d]?.getD undef = a0.tmps[d]?.getD undef
 rw : R w
 vs : ∀ i, i < N → l.getD i false = true → V i (a.tmps[D i]?.getD undef) w
 cl : ∀ i m, i < N → l.getD i false = true → depB ops i m = true → l.getD m false = true
theorem wp_region_prod {P : Program} {ops : Array Oper} {Q : Exit → Act → World → Prop} {id : Nat} {a0 : Act} {w : World} (hm : P.follows .mixedOrders = true) (N : Nat) (hN : ops.size = N + 1) (D : Nat → Nat) (hD : ∀ i j, i < N → j < N → D i = D j → i = j) (hDs : ∀ i, i < N → D i < a0.tmps.size)
   (R : World → Prop) (S : World → World → Prop) (V : Nat → Value → World → Prop) (h0 : R w.drew) (hst : ∀ i v W W', i < N → V i v W → S W W' → V i v W') (hu : usedB ops N = true) (hac : acycB ops = true)
   (hstep : ∀ i, i < N → ∀ a W, R W → (∀ d, (∀ j, j < N → D j ≠ d) → a.tmps[d]?.getD undef = a0.tmps[d]?.getD undef) → (∀ m, m < N → depB ops i m = true → V m (a.tmps[D m]?.getD undef) W) →
     ∀ K : Act → World → Prop, (∀ v W', V i v W' → R W' → S W W' → K (a.put (some (D i)) v) W') → ∃ o, ops[i]? = some o ∧ o.guard = none ∧ o.wp P a W K Q)
   (hlast : ∀ a W, a.defers = a0.defers → a.tmps.size = a0.tmps.size → R W → (∀ d, (∀ j, j < N → D j ≠ d) → a.tmps[d]?.getD undef = a0.tmps[d]?.getD undef) → (∀ i, i < N → V i (a.tmps[D i]?.getD undef) W) → ∃ o, ops[N]? = some o ∧ o.guard = none ∧ o.wp P a W (fun a' w' => Q .normal a' w') Q) :
   (Code.region id ops true).wp P Q a0 w := by
 refine wp_region_inv hm (fun l a W => (l.getD N false = false ∧ PrI ops N D a0 R V l a W) ∨ (l.getD N false = true ∧ (∀ i, i < N → l.getD i false = true) ∧ l.size = ops.size ∧ Q .normal a W)) ?_ ?_ ?_
 · rintro l a W (⟨hnl, h⟩ | ⟨hnl, hall, hlz, hq⟩) i hi
   · obtain ⟨hun, o, ho, -⟩ := mem_ready.1 hi
     have hi5 : i < ops.size := by
       rcases Nat.lt_or_ge i ops.size with h' | h'
       · exact h'
       · simp [Array.getElem?_eq_none h'] at ho
     have hil : i < l.size := by rw [h.lz]; exact hi5
     have hnot : l.getD i false = false := by simp [hil] at hun ⊢; exact hun
     have hz' : (l.setIfInBounds i true).size = ops.size := by simpa using h.lz
     by_cases hiN : i < N
     · have hK : ∀ v W', V i v W' → R W' → S W W' → ((l.setIfInBounds i true).getD N false = false ∧ PrI ops N D a0 R V (l.setIfInBounds i true) (a.put (some (D i)) v) W') ∨ ((l.setIfInBounds i true).getD N false = true ∧ (∀ j, j < N → (l.setIfInBounds i true).getD j false = true) ∧ (l.setIfInBounds i true).size = ops.size ∧ Q .normal (a.put (some (D i)) v) W') := fun v W' hv hR hS => .inl ⟨by rw [_root_.Go.getD_set_ne false (by omega)]; exact hnl, by
         have hlt : D i < a.tmps.size := by rw [h.sz]; exact hDs i hiN
         refine ⟨hz', h.df, by rw [put_size]; exact h.sz, fun d hd => ?_, hR, fun j hj hl => ?_, fun j m hj hl hd => ?_⟩
         · rw [put_getD hlt, if_neg (fun e => hd i hiN e.symm)]; exact h.oth d hd
         · rw [put_getD hlt]
           by_cases e : j = i
           · subst e; rw [if_pos rfl]; exact hv
           · rw [if_neg (fun e2 => e (hD j i hj hiN e2))]
             rw [_root_.Go.getD_set_ne false (Ne.symm e)] at hl
             exact hst j _ W W' hj (h.vs j hj hl) hS
         · have hset : ∀ m, l.getD m false = true → (l.setIfInBounds i true).getD m false = true := fun m hm => getD_set_true hm
           by_cases e : j = i
           · subst e; exact hset m (dep_listed hd hi)
           · rw [_root_.Go.getD_set_ne false (Ne.symm e)] at hl
             exact hset m (h.cl j m hj hl hd)⟩
       obtain ⟨o', ho', hg, hw⟩ := hstep i hiN a W h.rw h.oth (fun m hm hd => h.vs m hm (dep_listed hd hi)) (fun a' w' => ((l.setIfInBounds i true).getD N false = false ∧ PrI ops N D a0 R V (l.setIfInBounds i true) a' w') ∨ ((l.setIfInBounds i true).getD N false = true ∧ (∀ j, j < N → (l.setIfInBounds i true).getD j false = true) ∧ (l.setIfInBounds i true).size = ops.size ∧ Q .normal a' w')) hK
       exact wpOp_of ho' hg hw
     · obtain rfl : i = N := by omega
       have hall : ∀ k j, j < i → i - j ≤ k → l.getD j false = true := by
         intro k
         induction k with
         | zero => intro j hj hk; omega
         | succ k ih =>
           intro j hj hk
           have h1 := List.all_eq_true.1 hu j (List.mem_range.2 hj)
           rw [Bool.or_eq_true] at h1
           rcases h1 with h1 | h1
           · exact dep_listed h1 hi
           · obtain ⟨q, hq, h2⟩ := List.any_eq_true.1 h1
             rw [Bool.and_eq_true, decide_eq_true_eq] at h2
             have hqi := List.mem_range.1 hq
             exact h.cl q j hqi (ih q hqi (by omega)) h2.2
       have hall' : ∀ j, j < i → l.getD j false = true := fun j hj => hall (i - j) j hj (Nat.le_refl _)
       obtain ⟨o', ho', hg, hw⟩ := hlast a W h.df h.sz h.rw h.oth (fun j hj => h.vs j hj (hall' j hj))
       refine wpOp_of ho' hg (Oper.wp_mono (fun a' w' hq => .inr ⟨by simp [hil], fun j hj => getD_set_true (hall' j hj), hz', hq⟩) hw)
   · exfalso
     obtain ⟨hun, o, ho, -⟩ := mem_ready.1 hi
     have hi5 : i < ops.size := by
       rcases Nat.lt_or_ge i ops.size with h' | h'
       · exact h'
       · simp [Array.getElem?_eq_none h'] at ho
     have hil : i < l.size := by omega
     have h1 : l.getD i false = true := by
       rcases Nat.lt_or_ge i N with h2 | h2
       · exact hall i h2
       · rw [show i = N by omega]; exact hnl
     simp [hil] at hun h1
     rw [hun] at h1; cases h1
 · rintro l a W (⟨hnl, h⟩ | ⟨hnl, hall, hlz, hq⟩) hr
   · have := all_listed hac h.lz hr N (by omega)
     rw [hnl] at this; cases this
   · exact hq
 · left
   have hno : ∀ i, (Array.replicate ops.size false).getD i false = false := fun i => by
     by_cases h : i < ops.size <;> simp [h]
   exact ⟨hno N, by simp, rfl, rfl, fun _ _ => rfl, h0, (fun i _ hl => by rw [hno i] at hl; cases hl), (fun i m _ hl => by rw [hno i] at hl; cases hl)⟩
theorem infoStepB : (Tryz.prog.info? 62).map (fun i => (i.zero, i.size, i.bytes)) = some (some (.agg #[.int .i64 0, .int .i64 0, .slice none 0 0]), 3, 40) := by kernel_rfl
theorem stp3 (x y : Int) (A : Option Addr) (n c : Nat) : ∀ u ∈ [Value.int .i64 x, .int .i64 y, .slice A n c], u.oneCell' = true := by simp [Value.oneCell']
theorem reads_new3 (W : World) (t : TypeId) (a b c : Value) : Reads (W.alloc (.cells #[a, b, c] t)) (W.heap.size + 1) 3 (some ⟨W.heap.size, 0, none⟩) 1 [a, b, c] := reads_blk (n := 1) (Blk.new W t #[a, b, c]) (by omega) rfl
def OwnT (B : Nat) (W : World) (v : Value) (l : List St) : Prop := ∃ ps, ERow encS W 62 B (fun b => B ≤ b ∧ b < W.heap.size ∧ v.ownBlock ≠ some b) v ps ∧ ps.map (·.1) = l
theorem OwnT.push {B : Nat} {A W : World} {v v' : Value} {l : List St} {ps : List (St × Value)} (h : ERow encS A 62 B (fun b => B ≤ b ∧ b < A.heap.size ∧ v.ownBlock ≠ some b) v ps) (e : ps.map (·.1) = l) {x : St} {s1 : Value} (h1 : KAt A (fun b => B ≤ b ∧ b < A.heap.size ∧ v.ownBlock ≠ some b) s1 x.v.ks)
   (hown : W.ownsRow B 62 3 v' (ps.length + 1) (ps.flatMap encS.enc ++ [.int .i64 x.r, .int .i64 x.v.n, s1])) (hg : A.grownBy W v.ownBlock) (hv : v'.ownBlock = v.ownBlock ∨ v'.ownBlock = some A.heap.size) : OwnT B W v' (l ++ [x]) := by
 refine ⟨ps ++ [(x, s1)], h.push (x := (x, s1)) (fun q hq => ?_) hown hg (fun b hb => ⟨⟨hb.1, Nat.lt_of_lt_of_le hb.2.1 hg.size, fun e => ?_⟩, hb.2.1, hb.2.2⟩), by simp [e]⟩
 · simp only [encS, List.mem_cons, List.not_mem_nil, or_false] at hq
   subst hq
   exact h1
 · rcases hv with e1 | e1
   · rw [e1] at e; exact hb.2.2 e
   · rw [e1] at e; injection e with e; have := hb.2.1; omega
theorem OwnT.eat {B : Nat} {w : World} {v : Value} {l : List St} (h : OwnT B w v l) : ∃ ps, EAt encS w (fun b => B ≤ b ∧ b < w.heap.size) v ps ∧ ps.map (·.1) = l := by
 obtain ⟨ps, h1, e⟩ := h
 exact ⟨ps, h1.eat (fun b hb => ⟨hb.1, hb.2.1⟩) (fun b e => h1.own.lt b e), e⟩
theorem OwnT.bw {B : Nat} {w w' : World} {v : Value} {l : List St} (h : OwnT B w v l) (g : Bw w w') : OwnT B w' v l := by
 obtain ⟨ps, h1, e⟩ := h
 exact ⟨ps, h1.bw g (fun b hb => ⟨⟨hb.1, Nat.lt_of_lt_of_le hb.2.1 g.size, hb.2.2⟩, hb.2.1⟩), e⟩
def StpsF (w : World) (l : List St) (e : Ending) (w' : World) : Prop := ∃ s ps, e = .returned s ∧ EAt encS w' (fun b => w.heap.size ≤ b ∧ b < w'.heap.size) s ps ∧ ps.map (·.1) = l ∧ Bw w w'
theorem shsteps_any (l : List (St × Value)) (hz : ∀ q ∈ l, q.1.v.size ≤ 1000) (h9 : l.length ≤ 1000) (sl : Value) (w : World) (h : EAt encS w (· < w.heap.size) sl l) :
   Calls Tryz.prog 123 #[sl] w (StpsF w (l.map (·.1))) := by
 obtain ⟨A2, c2, rfl, _, _⟩ := h.form
 have HO := Lib.hid h
 have HZ := Lib.hid hz
 obtain ⟨i0, hi, hz0, hz1, hz2⟩ := info_parts infoStepB
 obtain ⟨n2, hn2⟩ : ∃ n2, l.length = n2 := ⟨_, rfl⟩
 rw [hn2] at h9 ⊢
 have LN := Lib.hid hn2
 clear h hz hn2
 go_enter Tryz.func123, Tryz.ntmps123
 go_wp2
 go_loopw [3, 8] (fun s3 i wr => ∃ k : Nat, k ≤ n2 ∧ i = .int .i64 k ∧ Hid (OwnT w.heap.size wr s3 ((l.take k).map (·.1)) ∧ Bw w wr)) (fun _ i _ => n2 - (intOf i).toNat)
 case atStart => exact ⟨0, by omega, rfl, Lib.hid ⟨⟨[], ERow.nil _ _ _ _, rfl⟩, Bw.refl _⟩⟩
 case round =>
   obtain ⟨k, hk, rfl, HR⟩ := hrel
   obtain ⟨⟨ps, hrow, hpe⟩, hw⟩ := HR.out
   have hpl : ps.length = k := by
     have := congrArg List.length hpe
     simp at this
     have := LN.out
     omega
   obtain ⟨VA, vc, rfl, vb1, vb2⟩ := hrow.form
   rw [hpl] at hrow vb1 ⊢
   by_cases hlt : k < n2
   · have e1 : k < l.length := by rw [LN.out]; exact hlt
     obtain ⟨ad, rfl, hb, z0, z1, ck⟩ := (HO.out.bw hw).at_ (by exact e1)
     have q0 : wr.cell? (ad.add (k * 3)) = some (.int .i64 l[k].1.r) := z0 _ rfl
     have q1 : wr.cell? ⟨(ad.add (k * 3)).block, (ad.add (k * 3)).off + 1, none⟩ = some (.int .i64 l[k].1.v.n) := z1 0 _ rfl
     have q2 : wr.cell? ⟨(ad.add (k * 3)).block, (ad.add (k * 3)).off + 2, none⟩ = some l[k].2 := z1 1 _ rfl
     have hs1 := ck (l[k].2, l[k].1.v.ks) (by simp [encS])
     have oz1 := HZ.out _ (List.getElem_mem e1)
     obtain ⟨sA, sn, sc, hB1, _, _, _⟩ := hs1.form
     dsimp only at hB1 hs1
     rw [hB1] at q2 hs1
     have HT : Hid ((l.take (k + 1)).map (·.1) = (l.take k).map (·.1) ++ [l[k].1]) := Lib.hid (by rw [List.take_succ_eq_append_getElem e1, List.map_append]; rfl)
     clear ck z0 z1 hB1
     generalize l[k].1 = x at *
     have CV1 : Hid (∀ W, Bw wr W → Calls Tryz.prog 68 #[.agg #[.int .i64 x.v.n, .slice sA sn sc]] W (ValPost W x.v)) := Lib.hid (fun W g => sown_any _ (by omega) _ _ (hs1.bw g))
     have HROW := Lib.hid hrow
     have HPE := Lib.hid hpe
     have HPL := Lib.hid hpl
     have HW := Lib.hid hw
     have hsw := hw.size
     clear hs1 oz1 hrow hw HR hpe hpl
     unfold ValPost at CV1
     obtain ⟨xn, hxn⟩ : ∃ xn, x.v.n = xn := ⟨_, rfl⟩
     obtain ⟨xr, hxr⟩ : ∃ xr, x.r = xr := ⟨_, rfl⟩
     rw [hxn] at CV1 q1
     rw [hxr] at q0
     have HXN := Lib.hid (And.intro hxn hxr)
     clear hxn hxr
     go_wp2_with fail
     refine wp_world (fun W => Hid (Bw (wr.alloc (.cells #[.int .i64 xr, .int .i64 xn, .slice sA sn sc] 62)) W)) (Lib.hid (Bw.refl _)) ?_
     clear q0 q1 q2
     intro W1 HW1
     have hw1 : Bw wr W1 := ((Bw.refl _).alloc _).trans HW1.out
     have hbo := (Blk.new wr 62 #[.int .i64 xr, .int .i64 xn, .slice sA sn sc]).below HW1.out.b (by simp)
     have hnb : some wr.heap.size ≠ (Value.slice VA k vc).ownBlock := fun e => by have := (HROW.out.own.lt _ e.symm).2; omega
     have KS : Hid (∀ w', W1.grownBy w' (Value.slice VA k vc).ownBlock → w'.cell? ⟨wr.heap.size, 0, none⟩ = some (.int .i64 xr) ∧ w'.cell? ⟨wr.heap.size, 1, none⟩ = some (.int .i64 xn) ∧ w'.cell? ⟨wr.heap.size, 2, none⟩ = some (.slice sA sn sc) ∧ W1.grownBy w' (Value.slice VA k vc).ownBlock) := Lib.hid (fun w' g => by
       have b := hbo.grown g hnb
       exact ⟨b.cell 0, b.cell 1, b.cell 2, g⟩)
     have hbl := hbo.lt
     have HW2 := Lib.hid hw1
     have CV3 : Hid (∀ W, Bw W1 W → Calls Tryz.prog 68 #[.agg #[.int .i64 xn, .slice sA sn sc]] W (fun e w' => ∃ s, e = .returned (.agg #[.int .i64 xn, s]) ∧ KAt w' (fun b => W.heap.size ≤ b ∧ b < w'.heap.size) s x.v.ks ∧ Bw W w')) := Lib.hid (fun W g => CV1.out W (hw1.trans g))
     clear CV1 hbo hw1
     have hfl : (ps.flatMap encS.enc).length = k * 3 := by rw [flat_length, HPL.out]; rfl
     have HROW1 := Lib.hid (HROW.out.bw HW2.out (D' := fun b => w.heap.size ≤ b ∧ b < wr.heap.size ∧ (Value.slice VA k vc).ownBlock ≠ some b) (fun b hb => ⟨hb, hb.2.1⟩))
     go_region_held3 (fun w' => w'.cell? ⟨wr.heap.size, 0, none⟩ = some (.int .i64 xr) ∧ w'.cell? ⟨wr.heap.size, 1, none⟩ = some (.int .i64 xn) ∧ w'.cell? ⟨wr.heap.size, 2, none⟩ = some (.slice sA sn sc) ∧ W1.grownBy w' (Value.slice VA k vc).ownBlock) (first | (refine KS.out _ ?_; first | exact gb_any (Bw.refl _).drew _ | exact gb_any hA _ | exact gb_any (hA.alloc _) _ | exact grownBy_trans (gb_any (hA.alloc _) _) hgr8)) (first
       | (go_at_call 68; (with_reducible refine (CV3.out _ (Bw.refl _).drew).mono ?_); rintro e w6 ⟨s6, rfl, hk6, hg6⟩; obtain ⟨A6, n6, c6, rfl, _, _, _⟩ := hk6.form; (have hA : Bw W1 w6 := (Bw.refl _).drew.trans hg6))
       | (refine step_append_any _ rfl (.tmp 12) (.tmp 19) 35 rfl w.heap.size 62 i0 _ 3 40 Tryz.underlying35 hi hz0 hz1 hz2 rfl (by decide) (.slice VA k vc) k (ps.flatMap encS.enc) (by rfl) (by have := (HROW1.out.bw hA (D' := fun _ => True) (fun b hb => ⟨trivial, by have := HW2.out.size; omega⟩)).own.alloc (.cells #[.int .i64 xr, .int .i64 xn, .slice A6 n6 c6] 62); rwa [HPL.out] at this) (w6.heap.size + 1) (some ⟨w6.heap.size, 0, none⟩) 1 1 [.int .i64 xr, .int .i64 xn, .slice A6 n6 c6] (by rfl) (reads_new3 w6 _ _ _ _) (stp3 _ _ _ _ _) (by unfold maxLen; omega) (by omega) (by simp; have := hA.size; have := HW2.out.size; omega) ?_; intro v8 w8 hown8 hgr8 hl8; obtain ⟨A8, c8, rfl⟩ := own_form hown8))
     have hs6 := hA.size
     have hs1 := HW2.out.size
     have ha7 := (Bw.refl w6).alloc (.cells #[.int .i64 xr, .int .i64 xn, .slice A6 n6 c6] 62)
     have hrowA := HROW1.out.bw (hA.trans ha7) (D' := fun b => w.heap.size ≤ b ∧ b < (w6.alloc (.cells #[.int .i64 xr, .int .i64 xn, .slice A6 n6 c6] 62)).heap.size ∧ (Value.slice VA k vc).ownBlock ≠ some b) (fun b hb => ⟨⟨hb.1, by rw [World.size_alloc]; omega, hb.2.2⟩, by omega⟩)
     have hpush : OwnT w.heap.size w8 (.slice A8 (k + 1) c8) ((l.take k).map (·.1) ++ [x]) := by
       refine OwnT.push hrowA HPE.out (x := x) (s1 := .slice A6 n6 c6) ?_ ?_ hgr8 hl8
       · refine hk6.keep (fun b hb => ⟨?_, ?_, fun e => ?_⟩) (fun p hp => ha7.b.cell hp.2)
         · have h1 : W1.heap.size ≤ b := hb.1; omega
         · have := hb.2; rw [World.size_alloc]; omega
         · have h1 : W1.heap.size ≤ b := hb.1; have := (HROW.out.own.lt b e).2; omega
       · rw [HPL.out, HXN.out.1, HXN.out.2]; exact hown8
     have HPU := Lib.hid hpush
     have HBW : Hid (Bw w w8) := Lib.hid (bw_gb ((HW.out.trans HW2.out).trans (hA.trans ha7)) hgr8 (fun r e => (HROW.out.own.lt r e).1))
     clear hk6 hg6 hA hgr8 hown8 hl8 hrowA hpush ha7 KS CV3
     go_wp2
     go_roundw
     case rel => exact ⟨k + 1, by omega, by go_num, Lib.hid ⟨by rw [HT.out]; exact HPU.out, HBW.out⟩⟩
     case measure => simp [intOf]; omega
   · obtain rfl : n2 = k := by omega
     have hO : OwnT w.heap.size wr (.slice VA n2 vc) (l.map (·.1)) := ⟨ps, by rw [← hpl] at hrow ⊢; exact hrow, by rw [hpe, List.take_of_length_le (by rw [LN.out]; exact Nat.le_refl _)]⟩
     have HOF := Lib.hid hO
     have HW := Lib.hid hw
     clear hrow hw HR hpe hpl hO
     go_wp2
     go_ret
     obtain ⟨ps2, h3, h4⟩ := HOF.out.eat
     exact ⟨_, ps2, rfl, h3, h4, HW.out⟩
def oriT (v : V) : Ori := ⟨v, -2, .mk 0 []⟩
theorem SAt.nil {w : World} {S : Nat → Prop} : SAt w S (.slice none 0 0) (.slice none 0 0) (.slice none 0 0) ⟨[], [], [], 0⟩ := ⟨KAt.nil _ _ (Nat.zero_le _), ⟨[], EAt.nil _ _ (Nat.zero_le _), rfl⟩, KAt.nil _ _ (Nat.zero_le _)⟩
theorem KAt.grown {A W : World} {S S' : Nat → Prop} {v : Value} {l : List V} {row : Option Nat} (h : KAt A S v l) (g : A.grownBy W row) (hS : ∀ b, S b → S' b ∧ b < A.heap.size ∧ row ≠ some b) : KAt W S' v l :=
 h.keep (fun b hb => (hS b hb).1) (fun p hp => World.cell?_of_block (g.block p.block (hS _ hp).2.1 (fun e => (hS _ hp).2.2 e.symm)))
theorem OwnO.grown {B : Nat} {A W : World} {v : Value} {l : List Ori} {k : Nat} (h : OwnO B A v l) (g : A.grownBy W (some k)) (hk : k < B) : OwnO B W v l := by
 obtain ⟨ps, h1, e⟩ := h
 exact ⟨ps, h1.keep g (.inr (fun e => by have := (h1.own.lt _ e.symm).1; omega)) (fun b hb => ⟨⟨hb.1, Nat.lt_of_lt_of_le hb.2.1 g.size, hb.2.2⟩, hb.2.1, fun e => by injection e with e; have := hb.1; omega⟩), e⟩
theorem grown_own {a b c : World} {row row' : Option Nat} (h : a.grownBy b row) (g : b.grownBy c row') (hr : ∀ k, row' = some k → a.heap.size ≤ k) : a.grownBy c row :=
 ⟨g.os.trans h.os, g.tape.trans h.tape, g.output.trans h.output, Nat.le_trans h.size g.size, fun i hi hne => (g.block i (Nat.lt_of_lt_of_le hi h.size) (fun e => by have := hr i e.symm; omega)).trans (h.block i hi hne)⟩
theorem OwnO.eat {B : Nat} {w : World} {v : Value} {l : List Ori} (h : OwnO B w v l) : ∃ ps, EAt encO w (· < w.heap.size) v ps ∧ ps.map (·.1) = l := by
 obtain ⟨ps, h1, e⟩ := h
 exact ⟨ps, h1.eatB (fun b hb => hb.2.1), e⟩
def StartPost (w : World) (r : Sk × Int) (e : Ending) (w' : World) : Prop := ∃ bv ov fv, e = .returned (.tuple #[aggS bv ov fv r.1.us, .int .i64 r.2]) ∧ SAt w' (· < w'.heap.size) bv ov fv r.1 ∧ Bw w w'
theorem bkstart_any (m : Mdl) (hm : MdlOk m) (hn : NmOk m) (l : List V) (hl : ∀ v ∈ l, oneP 8 m.t v = true) (h9 : l.length ≤ 1000) (sv pv rv kv sl : Value) (w : World) (h : MB w w.heap.size sv pv rv kv m) (h1 : KB w w.heap.size sl l) :
   Calls Tryz.prog 37 #[aggM sv pv rv kv, sl] w (StartPost w (startS m.t l)) := by
 obtain ⟨A1, c1, A2, c2, A3, c3, A4, c4, rfl, rfl, rfl, rfl⟩ := h.form
 obtain ⟨A5, n5, c5, rfl, l5, b5, _⟩ := h1.form
 have CW : Hid (∀ W, Bw w W → Calls Tryz.prog 64 #[aggM (.slice A1 m.ss.length c1) (.slice A2 m.ps.length c2) (.slice A3 m.rs.length c3) (.slice A4 (1 + m.cs.length) c4)] W (NumPost W 0)) := Lib.hid (fun W g => walks_any m hm hn _ _ _ _ W (h.bw g))
 have CT : Hid (∀ W, Bw w W → Calls Tryz.prog 65 #[aggM (.slice A1 m.ss.length c1) (.slice A2 m.ps.length c2) (.slice A3 m.rs.length c3) (.slice A4 (1 + m.cs.length) c4)] W (TypeErr W m.t)) := Lib.hid (fun W g => mdType_any m hm hn _ _ _ _ W (h.bw g))
 have hmin : minimiseP m.t l = limB (minimalP (belowP 8 m.t) l) := by
   unfold minimiseP
   rw [if_pos hm.right, if_pos (List.all_eq_true.2 fun y hy => validM hm (hl y hy))]
   rfl
 have CM : Hid (∀ W pv', Bw w W → TB W W.heap.size (.slice none 0 0) pv' m.t → Calls Tryz.prog 66 #[.agg #[.int .i64 3, .int .i64 0, .slice none 0 0, pv'], .slice A5 n5 c5] W (ValsErr W (limB (minimalP (belowP 8 m.t) l)).1 (limB (minimalP (belowP 8 m.t) l)).2)) := Lib.hid (fun W pv' g hT => by
   have := bMinimise_any m.t l (by omega) (.slice none 0 0) pv' _ W hT (h1.bw g)
   rwa [hmin] at this)
 have h2 : ∀ v ∈ minimalP (belowP 8 m.t) l, oneP 8 m.t v = true := fun v hv => hl v ((minP_spec hm.ord hl).2.1 v hv)
 have CA : Hid (∀ W s2 (l' : List V), l' = minimalP (belowP 8 m.t) l → l'.length ≤ 256 → KB W W.heap.size s2 l' → Calls Tryz.prog 67 #[s2] W (AllPost W l')) := Lib.hid (fun W s2 l' e e2 hk => sall_any l' (fun v hv => by have := one_size hm (h2 v (by rw [← e]; exact hv)); omega) s2 W hk (by omega))
 have CV : Hid (∀ W s2 v, v ∈ minimalP (belowP 8 m.t) l → KB W W.heap.size s2 v.ks → Calls Tryz.prog 68 #[.agg #[.int .i64 v.n, s2]] W (ValPost W v)) := Lib.hid (fun W s2 v hv hk => sown_any v (by have := one_size hm (h2 v hv); omega) s2 W hk)
 unfold startS
 generalize hml : minimalP (belowP 8 m.t) l = ml at *
 clear h h1 hm hn hl hmin h2 l5
 unfold aggM at *
 unfold TypeErr at CT
 unfold ValsErr at CM
 unfold AllPost at CA
 generalize m.ss.length = n at *
 generalize m.ps.length = k at *
 generalize m.rs.length = q at *
 generalize 1 + m.cs.length = z at *
 have BX : Hid (Bw w ((w.alloc (.cells #[.int .i64 1, .slice A1 n c1, .slice A2 k c2, .slice none 0 0, .slice none 0 0, .int .i64 0, .int .i64 0, .slice A3 q c3, .int .i64 0, .slice A4 z c4] 33)).alloc (.cells #[.slice none 0 0, .slice none 0 0, .slice none 0 0, .int .i64 0] 67)) ∧ ∀ W, Bw ((w.alloc (.cells #[.int .i64 1, .slice A1 n c1, .slice A2 k c2, .slice none 0 0, .slice none 0 0, .int .i64 0, .int .i64 0, .slice A3 q c3, .int .i64 0, .slice A4 z c4] 33)).alloc (.cells #[.slice none 0 0, .slice none 0 0, .slice none 0 0, .int .i64 0] 67)) W → Bw w W ∧ w.heap.size < W.heap.size ∧ w.heap.size + 1 < W.heap.size ∧ W.cell? ⟨w.heap.size, 0, none⟩ = some (.int .i64 1) ∧ W.cell? ⟨w.heap.size, 1, none⟩ = some (.slice A1 n c1) ∧ W.cell? ⟨w.heap.size, 2, none⟩ = some (.slice A2 k c2) ∧ W.cell? ⟨w.heap.size, 3, none⟩ = some (.slice none 0 0) ∧ W.cell? ⟨w.heap.size, 4, none⟩ = some (.slice none 0 0) ∧ W.cell? ⟨w.heap.size, 5, none⟩ = some (.int .i64 0) ∧ W.cell? ⟨w.heap.size, 6, none⟩ = some (.int .i64 0) ∧ W.cell? ⟨w.heap.size, 7, none⟩ = some (.slice A3 q c3) ∧ W.cell? ⟨w.heap.size, 8, none⟩ = some (.int .i64 0) ∧ W.cell? ⟨w.heap.size, 9, none⟩ = some (.slice A4 z c4) ∧ W.cell? ⟨w.heap.size + 1, 0, none⟩ = some (.slice none 0 0) ∧ W.cell? ⟨w.heap.size + 1, 1, none⟩ = some (.slice none 0 0) ∧ W.cell? ⟨w.heap.size + 1, 2, none⟩ = some (.slice none 0 0) ∧ W.cell? ⟨w.heap.size + 1, 3, none⟩ = some (.int .i64 0)) := Lib.hid ⟨(((Bw.refl _).alloc _).alloc _), fun W g => by
   have h0 := (Blk.new w 33 #[.int .i64 1, .slice A1 n c1, .slice A2 k c2, .slice none 0 0, .slice none 0 0, .int .i64 0, .int .i64 0, .slice A3 q c3, .int .i64 0, .slice A4 z c4])
   have k0 := (h0.alloc (.cells #[.slice none 0 0, .slice none 0 0, .slice none 0 0, .int .i64 0] 67)).below g.b (h0.alloc (.cells #[.slice none 0 0, .slice none 0 0, .slice none 0 0, .int .i64 0] 67)).lt
   have h1 := (Blk.new (w.alloc (.cells #[.int .i64 1, .slice A1 n c1, .slice A2 k c2, .slice none 0 0, .slice none 0 0, .int .i64 0, .int .i64 0, .slice A3 q c3, .int .i64 0, .slice A4 z c4] 33)) 67 #[.slice none 0 0, .slice none 0 0, .slice none 0 0, .int .i64 0])
   simp only [World.size_alloc] at h1
   have k1 := h1.below g.b h1.lt
   exact ⟨(((Bw.refl _).alloc _).alloc _).trans g, k0.lt, k1.lt, k0.cell 0, k0.cell 1, k0.cell 2, k0.cell 3, k0.cell 4, k0.cell 5, k0.cell 6, k0.cell 7, k0.cell 8, k0.cell 9, k1.cell 0, k1.cell 1, k1.cell 2, k1.cell 3⟩⟩
 have HZ : Hid (∀ W, Bw ((w.alloc (.cells #[.int .i64 1, .slice A1 n c1, .slice A2 k c2, .slice none 0 0, .slice none 0 0, .int .i64 0, .int .i64 0, .slice A3 q c3, .int .i64 0, .slice A4 z c4] 33)).alloc (.cells #[.slice none 0 0, .slice none 0 0, .slice none 0 0, .int .i64 0] 67)) W → Blk W (w.heap.size + 1) 67 #[.slice none 0 0, .slice none 0 0, .slice none 0 0, .int .i64 0]) := Lib.hid (fun W g => by
   have h1 := Blk.new (w.alloc (.cells #[.int .i64 1, .slice A1 n c1, .slice A2 k c2, .slice none 0 0, .slice none 0 0, .int .i64 0, .int .i64 0, .slice A3 q c3, .int .i64 0, .slice A4 z c4] 33)) 67 #[.slice none 0 0, .slice none 0 0, .slice none 0 0, .int .i64 0]
   rw [World.size_alloc] at h1
   exact h1.below g.b h1.lt)
 dsimp only
 by_cases her : (limB ml).2 = 0
 · obtain ⟨hl6, he6⟩ := limB_len her
   rw [if_neg (by rw [her]; decide), he6]
   rw [he6] at CM
   clear her he6
   dsimp only at CM ⊢
   obtain ⟨nl, hnl⟩ : ∃ nl, ml.length = nl := ⟨_, rfl⟩
   have HNL := Lib.hid hnl
   have hl7 : nl ≤ 256 := by omega
   clear hnl hl6
   go_enter Tryz.func37, Tryz.ntmps37
   go_wp2_with (first
     | (go_at_call 64; go_must (refine (CW.out _ BX.out.1).mono ?_; rintro e w1 ⟨rfl, hg⟩; (obtain ⟨-, ylt0, ylt1, y0_0, y0_1, y0_2, y0_3, y0_4, y0_5, y0_6, y0_7, y0_8, y0_9, y1_0, y1_1, y1_2, y1_3⟩ := BX.out.2 _ hg); (have HG1 := Lib.hid hg); clear hg))
     | (go_at_call 65; go_must (refine (CT.out _ (BX.out.1.trans HG1.out)).mono ?_; rintro e w2 ⟨pv2, rfl, hp2, hg2⟩; obtain ⟨A7, n7, c7, rfl, _, _, _⟩ := hp2.form; (have HT2 := Lib.hid (TypePost.tb hp2)); (have HG2 := Lib.hid (HG1.out.trans hg2)); clear hg2 hp2))
     | (go_at_call 66; go_must (refine (CM.out _ _ ((BX.out.1.trans HG2.out).trans ((Bw.refl _).alloc _)) (TAt.bw HT2.out ((Bw.refl _).alloc _))).mono ?_; rintro e w4 ⟨s9, rfl, hk9, hg9⟩; obtain ⟨A9, n9, c9, rfl, l9, b9, m9⟩ := hk9.form; (have hln : n9 = nl := by rw [← l9]; exact HNL.out); subst hln; (have HK9 := Lib.hid hk9); (have HG9 : Hid (Bw ((w.alloc (.cells #[.int .i64 1, .slice A1 n c1, .slice A2 k c2, .slice none 0 0, .slice none 0 0, .int .i64 0, .int .i64 0, .slice A3 q c3, .int .i64 0, .slice A4 z c4] 33)).alloc (.cells #[.slice none 0 0, .slice none 0 0, .slice none 0 0, .int .i64 0] 67)) w4) := Lib.hid (HG2.out.trans (((Bw.refl _).alloc _).trans hg9))); (have hs9 := HG2.out.size); clear hk9 hg9 l9))
     | (go_at_call 67; go_must (refine (CA.out _ _ ml rfl (by have := HNL.out; omega) (HK9.out.keep (fun b hb => hb.2) (fun _ _ => rfl))).mono ?_; rintro e w5 ⟨s10, ss10, rfl, hv10, hg10⟩; obtain ⟨A10, c10, rfl, _, _⟩ := hv10.form; (have HV10 := Lib.hid hv10); (have HG10 := Lib.hid hg10); clear hv10 hg10)))
   have hs10 := HG10.out.size
   have hsS := HG9.out.size
   simp only [World.size_alloc] at hsS hs9
   have hA9 : KAt w5 (fun b => w.heap.size + 1 + 1 ≤ b ∧ b < w5.heap.size) (.slice A9 n9 c9) ml := HK9.out.keep (fun b hb => ⟨by have := hb.1; simp at this; omega, by have := hb.2; omega⟩) (fun p hp => HG10.out.b.cell hp.2)
   have hA10 : KAt w5 (fun b => w.heap.size + 1 + 1 ≤ b ∧ b < w5.heap.size) (.slice A10 ml.length c10) ml := (HV10.out.kat (Nat.le_refl _)).keep (fun b hb => ⟨by have := hb.1; omega, hb.2⟩) (fun _ _ => rfl)
   refine wp_world (fun W => Hid (Bw ((w.alloc (.cells #[.int .i64 1, .slice A1 n c1, .slice A2 k c2, .slice none 0 0, .slice none 0 0, .int .i64 0, .int .i64 0, .slice A3 q c3, .int .i64 0, .slice A4 z c4] 33)).alloc (.cells #[.slice none 0 0, .slice none 0 0, .slice none 0 0, .int .i64 0] 67)) W ∧ Blk W w5.heap.size 67 #[.slice A9 n9 c9, .slice none 0 0, .slice A10 ml.length c10, .int .i64 0] ∧ KAt W (fun b => w.heap.size + 1 + 1 ≤ b ∧ b < w5.heap.size) (.slice A9 n9 c9) ml ∧ KAt W (fun b => w.heap.size + 1 + 1 ≤ b ∧ b < w5.heap.size) (.slice A10 ml.length c10) ml)) (Lib.hid ⟨(HG9.out.trans HG10.out).alloc _, Blk.new _ _ _, hA9.keep (fun b hb => hb) (fun p hp => ((Bw.refl w5).alloc _).b.cell hp.2), hA10.keep (fun b hb => hb) (fun p hp => ((Bw.refl w5).alloc _).b.cell hp.2)⟩) ?_
   intro W0 HW0
   have hsb : w5.heap.size < W0.heap.size := HW0.out.2.1.lt
   have hlow : w.heap.size + 1 + 1 ≤ w5.heap.size := by omega
   obtain ⟨i0, hi, hz0, hz1, hz2⟩ := info_parts infoOriB
   have CV2 : Hid (∀ W s2 v, v ∈ ml → KB W W.heap.size s2 v.ks → Calls Tryz.prog 68 #[.agg #[.int .i64 v.n, s2]] W (ValPost W v)) := CV
   clear hA9 hA10 CW CT CM CA CV HV10 HK9 HG1 HG2 HT2 hs9 HG9 HG10 hs10 hsS
   generalize w5.heap.size = sb at *
   go_loopw [41] (fun i wr => ∃ k : Nat, k ≤ n9 ∧ i = .int .i64 k ∧ ∃ A c, Hid (Blk wr sb 67 #[.slice A9 n9 c9, .slice A k c, .slice A10 ml.length c10, .int .i64 0] ∧ OwnO W0.heap.size wr (.slice A k c) ((ml.take k).map oriT) ∧ W0.grownBy wr (some sb))) (fun i _ => n9 - (intOf i).toNat)
   case atStart => exact ⟨0, by omega, rfl, none, 0, Lib.hid ⟨HW0.out.2.1, ⟨[], ERow.nil _ _ _ _, rfl⟩, World.grownBy.refl _ _⟩⟩
   case round =>
     obtain ⟨k, hk, rfl, VA, vc, HR⟩ := hrel
     obtain ⟨hblk, hown, hgr⟩ := HR.out
     obtain ⟨ps, hrow, hpe⟩ := hown
     have hpl : ps.length = k := by
       have := congrArg List.length hpe
       simp at this
       have := HNL.out
       omega
     have hka := HW0.out.2.2.1.grown hgr (S' := fun b => b < wr.heap.size) (fun b hb => ⟨by have := hgr.size; have := hb.2; omega, by have := hb.2; omega, fun e => by injection e with e; have := hb.2; omega⟩)
     have hszr := hgr.size
     by_cases hlt : k < n9
     · have e1 : k < ml.length := by rw [HNL.out]; exact hlt
       obtain ⟨ad, xA, xn, xc, rfl, hb, q0, q1, sl, hs1⟩ := hka.at_ e1
       have HT : Hid ((ml.take (k + 1)).map oriT = (ml.take k).map oriT ++ [oriT ml[k]]) := Lib.hid (by rw [List.take_succ_eq_append_getElem e1, List.map_append]; rfl)
       have CV3 : Hid (∀ W, Bw wr W → Calls Tryz.prog 68 #[.agg #[.int .i64 ml[k].n, .slice xA xn xc]] W (ValPost W ml[k])) := Lib.hid (fun W g => CV2.out W _ _ (List.getElem_mem e1) (hs1.bw g))
       have HROW := Lib.hid hrow
       have HPE := Lib.hid hpe
       have HPL := Lib.hid hpl
       have HGR := Lib.hid hgr
       have HBK := Lib.hid hblk
       have b1 := hblk.cell 1
       have bl := hblk.lt
       clear hs1 sl hrow hpe hgr hka hblk HR hpl
       generalize ml[k] = x at *
       unfold ValPost at CV3
       obtain ⟨yn, hyn⟩ : ∃ yn, x.n = yn := ⟨_, rfl⟩
       rw [hyn] at CV3 q0
       have HYN := Lib.hid hyn
       clear hyn
       go_wp2_with fail
       refine wp_world (fun W => Hid (Bw (wr.alloc (.cells #[.int .i64 yn, .slice xA xn xc] 31)) W)) (Lib.hid (Bw.refl _)) ?_
       intro W1 HW1
       clear q0 q1 b1
       have hw1 : Bw wr W1 := ((Bw.refl _).alloc _).trans HW1.out
       have HW2 := Lib.hid hw1
       have hbo := (Blk.new wr 31 #[.int .i64 yn, .slice xA xn xc]).below HW1.out.b (by simp)
       have k0 := hbo.cell 0
       have k1 := hbo.cell 1
       have kl := hbo.lt
       have hbs := HBK.out.below hw1.b HBK.out.lt
       have b1 := hbs.cell 1
       have bl1 := hbs.lt
       have CV4 : Hid (Calls Tryz.prog 68 #[.agg #[.int .i64 yn, .slice xA xn xc]] W1.drew (fun e w' => ∃ s, e = .returned (.agg #[.int .i64 yn, s]) ∧ KAt w' (fun b => W1.drew.heap.size ≤ b ∧ b < w'.heap.size) s x.ks ∧ Bw W1.drew w')) := Lib.hid (CV3.out _ (hw1.trans (Bw.refl W1).drew))
       have hsz1 := hw1.size
       have HBS := Lib.hid hbs
       clear hw1 CV3
       go_region_law (first
         | (go_simp; go_at_call 68; go_must (refine CV4.out.mono ?_; rintro e w6 ⟨s6, rfl, hk6, hg6⟩; obtain ⟨A6, n6, c6, rfl, _, _, _⟩ := hk6.form; have hA : Bw W1 w6 := (Bw.refl _).drew.trans hg6; have hb6 := HBS.out.below hA.b HBS.out.lt; have m1 := hb6.cell 1; have ml1 := hb6.lt; have hrow6 := HROW.out.bw (HW2.out.trans hA) (D' := fun b => W0.heap.size ≤ b ∧ b < wr.heap.size ∧ (Value.slice VA k vc).ownBlock ≠ some b) (fun b hb => ⟨hb, hb.2.1⟩); have HROW6 := Lib.hid hrow6; have HB6 := Lib.hid hb6; have HK6 := Lib.hid hk6; have HA := Lib.hid hA; have hs6 := hA.size; clear hk6 hg6 hb6 hrow6 hA))
         | (refine step_append_any _ rfl (.tmp 46) (.tmp 50) 65 rfl W0.heap.size 112 i0 _ 5 72 Tryz.underlying65 hi hz0 hz1 hz2 rfl (by decide) (.slice VA k vc) k (ps.flatMap encO.enc) (by simp [Act.eval, Act.put]) (by have := HROW6.out.own.alloc (.cells #[.int .i64 yn, .slice A6 n6 c6, .int .i64 (-2), .int .i64 0, .slice none 0 0] 112); rwa [HPL.out] at this) (w6.heap.size + 1) (some ⟨w6.heap.size, 0, none⟩) 1 1 [.int .i64 yn, .slice A6 n6 c6, .int .i64 (-2), .int .i64 0, .slice none 0 0] (by simp [Act.eval, Act.put]) (reads_new5 w6 _ _ _ _ _ _) (ori5 _ _ _ _ _ _ _ _ _) (by unfold maxLen; omega) (by omega) (by simp; omega) ?_; intro v8 w8 hown8 hgr8 hl8; obtain ⟨A8, c8, rfl⟩ := own_form hown8; have hb8 := (HB6.out.alloc (.cells #[.int .i64 yn, .slice A6 n6 c6, .int .i64 (-2), .int .i64 0, .slice none 0 0] 112)).grown hgr8 (fun e => by have := (HROW6.out.own.lt _ e.symm).1; omega); have s1 := hb8.cell 1; have s2 := hb8.frozen 1; have s3 := hb8.lt; have HB8 := Lib.hid hb8; have HO8 := Lib.hid hown8; have HG8 := Lib.hid hgr8; have HL8 := Lib.hid hl8; clear hown8 hgr8 hl8 hb8))
       all_goals
         have ha6 := (Bw.refl w6).alloc (.cells #[.int .i64 yn, .slice A6 n6 c6, .int .i64 (-2), .int .i64 0, .slice none 0 0] 112)
         have hrowA := HROW6.out.bw ha6 (D' := fun b => W0.heap.size ≤ b ∧ b < (w6.alloc (.cells #[.int .i64 yn, .slice A6 n6 c6, .int .i64 (-2), .int .i64 0, .slice none 0 0] 112)).heap.size ∧ (Value.slice VA k vc).ownBlock ≠ some b) (fun b hb => ⟨⟨hb.1, by rw [World.size_alloc]; have := hb.2.1; omega, hb.2.2⟩, by have := hb.2.1; omega⟩)
         have hpush : OwnO W0.heap.size w8 (.slice A8 (k + 1) c8) ((ml.take k).map oriT ++ [oriT x]) := by
           refine OwnO.push hrowA HPE.out (x := oriT x) (s1 := .slice A6 n6 c6) (s2 := .slice none 0 0) ?_ (KAt.nil _ _ (Nat.zero_le _)) ?_ HG8.out HL8.out
           · refine HK6.out.keep (fun b hb => ⟨?_, ?_, fun e => ?_⟩) (fun p hp => ha6.b.cell hp.2)
             · have h1 : W1.heap.size ≤ b := hb.1; omega
             · have := hb.2; rw [World.size_alloc]; omega
             · have h1 : W1.heap.size ≤ b := hb.1; have := (HROW.out.own.lt b e).2; omega
           · rw [HPL.out, show (oriT x).v.n = yn from HYN.out]; exact HO8.out
         have hgs : w8.grownBy (w8.setCell ⟨sb, 1, none⟩ (.slice A8 (k + 1) c8)) (some sb) := grownBy_setCell (p := ⟨sb, 1, none⟩) (World.grownBy.refl w8 (some sb)) (.inl rfl) _
         have hg8 : W0.grownBy w8 (some sb) := grown_own (grownBy_trans HGR.out (gb_any ((HW2.out.trans HA.out).trans ha6) _)) HG8.out (fun r e => (HROW6.out.own.lt r e).1)
         have HFIN := Lib.hid (And.intro (blk_set (i := 1) (.slice A8 (k + 1) c8) HB8.out) (And.intro (hpush.grown hgs (by omega)) (grownBy_trans hg8 hgs)))
         clear hgs hg8 hpush hrowA ha6
         go_wp2
         go_roundw
         case rel =>
           refine ⟨k + 1, by omega, by go_num, _, _, Lib.hid ⟨HFIN.out.1, ?_, HFIN.out.2.2⟩⟩
           rw [HT.out]; exact HFIN.out.2.1
         case measure => simp [intOf]; omega
     · obtain rfl : n9 = k := by omega
       have HBK := Lib.hid hblk
       have hz0 := (HZ.out W0 HW0.out.1).grown hgr (fun e => by injection e with e; omega)
       have HB8 := Lib.hid hz0
       have r0 := hz0.cell 0
       have r1 := hz0.cell 1
       have r2 := hz0.cell 2
       have r3 := hz0.cell 3
       have f0 := hz0.frozen 0
       have f1 := hz0.frozen 1
       have f2 := hz0.frozen 2
       have f3 := hz0.frozen 3
       have rl := hz0.lt
       have t0 := hblk.cell 0
       have t1 := hblk.cell 1
       have t2 := hblk.cell 2
       have t3 := hblk.cell 3
       have tl := hblk.lt
       have hO : OwnO W0.heap.size wr (.slice VA n9 vc) (ml.map oriT) := by
         have h3 : OwnO W0.heap.size wr (.slice VA n9 vc) ((ml.take n9).map oriT) := ⟨ps, hrow, hpe⟩
         rwa [List.take_of_length_le (by rw [HNL.out]; exact Nat.le_refl _)] at h3
       have HO := Lib.hid hO
       have HGR := Lib.hid hgr
       clear hrow hpe hpl hka hblk HR hgr hO hz0
       go_wp2
       have hst := blk4 (v0 := .slice A9 n9 c9) (v1 := .slice VA n9 vc) (v2 := .slice A10 ml.length c10) (v3 := .int .i64 0) HB8.out
       refine bodyPost_ret (rrow1 (p := 4) (q := 5) (ty := 67) rfl _ _ (w.heap.size + 1) _ _ rfl (run_loadVar_row _ _ 67 67 _ (0, 0) _ hst.1 Tryz.underlying67 rfl (by kernel_rfl)) rfl) rfl ?_
       have hgf := hst.2
       have hBw : Bw w wr := bw_gb (BX.out.1.trans HW0.out.1) HGR.out (fun r e => by injection e with e; omega)
       have hsg := HGR.out.size
       have hsf := hgf.size
       have key : ∀ (v : Value), KAt W0 (fun b => w.heap.size + 1 + 1 ≤ b ∧ b < sb) v ml → KB ((((wr.setCell ⟨w.heap.size + 1, 0, none⟩ (.slice A9 n9 c9)).setCell ⟨w.heap.size + 1, 1, none⟩ (.slice VA n9 vc)).setCell ⟨w.heap.size + 1, 2, none⟩ (.slice A10 ml.length c10)).setCell ⟨w.heap.size + 1, 3, none⟩ (.int .i64 0)) ((((wr.setCell ⟨w.heap.size + 1, 0, none⟩ (.slice A9 n9 c9)).setCell ⟨w.heap.size + 1, 1, none⟩ (.slice VA n9 vc)).setCell ⟨w.heap.size + 1, 2, none⟩ (.slice A10 ml.length c10)).setCell ⟨w.heap.size + 1, 3, none⟩ (.int .i64 0)).heap.size v ml := fun v hv => by
         refine (hv.grown HGR.out (S' := fun b => w.heap.size + 1 + 1 ≤ b ∧ b < sb) (fun b hb => ⟨hb, by have := hb.2; omega, fun e => by injection e with e; have := hb.2; omega⟩)).grown hgf (fun b hb => ⟨by have := hb.2; omega, by have := hb.2; omega, fun e => by injection e with e; have := hb.1; omega⟩)
       refine ⟨_, _, _, rfl, ⟨key _ HW0.out.2.2.1, (HO.out.grown hgf (by omega)).eat, key _ HW0.out.2.2.2⟩, bw_gb hBw hgf (fun r e => by injection e with e; omega)⟩
 · have he1 : (limB ml).2 = 1 := by rcases limB_e ml with h | h; (exact absurd h her); exact h
   rw [if_pos (by rw [he1]; decide), he1]
   rw [he1] at CM
   clear her he1
   go_enter Tryz.func37, Tryz.ntmps37
   go_wp2_with (first
     | (go_at_call 64; go_must (refine (CW.out _ BX.out.1).mono ?_; rintro e w1 ⟨rfl, hg⟩; (obtain ⟨-, ylt0, ylt1, y0_0, y0_1, y0_2, y0_3, y0_4, y0_5, y0_6, y0_7, y0_8, y0_9, y1_0, y1_1, y1_2, y1_3⟩ := BX.out.2 _ hg); (have HG1 := Lib.hid hg); clear hg))
     | (go_at_call 65; go_must (refine (CT.out _ (BX.out.1.trans HG1.out)).mono ?_; rintro e w2 ⟨pv2, rfl, hp2, hg2⟩; obtain ⟨A7, n7, c7, rfl, _, _, _⟩ := hp2.form; (have HT2 := Lib.hid (TypePost.tb hp2)); (have HG2 := Lib.hid (HG1.out.trans hg2)); clear hg2 hp2))
     | (go_at_call 66; go_must (refine (CM.out _ _ ((BX.out.1.trans HG2.out).trans ((Bw.refl _).alloc _)) (TAt.bw HT2.out ((Bw.refl _).alloc _))).mono ?_; rintro e w4 ⟨s9, rfl, hk9, hg9⟩; obtain ⟨A9, n9, c9, rfl, l9, b9, m9⟩ := hk9.form; (have HG9 : Hid (Bw ((w.alloc (.cells #[.int .i64 1, .slice A1 n c1, .slice A2 k c2, .slice none 0 0, .slice none 0 0, .int .i64 0, .int .i64 0, .slice A3 q c3, .int .i64 0, .slice A4 z c4] 33)).alloc (.cells #[.slice none 0 0, .slice none 0 0, .slice none 0 0, .int .i64 0] 67)) w4) := Lib.hid (HG2.out.trans (((Bw.refl _).alloc _).trans hg9))); (have hz := HZ.out w4 HG9.out); (have r0 := hz.cell 0); (have r1 := hz.cell 1); (have r2 := hz.cell 2); (have r3 := hz.cell 3); (have f0 := hz.frozen 0); (have f1 := hz.frozen 1); (have f2 := hz.frozen 2); (have f3 := hz.frozen 3); (have rl := hz.lt); (have HB8 := Lib.hid hz); clear hk9 hg9 l9 hz)))
   have hst := blk4 (v0 := .slice none 0 0) (v1 := .slice none 0 0) (v2 := .slice none 0 0) (v3 := .int .i64 0) HB8.out
   refine bodyPost_ret (rrow1 (p := 4) (q := 5) (ty := 67) rfl _ _ (w.heap.size + 1) _ _ rfl (run_loadVar_row _ _ 67 67 _ (0, 0) _ hst.1 Tryz.underlying67 rfl (by kernel_rfl)) rfl) rfl ?_
   exact ⟨_, _, _, rfl, SAt.nil, bw_gb (BX.out.1.trans HG9.out) hst.2 (fun r e => by injection e with e; omega)⟩
abbrev skA (bv ov fv : Value) (us : Int) (sv pv rv kv tp : Value) : Array Value := #[bv, ov, fv, .int .i64 us, .int .i64 1, sv, pv, .slice none 0 0, .slice none 0 0, .int .i64 0, .int .i64 0, rv, .int .i64 0, kv, .int .i64 3, .int .i64 0, .slice none 0 0, tp, .func (.func 71) #[] #[]]
structure SkI (W : World) (B kb : Nat) (sv pv rv kv tp bv ov fv : Value) (s : Sk) : Prop where
 blk : Blk W kb 150 (skA bv ov fv s.us sv pv rv kv tp)
 own : SOwn W B (some kb) bv ov fv s
 lo : B ≤ kb
def Keeps (w W : World) (kb : Nat) (ov fv ov' fv' : Value) : Prop := ∀ u l, KAt w (Dk w 0 (some kb) ov fv) u l → KAt W (Dk W 0 (some kb) ov' fv') u l
section
variable {w w' A W : World} {B kb : Nat} {sv pv rv kv tp bv ov fv v' bv' ov' fv' : Value} {s : Sk}
theorem SkI.bw (h : SkI w B kb sv pv rv kv tp bv ov fv s) (g : Bw w w') : SkI w' B kb sv pv rv kv tp bv ov fv s := ⟨h.blk.below g.b h.blk.lt, h.own.bw g, h.lo⟩
theorem Keeps.refl (g : Bw w w') : Keeps w w' kb ov fv ov fv := fun u l h => h.keep (fun b hb => hb.bw g.size) (fun p hp => g.b.cell hp.2.1)
theorem Keeps.trans {w1 w2 w3 : World} {o1 f1 o2 f2 o3 f3 : Value} (h : Keeps w1 w2 kb o1 f1 o2 f2) (k : Keeps w2 w3 kb o2 f2 o3 f3) : Keeps w1 w3 kb o1 f1 o3 f3 := fun u l x => k u l (h u l x)
theorem Keeps.put (g : w.grownBy w' (some kb)) : Keeps w w' kb ov fv ov fv := fun u l h => h.keep (fun b hb => hb.bw g.size) (fun p hp => World.cell?_of_block (g.block p.block hp.2.1 (fun e => hp.2.2.1 e.symm)))
theorem Keeps.pushO (hg : A.grownBy W ov.ownBlock) (hv : v'.ownBlock = ov.ownBlock ∨ v'.ownBlock = some A.heap.size) : Keeps A W kb ov fv v' fv := fun u l h => h.keep (fun b hb => ⟨hb.1, Nat.lt_of_lt_of_le hb.2.1 hg.size, hb.2.2.1, fun e => by
   rcases hv with e' | e'
   · rw [e'] at e; exact hb.2.2.2.1 e
   · rw [e'] at e; injection e with e; have := hb.2.1; omega, hb.2.2.2.2⟩) (fun p hp => World.cell?_of_block (hg.block p.block hp.2.1 (fun e => hp.2.2.2.1 e.symm)))
theorem Keeps.pushF (hg : A.grownBy W fv.ownBlock) (hv : v'.ownBlock = fv.ownBlock ∨ v'.ownBlock = some A.heap.size) : Keeps A W kb ov fv ov v' := fun u l h => h.keep (fun b hb => ⟨hb.1, Nat.lt_of_lt_of_le hb.2.1 hg.size, hb.2.2.1, hb.2.2.2.1, fun e => by
   rcases hv with e' | e'
   · rw [e'] at e; exact hb.2.2.2.2 e
   · rw [e'] at e; injection e with e; have := hb.2.1; omega⟩) (fun p hp => World.cell?_of_block (hg.block p.block hp.2.1 (fun e => hp.2.2.2.2 e.symm)))
theorem skput (h : Blk w kb 150 (skA bv ov fv s.us sv pv rv kv tp)) (i : Nat) (u : Value) : w.grownBy (w.setCell ⟨kb, i, none⟩ u) (some kb) := grownBy_setCell (p := ⟨kb, i, none⟩) (World.grownBy.refl w (some kb)) (.inl rfl) u
theorem below_gb {B : Nat} {a b c : World} {row : Option Nat} (h : Below B a b) (hg : b.grownBy c row) (hB : B ≤ b.heap.size) (hr : ∀ r, row = some r → B ≤ r) : Below B a c := h.grown hg hB hr
theorem SkI.lt (h : SkI w B kb sv pv rv kv tp bv ov fv s) : kb < w.heap.size := h.blk.lt
theorem SkI.B_lt (h : SkI w B kb sv pv rv kv tp bv ov fv s) : B ≤ w.heap.size := Nat.le_trans h.lo (Nat.le_of_lt h.blk.lt)
end
def AddPost (w : World) (B kb : Nat) (sv pv rv kv tp ov fv : Value) (r : Sk × Int) (e : Ending) (w' : World) : Prop := ∃ bv' ov' fv', e = .returned (.int .i64 r.2) ∧ SkI w' B kb sv pv rv kv tp bv' ov' fv' r.1 ∧ Below B w w' ∧ Keeps w w' kb ov fv ov' fv'
section
variable {w A W : World} {B kb : Nat} {sv pv rv kv tp bv ov fv v' s1 s2 : Value} {s : Sk}
theorem SkI.push9 (h : SkI w B kb sv pv rv kv tp bv ov fv s) (hA : Bw w A) {ps : List (Ori × Value × Value)} (hp : ERow encO w 112 B (Dk w B (some kb) ov fv) ov ps) (he : ps.map (·.1) = s.og) {x : Ori} (h1 : KAt A (fun b => w.heap.size ≤ b ∧ b < A.heap.size) s1 x.v.ks) (h2 : KAt A (fun b => w.heap.size ≤ b ∧ b < A.heap.size) s2 x.nx.ks)
   (hown : W.ownsRow B 112 5 v' (ps.length + 1) (ps.flatMap encO.enc ++ [.int .i64 x.v.n, s1, .int .i64 x.r, .int .i64 x.nx.n, s2])) (hg : A.grownBy W ov.ownBlock) (hv : v'.ownBlock = ov.ownBlock ∨ v'.ownBlock = some A.heap.size) :
   SkI (W.setCell ⟨kb, 1, none⟩ v') B kb sv pv rv kv tp bv v' fv ⟨s.ba, s.og ++ [x], s.fr, s.us⟩ ∧ Below B w (W.setCell ⟨kb, 1, none⟩ v') ∧ Keeps w (W.setCell ⟨kb, 1, none⟩ v') kb ov fv v' fv ∧ (∀ g T cs, Blk w g T cs → g ≠ kb → ov.ownBlock ≠ some g → Blk (W.setCell ⟨kb, 1, none⟩ v') g T cs) ∧
     (W.cell? ⟨kb, 1, none⟩ = some ov ∧ W.frozen? ⟨kb, 1, none⟩ = false ∧ kb < W.heap.size) := by
 have hsA := h.own.bw hA
 have hBs := h.B_lt
 have hpA := hp.bw hA (D' := Dk A B (some kb) ov fv) (fun b hb => ⟨hb.bw hA.size, hb.2.1⟩)
 have hS := hsA.pushO (h.own.fresh hA h1 hBs) (h.own.fresh hA h2 hBs) hpA he hown hg hv
 have hko := (h.own.ko kb rfl).1
 have hbW := (h.blk.below hA.b h.blk.lt).grown hg (fun e => hko e.symm)
 have hput : W.grownBy (W.setCell ⟨kb, 1, none⟩ v') (some kb) := skput (s := s) hbW 1 v'
 obtain ⟨o1, -⟩ := h.own.olt
 refine ⟨⟨blk_set (i := 1) v' hbW, hS.put hput, h.lo⟩, ?_, ((Keeps.refl hA).trans (Keeps.pushO hg hv)).trans (Keeps.put hput), fun g T cs hb h3 h4 => ?_, hbW.cell 1, hbW.frozen 1, hbW.lt⟩
 · exact below_gb (below_gb (Below.mono hA.b hBs) hg (Nat.le_trans hBs hA.size) (fun r e => (o1 r e).1)) hput (Nat.le_trans hBs (Nat.le_trans hA.size hg.size)) (fun r e => by injection e with e; have := h.lo; omega)
 · exact ((hb.below hA.b hb.lt).grown hg (fun e => h4 e.symm)).grown hput (fun e => h3 (by injection e))
theorem SkI.push10 (h : SkI w B kb sv pv rv kv tp bv ov fv s) (hA : Bw w A) {qs : List VS} (hp : ERow encV w 31 B (Dk w B (some kb) ov fv) fv qs) (he : qs.map (·.1) = s.fr) {x : V} (h1 : KAt A (fun b => w.heap.size ≤ b ∧ b < A.heap.size) s1 x.ks)
   (hown : W.ownsRow B 31 2 v' (qs.length + 1) (pCells qs ++ [.int .i64 x.n, s1])) (hg : A.grownBy W fv.ownBlock) (hv : v'.ownBlock = fv.ownBlock ∨ v'.ownBlock = some A.heap.size) :
   SkI (W.setCell ⟨kb, 2, none⟩ v') B kb sv pv rv kv tp bv ov v' ⟨s.ba, s.og, s.fr ++ [x], s.us⟩ ∧ Below B w (W.setCell ⟨kb, 2, none⟩ v') ∧ Keeps w (W.setCell ⟨kb, 2, none⟩ v') kb ov fv ov v' := by
 have hsA := h.own.bw hA
 have hBs := h.B_lt
 have hpA := hp.bw hA (D' := Dk A B (some kb) ov fv) (fun b hb => ⟨hb.bw hA.size, hb.2.1⟩)
 have hS := hsA.pushF (h.own.fresh hA h1 hBs) hpA he hown hg hv
 have hko := (h.own.ko kb rfl).2.1
 have hbW := (h.blk.below hA.b h.blk.lt).grown hg (fun e => hko e.symm)
 have hput : W.grownBy (W.setCell ⟨kb, 2, none⟩ v') (some kb) := skput (s := s) hbW 2 v'
 obtain ⟨-, o1⟩ := h.own.olt
 refine ⟨⟨blk_set (i := 2) v' hbW, hS.put hput, h.lo⟩, ?_, ((Keeps.refl hA).trans (Keeps.pushF hg hv)).trans (Keeps.put hput)⟩
 exact below_gb (below_gb (Below.mono hA.b hBs) hg (Nat.le_trans hBs hA.size) (fun r e => (o1 r e).1)) hput (Nat.le_trans hBs (Nat.le_trans hA.size hg.size)) (fun r e => by injection e with e; have := h.lo; omega)
theorem gb_set {a b : World} {row : Option Nat} (h : a.grownBy b row) (p : Addr) (u : Value) (hp : row = some p.block ∨ a.heap.size ≤ p.block) : a.grownBy (b.setCell p u) row :=
 ⟨h.os, h.tape, h.output, by rw [World.size_setCell]; exact h.size, fun i hi hne => (Below.heap_setCell b p u i (by
   rintro rfl
   rcases hp with hp | hp
   · exact hne hp.symm
   · omega)).trans (h.block i hi hne)⟩
theorem set_comm (w : World) (p q : Addr) (u v : Value) (h : p.block ≠ q.block) : (w.setCell p u).setCell q v = (w.setCell q v).setCell p u := by
 simp only [World.setCell]
 congr 1
 apply Array.ext
 · simp
 · intro i h1 h2
   simp only [Array.getElem_modify]
   by_cases e1 : p.block = i
   · by_cases e2 : q.block = i
     · exact absurd (e1.trans e2.symm) h
     · simp [e1, e2]
   · by_cases e2 : q.block = i
     · simp [e1, e2]
     · simp [e1, e2]
theorem SkI.push10b (h : SkI w B kb sv pv rv kv tp bv ov fv s) (hA : Bw w A) {qs : List VS} (hp : ERow encV w 31 B (Dk w B (some kb) ov fv) fv qs) (he : qs.map (·.1) = s.fr) {x : V} (h1 : KAt A (fun b => w.heap.size ≤ b ∧ b < A.heap.size) s1 x.ks) {g c n : Nat} (hn : qs.length = n)
   (hown : W.ownsRow B 31 2 (.slice (some ⟨g, 0, none⟩) (n + 1) c) (n + 1) (pCells qs ++ [.int .i64 0, .slice none 0 0])) (hg : A.grownBy W fv.ownBlock) (hv : (Value.slice (some ⟨g, 0, none⟩) (n + 1) c).ownBlock = fv.ownBlock ∨ (Value.slice (some ⟨g, 0, none⟩) (n + 1) c).ownBlock = some A.heap.size) (xn : Int) (hx : x.n = xn) :
   (SkI (((W.setCell ⟨g, n * 2, none⟩ (.int .i64 xn)).setCell ⟨g, n * 2 + 1, none⟩ s1).setCell ⟨kb, 2, none⟩ (.slice (some ⟨g, 0, none⟩) (n + 1) c)) B kb sv pv rv kv tp bv ov (.slice (some ⟨g, 0, none⟩) (n + 1) c) ⟨s.ba, s.og, s.fr ++ [x], s.us⟩ ∧ Below B w (((W.setCell ⟨g, n * 2, none⟩ (.int .i64 xn)).setCell ⟨g, n * 2 + 1, none⟩ s1).setCell ⟨kb, 2, none⟩ (.slice (some ⟨g, 0, none⟩) (n + 1) c)) ∧ Keeps w (((W.setCell ⟨g, n * 2, none⟩ (.int .i64 xn)).setCell ⟨g, n * 2 + 1, none⟩ s1).setCell ⟨kb, 2, none⟩ (.slice (some ⟨g, 0, none⟩) (n + 1) c)) kb ov fv ov (.slice (some ⟨g, 0, none⟩) (n + 1) c)) ∧
   ((W.setCell ⟨kb, 2, none⟩ (.slice (some ⟨g, 0, none⟩) (n + 1) c)).setCell ⟨g, n * 2, none⟩ (.int .i64 xn)).setCell ⟨g, n * 2 + 1, none⟩ s1 = ((W.setCell ⟨g, n * 2, none⟩ (.int .i64 xn)).setCell ⟨g, n * 2 + 1, none⟩ s1).setCell ⟨kb, 2, none⟩ (.slice (some ⟨g, 0, none⟩) (n + 1) c) ∧
   W.cell? ⟨g, n * 2, none⟩ = some (.int .i64 0) ∧ W.cell? ⟨g, n * 2 + 1, none⟩ = some (.slice none 0 0) ∧ (∀ j, W.frozen? ⟨g, j, none⟩ = false) ∧ g < W.heap.size ∧ W.cell? ⟨kb, 2, none⟩ = some fv ∧ W.frozen? ⟨kb, 2, none⟩ = false ∧ kb < W.heap.size ∧
   (∀ u, (W.setCell ⟨g, n * 2, none⟩ u).cell? ⟨g, n * 2 + 1, none⟩ = some (.slice none 0 0)) ∧ (∀ u, (W.setCell ⟨kb, 2, none⟩ u).cell? ⟨g, n * 2, none⟩ = some (.int .i64 0)) ∧ (∀ u v, ((W.setCell ⟨kb, 2, none⟩ u).setCell ⟨g, n * 2, none⟩ v).cell? ⟨g, n * 2 + 1, none⟩ = some (.slice none 0 0)) ∧ (∀ u v, ((W.setCell ⟨g, n * 2, none⟩ u).setCell ⟨g, n * 2 + 1, none⟩ v).cell? ⟨kb, 2, none⟩ = some fv) ∧ (∀ u, (W.setCell ⟨g, n * 2, none⟩ u).cell? ⟨kb, 2, none⟩ = some fv) := by
 subst hn hx
 have hpl : (pCells qs).length = qs.length * 2 := pCells_length qs
 have hko := (h.own.ko kb rfl).2.1
 have hbW := (h.blk.below hA.b h.blk.lt).grown hg (fun e => hko e.symm)
 have hgk : g ≠ kb := by
   rintro rfl
   rcases hv with e | e
   · exact hko e.symm
   · simp [Value.ownBlock] at e
     have := hA.size; have := h.blk.lt; omega
 have hgl : g < W.heap.size := (hown.lt g rfl).2
 have c0 : W.cell? ⟨g, qs.length * 2, none⟩ = some (.int .i64 0) := by
   rw [hown.cellAt _ (by omega), List.getElem?_append_right (by omega), hpl]; simp
 have c1 : W.cell? ⟨g, qs.length * 2 + 1, none⟩ = some (.slice none 0 0) := by
   rw [hown.cellAt _ (by omega), List.getElem?_append_right (by omega), hpl, show qs.length * 2 + 1 - qs.length * 2 = 1 by omega]; rfl
 have hst := ((hown.stored (qs.length * 2) (.int .i64 x.n)).1.stored (qs.length * 2 + 1) s1).1
 have hcells : ((pCells qs ++ [Value.int .i64 0, .slice none 0 0]).set (qs.length * 2) (.int .i64 x.n)).set (qs.length * 2 + 1) s1 = pCells qs ++ [.int .i64 x.n, s1] := by
   rw [List.set_append_right _ _ (by omega), hpl, Nat.sub_self, List.set_append_right _ _ (by omega), hpl, show qs.length * 2 + 1 - qs.length * 2 = 1 by omega]; rfl
 rw [hcells] at hst
 have hrow2 : fv.ownBlock = some g ∨ A.heap.size ≤ g := by
   rcases hv with e | e
   · exact .inl e.symm
   · simp [Value.ownBlock] at e; exact .inr (by omega)
 have hg2 := gb_set (gb_set hg ⟨g, qs.length * 2, none⟩ (.int .i64 x.n) hrow2) ⟨g, qs.length * 2 + 1, none⟩ s1 hrow2
 have hpu := h.push10 hA hp he h1 hst hg2 hv
 refine ⟨hpu, ?_, c0, c1, fun j => hown.frozenAt j, hgl, hbW.cell 2, hbW.frozen 2, hbW.lt, fun u => ?_, fun u => ?_, fun u v => ?_, fun u v => ?_, fun u => ?_⟩
 · rw [set_comm W ⟨kb, 2, none⟩ ⟨g, qs.length * 2, none⟩ _ _ (fun e => hgk e.symm), set_comm _ ⟨kb, 2, none⟩ ⟨g, qs.length * 2 + 1, none⟩ _ _ (fun e => hgk e.symm)]
 · exact (World.cell?_setCell_other _ _ _ _ (fun e => by have := congrArg Addr.off e; simp at this)).trans c1
 · exact (World.cell?_setCell_other _ _ _ _ (fun e => by have := congrArg Addr.block e; simp at this; exact hgk this.symm)).trans c0
 · exact (World.cell?_setCell_other _ _ _ _ (fun e => by have := congrArg Addr.off e; simp at this)).trans ((World.cell?_setCell_other _ _ _ _ (fun e => by have := congrArg Addr.block e; simp at this; exact hgk this.symm)).trans c1)
 · exact (World.cell?_setCell_other _ _ _ _ (fun e => by have := congrArg Addr.block e; simp at this; exact hgk this)).trans ((World.cell?_setCell_other _ _ _ _ (fun e => by have := congrArg Addr.block e; simp at this; exact hgk this)).trans (hbW.cell 2))
 · exact (World.cell?_setCell_other _ _ _ _ (fun e => by have := congrArg Addr.block e; simp at this; exact hgk this)).trans (hbW.cell 2)
end
end
section
open Go Go.ChangeShapes Go.WideShapes Go.ChangeAt Go.RowKit Go.Deep
section
variable {H : Type} {enc : TypeId × Value → H} {P : Program}
theorem trodAll_stays (hl : laidOutB P = true) {W W' : World} (hb : Below W.heap.size W W') : ∀ {ts : List TypeId} {vs : List Value} {ds : List (DataW H)} {ps : List MemPlace},
   (ts.all fun t => P.readableRec t && decide (t < P.types.size)) = true → DataW.TrodAll enc P W 0 (fun _ => true) true ts vs ds ps → (∀ x ∈ ps, x.block < W.heap.size) →
   DataW.TrodAll enc P W' 0 (fun b => decide (b < W.heap.size)) true ts vs ds ps := by
 intro ts
 induction ts with
 | nil =>
   intro vs ds ps _ h _
   obtain ⟨rfl, rfl, rfl⟩ := trodAll_nil h
   exact rfl
 | cons t ts ih =>
   intro vs ds ps hr h hlt
   obtain ⟨v, vs', d, ds', p, q, rfl, rfl, rfl, h1, h2⟩ := trodAll_cons h
   simp only [List.all_cons, Bool.and_eq_true, decide_eq_true_eq] at hr
   exact ⟨p, q, Below.trod hl hr.1.1 hr.1.2 h1 hb (fun x hx => hlt x (by simp [hx])), ih hr.2 h2 (fun x hx => hlt x (by simp [hx])), rfl⟩
theorem trodAll_lt {W : World} {base : Nat} {spare : Nat → Bool} {held : Bool} : ∀ {ts : List TypeId} {vs : List Value} {ds : List (DataW H)} {ps : List MemPlace}, DataW.TrodAll enc P W base spare held ts vs ds ps → ∀ x ∈ ps, x.block < W.heap.size := by
 intro ts
 induction ts with
 | nil =>
   intro vs ds ps h x hx
   obtain ⟨rfl, rfl, rfl⟩ := trodAll_nil h
   cases hx
 | cons t ts ih =>
   intro vs ds ps h x hx
   obtain ⟨v, vs', d, ds', p, q, rfl, rfl, rfl, ⟨m, h1⟩, h2⟩ := trodAll_cons h
   rcases List.mem_append.1 hx with hx | hx
   · exact DataW.trod_lt m _ _ _ h1 x hx
   · exact ih h2 x hx
end
end
end Go.Proofs.YthhbkabdhkdafaaGreat
