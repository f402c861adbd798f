/- Part of a proof of pruneShows_holds. -/
import Derived.Test.YthhbkabdhkdafaaGreatUBaQ
set_option linter.unusedSimpArgs false
set_option linter.unusedVariables false
set_option maxRecDepth 100000
set_option maxHeartbeats 16000000
namespace Go.Proofs.YthhbkabdhkdafaaGreat
section
open Go.RowKit
theorem VRow.fresh {w : World} {e L B b0 : Nat} {v : Value} {l : List V} {ss : List Value} (h : VRow w e L B v l ss) (h1 : b0 ≤ L) (h2 : b0 ≤ B) : KAt w (fun b => b0 ≤ b ∧ b < w.heap.size) v l :=
 (own_KAt h.own rfl h.len h.kid).keep (fun b hb => by
   rcases hb with hb | hb
   · exact ⟨by omega, hb.2.1⟩
   · have := h.own.lt b hb; exact ⟨by omega, this.2⟩) (fun _ _ => rfl)
theorem qconfig_any (st : Int) (cs : List Int) (s : Value) (w : World) (h : IB w w.heap.size s cs) (h9 : cs.length ≤ 1000) : Calls Tryz.prog 30 #[.int .i64 st, s] w (ValPost w (cfgV st cs)) := by
 obtain ⟨A, n, c, rfl, ln, bn, mn⟩ := h.form
 unfold maxLen at mn
 rw [ln] at h9
 have HK := Lib.hid h
 have LN := Lib.hid ln
 unfold ValPost
 rw [show (cfgV st cs).n = 0 from rfl, show (cfgV st cs).ks = V.mk st [] :: cs.map fun c => V.mk c [] from rfl]
 clear h ln
 obtain ⟨i0, hi, hz0, hz1, hz2⟩ := info_parts infoVal
 go_enter Tryz.func30, Tryz.ntmps30
 go_wp2
 have S0 : Hid (VRow (((w.alloc (.cells #[.int .i64 0, .slice none 0 0] 31)).alloc (.cells #[.int .i64 st, .slice none 0 0] 31)).alloc (.cells #[.int .i64 0, .slice (some ⟨w.heap.size + 1, 0, none⟩) 1 1] 31)) 31 (w.heap.size + 3) (w.heap.size + 1) (.slice (some ⟨w.heap.size + 1, 0, none⟩) 1 1) [V.mk st []] [.slice none 0 0]) := Lib.hid ⟨by
   have := (own_new (w.alloc (.cells #[.int .i64 0, .slice none 0 0] 31)) 31 #[.int .i64 st, .slice none 0 0] 2 (n := 1) (xs := [.int .i64 st, .slice none 0 0]) rfl rfl).alloc (.cells #[.int .i64 0, .slice (some ⟨w.heap.size + 1, 0, none⟩) 1 1] 31)
   simpa [vCells] using this, rfl, fun k h1 h2 => by
   obtain rfl : k = 0 := by simpa using h1
   exact KAt.nil _ _ (Nat.zero_le _)⟩
 have B0 : Hid (Blk (((w.alloc (.cells #[.int .i64 0, .slice none 0 0] 31)).alloc (.cells #[.int .i64 st, .slice none 0 0] 31)).alloc (.cells #[.int .i64 0, .slice (some ⟨w.heap.size + 1, 0, none⟩) 1 1] 31)) (w.heap.size + 2) 31 #[.int .i64 0, .slice (some ⟨w.heap.size + 1, 0, none⟩) 1 1] ∧ Blk (((w.alloc (.cells #[.int .i64 0, .slice none 0 0] 31)).alloc (.cells #[.int .i64 st, .slice none 0 0] 31)).alloc (.cells #[.int .i64 0, .slice (some ⟨w.heap.size + 1, 0, none⟩) 1 1] 31)) w.heap.size 31 #[.int .i64 0, .slice none 0 0]) := Lib.hid ⟨by
   have := Blk.new ((w.alloc (.cells #[.int .i64 0, .slice none 0 0] 31)).alloc (.cells #[.int .i64 st, .slice none 0 0] 31)) 31 #[.int .i64 0, .slice (some ⟨w.heap.size + 1, 0, none⟩) 1 1]
   simpa only [World.size_alloc] using this, ((Blk.new w _ _).alloc _).alloc _⟩
 go_loopw [6] (fun i wr => ∃ k : Nat, k ≤ n ∧ i = .int .i64 k ∧ Hid (∃ sv ss, Blk wr (w.heap.size + 2) 31 #[.int .i64 0, sv] ∧ sv.ownBlock ≠ some (w.heap.size + 2) ∧ Blk wr w.heap.size 31 #[.int .i64 0, .slice none 0 0] ∧ VRow wr 31 (w.heap.size + 3) (w.heap.size + 1) sv (V.mk st [] :: (cs.take k).map fun c => V.mk c []) ss ∧ Bw w wr)) (fun i _ => n - (intOf i).toNat)
 case atStart => exact ⟨0, by omega, rfl, Lib.hid ⟨_, _, B0.out.1, by simp [Value.ownBlock], B0.out.2, S0.out, ((((Bw.refl _).alloc _).alloc _).alloc _)⟩⟩
 case round =>
   clear S0 B0
   obtain ⟨k, hk, rfl, HR⟩ := hrel
   obtain ⟨sv, ss, hb2, hne, hb0, hv, hw⟩ := HR.out
   have hlk : (V.mk st [] :: (cs.take k).map fun c => V.mk c []).length = k + 1 := by simp; have := LN.out; omega
   obtain ⟨VA, vc, rfl, _, _⟩ := hv.form
   rw [hlk] at hv hb2 hne
   have p0 := hb2.cell 0
   have p1 := hb2.cell 1
   have f0 := hb2.frozen 0
   have f1 := hb2.frozen 1
   have z2 := hb2.lt
   have r0 := hb0.cell 0
   have r1 := hb0.cell 1
   have rf0 := hb0.frozen 0
   have rf1 := hb0.frozen 1
   have HB2 := Lib.hid hb2
   have HB0 := Lib.hid hb0
   have HV := Lib.hid hv
   have HW := Lib.hid hw
   have HNE := Lib.hid hne
   have HLK := Lib.hid hlk
   have hsw := hw.size
   by_cases hlt : k < n
   · have e1 : k < cs.length := by rw [LN.out]; exact hlt
     obtain ⟨ad, rfl, hb, q0⟩ := (HK.out.bw hw).at_ e1
     have HT : Hid ((V.mk st [] :: (cs.take (k + 1)).map fun c => V.mk c []) = (V.mk st [] :: (cs.take k).map fun c => V.mk c []) ++ [V.mk cs[k] []]) := Lib.hid (by rw [List.take_succ_eq_append_getElem e1, List.map_append]; rfl)
     clear hb2 hne hb0 hv hw HR hlk
     generalize cs[k] = x at *
     generalize hl : (V.mk st [] :: (cs.take k).map fun c => V.mk c []) = l at *
     clear hl
     have hkn : (k : Int) < (n : Int) := by omega
     have HOA : Hid (∀ o, (wr.alloc o).ownsRow (w.heap.size + 1) 31 2 (.slice VA (k + 1) vc) (k + 1) (vCells l ss)) := Lib.hid (fun o => by have := HV.out.own.alloc o; rwa [HLK.out] at this)
     go_wp2_with fail
     go_region_law (first
       | (refine step_append_any _ rfl (.tmp 18) (.tmp 24) 29 rfl (w.heap.size + 1) 31 i0 _ 2 32 Tryz.underlying29 hi hz0 hz1 hz2 rfl (by decide) (.slice VA (k + 1) vc) (k + 1) (vCells l ss) (by simp [Act.eval, Act.put]) (by exact own_kept_below (HOA.out _) (Bw.refl _).drew) (wr.heap.size + 1) (some ⟨wr.heap.size, 0, none⟩) 1 1 [.int .i64 x, .slice none 0 0] (by simp [Act.eval, Act.put]) (by exact (reads_new2 wr _ _ _).drew) (one2 _ _ _ _) (by unfold maxLen; omega) (by omega) (by simp; omega) ?_; intro v7 w7 hown7 hgr7 hl7; obtain ⟨A7, c7, rfl⟩ := own_form hown7; (have HO7 := Lib.hid hown7); (have HG7 := Lib.hid hgr7); (have HL7 := Lib.hid hl7); (have hb7 : Blk w7 (w.heap.size + 2) 31 #[.int .i64 0, .slice VA (k + 1) vc] := ((HB2.out.alloc _).drew).grown hgr7 (fun e => HNE.out e.symm)); (have y1 := hb7.cell 1); (have y3 := hb7.frozen 1); (have y4 := hb7.lt); (have HB7 := Lib.hid hb7); clear hown7 hgr7 hl7 hb7))
     all_goals
       go_wp2
       go_roundw
       case rel =>
         have hbw7 : Bw w w7 := Below.grown (HW.out.alloc _).drew HG7.out (by simp; omega) (fun r e => by have := (HV.out.own.lt r e).1; omega)
         have e1 := grownBy_setCell (p := ⟨w.heap.size + 2, 1, none⟩) (World.grownBy.refl w7 (some (w.heap.size + 2))) (.inl rfl) (.slice A7 (k + 1 + 1) c7)
         have hne7 : (Value.slice A7 (k + 1 + 1) c7).ownBlock ≠ some (w.heap.size + 2) := by
           rcases HL7.out with e | e
           · rw [e]; exact HNE.out
           · rw [e]; intro e2; injection e2 with e2; simp at e2; omega
         have h1 := (HV.out.bw (((Bw.refl wr).alloc (.cells #[.int .i64 x, .slice none 0 0] 31)).drew)).push (x := .mk x []) (s := .slice none 0 0) (KAt.nil _ _ (Nat.zero_le _)) (by rw [HLK.out]; exact HO7.out) HG7.out HL7.out
         refine ⟨k + 1, by omega, by go_num, Lib.hid ⟨.slice A7 (k + 1 + 1) c7, ss ++ [.slice none 0 0], blk_set (i := 1) (.slice A7 (k + 1 + 1) c7) HB7.out, hne7, ?_, ?_, Below.grown hbw7 e1 hbw7.size (fun r e => by injection e with e; omega)⟩⟩
         · exact ((((HB0.out.alloc _).drew).grown HG7.out (fun e => by have := (HV.out.own.lt _ e.symm).1; omega)).far (by dsimp only; omega) _)
         · rw [HT.out]
           exact h1.keep e1 (fun r e => by injection e with e; subst e; exact ⟨hne7, by omega⟩)
       case measure => simp [intOf]; omega
   · obtain rfl : k = n := by omega
     clear hb2 hne hb0 hv hw HR hlk
     go_wp2
     obtain ⟨hbb, hgr⟩ := blk2 (v0 := .int .i64 0) (v1 := .slice VA (k + 1) vc) HB0.out
     refine bodyPost_ret (results_cell_row (p := 4) (ty := 31) rfl _ _ w.heap.size 31 _ (0, 0) _ rfl hbb Tryz.underlying31 rfl (by kernel_rfl)) rfl ?_
     have hsz := hgr.size
     refine ⟨_, rfl, ?_, Below.grown HW.out hgr HW.out.size (fun r e => by injection e with e; omega)⟩
     have h1 := VRow.fresh (b0 := w.heap.size + 1) HV.out (by omega) (by omega)
     rw [List.take_of_length_le (by rw [LN.out]; exact Nat.le_refl _)] at h1
     exact h1.keep (fun b hb => ⟨by omega, Nat.lt_of_lt_of_le hb.2 hsz⟩) (fun p hp => World.cell?_of_block (hgr.block p.block hp.2 (fun e => by injection e with e; omega)))
structure PrB (ops : Array Oper) (N : Nat) (D : Nat → Nat) (a0 : Act) (p : Nat) (R : Bool → World → Prop) (V : Nat → Value → World → Prop) (l : Array Bool) (a : Act) (w : World) : Prop where
 lz : l.size = ops.size
 df : a.defers = a0.defers
 sz : a.tmps.size = a0.tmps.size
 oth : ∀ d, (∀ i, i < N → D i ≠ d) → a.tmps[d]?.getD undef = a0.tmps[d]?.getD undef
 rw : R (l.getD p false) w
 vs : ∀ i, i < N → l.getD i false = true → V i (a.tmps[D i]?.getD undef) w
 cl : ∀ i m, i < N → l.getD i false = true → depB ops i m = true → l.getD m false = true
theorem wp_region_prodB {P : Program} {ops : Array Oper} {Q : Exit → Act → World → Prop} {id : Nat} {a0 : Act} {w : World} (hm : P.follows .mixedOrders = true) (N : Nat) (hN : ops.size = N + 1) (D : Nat → Nat) (hD : ∀ i j, i < N → j < N → D i = D j → i = j) (hDs : ∀ i, i < N → D i < a0.tmps.size)
   (p : Nat) (hp : p < N) (R : Bool → World → Prop) (S : Nat → World → World → Prop) (V : Nat → Value → World → Prop) (h0 : R false w.drew) (hst : ∀ i j v W W', i < N → j < N → i ≠ j → V i v W → S j W W' → V i v W') (hu : usedB ops N = true) (hac : acycB ops = true)
   (hstep : ∀ i, i < N → ∀ b a W, (i = p → b = false) → R b W → (∀ d, (∀ j, j < N → D j ≠ d) → a.tmps[d]?.getD undef = a0.tmps[d]?.getD undef) → (∀ m, m < N → depB ops i m = true → V m (a.tmps[D m]?.getD undef) W) →
     ∀ K : Act → World → Prop, (∀ v W', V i v W' → R (b || i == p) W' → S i W W' → K (a.put (some (D i)) v) W') → ∃ o, ops[i]? = some o ∧ o.guard = none ∧ o.wp P a W K Q)
   (hlast : ∀ a W, a.defers = a0.defers → a.tmps.size = a0.tmps.size → R true W → (∀ d, (∀ j, j < N → D j ≠ d) → a.tmps[d]?.getD undef = a0.tmps[d]?.getD undef) → (∀ i, i < N → V i (a.tmps[D i]?.getD undef) W) → ∃ o, ops[N]? = some o ∧ o.guard = none ∧ o.wp P a W (fun a' w' => Q .normal a' w') Q) :
   (Code.region id ops true).wp P Q a0 w := by
 refine wp_region_inv hm (fun l a W => (l.getD N false = false ∧ PrB ops N D a0 p R V l a W) ∨ (l.getD N false = true ∧ (∀ i, i < N → l.getD i false = true) ∧ l.size = ops.size ∧ Q .normal a W)) ?_ ?_ ?_
 · rintro l a W (⟨hnl, h⟩ | ⟨hnl, hall, hlz, hq⟩) i hi
   · obtain ⟨hun, o, ho, -⟩ := mem_ready.1 hi
     have hi5 : i < ops.size := by
       rcases Nat.lt_or_ge i ops.size with h' | h'
       · exact h'
       · simp [Array.getElem?_eq_none h'] at ho
     have hil : i < l.size := by rw [h.lz]; exact hi5
     have hnot : l.getD i false = false := by simp [hil] at hun ⊢; exact hun
     have hz' : (l.setIfInBounds i true).size = ops.size := by simpa using h.lz
     by_cases hiN : i < N
     · have hRb : ∀ W', R (l.getD p false || i == p) W' → R ((l.setIfInBounds i true).getD p false) W' := fun W' h => by
         by_cases e : i = p
         · subst e; simp [hil] at h ⊢; exact h
         · rw [_root_.Go.getD_set_ne false e]; rwa [beq_eq_false_iff_ne.2 e, Bool.or_false] at h
       have hK : ∀ v W', V i v W' → R (l.getD p false || i == p) W' → S i W W' → ((l.setIfInBounds i true).getD N false = false ∧ PrB ops N D a0 p R V (l.setIfInBounds i true) (a.put (some (D i)) v) W') ∨ ((l.setIfInBounds i true).getD N false = true ∧ (∀ j, j < N → (l.setIfInBounds i true).getD j false = true) ∧ (l.setIfInBounds i true).size = ops.size ∧ Q .normal (a.put (some (D i)) v) W') := fun v W' hv hR hS => .inl ⟨by rw [_root_.Go.getD_set_ne false (by omega)]; exact hnl, by
         have hlt : D i < a.tmps.size := by rw [h.sz]; exact hDs i hiN
         refine ⟨hz', h.df, by rw [put_size]; exact h.sz, fun d hd => ?_, hRb _ hR, fun j hj hl => ?_, fun j m hj hl hd => ?_⟩
         · rw [put_getD hlt, if_neg (fun e => hd i hiN e.symm)]; exact h.oth d hd
         · rw [put_getD hlt]
           by_cases e : j = i
           · subst e; rw [if_pos rfl]; exact hv
           · rw [if_neg (fun e2 => e (hD j i hj hiN e2))]
             rw [_root_.Go.getD_set_ne false (Ne.symm e)] at hl
             exact hst j i _ W W' hj hiN e (h.vs j hj hl) hS
         · have hset : ∀ m, l.getD m false = true → (l.setIfInBounds i true).getD m false = true := fun m hm => getD_set_true hm
           by_cases e : j = i
           · subst e; exact hset m (dep_listed hd hi)
           · rw [_root_.Go.getD_set_ne false (Ne.symm e)] at hl
             exact hset m (h.cl j m hj hl hd)⟩
       obtain ⟨o', ho', hg, hw⟩ := hstep i hiN (l.getD p false) a W (fun e => by subst e; exact hnot) h.rw h.oth (fun m hm hd => h.vs m hm (dep_listed hd hi)) (fun a' w' => ((l.setIfInBounds i true).getD N false = false ∧ PrB ops N D a0 p R V (l.setIfInBounds i true) a' w') ∨ ((l.setIfInBounds i true).getD N false = true ∧ (∀ j, j < N → (l.setIfInBounds i true).getD j false = true) ∧ (l.setIfInBounds i true).size = ops.size ∧ Q .normal a' w')) hK
       exact wpOp_of ho' hg hw
     · obtain rfl : i = N := by omega
       have hall : ∀ k j, j < i → i - j ≤ k → l.getD j false = true := by
         intro k
         induction k with
         | zero => intro j hj hk; omega
         | succ k ih =>
           intro j hj hk
           have h1 := List.all_eq_true.1 hu j (List.mem_range.2 hj)
           rw [Bool.or_eq_true] at h1
           rcases h1 with h1 | h1
           · exact dep_listed h1 hi
           · obtain ⟨q, hq, h2⟩ := List.any_eq_true.1 h1
             rw [Bool.and_eq_true, decide_eq_true_eq] at h2
             have hqi := List.mem_range.1 hq
             exact h.cl q j hqi (ih q hqi (by omega)) h2.2
       have hall' : ∀ j, j < i → l.getD j false = true := fun j hj => hall (i - j) j hj (Nat.le_refl _)
       obtain ⟨o', ho', hg, hw⟩ := hlast a W h.df h.sz (by have := h.rw; rwa [hall' p hp] at this) h.oth (fun j hj => h.vs j hj (hall' j hj))
       refine wpOp_of ho' hg (Oper.wp_mono (fun a' w' hq => .inr ⟨by simp [hil], fun j hj => getD_set_true (hall' j hj), hz', hq⟩) hw)
   · exfalso
     obtain ⟨hun, o, ho, -⟩ := mem_ready.1 hi
     have hi5 : i < ops.size := by
       rcases Nat.lt_or_ge i ops.size with h' | h'
       · exact h'
       · simp [Array.getElem?_eq_none h'] at ho
     have hil : i < l.size := by omega
     have h1 : l.getD i false = true := by
       rcases Nat.lt_or_ge i N with h2 | h2
       · exact hall i h2
       · rw [show i = N by omega]; exact hnl
     simp [hil] at hun h1
     rw [hun] at h1; cases h1
 · rintro l a W (⟨hnl, h⟩ | ⟨hnl, hall, hlz, hq⟩) hr
   · have := all_listed hac h.lz hr N (by omega)
     rw [hnl] at this; cases this
   · exact hq
 · left
   have hno : ∀ i, (Array.replicate ops.size false).getD i false = false := fun i => by
     by_cases h : i < ops.size <;> simp [h]
   exact ⟨hno N, by simp, rfl, rfl, fun _ _ => rfl, by rw [hno p]; exact h0, (fun i _ hl => by rw [hno i] at hl; cases hl), (fun i m _ hl => by rw [hno i] at hl; cases hl)⟩
section
variable {cs ns gs : List Int} {k : Nat}
end
theorem RlIs.bw {w W : World} {p : Addr} {r : Rul} {nd gv : Value} (h : RlIs w p r nd gv) (hb : p.block < w.heap.size) (g : Bw w W) : RlIs W p r nd gv := by
 have hc : ∀ k : Nat, W.cell? ⟨p.block, k, none⟩ = w.cell? ⟨p.block, k, none⟩ := fun k => g.b.cell (p := ⟨p.block, k, none⟩) hb
 exact ⟨(g.b.cell hb).trans h.c0, (hc _).trans h.c1, (hc _).trans h.c2, (hc _).trans h.c3, (hc _).trans h.c4, (hc _).trans h.c5, (hc _).trans h.c6, (hc _).trans h.c7, (hc _).trans h.c8, (hc _).trans h.c9, (hc _).trans h.c10, (hc _).trans h.c11, (hc _).trans h.c12, (hc _).trans h.c13⟩
end
end Go.Proofs.YthhbkabdhkdafaaGreat
