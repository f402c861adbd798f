/- Part of a proof of pruneKeeps_holds. -/
import Derived.Test.YthhbkabdhkdafaaGreatVAsP
import Derived.Test.YthhbkabdhkdafaaGreatVAuP
import Derived.Deep.RegionLawGrows
set_option linter.unusedSimpArgs false
set_option linter.unusedVariables false
set_option maxRecDepth 100000
set_option maxHeartbeats 16000000
namespace Go.Proofs.YthhbkabdhkdafaaGreat
section
open Go.RowKit
theorem qconfig_any (st : Int) (cs : List Int) (s : Value) (w : World) (h : IB w w.heap.size s cs) (h9 : cs.length ≤ 1000) : Calls Tryz.prog 30 #[.int .i64 st, s] w (ValPost w (cfgV st cs)) := by
 obtain ⟨A, n, c, rfl, ln, bn, mn⟩ := h.form
 unfold maxLen at mn
 rw [ln] at h9
 have HK := Lib.hid h
 have LN := Lib.hid ln
 unfold ValPost
 rw [show (cfgV st cs).n = 0 from rfl, show (cfgV st cs).ks = V.mk st [] :: cs.map fun c => V.mk c [] from rfl]
 clear h ln
 obtain ⟨i0, hi, hz0, hz1, hz2⟩ := info_parts infoVal
 go_enter Tryz.func30, Tryz.ntmps30
 go_wp2
 have S0 : Hid (VRow (((w.alloc (.cells #[.int .i64 0, .slice none 0 0] 31)).alloc (.cells #[.int .i64 st, .slice none 0 0] 31)).alloc (.cells #[.int .i64 0, .slice (some ⟨w.heap.size + 1, 0, none⟩) 1 1] 31)) 31 (w.heap.size + 3) (w.heap.size + 1) (.slice (some ⟨w.heap.size + 1, 0, none⟩) 1 1) [V.mk st []] [.slice none 0 0]) := Lib.hid ⟨by
   have := (own_new (w.alloc (.cells #[.int .i64 0, .slice none 0 0] 31)) 31 #[.int .i64 st, .slice none 0 0] 2 (n := 1) (xs := [.int .i64 st, .slice none 0 0]) rfl rfl).alloc (.cells #[.int .i64 0, .slice (some ⟨w.heap.size + 1, 0, none⟩) 1 1] 31)
   simpa [vCells] using this, rfl, fun k h1 h2 => by
   obtain rfl : k = 0 := by simpa using h1
   exact KAt.nil _ _ (Nat.zero_le _)⟩
 have B0 : Hid (Blk (((w.alloc (.cells #[.int .i64 0, .slice none 0 0] 31)).alloc (.cells #[.int .i64 st, .slice none 0 0] 31)).alloc (.cells #[.int .i64 0, .slice (some ⟨w.heap.size + 1, 0, none⟩) 1 1] 31)) (w.heap.size + 2) 31 #[.int .i64 0, .slice (some ⟨w.heap.size + 1, 0, none⟩) 1 1] ∧ Blk (((w.alloc (.cells #[.int .i64 0, .slice none 0 0] 31)).alloc (.cells #[.int .i64 st, .slice none 0 0] 31)).alloc (.cells #[.int .i64 0, .slice (some ⟨w.heap.size + 1, 0, none⟩) 1 1] 31)) w.heap.size 31 #[.int .i64 0, .slice none 0 0]) := Lib.hid ⟨by
   have := Blk.new ((w.alloc (.cells #[.int .i64 0, .slice none 0 0] 31)).alloc (.cells #[.int .i64 st, .slice none 0 0] 31)) 31 #[.int .i64 0, .slice (some ⟨w.heap.size + 1, 0, none⟩) 1 1]
   simpa only [World.size_alloc] using this, ((Blk.new w _ _).alloc _).alloc _⟩
 go_loopw [6] (fun i wr => ∃ k : Nat, k ≤ n ∧ i = .int .i64 k ∧ Hid (∃ sv ss, Blk wr (w.heap.size + 2) 31 #[.int .i64 0, sv] ∧ sv.ownBlock ≠ some (w.heap.size + 2) ∧ Blk wr w.heap.size 31 #[.int .i64 0, .slice none 0 0] ∧ VRow wr 31 (w.heap.size + 3) (w.heap.size + 1) sv (V.mk st [] :: (cs.take k).map fun c => V.mk c []) ss ∧ Bw w wr)) (fun i _ => n - (intOf i).toNat)
 case atStart => exact ⟨0, by omega, rfl, Lib.hid ⟨_, _, B0.out.1, by simp [Value.ownBlock], B0.out.2, S0.out, ((((Bw.refl _).alloc _).alloc _).alloc _)⟩⟩
 case round =>
   clear S0 B0
   obtain ⟨k, hk, rfl, HR⟩ := hrel
   obtain ⟨sv, ss, hb2, hne, hb0, hv, hw⟩ := HR.out
   have hlk : (V.mk st [] :: (cs.take k).map fun c => V.mk c []).length = k + 1 := by simp; have := LN.out; omega
   obtain ⟨VA, vc, rfl, _, _⟩ := hv.form
   rw [hlk] at hv hb2 hne
   have p0 := hb2.cell 0
   have p1 := hb2.cell 1
   have f0 := hb2.frozen 0
   have f1 := hb2.frozen 1
   have z2 := hb2.lt
   have r0 := hb0.cell 0
   have r1 := hb0.cell 1
   have rf0 := hb0.frozen 0
   have rf1 := hb0.frozen 1
   have HB2 := Lib.hid hb2
   have HB0 := Lib.hid hb0
   have HV := Lib.hid hv
   have HW := Lib.hid hw
   have HNE := Lib.hid hne
   have HLK := Lib.hid hlk
   have hsw := hw.size
   by_cases hlt : k < n
   · have e1 : k < cs.length := by rw [LN.out]; exact hlt
     obtain ⟨ad, rfl, hb, q0⟩ := (HK.out.bw hw).at_ e1
     have HT : Hid ((V.mk st [] :: (cs.take (k + 1)).map fun c => V.mk c []) = (V.mk st [] :: (cs.take k).map fun c => V.mk c []) ++ [V.mk cs[k] []]) := Lib.hid (by rw [List.take_succ_eq_append_getElem e1, List.map_append]; rfl)
     clear hb2 hne hb0 hv hw HR hlk
     generalize cs[k] = x at *
     generalize hl : (V.mk st [] :: (cs.take k).map fun c => V.mk c []) = l at *
     clear hl
     have hkn : (k : Int) < (n : Int) := by omega
     have HOA : Hid (∀ o, (wr.alloc o).ownsRow (w.heap.size + 1) 31 2 (.slice VA (k + 1) vc) (k + 1) (vCells l ss)) := Lib.hid (fun o => by have := HV.out.own.alloc o; rwa [HLK.out] at this)
     go_wp2_with fail
     go_region_law (first
       | (refine step_append_any _ rfl (.tmp 18) (.tmp 24) 29 rfl (w.heap.size + 1) 31 i0 _ 2 32 Tryz.underlying29 hi hz0 hz1 hz2 rfl (by decide) (.slice VA (k + 1) vc) (k + 1) (vCells l ss) (by simp [Act.eval, Act.put]) (by exact own_kept_below (HOA.out _) (Bw.refl _).drew) (wr.heap.size + 1) (some ⟨wr.heap.size, 0, none⟩) 1 1 [.int .i64 x, .slice none 0 0] (by simp [Act.eval, Act.put]) (by exact (reads_new2 wr _ _ _).drew) (one2 _ _ _ _) (by unfold maxLen; omega) (by omega) (by simp; omega) ?_; intro v7 w7 hown7 hgr7 hl7; obtain ⟨A7, c7, rfl⟩ := own_form hown7; (have HO7 := Lib.hid hown7); (have HG7 := Lib.hid hgr7); (have HL7 := Lib.hid hl7); (have hb7 : Blk w7 (w.heap.size + 2) 31 #[.int .i64 0, .slice VA (k + 1) vc] := ((HB2.out.alloc _).drew).grown hgr7 (fun e => HNE.out e.symm)); (have y1 := hb7.cell 1); (have y3 := hb7.frozen 1); (have y4 := hb7.lt); (have HB7 := Lib.hid hb7); clear hown7 hgr7 hl7 hb7))
     all_goals
       go_wp2
       go_roundw
       case rel =>
         have hbw7 : Bw w w7 := Below.grown (HW.out.alloc _).drew HG7.out (by simp; omega) (fun r e => by have := (HV.out.own.lt r e).1; omega)
         have e1 := grownBy_setCell (p := ⟨w.heap.size + 2, 1, none⟩) (World.grownBy.refl w7 (some (w.heap.size + 2))) (.inl rfl) (.slice A7 (k + 1 + 1) c7)
         have hne7 : (Value.slice A7 (k + 1 + 1) c7).ownBlock ≠ some (w.heap.size + 2) := by
           rcases HL7.out with e | e
           · rw [e]; exact HNE.out
           · rw [e]; intro e2; injection e2 with e2; simp at e2; omega
         have h1 := (HV.out.bw (((Bw.refl wr).alloc (.cells #[.int .i64 x, .slice none 0 0] 31)).drew)).push (x := .mk x []) (s := .slice none 0 0) (KAt.nil _ _ (Nat.zero_le _)) (by rw [HLK.out]; exact HO7.out) HG7.out HL7.out
         refine ⟨k + 1, by omega, by go_num, Lib.hid ⟨.slice A7 (k + 1 + 1) c7, ss ++ [.slice none 0 0], blk_set (i := 1) (.slice A7 (k + 1 + 1) c7) HB7.out, hne7, ?_, ?_, Below.grown hbw7 e1 hbw7.size (fun r e => by injection e with e; omega)⟩⟩
         · exact ((((HB0.out.alloc _).drew).grown HG7.out (fun e => by have := (HV.out.own.lt _ e.symm).1; omega)).far (by dsimp only; omega) _)
         · rw [HT.out]
           exact h1.keep e1 (fun r e => by injection e with e; subst e; exact ⟨hne7, by omega⟩)
       case measure => simp [intOf]; omega
   · obtain rfl : k = n := by omega
     clear hb2 hne hb0 hv hw HR hlk
     go_wp2
     obtain ⟨hbb, hgr⟩ := blk2 (v0 := .int .i64 0) (v1 := .slice VA (k + 1) vc) HB0.out
     refine bodyPost_ret (results_cell_row (p := 4) (ty := 31) rfl _ _ w.heap.size 31 _ (0, 0) _ rfl hbb Tryz.underlying31 rfl (by kernel_rfl)) rfl ?_
     have hsz := hgr.size
     refine ⟨_, rfl, ?_, Below.grown HW.out hgr HW.out.size (fun r e => by injection e with e; omega)⟩
     have h1 := VRow.fresh (b0 := w.heap.size + 1) HV.out (by omega) (by omega)
     rw [List.take_of_length_le (by rw [LN.out]; exact Nat.le_refl _)] at h1
     exact h1.keep (fun b hb => ⟨by omega, Nat.lt_of_lt_of_le hb.2 hsz⟩) (fun p hp => World.cell?_of_block (hgr.block p.block hp.2 (fun e => by injection e with e; omega)))
theorem KAt.pairs {w : World} {S : Nat → Prop} {A : Option Addr} {n c : Nat} {l : List V} (h : KAt w S (.slice A n c) l) :
   ∃ ps : List VS, ps.map (·.1) = l ∧ (∀ b, A = some b → ∀ j u, (pCells ps)[j]? = some u → w.cell? (b.add j) = some u ∧ S b.block) ∧ (∀ p ∈ ps, KAt w S p.2 p.1.ks) := by
 cases h with
 | mk _ _ _ _ ss hl hs hc hm ha hk =>
   refine ⟨l.zip ss, ?_, ?_, ?_⟩
   · rw [List.map_fst_zip (by omega)]
   · intro b hb j u hu
     have hj : j < n * 2 := by
       have : j < (pCells (l.zip ss)).length := by
         rcases Nat.lt_or_ge j (pCells (l.zip ss)).length with h | h
         · exact h
         · rw [List.getElem?_eq_none h] at hu; cases hu
       rw [pCells_length, List.length_zip] at this; omega
     obtain ⟨ad, rfl, hS, h2⟩ := ha (by omega)
     obtain rfl : ad = b := Option.some.inj hb
     refine ⟨?_, hS⟩
     have hk2 : j / 2 < (l.zip ss).length := by rw [List.length_zip]; omega
     have h3 := h2 (j / 2) (by omega) (by omega)
     have h4 := pCells_get hk2
     have e := Nat.div_add_mod j 2
     rcases Nat.mod_two_eq_zero_or_one j with h0 | h0
     · have e1 : j / 2 * 2 = j := by omega
       rw [e1] at h3 h4
       rw [h3.1, ← hu, h4.1]; simp
     · have e1 : j = j / 2 * 2 + 1 := by omega
       rw [e1] at hu ⊢
       rw [h4.2] at hu
       have := add_off ad (j / 2 * 2) 0
       rw [Nat.zero_add] at this
       rw [this, ← hu, h3.2]; simp
   · intro p hp
     obtain ⟨k, hk1, rfl⟩ := List.getElem_of_mem hp
     rw [List.length_zip] at hk1
     have := hk k (by omega) (by omega)
     simpa using this
end
end Go.Proofs.YthhbkabdhkdafaaGreat
