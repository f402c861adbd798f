/- Part of a proof of coverSearches_holds. -/
import Derived.Test.YthhbkabdhkdafaaGreatVAyP
set_option linter.unusedSimpArgs false
set_option linter.unusedVariables false
set_option maxRecDepth 100000
set_option maxHeartbeats 16000000
namespace Go.Proofs.YthhbkabdhkdafaaGreat
section
open Go.RowKit
theorem qconfig_any (st : Int) (cs : List Int) (s : Value) (w : World) (h : IB w w.heap.size s cs) (h9 : cs.length ≤ 1000) : Calls Tryz.prog 30 #[.int .i64 st, s] w (ValPost w (cfgV st cs)) := by
 obtain ⟨A, n, c, rfl, ln, bn, mn⟩ := h.form
 unfold maxLen at mn
 rw [ln] at h9
 have HK := Lib.hid h
 have LN := Lib.hid ln
 unfold ValPost
 rw [show (cfgV st cs).n = 0 from rfl, show (cfgV st cs).ks = V.mk st [] :: cs.map fun c => V.mk c [] from rfl]
 clear h ln
 obtain ⟨i0, hi, hz0, hz1, hz2⟩ := info_parts infoVal
 go_enter Tryz.func30, Tryz.ntmps30
 go_wp2
 have S0 : Hid (VRow (((w.alloc (.cells #[.int .i64 0, .slice none 0 0] 31)).alloc (.cells #[.int .i64 st, .slice none 0 0] 31)).alloc (.cells #[.int .i64 0, .slice (some ⟨w.heap.size + 1, 0, none⟩) 1 1] 31)) 31 (w.heap.size + 3) (w.heap.size + 1) (.slice (some ⟨w.heap.size + 1, 0, none⟩) 1 1) [V.mk st []] [.slice none 0 0]) := Lib.hid ⟨by
   have := (own_new (w.alloc (.cells #[.int .i64 0, .slice none 0 0] 31)) 31 #[.int .i64 st, .slice none 0 0] 2 (n := 1) (xs := [.int .i64 st, .slice none 0 0]) rfl rfl).alloc (.cells #[.int .i64 0, .slice (some ⟨w.heap.size + 1, 0, none⟩) 1 1] 31)
   simpa [vCells] using this, rfl, fun k h1 h2 => by
   obtain rfl : k = 0 := by simpa using h1
   exact KAt.nil _ _ (Nat.zero_le _)⟩
 have B0 : Hid (Blk (((w.alloc (.cells #[.int .i64 0, .slice none 0 0] 31)).alloc (.cells #[.int .i64 st, .slice none 0 0] 31)).alloc (.cells #[.int .i64 0, .slice (some ⟨w.heap.size + 1, 0, none⟩) 1 1] 31)) (w.heap.size + 2) 31 #[.int .i64 0, .slice (some ⟨w.heap.size + 1, 0, none⟩) 1 1] ∧ Blk (((w.alloc (.cells #[.int .i64 0, .slice none 0 0] 31)).alloc (.cells #[.int .i64 st, .slice none 0 0] 31)).alloc (.cells #[.int .i64 0, .slice (some ⟨w.heap.size + 1, 0, none⟩) 1 1] 31)) w.heap.size 31 #[.int .i64 0, .slice none 0 0]) := Lib.hid ⟨by
   have := Blk.new ((w.alloc (.cells #[.int .i64 0, .slice none 0 0] 31)).alloc (.cells #[.int .i64 st, .slice none 0 0] 31)) 31 #[.int .i64 0, .slice (some ⟨w.heap.size + 1, 0, none⟩) 1 1]
   simpa only [World.size_alloc] using this, ((Blk.new w _ _).alloc _).alloc _⟩
 go_loopw [6] (fun i wr => ∃ k : Nat, k ≤ n ∧ i = .int .i64 k ∧ Hid (∃ sv ss, Blk wr (w.heap.size + 2) 31 #[.int .i64 0, sv] ∧ sv.ownBlock ≠ some (w.heap.size + 2) ∧ Blk wr w.heap.size 31 #[.int .i64 0, .slice none 0 0] ∧ VRow wr 31 (w.heap.size + 3) (w.heap.size + 1) sv (V.mk st [] :: (cs.take k).map fun c => V.mk c []) ss ∧ Bw w wr)) (fun i _ => n - (intOf i).toNat)
 case atStart => exact ⟨0, by omega, rfl, Lib.hid ⟨_, _, B0.out.1, by simp [Value.ownBlock], B0.out.2, S0.out, ((((Bw.refl _).alloc _).alloc _).alloc _)⟩⟩
 case round =>
   clear S0 B0
   obtain ⟨k, hk, rfl, HR⟩ := hrel
   obtain ⟨sv, ss, hb2, hne, hb0, hv, hw⟩ := HR.out
   have hlk : (V.mk st [] :: (cs.take k).map fun c => V.mk c []).length = k + 1 := by simp; have := LN.out; omega
   obtain ⟨VA, vc, rfl, _, _⟩ := hv.form
   rw [hlk] at hv hb2 hne
   have p0 := hb2.cell 0
   have p1 := hb2.cell 1
   have f0 := hb2.frozen 0
   have f1 := hb2.frozen 1
   have z2 := hb2.lt
   have r0 := hb0.cell 0
   have r1 := hb0.cell 1
   have rf0 := hb0.frozen 0
   have rf1 := hb0.frozen 1
   have HB2 := Lib.hid hb2
   have HB0 := Lib.hid hb0
   have HV := Lib.hid hv
   have HW := Lib.hid hw
   have HNE := Lib.hid hne
   have HLK := Lib.hid hlk
   have hsw := hw.size
   by_cases hlt : k < n
   · have e1 : k < cs.length := by rw [LN.out]; exact hlt
     obtain ⟨ad, rfl, hb, q0⟩ := (HK.out.bw hw).at_ e1
     have HT : Hid ((V.mk st [] :: (cs.take (k + 1)).map fun c => V.mk c []) = (V.mk st [] :: (cs.take k).map fun c => V.mk c []) ++ [V.mk cs[k] []]) := Lib.hid (by rw [List.take_succ_eq_append_getElem e1, List.map_append]; rfl)
     clear hb2 hne hb0 hv hw HR hlk
     generalize cs[k] = x at *
     generalize hl : (V.mk st [] :: (cs.take k).map fun c => V.mk c []) = l at *
     clear hl
     have hkn : (k : Int) < (n : Int) := by omega
     have HOA : Hid (∀ o, (wr.alloc o).ownsRow (w.heap.size + 1) 31 2 (.slice VA (k + 1) vc) (k + 1) (vCells l ss)) := Lib.hid (fun o => by have := HV.out.own.alloc o; rwa [HLK.out] at this)
     go_wp2_with fail
     go_region_law (first
       | (refine step_append_any _ rfl (.tmp 18) (.tmp 24) 29 rfl (w.heap.size + 1) 31 i0 _ 2 32 Tryz.underlying29 hi hz0 hz1 hz2 rfl (by decide) (.slice VA (k + 1) vc) (k + 1) (vCells l ss) (by simp [Act.eval, Act.put]) (by exact own_kept_below (HOA.out _) (Bw.refl _).drew) (wr.heap.size + 1) (some ⟨wr.heap.size, 0, none⟩) 1 1 [.int .i64 x, .slice none 0 0] (by simp [Act.eval, Act.put]) (by exact (reads_new2 wr _ _ _).drew) (one2 _ _ _ _) (by unfold maxLen; omega) (by omega) (by simp; omega) ?_; intro v7 w7 hown7 hgr7 hl7; obtain ⟨A7, c7, rfl⟩ := own_form hown7; (have HO7 := Lib.hid hown7); (have HG7 := Lib.hid hgr7); (have HL7 := Lib.hid hl7); (have hb7 : Blk w7 (w.heap.size + 2) 31 #[.int .i64 0, .slice VA (k + 1) vc] := ((HB2.out.alloc _).drew).grown hgr7 (fun e => HNE.out e.symm)); (have y1 := hb7.cell 1); (have y3 := hb7.frozen 1); (have y4 := hb7.lt); (have HB7 := Lib.hid hb7); clear hown7 hgr7 hl7 hb7))
     all_goals
       go_wp2
       go_roundw
       case rel =>
         have hbw7 : Bw w w7 := Below.grown (HW.out.alloc _).drew HG7.out (by simp; omega) (fun r e => by have := (HV.out.own.lt r e).1; omega)
         have e1 := grownBy_setCell (p := ⟨w.heap.size + 2, 1, none⟩) (World.grownBy.refl w7 (some (w.heap.size + 2))) (.inl rfl) (.slice A7 (k + 1 + 1) c7)
         have hne7 : (Value.slice A7 (k + 1 + 1) c7).ownBlock ≠ some (w.heap.size + 2) := by
           rcases HL7.out with e | e
           · rw [e]; exact HNE.out
           · rw [e]; intro e2; injection e2 with e2; simp at e2; omega
         have h1 := (HV.out.bw (((Bw.refl wr).alloc (.cells #[.int .i64 x, .slice none 0 0] 31)).drew)).push (x := .mk x []) (s := .slice none 0 0) (KAt.nil _ _ (Nat.zero_le _)) (by rw [HLK.out]; exact HO7.out) HG7.out HL7.out
         refine ⟨k + 1, by omega, by go_num, Lib.hid ⟨.slice A7 (k + 1 + 1) c7, ss ++ [.slice none 0 0], blk_set (i := 1) (.slice A7 (k + 1 + 1) c7) HB7.out, hne7, ?_, ?_, Below.grown hbw7 e1 hbw7.size (fun r e => by injection e with e; omega)⟩⟩
         · exact ((((HB0.out.alloc _).drew).grown HG7.out (fun e => by have := (HV.out.own.lt _ e.symm).1; omega)).far (by dsimp only; omega) _)
         · rw [HT.out]
           exact h1.keep e1 (fun r e => by injection e with e; subst e; exact ⟨hne7, by omega⟩)
       case measure => simp [intOf]; omega
   · obtain rfl : k = n := by omega
     clear hb2 hne hb0 hv hw HR hlk
     go_wp2
     obtain ⟨hbb, hgr⟩ := blk2 (v0 := .int .i64 0) (v1 := .slice VA (k + 1) vc) HB0.out
     refine bodyPost_ret (results_cell_row (p := 4) (ty := 31) rfl _ _ w.heap.size 31 _ (0, 0) _ rfl hbb Tryz.underlying31 rfl (by kernel_rfl)) rfl ?_
     have hsz := hgr.size
     refine ⟨_, rfl, ?_, Below.grown HW.out hgr HW.out.size (fun r e => by injection e with e; omega)⟩
     have h1 := VRow.fresh (b0 := w.heap.size + 1) HV.out (by omega) (by omega)
     rw [List.take_of_length_le (by rw [LN.out]; exact Nat.le_refl _)] at h1
     exact h1.keep (fun b hb => ⟨by omega, Nat.lt_of_lt_of_le hb.2 hsz⟩) (fun p hp => World.cell?_of_block (hgr.block p.block hp.2 (fun e => by injection e with e; omega)))
theorem qtypeOf_any (m : Mdl) (hm : MdlOk m) (sv pv rv kv : Value) (w : World) (h : MB w w.heap.size sv pv rv kv m) : Calls Tryz.prog 36 #[aggM sv pv rv kv] w (TypePost w m.t) := by
 obtain ⟨A1, c1, A2, c2, A3, c3, A4, c4, rfl, rfl, rfl, rfl⟩ := h.form
 have hb1 := hm.n1.2
 have hb2 := hm.k1.2
 unfold aggM
 have HT : Hid (m.t = typF m.ss.length m.ps.length) := Lib.hid rfl
 rw [HT.out]
 clear h hm HT
 generalize m.ss.length = n at *
 generalize m.ps.length = k0 at *
 generalize m.rs.length = q at *
 generalize 1 + m.cs.length = z at *
 obtain ⟨i0, hi, hz0, hz1, hz2⟩ := info_parts infoType
 unfold TypePost
 rw [show (typF n k0).parts = labT n :: List.replicate k0 natT from rfl]
 go_enter Tryz.func36, Tryz.ntmps36
 go_wp2
 have HX : Hid (∀ W, Bw ((w.alloc (.cells #[.int .i64 1, .slice A1 n c1, .slice A2 k0 c2, .slice none 0 0, .slice none 0 0, .int .i64 0, .int .i64 0, .slice A3 q c3, .int .i64 0, .slice A4 z c4] 33)).alloc (.cells #[.int .i64 0, .int .i64 0, .slice none 0 0, .slice none 0 0] 50)) W → Blk W w.heap.size 33 #[.int .i64 1, .slice A1 n c1, .slice A2 k0 c2, .slice none 0 0, .slice none 0 0, .int .i64 0, .int .i64 0, .slice A3 q c3, .int .i64 0, .slice A4 z c4] ∧ Blk W (w.heap.size + 1) 50 #[.int .i64 0, .int .i64 0, .slice none 0 0, .slice none 0 0]) := Lib.hid (fun W g => ((box2 w _ _ _ _).2 W g).2)
 have HE0 : ERow encF (((w.alloc (.cells #[.int .i64 1, .slice A1 n c1, .slice A2 k0 c2, .slice none 0 0, .slice none 0 0, .int .i64 0, .int .i64 0, .slice A3 q c3, .int .i64 0, .slice A4 z c4] 33)).alloc (.cells #[.int .i64 0, .int .i64 0, .slice none 0 0, .slice none 0 0] 50)).alloc (.cells #[.int .i64 2, .int .i64 (n : Int), .slice none 0 0, .slice none 0 0] 50)) 50 (w.heap.size + 1 + 1) (fun _ => False) (.slice (some ⟨w.heap.size + 1 + 1, 0, none⟩) 1 1) [labT n] := ⟨by
   have := own_new ((w.alloc (.cells #[.int .i64 1, .slice A1 n c1, .slice A2 k0 c2, .slice none 0 0, .slice none 0 0, .int .i64 0, .int .i64 0, .slice A3 q c3, .int .i64 0, .slice A4 z c4] 33)).alloc (.cells #[.int .i64 0, .int .i64 0, .slice none 0 0, .slice none 0 0] 50)) 50 #[.int .i64 2, .int .i64 (n : Int), .slice none 0 0, .slice none 0 0] 4 (n := 1) rfl rfl
   simp only [World.size_alloc] at this; exact this, fun x _ q hq => by cases hq⟩
 have HT0 : Blk ((((w.alloc (.cells #[.int .i64 1, .slice A1 n c1, .slice A2 k0 c2, .slice none 0 0, .slice none 0 0, .int .i64 0, .int .i64 0, .slice A3 q c3, .int .i64 0, .slice A4 z c4] 33)).alloc (.cells #[.int .i64 0, .int .i64 0, .slice none 0 0, .slice none 0 0] 50)).alloc (.cells #[.int .i64 2, .int .i64 (n : Int), .slice none 0 0, .slice none 0 0] 50)).alloc (.cells #[.int .i64 3, .int .i64 0, .slice none 0 0, .slice (some ⟨w.heap.size + 1 + 1, 0, none⟩) 1 1] 50)) (w.heap.size + 1 + 1 + 1) 50 #[.int .i64 3, .int .i64 0, .slice none 0 0, .slice (some ⟨w.heap.size + 1 + 1, 0, none⟩) 1 1] := by
   have := Blk.new (((w.alloc (.cells #[.int .i64 1, .slice A1 n c1, .slice A2 k0 c2, .slice none 0 0, .slice none 0 0, .int .i64 0, .int .i64 0, .slice A3 q c3, .int .i64 0, .slice A4 z c4] 33)).alloc (.cells #[.int .i64 0, .int .i64 0, .slice none 0 0, .slice none 0 0] 50)).alloc (.cells #[.int .i64 2, .int .i64 (n : Int), .slice none 0 0, .slice none 0 0] 50)) 50 #[.int .i64 3, .int .i64 0, .slice none 0 0, .slice (some ⟨w.heap.size + 1 + 1, 0, none⟩) 1 1]
   simpa only [World.size_alloc] using this
 refine wp_world (fun W => Hid (Bw ((w.alloc (.cells #[.int .i64 1, .slice A1 n c1, .slice A2 k0 c2, .slice none 0 0, .slice none 0 0, .int .i64 0, .int .i64 0, .slice A3 q c3, .int .i64 0, .slice A4 z c4] 33)).alloc (.cells #[.int .i64 0, .int .i64 0, .slice none 0 0, .slice none 0 0] 50)) W ∧ ERow encF W 50 (w.heap.size + 1 + 1) (fun _ => False) (.slice (some ⟨w.heap.size + 1 + 1, 0, none⟩) 1 1) [labT n] ∧ Blk W (w.heap.size + 1 + 1 + 1) 50 #[.int .i64 3, .int .i64 0, .slice none 0 0, .slice (some ⟨w.heap.size + 1 + 1, 0, none⟩) 1 1])) (Lib.hid ⟨((((Bw.refl _).alloc _).alloc _).alloc _), ((HE0.bw (D' := fun _ => False) (((Bw.refl _).alloc _).alloc _) (fun b hb => hb.elim))), HT0.alloc _⟩) ?_
 clear HE0 HT0
 intro W HW
 obtain ⟨hW1, hW2, hW3⟩ := HW.out
 have HW1 : Hid (Bw ((w.alloc (.cells #[.int .i64 1, .slice A1 n c1, .slice A2 k0 c2, .slice none 0 0, .slice none 0 0, .int .i64 0, .int .i64 0, .slice A3 q c3, .int .i64 0, .slice A4 z c4] 33)).alloc (.cells #[.int .i64 0, .int .i64 0, .slice none 0 0, .slice none 0 0] 50)) W) := Lib.hid hW1
 have hW3l := hW3.lt
 go_loopw [8] (fun i wr => ∃ k : Nat, k ≤ k0 ∧ i = .int .i64 k ∧ Hid (∃ sv, ERow encF wr 50 (w.heap.size + 1 + 1) (fun _ => False) sv (labT n :: List.replicate k natT) ∧ Blk wr (w.heap.size + 1 + 1 + 1) 50 #[.int .i64 3, .int .i64 0, .slice none 0 0, sv] ∧ sv.ownBlock ≠ some (w.heap.size + 1 + 1 + 1) ∧ Bw ((w.alloc (.cells #[.int .i64 1, .slice A1 n c1, .slice A2 k0 c2, .slice none 0 0, .slice none 0 0, .int .i64 0, .int .i64 0, .slice A3 q c3, .int .i64 0, .slice A4 z c4] 33)).alloc (.cells #[.int .i64 0, .int .i64 0, .slice none 0 0, .slice none 0 0] 50)) wr ∧ W.heap.size ≤ wr.heap.size)) (fun i _ => k0 - (intOf i).toNat)
 case atStart => exact ⟨0, by omega, rfl, Lib.hid ⟨_, hW2, hW3, by simp [Value.ownBlock], hW1, Nat.le_refl _⟩⟩
 case round =>
   clear hW1 hW2 hW3 HW
   obtain ⟨k, hk, rfl, HR⟩ := hrel
   obtain ⟨sv, he, hb, hne, hg, hsz⟩ := HR.out
   obtain ⟨VA, vc, rfl, vb1, vb2⟩ := he.form
   have hln : (labT n :: List.replicate k natT).length = k + 1 := by simp
   rw [hln] at hb hne
   obtain ⟨bm, bz⟩ := HX.out wr hg
   have p0 := bm.cell 2
   have pl := bm.lt
   have t0 := hb.cell 0
   have t1 := hb.cell 1
   have t2 := hb.cell 2
   have t3 := hb.cell 3
   have tf3 := hb.frozen 3
   have tl := hb.lt
   have HE := Lib.hid he
   have HB := Lib.hid hb
   have HNE := Lib.hid hne
   have HG := Lib.hid hg
   have HBZ := Lib.hid bz
   rw [hln] at HE
   have HO : Hid (wr.ownsRow (w.heap.size + 1 + 1) 50 4 (.slice VA (k + 1) vc) (k + 1) ((labT n :: List.replicate k natT).flatMap encF.enc)) := Lib.hid (by have := HE.out.own; rwa [hln] at this)
   by_cases hlt : k < k0
   · have HT : Hid (labT n :: List.replicate (k + 1) natT = (labT n :: List.replicate k natT) ++ [natT]) := Lib.hid (by rw [List.replicate_succ']; rfl)
     have HLN := Lib.hid hln
     have p1 := bm.cell 0
     clear he hb hne hg HR bm bz hln
     generalize (labT n :: List.replicate k natT) = xs at *
     generalize hcl : xs.flatMap encF.enc = cl at *
     have HCL := Lib.hid hcl
     clear hcl
     go_wp2_with (at_builtin; go_must (refine wpList_append_any _ rfl _ _ 48 rfl (w.heap.size + 1 + 1) 50 i0 _ 4 64 Tryz.underlying48 hi hz0 hz1 hz2 rfl (by decide) (.slice VA (k + 1) vc) (k + 1) cl rfl ((HO.out.alloc _).alloc _) (wr.heap.size + 1 + 1) (some ⟨wr.heap.size + 1, 0, none⟩) 1 1 [.int .i64 1, .int .i64 0, .slice none 0 0, .slice none 0 0] rfl (by have := reads_new4 (wr.alloc (.cells #[.int .i64 1, .int .i64 0, .slice none 0 0, .slice none 0 0] 50)) 50 1 0 (.slice none 0 0) (.slice none 0 0); simpa only [World.size_alloc] using this) (one4 _ _ _ _ _ _ _ _) (by unfold maxLen; omega) (by omega) (by simp; omega) ?_; intro v7 w7 hown7 hgr7 hl7; obtain ⟨A7, c7, rfl⟩ := own_form hown7; (have HO7 := Lib.hid hown7); (have HG8 := Lib.hid hgr7); (have HL7 := Lib.hid hl7); (have hb7 := ((HB.out.alloc _).alloc _).grown hgr7 (fun e => HNE.out e.symm)); (have y3 := hb7.cell 3); (have yf3 := hb7.frozen 3); (have yl := hb7.lt); (have HB7 := Lib.hid hb7); clear hown7 hgr7 hl7 hb7))
     go_roundw
     case rel =>
       have hne7 : (Value.slice A7 (k + 1 + 1) c7).ownBlock ≠ some (w.heap.size + 1 + 1 + 1) := by
         rcases HL7.out with e | e
         · rw [e]; exact HNE.out
         · rw [e]; intro e2; injection e2 with e2; simp at e2; omega
       have e1 := grownBy_setCell (p := ⟨w.heap.size + 1 + 1 + 1, 3, none⟩) (World.grownBy.refl w7 (some (w.heap.size + 1 + 1 + 1))) (.inl rfl) (.slice A7 (k + 1 + 1) c7)
       have hbw7 := Below.grown ((HG.out.alloc (.cells #[.int .i64 1, .int .i64 0, .slice none 0 0, .slice none 0 0] 50)).alloc (.cells #[.int .i64 1, .int .i64 0, .slice none 0 0, .slice none 0 0] 50)) HG8.out (by have := HG.out.size; simp at this ⊢; omega) (fun r e => by have := (HO.out.lt r e).1; simp; omega)
       have h1 := (HE.out.bw (D' := fun _ => False) (((Bw.refl wr).alloc _).alloc _) (fun b hb => hb.elim)).push (x := natT) (v' := .slice A7 (k + 1 + 1) c7) (W := w7) (D' := fun _ => False) (fun q hq => by cases hq) (by
           have := HO7.out
           rw [← HCL.out] at this
           rw [HLN.out]
           exact this) HG8.out (fun b hb => hb.elim)
       refine ⟨k + 1, by omega, by go_num, Lib.hid ⟨.slice A7 (k + 1 + 1) c7, ?_, blk_set (i := 3) _ HB7.out, hne7, hbw7.setCell (p := ⟨w.heap.size + 1 + 1 + 1, 3, none⟩) (by simp) _, ?_⟩⟩
       · rw [HT.out]
         exact h1.keep (D' := fun _ => False) e1 (.inr (fun e => hne7 e.symm)) (fun b hb => hb.elim)
       · have := HG8.out.size
         simp at this ⊢; omega
     case measure => simp [intOf]; omega
   · obtain rfl : k = k0 := by omega
     have f0 := HBZ.out.cell 0
     have f1 := HBZ.out.cell 1
     have f2 := HBZ.out.cell 2
     have f3 := HBZ.out.cell 3
     have g0 := HBZ.out.frozen 0
     have g1 := HBZ.out.frozen 1
     have g2 := HBZ.out.frozen 2
     have g3 := HBZ.out.frozen 3
     have hlz := HBZ.out.lt
     clear he hb hne hg HR bm bz hln
     go_wp2
     obtain ⟨hbb, hgr⟩ := blk4 (v0 := .int .i64 3) (v1 := .int .i64 0) (v2 := .slice none 0 0) (v3 := .slice VA (k + 1) vc) HBZ.out
     refine bodyPost_ret (results_cell_row (p := 2) (ty := 50) rfl _ _ (w.heap.size + 1) 50 _ (0, 0) _ rfl hbb Tryz.underlying50 rfl (by kernel_rfl)) rfl ?_
     have hbw : Bw w wr := (((Bw.refl _).alloc _).alloc _).trans HG.out
     have hkeep := HE.out.keep (D' := fun _ => False) hgr (.inr (fun e => by have := (HE.out.own.lt _ e.symm).1; omega)) (fun b hb => hb.elim)
     refine ⟨_, rfl, ?_, Below.grown hbw hgr hbw.size (fun r e => by injection e with e; omega)⟩
     refine (hkeep.eat (S := fun b => w.heap.size ≤ b ∧ b < _) (fun b hb => hb.elim) (fun b hb => ?_)).pat (flat_parts n k)
     have := hkeep.own.lt b hb
     exact ⟨by omega, this.2⟩
end
end Go.Proofs.YthhbkabdhkdafaaGreat
