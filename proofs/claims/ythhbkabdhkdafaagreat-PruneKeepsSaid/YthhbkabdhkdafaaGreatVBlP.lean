/- Part of a proof of pruneKeeps_holds. -/
import Derived.Test.YthhbkabdhkdafaaGreatVBaP
import Derived.Test.YthhbkabdhkdafaaGreatVBkP
import Derived.Test.YthhbkabdhkdafaaGreatVBhP
set_option linter.unusedSimpArgs false
set_option linter.unusedVariables false
set_option maxRecDepth 100000
set_option maxHeartbeats 16000000
namespace Go.Proofs.YthhbkabdhkdafaaGreat
section
open Go.RowKit
theorem qtypeOf_any (m : Mdl) (hm : MdlOk m) (sv pv rv kv : Value) (w : World) (h : MB w w.heap.size sv pv rv kv m) : Calls Tryz.prog 36 #[aggM sv pv rv kv] w (TypePost w m.t) := by
 obtain ⟨A1, c1, A2, c2, A3, c3, A4, c4, rfl, rfl, rfl, rfl⟩ := h.form
 have hb1 := hm.n1.2
 have hb2 := hm.k1.2
 unfold aggM
 have HT : Hid (m.t = typF m.ss.length m.ps.length) := Lib.hid rfl
 rw [HT.out]
 clear h hm HT
 generalize m.ss.length = n at *
 generalize m.ps.length = k0 at *
 generalize m.rs.length = q at *
 generalize 1 + m.cs.length = z at *
 obtain ⟨i0, hi, hz0, hz1, hz2⟩ := info_parts infoType
 unfold TypePost
 rw [show (typF n k0).parts = labT n :: List.replicate k0 natT from rfl]
 go_enter Tryz.func36, Tryz.ntmps36
 go_wp2
 have HX : Hid (∀ W, Bw ((w.alloc (.cells #[.int .i64 1, .slice A1 n c1, .slice A2 k0 c2, .slice none 0 0, .slice none 0 0, .int .i64 0, .int .i64 0, .slice A3 q c3, .int .i64 0, .slice A4 z c4] 33)).alloc (.cells #[.int .i64 0, .int .i64 0, .slice none 0 0, .slice none 0 0] 50)) W → Blk W w.heap.size 33 #[.int .i64 1, .slice A1 n c1, .slice A2 k0 c2, .slice none 0 0, .slice none 0 0, .int .i64 0, .int .i64 0, .slice A3 q c3, .int .i64 0, .slice A4 z c4] ∧ Blk W (w.heap.size + 1) 50 #[.int .i64 0, .int .i64 0, .slice none 0 0, .slice none 0 0]) := Lib.hid (fun W g => ((box2 w _ _ _ _).2 W g).2)
 have HE0 : ERow encF (((w.alloc (.cells #[.int .i64 1, .slice A1 n c1, .slice A2 k0 c2, .slice none 0 0, .slice none 0 0, .int .i64 0, .int .i64 0, .slice A3 q c3, .int .i64 0, .slice A4 z c4] 33)).alloc (.cells #[.int .i64 0, .int .i64 0, .slice none 0 0, .slice none 0 0] 50)).alloc (.cells #[.int .i64 2, .int .i64 (n : Int), .slice none 0 0, .slice none 0 0] 50)) 50 (w.heap.size + 1 + 1) (fun _ => False) (.slice (some ⟨w.heap.size + 1 + 1, 0, none⟩) 1 1) [labT n] := ⟨by
   have := own_new ((w.alloc (.cells #[.int .i64 1, .slice A1 n c1, .slice A2 k0 c2, .slice none 0 0, .slice none 0 0, .int .i64 0, .int .i64 0, .slice A3 q c3, .int .i64 0, .slice A4 z c4] 33)).alloc (.cells #[.int .i64 0, .int .i64 0, .slice none 0 0, .slice none 0 0] 50)) 50 #[.int .i64 2, .int .i64 (n : Int), .slice none 0 0, .slice none 0 0] 4 (n := 1) rfl rfl
   simp only [World.size_alloc] at this; exact this, fun x _ q hq => by cases hq⟩
 have HT0 : Blk ((((w.alloc (.cells #[.int .i64 1, .slice A1 n c1, .slice A2 k0 c2, .slice none 0 0, .slice none 0 0, .int .i64 0, .int .i64 0, .slice A3 q c3, .int .i64 0, .slice A4 z c4] 33)).alloc (.cells #[.int .i64 0, .int .i64 0, .slice none 0 0, .slice none 0 0] 50)).alloc (.cells #[.int .i64 2, .int .i64 (n : Int), .slice none 0 0, .slice none 0 0] 50)).alloc (.cells #[.int .i64 3, .int .i64 0, .slice none 0 0, .slice (some ⟨w.heap.size + 1 + 1, 0, none⟩) 1 1] 50)) (w.heap.size + 1 + 1 + 1) 50 #[.int .i64 3, .int .i64 0, .slice none 0 0, .slice (some ⟨w.heap.size + 1 + 1, 0, none⟩) 1 1] := by
   have := Blk.new (((w.alloc (.cells #[.int .i64 1, .slice A1 n c1, .slice A2 k0 c2, .slice none 0 0, .slice none 0 0, .int .i64 0, .int .i64 0, .slice A3 q c3, .int .i64 0, .slice A4 z c4] 33)).alloc (.cells #[.int .i64 0, .int .i64 0, .slice none 0 0, .slice none 0 0] 50)).alloc (.cells #[.int .i64 2, .int .i64 (n : Int), .slice none 0 0, .slice none 0 0] 50)) 50 #[.int .i64 3, .int .i64 0, .slice none 0 0, .slice (some ⟨w.heap.size + 1 + 1, 0, none⟩) 1 1]
   simpa only [World.size_alloc] using this
 refine wp_world (fun W => Hid (Bw ((w.alloc (.cells #[.int .i64 1, .slice A1 n c1, .slice A2 k0 c2, .slice none 0 0, .slice none 0 0, .int .i64 0, .int .i64 0, .slice A3 q c3, .int .i64 0, .slice A4 z c4] 33)).alloc (.cells #[.int .i64 0, .int .i64 0, .slice none 0 0, .slice none 0 0] 50)) W ∧ ERow encF W 50 (w.heap.size + 1 + 1) (fun _ => False) (.slice (some ⟨w.heap.size + 1 + 1, 0, none⟩) 1 1) [labT n] ∧ Blk W (w.heap.size + 1 + 1 + 1) 50 #[.int .i64 3, .int .i64 0, .slice none 0 0, .slice (some ⟨w.heap.size + 1 + 1, 0, none⟩) 1 1])) (Lib.hid ⟨((((Bw.refl _).alloc _).alloc _).alloc _), ((HE0.bw (D' := fun _ => False) (((Bw.refl _).alloc _).alloc _) (fun b hb => hb.elim))), HT0.alloc _⟩) ?_
 clear HE0 HT0
 intro W HW
 obtain ⟨hW1, hW2, hW3⟩ := HW.out
 have HW1 : Hid (Bw ((w.alloc (.cells #[.int .i64 1, .slice A1 n c1, .slice A2 k0 c2, .slice none 0 0, .slice none 0 0, .int .i64 0, .int .i64 0, .slice A3 q c3, .int .i64 0, .slice A4 z c4] 33)).alloc (.cells #[.int .i64 0, .int .i64 0, .slice none 0 0, .slice none 0 0] 50)) W) := Lib.hid hW1
 have hW3l := hW3.lt
 go_loopw [8] (fun i wr => ∃ k : Nat, k ≤ k0 ∧ i = .int .i64 k ∧ Hid (∃ sv, ERow encF wr 50 (w.heap.size + 1 + 1) (fun _ => False) sv (labT n :: List.replicate k natT) ∧ Blk wr (w.heap.size + 1 + 1 + 1) 50 #[.int .i64 3, .int .i64 0, .slice none 0 0, sv] ∧ sv.ownBlock ≠ some (w.heap.size + 1 + 1 + 1) ∧ Bw ((w.alloc (.cells #[.int .i64 1, .slice A1 n c1, .slice A2 k0 c2, .slice none 0 0, .slice none 0 0, .int .i64 0, .int .i64 0, .slice A3 q c3, .int .i64 0, .slice A4 z c4] 33)).alloc (.cells #[.int .i64 0, .int .i64 0, .slice none 0 0, .slice none 0 0] 50)) wr ∧ W.heap.size ≤ wr.heap.size)) (fun i _ => k0 - (intOf i).toNat)
 case atStart => exact ⟨0, by omega, rfl, Lib.hid ⟨_, hW2, hW3, by simp [Value.ownBlock], hW1, Nat.le_refl _⟩⟩
 case round =>
   clear hW1 hW2 hW3 HW
   obtain ⟨k, hk, rfl, HR⟩ := hrel
   obtain ⟨sv, he, hb, hne, hg, hsz⟩ := HR.out
   obtain ⟨VA, vc, rfl, vb1, vb2⟩ := he.form
   have hln : (labT n :: List.replicate k natT).length = k + 1 := by simp
   rw [hln] at hb hne
   obtain ⟨bm, bz⟩ := HX.out wr hg
   have p0 := bm.cell 2
   have pl := bm.lt
   have t0 := hb.cell 0
   have t1 := hb.cell 1
   have t2 := hb.cell 2
   have t3 := hb.cell 3
   have tf3 := hb.frozen 3
   have tl := hb.lt
   have HE := Lib.hid he
   have HB := Lib.hid hb
   have HNE := Lib.hid hne
   have HG := Lib.hid hg
   have HBZ := Lib.hid bz
   rw [hln] at HE
   have HO : Hid (wr.ownsRow (w.heap.size + 1 + 1) 50 4 (.slice VA (k + 1) vc) (k + 1) ((labT n :: List.replicate k natT).flatMap encF.enc)) := Lib.hid (by have := HE.out.own; rwa [hln] at this)
   by_cases hlt : k < k0
   · have HT : Hid (labT n :: List.replicate (k + 1) natT = (labT n :: List.replicate k natT) ++ [natT]) := Lib.hid (by rw [List.replicate_succ']; rfl)
     have HLN := Lib.hid hln
     have p1 := bm.cell 0
     clear he hb hne hg HR bm bz hln
     generalize (labT n :: List.replicate k natT) = xs at *
     generalize hcl : xs.flatMap encF.enc = cl at *
     have HCL := Lib.hid hcl
     clear hcl
     go_wp2_with (at_builtin; go_must (refine wpList_append_any _ rfl _ _ 48 rfl (w.heap.size + 1 + 1) 50 i0 _ 4 64 Tryz.underlying48 hi hz0 hz1 hz2 rfl (by decide) (.slice VA (k + 1) vc) (k + 1) cl rfl ((HO.out.alloc _).alloc _) (wr.heap.size + 1 + 1) (some ⟨wr.heap.size + 1, 0, none⟩) 1 1 [.int .i64 1, .int .i64 0, .slice none 0 0, .slice none 0 0] rfl (by have := reads_new4 (wr.alloc (.cells #[.int .i64 1, .int .i64 0, .slice none 0 0, .slice none 0 0] 50)) 50 1 0 (.slice none 0 0) (.slice none 0 0); simpa only [World.size_alloc] using this) (one4 _ _ _ _ _ _ _ _) (by unfold maxLen; omega) (by omega) (by simp; omega) ?_; intro v7 w7 hown7 hgr7 hl7; obtain ⟨A7, c7, rfl⟩ := own_form hown7; (have HO7 := Lib.hid hown7); (have HG8 := Lib.hid hgr7); (have HL7 := Lib.hid hl7); (have hb7 := ((HB.out.alloc _).alloc _).grown hgr7 (fun e => HNE.out e.symm)); (have y3 := hb7.cell 3); (have yf3 := hb7.frozen 3); (have yl := hb7.lt); (have HB7 := Lib.hid hb7); clear hown7 hgr7 hl7 hb7))
     go_roundw
     case rel =>
       have hne7 : (Value.slice A7 (k + 1 + 1) c7).ownBlock ≠ some (w.heap.size + 1 + 1 + 1) := by
         rcases HL7.out with e | e
         · rw [e]; exact HNE.out
         · rw [e]; intro e2; injection e2 with e2; simp at e2; omega
       have e1 := grownBy_setCell (p := ⟨w.heap.size + 1 + 1 + 1, 3, none⟩) (World.grownBy.refl w7 (some (w.heap.size + 1 + 1 + 1))) (.inl rfl) (.slice A7 (k + 1 + 1) c7)
       have hbw7 := Below.grown ((HG.out.alloc (.cells #[.int .i64 1, .int .i64 0, .slice none 0 0, .slice none 0 0] 50)).alloc (.cells #[.int .i64 1, .int .i64 0, .slice none 0 0, .slice none 0 0] 50)) HG8.out (by have := HG.out.size; simp at this ⊢; omega) (fun r e => by have := (HO.out.lt r e).1; simp; omega)
       have h1 := (HE.out.bw (D' := fun _ => False) (((Bw.refl wr).alloc _).alloc _) (fun b hb => hb.elim)).push (x := natT) (v' := .slice A7 (k + 1 + 1) c7) (W := w7) (D' := fun _ => False) (fun q hq => by cases hq) (by
           have := HO7.out
           rw [← HCL.out] at this
           rw [HLN.out]
           exact this) HG8.out (fun b hb => hb.elim)
       refine ⟨k + 1, by omega, by go_num, Lib.hid ⟨.slice A7 (k + 1 + 1) c7, ?_, blk_set (i := 3) _ HB7.out, hne7, hbw7.setCell (p := ⟨w.heap.size + 1 + 1 + 1, 3, none⟩) (by simp) _, ?_⟩⟩
       · rw [HT.out]
         exact h1.keep (D' := fun _ => False) e1 (.inr (fun e => hne7 e.symm)) (fun b hb => hb.elim)
       · have := HG8.out.size
         simp at this ⊢; omega
     case measure => simp [intOf]; omega
   · obtain rfl : k = k0 := by omega
     have f0 := HBZ.out.cell 0
     have f1 := HBZ.out.cell 1
     have f2 := HBZ.out.cell 2
     have f3 := HBZ.out.cell 3
     have g0 := HBZ.out.frozen 0
     have g1 := HBZ.out.frozen 1
     have g2 := HBZ.out.frozen 2
     have g3 := HBZ.out.frozen 3
     have hlz := HBZ.out.lt
     clear he hb hne hg HR bm bz hln
     go_wp2
     obtain ⟨hbb, hgr⟩ := blk4 (v0 := .int .i64 3) (v1 := .int .i64 0) (v2 := .slice none 0 0) (v3 := .slice VA (k + 1) vc) HBZ.out
     refine bodyPost_ret (results_cell_row (p := 2) (ty := 50) rfl _ _ (w.heap.size + 1) 50 _ (0, 0) _ rfl hbb Tryz.underlying50 rfl (by kernel_rfl)) rfl ?_
     have hbw : Bw w wr := (((Bw.refl _).alloc _).alloc _).trans HG.out
     have hkeep := HE.out.keep (D' := fun _ => False) hgr (.inr (fun e => by have := (HE.out.own.lt _ e.symm).1; omega)) (fun b hb => hb.elim)
     refine ⟨_, rfl, ?_, Below.grown hbw hgr hbw.size (fun r e => by injection e with e; omega)⟩
     refine (hkeep.eat (S := fun b => w.heap.size ≤ b ∧ b < _) (fun b hb => hb.elim) (fun b hb => ?_)).pat (flat_parts n k)
     have := hkeep.own.lt b hb
     exact ⟨by omega, this.2⟩
theorem qCheck_any (m : Mdl) (hm : MdlOk m) (hn : NmOk m) (sv pv rv kv : Value) (w : World) (h : MB w w.heap.size sv pv rv kv m) : Calls Tryz.prog 34 #[aggM sv pv rv kv] w (NumPost w 0) := by
 obtain ⟨A1, c1, A2, c2, A3, c3, A4, c4, rfl, rfl, rfl, rfl⟩ := h.form
 have C1 : Hid (∀ W, Bw w W → Calls Tryz.prog 58 #[aggM (.slice A1 m.ss.length c1) (.slice A2 m.ps.length c2) (.slice A3 m.rs.length c3) (.slice A4 (1 + m.cs.length) c4)] W (BoolPost W true)) := Lib.hid (fun W g => qnumbers_any m hm hn.len _ _ _ _ W (h.bw g))
 have C2 : Hid (∀ W, Calls Tryz.prog 59 #[aggM (.slice A1 m.ss.length c1) (.slice A2 m.ps.length c2) (.slice A3 m.rs.length c3) (.slice A4 (1 + m.cs.length) c4)] W (BoolPost W true)) := Lib.hid (fun W => qranks_one _ _ _ _ W)
 have C3 : Hid (∀ W, Bw w W → Calls Tryz.prog 60 #[aggM (.slice A1 m.ss.length c1) (.slice A2 m.ps.length c2) (.slice A3 m.rs.length c3) (.slice A4 (1 + m.cs.length) c4)] W (BoolPost W true)) := Lib.hid (fun W g => qnames_any m hm hn _ _ _ _ W (h.bw g))
 have CR : Hid (∀ r ∈ m.rs, ∀ (nd gv : Value) (W : World), Bw w W → IB W W.heap.size nd r.need → IB W W.heap.size gv r.give → Calls Tryz.prog 61 #[aggM (.slice A1 m.ss.length c1) (.slice A2 m.ps.length c2) (.slice A3 m.rs.length c3) (.slice A4 (1 + m.cs.length) c4), aggR r nd gv] W (BoolPost W true)) := Lib.hid (fun r hr nd gv W g i1 i2 => qright_any m hm r (hm.ru r hr) _ _ _ _ nd gv W (h.bw g) i1 i2)
 have CT : Hid (∀ W, Bw w W → Calls Tryz.prog 36 #[aggM (.slice A1 m.ss.length c1) (.slice A2 m.ps.length c2) (.slice A3 m.rs.length c3) (.slice A4 (1 + m.cs.length) c4)] W (TypePost W m.t)) := Lib.hid (fun W g => qtypeOf_any m hm _ _ _ _ W (h.bw g))
 have CV : Hid (∀ W pv', Bw w W → TB W W.heap.size (.slice none 0 0) pv' m.t → Calls Tryz.prog 42 #[.agg #[.int .i64 3, .int .i64 0, .slice none 0 0, pv'], .agg #[.int .i64 0, .slice A4 (1 + m.cs.length) c4]] W (BoolPost W true)) := Lib.hid (fun W pv' g hT => r6ValidM m m.start (.slice none 0 0) pv' (.slice A4 (1 + m.cs.length) c4) W hT (h.k.bw g) true (validM hm hm.st))
 have R3 : Hid (∀ W, Bw w W → RlsAt W (· < W.heap.size) (.slice A3 m.rs.length c3) m.rs) := Lib.hid (fun W g => h.r.bw g)
 have HRS : Hid (m.rs.length = m.rs.length) := Lib.hid rfl
 have h12 := hn.len
 clear h hm hn
 unfold aggM at *
 unfold TypePost at CT
 obtain ⟨q, hq⟩ : ∃ q, m.rs.length = q := ⟨_, rfl⟩
 rw [hq] at C1 C2 C3 CR CT R3 h12 ⊢
 replace HRS := Lib.hid hq
 clear hq
 generalize m.ss.length = n at *
 generalize m.ps.length = k0 at *
 generalize 1 + m.cs.length = z at *
 have TX := Lib.hid (mdbox (w := w) (sv := .slice A1 n c1) (pv := .slice A2 k0 c2) (rv := .slice A3 q c3) (kv := .slice A4 z c4))
 have HB : Hid (Bw w (w.alloc (.cells #[.int .i64 1, .slice A1 n c1, .slice A2 k0 c2, .slice none 0 0, .slice none 0 0, .int .i64 0, .int .i64 0, .slice A3 q c3, .int .i64 0, .slice A4 z c4] 33))) := Lib.hid ((Bw.refl _).alloc _)
 go_enter Tryz.func34, Tryz.ntmps34
 go_wp2_with (first
   | (go_at_call 57; go_must (refine (qbetween_in _ _ _ _ (by omega) (by omega)).mono ?_; rintro e w' ⟨rfl, rfl⟩))
   | (go_at_call 58; go_must (refine (C1.out _ HB.out).mono ?_; rintro e w1 ⟨rfl, hg⟩; (obtain ⟨y0, yb, y1, y2, y3, y4, y5, y6, y7, y8, y9, y10⟩ := TX.out _ hg); (have HG1 := Lib.hid hg); clear hg yb))
   | (go_at_call 59; go_must (refine (C2.out _).mono ?_; rintro e w2 ⟨rfl, hg⟩; (have hg := HG1.out.trans hg); (obtain ⟨x0, xb, x1, x2, x3, x4, x5, x6, x7, x8, x9, x10⟩ := TX.out _ hg); (have HG2 := Lib.hid hg); clear hg xb))
   | (go_at_call 60; go_must (refine (C3.out _ (HB.out.trans HG2.out)).mono ?_; rintro e w3 ⟨rfl, hg⟩; (have hg := HG2.out.trans hg); (obtain ⟨v0, vb, v1, v2, v3, v4, v5, v6, v7, v8, v9, v10⟩ := TX.out _ hg); (have HG3 := Lib.hid hg); clear hg vb)))
 go_loopw [3] (fun i wr => ∃ j : Nat, j ≤ q ∧ i = .int .i64 j ∧ Hid (Bw (w.alloc (.cells #[.int .i64 1, .slice A1 n c1, .slice A2 k0 c2, .slice none 0 0, .slice none 0 0, .int .i64 0, .int .i64 0, .slice A3 q c3, .int .i64 0, .slice A4 z c4] 33)) wr)) (fun i _ => q - (intOf i).toNat)
 case atStart => exact ⟨0, by omega, rfl, HG3⟩
 case round =>
   clear y0 y1 y2 y3 y4 y5 y6 y7 y8 y9 y10 x0 x1 x2 x3 x4 x5 x6 x7 x8 x9 x10 v0 v1 v2 v3 v4 v5 v6 v7 v8 v9 v10 HG1 HG2 HG3
   obtain ⟨j, hj, rfl, HR⟩ := hrel
   obtain ⟨y0, yb, y1, y2, y3, y4, y5, y6, y7, y8, y9, y10⟩ := TX.out wr HR.out
   by_cases hlt : j < q
   · have e1 : j < m.rs.length := by rw [HRS.out]; exact hlt
     obtain ⟨ad, B1, q1, d1, B2, q2, d2, rfl, hb, hri, hnd, hgv⟩ := (R3.out wr yb).at_ e1
     have CM : Hid (∀ W', Bw wr W' → Calls Tryz.prog 61 #[.agg #[.int .i64 1, .slice A1 n c1, .slice A2 k0 c2, .slice none 0 0, .slice none 0 0, .int .i64 0, .int .i64 0, .slice (some ad) q c3, .int .i64 0, .slice A4 z c4], aggR m.rs[j] (.slice B1 q1 d1) (.slice B2 q2 d2)] W' (BoolPost W' true)) := Lib.hid (fun W' g => CR.out _ (List.getElem_mem e1) _ _ W' (yb.trans g) (hnd.bw g) (hgv.bw g))
     have RX : Hid (∀ P : BwOf wr, RlIs P.val (ad.add (j * 14)) m.rs[j] (.slice B1 q1 d1) (.slice B2 q2 d2) ∧ ad.block < P.val.heap.size) := Lib.hid (fun P => ⟨hri.bw (by rw [add_block]; exact hb) P.bw, Nat.lt_of_lt_of_le hb P.bw.size⟩)
     have MX : Hid (∀ P : BwOf wr, w.heap.size < P.val.heap.size ∧ P.val.cell? ⟨w.heap.size, 0, none⟩ = some (.int .i64 1) ∧ P.val.cell? ⟨w.heap.size, 1, none⟩ = some (.slice A1 n c1) ∧ P.val.cell? ⟨w.heap.size, 2, none⟩ = some (.slice A2 k0 c2) ∧ P.val.cell? ⟨w.heap.size, 3, none⟩ = some (.slice none 0 0) ∧ P.val.cell? ⟨w.heap.size, 4, none⟩ = some (.slice none 0 0) ∧ P.val.cell? ⟨w.heap.size, 5, none⟩ = some (.int .i64 0) ∧ P.val.cell? ⟨w.heap.size, 6, none⟩ = some (.int .i64 0) ∧ P.val.cell? ⟨w.heap.size, 7, none⟩ = some (.slice (some ad) q c3) ∧ P.val.cell? ⟨w.heap.size, 8, none⟩ = some (.int .i64 0) ∧ P.val.cell? ⟨w.heap.size, 9, none⟩ = some (.slice A4 z c4)) := Lib.hid (fun P => by
       obtain ⟨a0, ab, a1, a2, a3, a4, a5, a6, a7, a8, a9, a10⟩ := TX.out P.val (HR.out.trans P.bw)
       exact ⟨a0, a1, a2, a3, a4, a5, a6, a7, a8, a9, a10⟩)
     clear hri hnd hgv yb
     unfold aggR at CM
     rcases hrr : m.rs[j] with ⟨nm, fr, t9, need, give⟩
     rw [hrr] at CM RX
     dsimp only at CM
     have m0 := fun P => (MX.out P).1
     have m1 := fun P => (MX.out P).2.1
     have m2 := fun P => (MX.out P).2.2.1
     have m3 := fun P => (MX.out P).2.2.2.1
     have m4 := fun P => (MX.out P).2.2.2.2.1
     have m5 := fun P => (MX.out P).2.2.2.2.2.1
     have m6 := fun P => (MX.out P).2.2.2.2.2.2.1
     have m7 := fun P => (MX.out P).2.2.2.2.2.2.2.1
     have m8 := fun P => (MX.out P).2.2.2.2.2.2.2.2.1
     have m9 := fun P => (MX.out P).2.2.2.2.2.2.2.2.2.1
     have m10 := fun P => (MX.out P).2.2.2.2.2.2.2.2.2.2
     have r0 := fun P => (RX.out P).1.c0
     have r1 := fun P => (RX.out P).1.c1
     have r2 := fun P => (RX.out P).1.c2
     have r3 := fun P => (RX.out P).1.c3
     have r4 := fun P => (RX.out P).1.c4
     have r5 := fun P => (RX.out P).1.c5
     have r6 := fun P => (RX.out P).1.c6
     have r7 := fun P => (RX.out P).1.c7
     have r8 := fun P => (RX.out P).1.c8
     have r9 := fun P => (RX.out P).1.c9
     have r10 := fun P => (RX.out P).1.c10
     have r11 := fun P => (RX.out P).1.c11
     have r12 := fun P => (RX.out P).1.c12
     have r13 := fun P => (RX.out P).1.c13
     have rl := fun P => (RX.out P).2
     dsimp only at r0 r1 r2
     clear hrr RX MX
     go_upto_region 12 with fail
     refine wp_region_quiet_bw mixedO (by kernel_rfl) ?_
     repeat (go_big_quiet_step ((first | (go_at_call 61; with_reducible exact calls_bw _ (CM.out _ (BwOf.bw _))))))
     refine wpQuiet_nil ?_
     intro W3 hw'
     have HG3 : Hid (Bw wr W3) := Lib.hid (by obtain ⟨p, e⟩ := hw'; rw [e]; exact p.bw)
     clear hw' m0 m1 m2 m3 m4 m5 m6 m7 m8 m9 m10 r0 r1 r2 r3 r4 r5 r6 r7 r8 r9 r10 r11 r12 r13 rl CM
     go_wp2
     go_roundw
     case rel => exact ⟨j + 1, by omega, by go_num, Lib.hid (HR.out.trans HG3.out)⟩
     case measure => simp [intOf]; omega
   · obtain rfl : j = q := by omega
     go_wp2_with fail
     refine wp_world (fun W => Hid (Bw (w.alloc (.cells #[.int .i64 1, .slice A1 n c1, .slice A2 k0 c2, .slice none 0 0, .slice none 0 0, .int .i64 0, .int .i64 0, .slice A3 j c3, .int .i64 0, .slice A4 z c4] 33)) W)) (Lib.hid HR.out) ?_
     clear y0 y1 y2 y3 y4 y5 y6 y7 y8 y9 y10 yb HR
     intro W HW
     have KS : Hid (∀ w', Bw W w' → w'.cell? ⟨w.heap.size, 0, none⟩ = some (.int .i64 1) ∧ w'.cell? ⟨w.heap.size, 1, none⟩ = some (.slice A1 n c1) ∧ w'.cell? ⟨w.heap.size, 2, none⟩ = some (.slice A2 k0 c2) ∧ w'.cell? ⟨w.heap.size, 3, none⟩ = some (.slice none 0 0) ∧ w'.cell? ⟨w.heap.size, 4, none⟩ = some (.slice none 0 0) ∧ w'.cell? ⟨w.heap.size, 5, none⟩ = some (.int .i64 0) ∧ w'.cell? ⟨w.heap.size, 6, none⟩ = some (.int .i64 0) ∧ w'.cell? ⟨w.heap.size, 7, none⟩ = some (.slice A3 j c3) ∧ w'.cell? ⟨w.heap.size, 8, none⟩ = some (.int .i64 0) ∧ w'.cell? ⟨w.heap.size, 9, none⟩ = some (.slice A4 z c4) ∧ Bw W w') := Lib.hid (fun w' g => by
       obtain ⟨a0, ab, a1, a2, a3, a4, a5, a6, a7, a8, a9, a10⟩ := TX.out w' (HW.out.trans g)
       exact ⟨a1, a2, a3, a4, a5, a6, a7, a8, a9, a10, g⟩)
     have HBW : Hid (∀ w', Bw W w' → Bw w w') := Lib.hid (fun w' g => (TX.out w' (HW.out.trans g)).2.1)
     clear TX HW
     generalize w.heap.size = y at *
     go_region_held3 (fun w' => w'.cell? ⟨y, 0, none⟩ = some (.int .i64 1) ∧ w'.cell? ⟨y, 1, none⟩ = some (.slice A1 n c1) ∧ w'.cell? ⟨y, 2, none⟩ = some (.slice A2 k0 c2) ∧ w'.cell? ⟨y, 3, none⟩ = some (.slice none 0 0) ∧ w'.cell? ⟨y, 4, none⟩ = some (.slice none 0 0) ∧ w'.cell? ⟨y, 5, none⟩ = some (.int .i64 0) ∧ w'.cell? ⟨y, 6, none⟩ = some (.int .i64 0) ∧ w'.cell? ⟨y, 7, none⟩ = some (.slice A3 j c3) ∧ w'.cell? ⟨y, 8, none⟩ = some (.int .i64 0) ∧ w'.cell? ⟨y, 9, none⟩ = some (.slice A4 z c4) ∧ Bw W w')
       (first | (refine KS.out _ ?_; first | exact (Bw.refl _).drew | exact (Bw.refl _).drew.trans hg6 | exact ((Bw.refl _).drew.trans hg6).trans hg7))
       (first
         | (go_at_call 36; (with_reducible refine (CT.out _ (HBW.out _ (Bw.refl _).drew)).mono ?_); rintro e6 w6 ⟨pv6, rfl, hp6, hg6⟩; obtain ⟨A6, n6, c6, rfl, _, _, _⟩ := hp6.form)
         | (go_at_call 42; (with_reducible refine (CV.out _ _ (HBW.out _ ((Bw.refl _).drew.trans hg6)) (TypePost.tb hp6)).mono ?_); rintro e7 w7 ⟨rfl, hg7⟩))
     go_wp2
     go_ret
     exact ⟨rfl, HBW.out _ (((Bw.refl _).drew.trans hg6).trans hg7)⟩
theorem qValid_any (m : Mdl) (hm : MdlOk m) (hn : NmOk m) (v : V) (sv pv rv kv s : Value) (w : World) (h : MB w w.heap.size sv pv rv kv m) (hv : KB w w.heap.size s v.ks) : Calls Tryz.prog 45 #[aggM sv pv rv kv, .agg #[.int .i64 v.n, s]] w (BoolPost w (validP m.t v)) := by
 obtain ⟨A1, c1, A2, c2, A3, c3, A4, c4, rfl, rfl, rfl, rfl⟩ := h.form
 obtain ⟨A5, n5, c5, rfl, _, _, _⟩ := hv.form
 have CK : Hid (∀ W, Bw w W → Calls Tryz.prog 34 #[aggM (.slice A1 m.ss.length c1) (.slice A2 m.ps.length c2) (.slice A3 m.rs.length c3) (.slice A4 (1 + m.cs.length) c4)] W (NumPost W 0)) := Lib.hid (fun W g => qCheck_any m hm hn _ _ _ _ W (h.bw g))
 have CT : Hid (∀ W, Bw w W → Calls Tryz.prog 36 #[aggM (.slice A1 m.ss.length c1) (.slice A2 m.ps.length c2) (.slice A3 m.rs.length c3) (.slice A4 (1 + m.cs.length) c4)] W (TypePost W m.t)) := Lib.hid (fun W g => qtypeOf_any m hm _ _ _ _ W (h.bw g))
 have CV : Hid (∀ W pv', Bw w W → TB W W.heap.size (.slice none 0 0) pv' m.t → Calls Tryz.prog 42 #[.agg #[.int .i64 3, .int .i64 0, .slice none 0 0, pv'], .agg #[.int .i64 v.n, .slice A5 n5 c5]] W (BoolPost W (validP m.t v))) := Lib.hid (fun W pv' g hT => r6ValidM m v (.slice none 0 0) pv' (.slice A5 n5 c5) W hT (hv.bw g) _ rfl)
 clear h hm hn hv
 unfold aggM at *
 unfold TypePost at CT
 generalize validP m.t v = bb at *
 generalize v.n = x at *
 generalize m.ss.length = n at *
 generalize m.ps.length = k0 at *
 generalize m.rs.length = q at *
 generalize 1 + m.cs.length = z at *
 have TX := Lib.hid (mdbox (w := w) (sv := .slice A1 n c1) (pv := .slice A2 k0 c2) (rv := .slice A3 q c3) (kv := .slice A4 z c4))
 go_enter Tryz.func45, Tryz.ntmps45
 go_wp2_with fail
 refine wp_world (fun W => Hid (Bw (w.alloc (.cells #[.int .i64 1, .slice A1 n c1, .slice A2 k0 c2, .slice none 0 0, .slice none 0 0, .int .i64 0, .int .i64 0, .slice A3 q c3, .int .i64 0, .slice A4 z c4] 33)) W ∧ Blk W (w.heap.size + 1) 31 #[.int .i64 x, .slice A5 n5 c5])) (Lib.hid ⟨(Bw.refl _).alloc _, by have := Blk.new (w.alloc (.cells #[.int .i64 1, .slice A1 n c1, .slice A2 k0 c2, .slice none 0 0, .slice none 0 0, .int .i64 0, .int .i64 0, .slice A3 q c3, .int .i64 0, .slice A4 z c4] 33)) 31 #[.int .i64 x, .slice A5 n5 c5]; simpa only [World.size_alloc] using this⟩) ?_
 intro W HW
 have KS : Hid (∀ w', Bw W w' → w'.cell? ⟨w.heap.size, 0, none⟩ = some (.int .i64 1) ∧ w'.cell? ⟨w.heap.size, 1, none⟩ = some (.slice A1 n c1) ∧ w'.cell? ⟨w.heap.size, 2, none⟩ = some (.slice A2 k0 c2) ∧ w'.cell? ⟨w.heap.size, 3, none⟩ = some (.slice none 0 0) ∧ w'.cell? ⟨w.heap.size, 4, none⟩ = some (.slice none 0 0) ∧
     w'.cell? ⟨w.heap.size, 5, none⟩ = some (.int .i64 0) ∧ w'.cell? ⟨w.heap.size, 6, none⟩ = some (.int .i64 0) ∧ w'.cell? ⟨w.heap.size, 7, none⟩ = some (.slice A3 q c3) ∧ w'.cell? ⟨w.heap.size, 8, none⟩ = some (.int .i64 0) ∧ w'.cell? ⟨w.heap.size, 9, none⟩ = some (.slice A4 z c4) ∧ w'.cell? ⟨w.heap.size + 1, 0, none⟩ = some (.int .i64 x) ∧ w'.cell? ⟨w.heap.size + 1, 1, none⟩ = some (.slice A5 n5 c5) ∧ Bw W w') := Lib.hid (fun w' g => by
   obtain ⟨_, _, a0, a1, a2, a3, a4, a5, a6, a7, a8, a9⟩ := TX.out w' (HW.out.1.trans g)
   have hb := HW.out.2.below g.b HW.out.2.lt
   exact ⟨a0, a1, a2, a3, a4, a5, a6, a7, a8, a9, hb.cell 0, hb.cell 1, g⟩)
 have HBW : Hid (∀ w', Bw W w' → Bw w w') := Lib.hid (fun w' g => (TX.out w' (HW.out.1.trans g)).2.1)
 clear TX HW
 generalize w.heap.size = y at *
 go_region_held3 (fun w' => w'.cell? ⟨y, 0, none⟩ = some (.int .i64 1) ∧ w'.cell? ⟨y, 1, none⟩ = some (.slice A1 n c1) ∧ w'.cell? ⟨y, 2, none⟩ = some (.slice A2 k0 c2) ∧ w'.cell? ⟨y, 3, none⟩ = some (.slice none 0 0) ∧ w'.cell? ⟨y, 4, none⟩ = some (.slice none 0 0) ∧ w'.cell? ⟨y, 5, none⟩ = some (.int .i64 0) ∧ w'.cell? ⟨y, 6, none⟩ = some (.int .i64 0) ∧ w'.cell? ⟨y, 7, none⟩ = some (.slice A3 q c3) ∧ w'.cell? ⟨y, 8, none⟩ = some (.int .i64 0) ∧ w'.cell? ⟨y, 9, none⟩ = some (.slice A4 z c4) ∧ w'.cell? ⟨y + 1, 0, none⟩ = some (.int .i64 x) ∧ w'.cell? ⟨y + 1, 1, none⟩ = some (.slice A5 n5 c5) ∧ Bw W w')
   (first | (refine KS.out _ ?_; first | exact (Bw.refl _).drew | exact (Bw.refl _).drew.trans hg5 | exact ((Bw.refl _).drew.trans hg5).trans hg6 | exact (((Bw.refl _).drew.trans hg5).trans hg6).trans hg7))
   (first
     | (go_at_call 34; (with_reducible refine (CK.out _ (HBW.out _ (Bw.refl _).drew)).mono ?_); rintro e5 w5 ⟨rfl, hg5⟩)
     | (go_at_call 36; (with_reducible refine (CT.out _ (HBW.out _ ((Bw.refl _).drew.trans hg5))).mono ?_); rintro e6 w6 ⟨pv6, rfl, hp6, hg6⟩; obtain ⟨A6, n6, c6, rfl, _, _, _⟩ := hp6.form)
     | (go_at_call 42; (with_reducible refine (CV.out _ _ (HBW.out _ (((Bw.refl _).drew.trans hg5).trans hg6)) (TypePost.tb hp6)).mono ?_); rintro e7 w7 ⟨rfl, hg7⟩))
 go_wp2
 go_ret
 exact ⟨rfl, HBW.out _ ((((Bw.refl _).drew.trans hg5).trans hg6).trans hg7)⟩
theorem qKind_any (m : Mdl) (hm : MdlOk m) (hn : NmOk m) (sv pv rv kv : Value) (w : World) (h : MB w w.heap.size sv pv rv kv m) : Calls Tryz.prog 44 #[aggM sv pv rv kv] w (NumPost w 0) := by
 obtain ⟨A1, c1, A2, c2, A3, c3, A4, c4, rfl, rfl, rfl, rfl⟩ := h.form
 have CK : Hid (∀ W, Bw w W → Calls Tryz.prog 34 #[aggM (.slice A1 m.ss.length c1) (.slice A2 m.ps.length c2) (.slice A3 m.rs.length c3) (.slice A4 (1 + m.cs.length) c4)] W (NumPost W 0)) := Lib.hid (fun W g => qCheck_any m hm hn _ _ _ _ W (h.bw g))
 clear h hm hn
 unfold aggM at *
 generalize m.ss.length = n at *
 generalize m.ps.length = k0 at *
 generalize m.rs.length = q at *
 generalize 1 + m.cs.length = z at *
 have TX := Lib.hid (mdbox (w := w) (sv := .slice A1 n c1) (pv := .slice A2 k0 c2) (rv := .slice A3 q c3) (kv := .slice A4 z c4))
 have HB : Hid (Bw w (w.alloc (.cells #[.int .i64 1, .slice A1 n c1, .slice A2 k0 c2, .slice none 0 0, .slice none 0 0, .int .i64 0, .int .i64 0, .slice A3 q c3, .int .i64 0, .slice A4 z c4] 33))) := Lib.hid ((Bw.refl _).alloc _)
 go_enter Tryz.func44, Tryz.ntmps44
 go_wp2_with (go_at_call 34; go_must (refine (CK.out _ HB.out).mono ?_; rintro e w1 ⟨rfl, hg⟩; (obtain ⟨y0, yb, y1, y2, y3, y4, y5, y6, y7, y8, y9, y10⟩ := TX.out _ hg); (have HG1 := Lib.hid hg); clear hg yb))
 go_ret
 exact ⟨rfl, HB.out.trans HG1.out⟩
theorem qfault_any (m : Mdl) (hm : MdlOk m) (hn : NmOk m) (i : Nat) (hi : i < m.rs.length) (sv pv rv kv : Value) (w : World) (h : MB w w.heap.size sv pv rv kv m) : Calls Tryz.prog 211 #[aggM sv pv rv kv, .int .i64 (i : Int)] w (NumPost w 0) := by
 obtain ⟨A1, c1, A2, c2, A3, c3, A4, c4, rfl, rfl, rfl, rfl⟩ := h.form
 have CK : Hid (∀ W, Bw w W → Calls Tryz.prog 34 #[aggM (.slice A1 m.ss.length c1) (.slice A2 m.ps.length c2) (.slice A3 m.rs.length c3) (.slice A4 (1 + m.cs.length) c4)] W (NumPost W 0)) := Lib.hid (fun W g => qCheck_any m hm hn _ _ _ _ W (h.bw g))
 have hi2 : (i : Int) < (m.rs.length : Int) := by omega
 clear h hm hn
 unfold aggM at *
 generalize m.ss.length = n at *
 generalize m.ps.length = k0 at *
 generalize m.rs.length = q at *
 generalize 1 + m.cs.length = z at *
 have TX := Lib.hid (mdbox (w := w) (sv := .slice A1 n c1) (pv := .slice A2 k0 c2) (rv := .slice A3 q c3) (kv := .slice A4 z c4))
 have HB : Hid (Bw w (w.alloc (.cells #[.int .i64 1, .slice A1 n c1, .slice A2 k0 c2, .slice none 0 0, .slice none 0 0, .int .i64 0, .int .i64 0, .slice A3 q c3, .int .i64 0, .slice A4 z c4] 33))) := Lib.hid ((Bw.refl _).alloc _)
 go_enter Tryz.func211, Tryz.ntmps211
 go_wp2_with (go_at_call 34; go_must (refine (CK.out _ HB.out).mono ?_; rintro e w1 ⟨rfl, hg⟩; (obtain ⟨y0, yb, y1, y2, y3, y4, y5, y6, y7, y8, y9, y10⟩ := TX.out _ hg); (have HG1 := Lib.hid hg); clear hg yb))
 go_ret
 exact ⟨rfl, HB.out.trans HG1.out⟩
theorem cfg_at {w : World} {S : Nat → Prop} {s : Int} {cs : List Int} {A : Option Addr} {n c : Nat} (h : KAt w S (.slice A n c) (cfgV s cs).ks) : n = cs.length + 1 ∧ ∃ ad, A = some ad ∧ S ad.block ∧ w.cell? ad = some (.int .i64 s) ∧ ∀ k (hk : k < cs.length), w.cell? (ad.add ((k + 1) * 2)) = some (.int .i64 cs[k]) := by
 obtain ⟨A', n', c', e, l5, b5, _⟩ := h.form
 injection e with e1 e2 e3
 subst e1 e2 e3
 have hn : n = cs.length + 1 := by rw [← l5]; simp [cfgV]
 obtain ⟨ad, xA, xn, xc, rfl, ba, qa0, qa1, -, -⟩ := h.at_ (k := 0) (by simp [cfgV])
 rw [show ad.add (0 * 2) = ad by simp [Addr.add]] at qa0
 refine ⟨hn, ad, rfl, ba, qa0, fun k hk => ?_⟩
 obtain ⟨ad', yA, yn, yc, e, -, z0, -, -, -⟩ := h.at_ (k := k + 1) (by simp [cfgV]; omega)
 injection e with e
 subst e
 rw [z0]
 simp [cfgV]
theorem qenabled_any (r : Rul) (s : Int) (cs : List Int) (hl : r.need.length = cs.length) (h9 : cs.length ≤ 1000) (nd gv s1 : Value) (w : World) (h1 : IB w w.heap.size nd r.need) (h2 : IB w w.heap.size gv r.give) (h3 : KB w w.heap.size s1 (cfgV s cs).ks) :
   Calls Tryz.prog 212 #[aggR r nd gv, .agg #[.int .i64 0, s1]] w (BoolPost w (canB r s cs)) := by
 obtain ⟨nm, fr, t9, need, give⟩ := r
 unfold canB
 dsimp only at hl h1 h2 ⊢
 obtain ⟨B1, q1, d1, rfl, l1, _, _⟩ := h1.form
 obtain ⟨B2, q2, d2, rfl, _, _, _⟩ := h2.form
 obtain ⟨A5, n5, c5, rfl, l5, b5, _⟩ := h3.form
 obtain ⟨hn5, ad, rfl, hab, -, -⟩ := cfg_at h3
 have QA : Hid (∀ W, Bw w W → W.cell? ad = some (.int .i64 s) ∧ ∀ k (hk : k < cs.length), W.cell? (ad.add ((k + 1) * 2)) = some (.int .i64 cs[k])) := Lib.hid (fun W g => by
   obtain ⟨-, ad', e, -, x0, x1⟩ := cfg_at (h3.bw g)
   injection e with e; subst e
   exact ⟨x0, x1⟩)
 have HND := Lib.hid h1
 have HL := Lib.hid hl
 have hLE : Hid (∀ k (hk : k < cs.length), leC (need.take k) (cs.take k) = true → need[k]'(Nat.lt_of_lt_of_eq hk hl.symm) ≤ cs[k] → leC (need.take (k + 1)) (cs.take (k + 1)) = true) := Lib.hid (fun k hk h h' => by rw [leC_step hl hk h]; exact decide_eq_true h')
 have hNO : Hid (∀ k (hk : k < cs.length), cs[k] < need[k]'(Nat.lt_of_lt_of_eq hk hl.symm) → leC need cs = false) := Lib.hid (fun k hk h => leC_no hl hk (by simpa using h))
 have hALL : Hid (leC (need.take cs.length) (cs.take cs.length) = leC need cs) := Lib.hid (by rw [List.take_of_length_le (by omega), List.take_of_length_le (Nat.le_refl _)])
 clear h1 h2 h3 l5
 obtain rfl : q1 = cs.length := by omega

 unfold aggR
 dsimp only
 have BX := Lib.hid (box2 w 75 #[.string nm, .int .i64 fr, .int .i64 t9, .slice B1 cs.length d1, .slice B2 q2 d2, .slice none 0 0, .int .i64 0, .int .i64 0, .int .i64 0, .slice none 0 0, .slice none 0 0, .slice none 0 0, .slice none 0 0, .int .i64 0] 31 #[.int .i64 0, .slice (some ad) n5 c5])
 have hb3 : (0 : Int) < (n5 : Int) := by omega
 have hb4 : 0 < n5 := by omega
 have hqa := (QA.out _ (Bw.refl w)).1
 have HN5 := Lib.hid hn5
 clear hn5
 by_cases hsf : s = fr
 · have hsf' : fr = s := hsf.symm
   subst hsf'
   have dd : (fr != fr) = false := by simp
   rw [decide_eq_true rfl, Bool.true_and]
   go_enter Tryz.func212, Tryz.ntmps212
   go_wp2_with fail
   go_quiet (fail)
   go_wp2
   go_loopw [5] (fun i wr => ∃ k : Nat, k ≤ cs.length ∧ i = .int .i64 k ∧ Hid (leC (need.take k) (cs.take k) = true ∧ Bw ((w.alloc (.cells #[.string nm, .int .i64 fr, .int .i64 t9, .slice B1 cs.length d1, .slice B2 q2 d2, .slice none 0 0, .int .i64 0, .int .i64 0, .int .i64 0, .slice none 0 0, .slice none 0 0, .slice none 0 0, .slice none 0 0, .int .i64 0] 75)).alloc (.cells #[.int .i64 0, .slice (some ad) n5 c5] 31)) wr)) (fun i _ => cs.length - (intOf i).toNat)
   case atStart => exact ⟨0, by omega, rfl, Lib.hid ⟨by simp [leC], (Bw.refl _).drewN _⟩⟩
   case round =>
     clear hqa
     obtain ⟨k, hk, rfl, HR⟩ := hrel
     obtain ⟨hle, hw⟩ := HR.out
     obtain ⟨-, bb0, bb1⟩ := BX.out.2 wr hw
     obtain ⟨ul, u0, u1, u2, u3, u4, u5, u6, u7, u8, u9, u10, u11, u12, u13⟩ := bb0.c14
     obtain ⟨vl, v0, v1⟩ := bb1.c2
     clear bb0 bb1
     by_cases hlt : k < cs.length
     · have e1 : k < need.length := by have := HL.out; omega
       obtain ⟨bd, rfl, hbb, p0⟩ := (HND.out.bw (BX.out.1.trans hw)).at_ e1
       have z0 := (QA.out _ (BX.out.1.trans hw)).2 k hlt
       have hbb2 : bd.block < wr.heap.size := hbb
       have hpb : ad.block < wr.heap.size := Nat.lt_of_lt_of_le hab (BX.out.1.trans hw).size
       have HS := Lib.hid (hLE.out k hlt hle)
       have HN := Lib.hid (hNO.out k hlt)
       have HW := Lib.hid hw
       have hk1 : (k : Int) < (cs.length : Int) := by omega
       have hk2 : (1 : Int) + (k : Int) < (n5 : Int) := by have := HN5.out; omega
       clear hle hw HR
       by_cases hge : need[k] ≤ cs[k]
       · have HX := Lib.hid (HS.out hge)
         clear HS HN
         generalize need[k] = x at *
         generalize cs[k] = y at *
         have dl : decide (y < x) = false := by simp; omega
         go_wp2_with fail
         have hs1 : IntKind.i64.wrap (1 + (k : Int)) = 1 + (k : Int) := IntWalk.i64_in _ (by omega)
         have hs2 : (1 + (k : Int)).toNat = k + 1 := by omega
         have hs3 : (0 : Int) ≤ 1 + (k : Int) := by omega
         go_quiet (fail)
         clear hs1 hs2 hs3
         go_wp2
         go_roundw
         case rel => exact ⟨k + 1, by omega, by go_num, Lib.hid ⟨HX.out, HW.out.drewN _⟩⟩
         case measure => simp [intOf]; omega
       · have HX := Lib.hid (HN.out (by omega))
         clear HS HN
         generalize need[k] = x at *
         generalize cs[k] = y at *
         have dl : decide (y < x) = true := by simp; omega
         go_wp2_with fail
         have hs1 : IntKind.i64.wrap (1 + (k : Int)) = 1 + (k : Int) := IntWalk.i64_in _ (by omega)
         have hs2 : (1 + (k : Int)).toNat = k + 1 := by omega
         have hs3 : (0 : Int) ≤ 1 + (k : Int) := by omega
         go_quiet (fail)
         clear hs1 hs2 hs3
         go_wp2
         go_ret
         exact ⟨by rw [HX.out]; rfl, (BX.out.1.trans (HW.out.drewN _))⟩
     · obtain rfl : k = cs.length := by omega
       rw [hALL.out] at hle
       have HLE := Lib.hid hle
       have HW := Lib.hid hw
       clear hle hw HR
       go_wp2
       go_ret
       exact ⟨by rw [HLE.out]; rfl, BX.out.1.trans HW.out⟩
 · have dd : (s != fr) = true := by simpa using hsf
   rw [decide_eq_false hsf, Bool.false_and]
   go_enter Tryz.func212, Tryz.ntmps212
   go_wp2_with fail
   go_quiet (fail)
   go_wp2
   go_ret
   exact ⟨rfl, BX.out.1.drewN _⟩
end
end Go.Proofs.YthhbkabdhkdafaaGreat
