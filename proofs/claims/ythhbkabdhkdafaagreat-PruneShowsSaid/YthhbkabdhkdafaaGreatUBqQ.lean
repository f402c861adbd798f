/- Part of a proof of pruneShows_holds. -/
import Derived.Test.YthhbkabdhkdafaaGreatUBgQ
set_option linter.unusedSimpArgs false
set_option linter.unusedVariables false
set_option maxRecDepth 100000
set_option maxHeartbeats 16000000
namespace Go.Proofs.YthhbkabdhkdafaaGreat
section
open Go.RowKit
theorem qtypeOf_any (m : Mdl) (hm : MdlOk m) (sv pv rv kv : Value) (w : World) (h : MB w w.heap.size sv pv rv kv m) : Calls Tryz.prog 36 #[aggM sv pv rv kv] w (TypePost w m.t) := by
 obtain ⟨A1, c1, A2, c2, A3, c3, A4, c4, rfl, rfl, rfl, rfl⟩ := h.form
 have hb1 := hm.n1.2
 have hb2 := hm.k1.2
 unfold aggM
 have HT : Hid (m.t = typF m.ss.length m.ps.length) := Lib.hid rfl
 rw [HT.out]
 clear h hm HT
 generalize m.ss.length = n at *
 generalize m.ps.length = k0 at *
 generalize m.rs.length = q at *
 generalize 1 + m.cs.length = z at *
 obtain ⟨i0, hi, hz0, hz1, hz2⟩ := info_parts infoType
 unfold TypePost
 rw [show (typF n k0).parts = labT n :: List.replicate k0 natT from rfl]
 go_enter Tryz.func36, Tryz.ntmps36
 go_wp2
 have HX : Hid (∀ W, Bw ((w.alloc (.cells #[.int .i64 1, .slice A1 n c1, .slice A2 k0 c2, .slice none 0 0, .slice none 0 0, .int .i64 0, .int .i64 0, .slice A3 q c3, .int .i64 0, .slice A4 z c4] 33)).alloc (.cells #[.int .i64 0, .int .i64 0, .slice none 0 0, .slice none 0 0] 50)) W → Blk W w.heap.size 33 #[.int .i64 1, .slice A1 n c1, .slice A2 k0 c2, .slice none 0 0, .slice none 0 0, .int .i64 0, .int .i64 0, .slice A3 q c3, .int .i64 0, .slice A4 z c4] ∧ Blk W (w.heap.size + 1) 50 #[.int .i64 0, .int .i64 0, .slice none 0 0, .slice none 0 0]) := Lib.hid (fun W g => ((box2 w _ _ _ _).2 W g).2)
 have HE0 : ERow encF (((w.alloc (.cells #[.int .i64 1, .slice A1 n c1, .slice A2 k0 c2, .slice none 0 0, .slice none 0 0, .int .i64 0, .int .i64 0, .slice A3 q c3, .int .i64 0, .slice A4 z c4] 33)).alloc (.cells #[.int .i64 0, .int .i64 0, .slice none 0 0, .slice none 0 0] 50)).alloc (.cells #[.int .i64 2, .int .i64 (n : Int), .slice none 0 0, .slice none 0 0] 50)) 50 (w.heap.size + 1 + 1) (fun _ => False) (.slice (some ⟨w.heap.size + 1 + 1, 0, none⟩) 1 1) [labT n] := ⟨by
   have := own_new ((w.alloc (.cells #[.int .i64 1, .slice A1 n c1, .slice A2 k0 c2, .slice none 0 0, .slice none 0 0, .int .i64 0, .int .i64 0, .slice A3 q c3, .int .i64 0, .slice A4 z c4] 33)).alloc (.cells #[.int .i64 0, .int .i64 0, .slice none 0 0, .slice none 0 0] 50)) 50 #[.int .i64 2, .int .i64 (n : Int), .slice none 0 0, .slice none 0 0] 4 (n := 1) rfl rfl
   simp only [World.size_alloc] at this; exact this, fun x _ q hq => by cases hq⟩
 have HT0 : Blk ((((w.alloc (.cells #[.int .i64 1, .slice A1 n c1, .slice A2 k0 c2, .slice none 0 0, .slice none 0 0, .int .i64 0, .int .i64 0, .slice A3 q c3, .int .i64 0, .slice A4 z c4] 33)).alloc (.cells #[.int .i64 0, .int .i64 0, .slice none 0 0, .slice none 0 0] 50)).alloc (.cells #[.int .i64 2, .int .i64 (n : Int), .slice none 0 0, .slice none 0 0] 50)).alloc (.cells #[.int .i64 3, .int .i64 0, .slice none 0 0, .slice (some ⟨w.heap.size + 1 + 1, 0, none⟩) 1 1] 50)) (w.heap.size + 1 + 1 + 1) 50 #[.int .i64 3, .int .i64 0, .slice none 0 0, .slice (some ⟨w.heap.size + 1 + 1, 0, none⟩) 1 1] := by
   have := Blk.new (((w.alloc (.cells #[.int .i64 1, .slice A1 n c1, .slice A2 k0 c2, .slice none 0 0, .slice none 0 0, .int .i64 0, .int .i64 0, .slice A3 q c3, .int .i64 0, .slice A4 z c4] 33)).alloc (.cells #[.int .i64 0, .int .i64 0, .slice none 0 0, .slice none 0 0] 50)).alloc (.cells #[.int .i64 2, .int .i64 (n : Int), .slice none 0 0, .slice none 0 0] 50)) 50 #[.int .i64 3, .int .i64 0, .slice none 0 0, .slice (some ⟨w.heap.size + 1 + 1, 0, none⟩) 1 1]
   simpa only [World.size_alloc] using this
 refine wp_world (fun W => Hid (Bw ((w.alloc (.cells #[.int .i64 1, .slice A1 n c1, .slice A2 k0 c2, .slice none 0 0, .slice none 0 0, .int .i64 0, .int .i64 0, .slice A3 q c3, .int .i64 0, .slice A4 z c4] 33)).alloc (.cells #[.int .i64 0, .int .i64 0, .slice none 0 0, .slice none 0 0] 50)) W ∧ ERow encF W 50 (w.heap.size + 1 + 1) (fun _ => False) (.slice (some ⟨w.heap.size + 1 + 1, 0, none⟩) 1 1) [labT n] ∧ Blk W (w.heap.size + 1 + 1 + 1) 50 #[.int .i64 3, .int .i64 0, .slice none 0 0, .slice (some ⟨w.heap.size + 1 + 1, 0, none⟩) 1 1])) (Lib.hid ⟨((((Bw.refl _).alloc _).alloc _).alloc _), ((HE0.bw (D' := fun _ => False) (((Bw.refl _).alloc _).alloc _) (fun b hb => hb.elim))), HT0.alloc _⟩) ?_
 clear HE0 HT0
 intro W HW
 obtain ⟨hW1, hW2, hW3⟩ := HW.out
 have HW1 : Hid (Bw ((w.alloc (.cells #[.int .i64 1, .slice A1 n c1, .slice A2 k0 c2, .slice none 0 0, .slice none 0 0, .int .i64 0, .int .i64 0, .slice A3 q c3, .int .i64 0, .slice A4 z c4] 33)).alloc (.cells #[.int .i64 0, .int .i64 0, .slice none 0 0, .slice none 0 0] 50)) W) := Lib.hid hW1
 have hW3l := hW3.lt
 go_loopw [8] (fun i wr => ∃ k : Nat, k ≤ k0 ∧ i = .int .i64 k ∧ Hid (∃ sv, ERow encF wr 50 (w.heap.size + 1 + 1) (fun _ => False) sv (labT n :: List.replicate k natT) ∧ Blk wr (w.heap.size + 1 + 1 + 1) 50 #[.int .i64 3, .int .i64 0, .slice none 0 0, sv] ∧ sv.ownBlock ≠ some (w.heap.size + 1 + 1 + 1) ∧ Bw ((w.alloc (.cells #[.int .i64 1, .slice A1 n c1, .slice A2 k0 c2, .slice none 0 0, .slice none 0 0, .int .i64 0, .int .i64 0, .slice A3 q c3, .int .i64 0, .slice A4 z c4] 33)).alloc (.cells #[.int .i64 0, .int .i64 0, .slice none 0 0, .slice none 0 0] 50)) wr ∧ W.heap.size ≤ wr.heap.size)) (fun i _ => k0 - (intOf i).toNat)
 case atStart => exact ⟨0, by omega, rfl, Lib.hid ⟨_, hW2, hW3, by simp [Value.ownBlock], hW1, Nat.le_refl _⟩⟩
 case round =>
   clear hW1 hW2 hW3 HW
   obtain ⟨k, hk, rfl, HR⟩ := hrel
   obtain ⟨sv, he, hb, hne, hg, hsz⟩ := HR.out
   obtain ⟨VA, vc, rfl, vb1, vb2⟩ := he.form
   have hln : (labT n :: List.replicate k natT).length = k + 1 := by simp
   rw [hln] at hb hne
   obtain ⟨bm, bz⟩ := HX.out wr hg
   have p0 := bm.cell 2
   have pl := bm.lt
   have t0 := hb.cell 0
   have t1 := hb.cell 1
   have t2 := hb.cell 2
   have t3 := hb.cell 3
   have tf3 := hb.frozen 3
   have tl := hb.lt
   have HE := Lib.hid he
   have HB := Lib.hid hb
   have HNE := Lib.hid hne
   have HG := Lib.hid hg
   have HBZ := Lib.hid bz
   rw [hln] at HE
   have HO : Hid (wr.ownsRow (w.heap.size + 1 + 1) 50 4 (.slice VA (k + 1) vc) (k + 1) ((labT n :: List.replicate k natT).flatMap encF.enc)) := Lib.hid (by have := HE.out.own; rwa [hln] at this)
   by_cases hlt : k < k0
   · have HT : Hid (labT n :: List.replicate (k + 1) natT = (labT n :: List.replicate k natT) ++ [natT]) := Lib.hid (by rw [List.replicate_succ']; rfl)
     have HLN := Lib.hid hln
     have p1 := bm.cell 0
     clear he hb hne hg HR bm bz hln
     generalize (labT n :: List.replicate k natT) = xs at *
     generalize hcl : xs.flatMap encF.enc = cl at *
     have HCL := Lib.hid hcl
     clear hcl
     go_wp2_with (at_builtin; go_must (refine wpList_append_any _ rfl _ _ 48 rfl (w.heap.size + 1 + 1) 50 i0 _ 4 64 Tryz.underlying48 hi hz0 hz1 hz2 rfl (by decide) (.slice VA (k + 1) vc) (k + 1) cl rfl ((HO.out.alloc _).alloc _) (wr.heap.size + 1 + 1) (some ⟨wr.heap.size + 1, 0, none⟩) 1 1 [.int .i64 1, .int .i64 0, .slice none 0 0, .slice none 0 0] rfl (by have := reads_new4 (wr.alloc (.cells #[.int .i64 1, .int .i64 0, .slice none 0 0, .slice none 0 0] 50)) 50 1 0 (.slice none 0 0) (.slice none 0 0); simpa only [World.size_alloc] using this) (one4 _ _ _ _ _ _ _ _) (by unfold maxLen; omega) (by omega) (by simp; omega) ?_; intro v7 w7 hown7 hgr7 hl7; obtain ⟨A7, c7, rfl⟩ := own_form hown7; (have HO7 := Lib.hid hown7); (have HG8 := Lib.hid hgr7); (have HL7 := Lib.hid hl7); (have hb7 := ((HB.out.alloc _).alloc _).grown hgr7 (fun e => HNE.out e.symm)); (have y3 := hb7.cell 3); (have yf3 := hb7.frozen 3); (have yl := hb7.lt); (have HB7 := Lib.hid hb7); clear hown7 hgr7 hl7 hb7))
     go_roundw
     case rel =>
       have hne7 : (Value.slice A7 (k + 1 + 1) c7).ownBlock ≠ some (w.heap.size + 1 + 1 + 1) := by
         rcases HL7.out with e | e
         · rw [e]; exact HNE.out
         · rw [e]; intro e2; injection e2 with e2; simp at e2; omega
       have e1 := grownBy_setCell (p := ⟨w.heap.size + 1 + 1 + 1, 3, none⟩) (World.grownBy.refl w7 (some (w.heap.size + 1 + 1 + 1))) (.inl rfl) (.slice A7 (k + 1 + 1) c7)
       have hbw7 := Below.grown ((HG.out.alloc (.cells #[.int .i64 1, .int .i64 0, .slice none 0 0, .slice none 0 0] 50)).alloc (.cells #[.int .i64 1, .int .i64 0, .slice none 0 0, .slice none 0 0] 50)) HG8.out (by have := HG.out.size; simp at this ⊢; omega) (fun r e => by have := (HO.out.lt r e).1; simp; omega)
       have h1 := (HE.out.bw (D' := fun _ => False) (((Bw.refl wr).alloc _).alloc _) (fun b hb => hb.elim)).push (x := natT) (v' := .slice A7 (k + 1 + 1) c7) (W := w7) (D' := fun _ => False) (fun q hq => by cases hq) (by
           have := HO7.out
           rw [← HCL.out] at this
           rw [HLN.out]
           exact this) HG8.out (fun b hb => hb.elim)
       refine ⟨k + 1, by omega, by go_num, Lib.hid ⟨.slice A7 (k + 1 + 1) c7, ?_, blk_set (i := 3) _ HB7.out, hne7, hbw7.setCell (p := ⟨w.heap.size + 1 + 1 + 1, 3, none⟩) (by simp) _, ?_⟩⟩
       · rw [HT.out]
         exact h1.keep (D' := fun _ => False) e1 (.inr (fun e => hne7 e.symm)) (fun b hb => hb.elim)
       · have := HG8.out.size
         simp at this ⊢; omega
     case measure => simp [intOf]; omega
   · obtain rfl : k = k0 := by omega
     have f0 := HBZ.out.cell 0
     have f1 := HBZ.out.cell 1
     have f2 := HBZ.out.cell 2
     have f3 := HBZ.out.cell 3
     have g0 := HBZ.out.frozen 0
     have g1 := HBZ.out.frozen 1
     have g2 := HBZ.out.frozen 2
     have g3 := HBZ.out.frozen 3
     have hlz := HBZ.out.lt
     clear he hb hne hg HR bm bz hln
     go_wp2
     obtain ⟨hbb, hgr⟩ := blk4 (v0 := .int .i64 3) (v1 := .int .i64 0) (v2 := .slice none 0 0) (v3 := .slice VA (k + 1) vc) HBZ.out
     refine bodyPost_ret (results_cell_row (p := 2) (ty := 50) rfl _ _ (w.heap.size + 1) 50 _ (0, 0) _ rfl hbb Tryz.underlying50 rfl (by kernel_rfl)) rfl ?_
     have hbw : Bw w wr := (((Bw.refl _).alloc _).alloc _).trans HG.out
     have hkeep := HE.out.keep (D' := fun _ => False) hgr (.inr (fun e => by have := (HE.out.own.lt _ e.symm).1; omega)) (fun b hb => hb.elim)
     refine ⟨_, rfl, ?_, Below.grown hbw hgr hbw.size (fun r e => by injection e with e; omega)⟩
     refine (hkeep.eat (S := fun b => w.heap.size ≤ b ∧ b < _) (fun b hb => hb.elim) (fun b hb => ?_)).pat (flat_parts n k)
     have := hkeep.own.lt b hb
     exact ⟨by omega, this.2⟩
theorem infoOriB : (Tryz.prog.info? 112).map (fun i => (i.zero, i.size, i.bytes)) = some (some (.agg #[.int .i64 0, .slice none 0 0, .int .i64 0, .int .i64 0, .slice none 0 0]), 5, 72) := by kernel_rfl
theorem ori5 (x y z : Int) (A A' : Option Addr) (n c n' c' : Nat) : ∀ u ∈ [Value.int .i64 x, .slice A n c, .int .i64 y, .int .i64 z, .slice A' n' c'], u.oneCell' = true := by simp [Value.oneCell']
theorem reads_new5 (W : World) (t : TypeId) (a b c d e : Value) : Reads (W.alloc (.cells #[a, b, c, d, e] t)) (W.heap.size + 1) 5 (some ⟨W.heap.size, 0, none⟩) 1 [a, b, c, d, e] := reads_blk (n := 1) (Blk.new W t #[a, b, c, d, e]) (by omega) rfl
def OwnO (B : Nat) (W : World) (v : Value) (l : List Ori) : Prop := ∃ ps, ERow encO W 112 B (fun b => B ≤ b ∧ b < W.heap.size ∧ v.ownBlock ≠ some b) v ps ∧ ps.map (·.1) = l
theorem OwnO.push {B : Nat} {A W : World} {v v' : Value} {l : List Ori} {ps : List (Ori × Value × Value)} (h : ERow encO A 112 B (fun b => B ≤ b ∧ b < A.heap.size ∧ v.ownBlock ≠ some b) v ps) (e : ps.map (·.1) = l) {x : Ori} {s1 s2 : Value} (h1 : KAt A (fun b => B ≤ b ∧ b < A.heap.size ∧ v.ownBlock ≠ some b) s1 x.v.ks) (h2 : KAt A (fun b => B ≤ b ∧ b < A.heap.size ∧ v.ownBlock ≠ some b) s2 x.nx.ks)
   (hown : W.ownsRow B 112 5 v' (ps.length + 1) (ps.flatMap encO.enc ++ [.int .i64 x.v.n, s1, .int .i64 x.r, .int .i64 x.nx.n, s2])) (hg : A.grownBy W v.ownBlock) (hv : v'.ownBlock = v.ownBlock ∨ v'.ownBlock = some A.heap.size) : OwnO B W v' (l ++ [x]) := by
 refine ⟨ps ++ [(x, s1, s2)], h.push (x := (x, s1, s2)) (fun q hq => ?_) hown hg (fun b hb => ⟨⟨hb.1, Nat.lt_of_lt_of_le hb.2.1 hg.size, fun e => ?_⟩, hb.2.1, hb.2.2⟩), by simp [e]⟩
 · simp only [encO, List.mem_cons, List.not_mem_nil, or_false] at hq
   rcases hq with rfl | rfl
   · exact h1
   · exact h2
 · rcases hv with e1 | e1
   · rw [e1] at e; exact hb.2.2 e
   · rw [e1] at e; injection e with e; have := hb.2.1; omega
end
end Go.Proofs.YthhbkabdhkdafaaGreat
