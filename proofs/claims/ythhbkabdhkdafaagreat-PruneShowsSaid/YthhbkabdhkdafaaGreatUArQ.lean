/- Part of a proof of pruneShows_holds. -/
import Derived.Test.YthhbkabdhkdafaaGreatUAkQ
set_option linter.unusedSimpArgs false
set_option linter.unusedVariables false
set_option maxRecDepth 100000
set_option maxHeartbeats 16000000
namespace Go.Proofs.YthhbkabdhkdafaaGreat
section
open Go.RowKit
def ValsPost (w : World) (l : List V) (e : Ending) (w' : World) : Prop := ∃ s, e = .returned s ∧ KAt w' (fun b => w.heap.size ≤ b ∧ b < w'.heap.size) s l ∧ Bw w w'
def ValPost (w : World) (v : V) (e : Ending) (w' : World) : Prop := ∃ s, e = .returned (.agg #[.int .i64 v.n, s]) ∧ KAt w' (fun b => w.heap.size ≤ b ∧ b < w'.heap.size) s v.ks ∧ Bw w w'
theorem ocopies_step (l : List V) (ih : ∀ v ∈ l, ∀ (s : Value) (W : World), KB W W.heap.size s v.ks → Calls Tryz.prog 244 #[aggV v s] W (ValPost W v)) (s : Value) (w : World) (h : KB w w.heap.size s l) (h9 : l.length ≤ 1000000) :
   Calls Tryz.prog 178 #[s] w (ValsPost w l) := by
 obtain ⟨A, n, c, rfl, ln, bn, mn⟩ := h.form
 unfold maxLen at mn
 rw [ln] at h9
 have HK := Lib.hid h
 have HIH := Lib.hid ih
 have LN := Lib.hid ln
 clear h ih ln
 obtain ⟨i0, hi, hz0, hz1, hz2⟩ := info_parts infoVal
 go_enter Tryz.func178, Tryz.ntmps178
 go_wp2
 go_loopw [3, 8] (fun s3 i wr => ∃ k : Nat, k ≤ n ∧ i = .int .i64 k ∧ Hid (∃ ss, VRow wr 31 w.heap.size w.heap.size s3 (l.take k) ss ∧ Bw w wr)) (fun _ i _ => n - (intOf i).toNat)
 case atStart => exact ⟨0, by omega, rfl, Lib.hid ⟨[], VRow.nil _ _ _ _, Bw.refl _⟩⟩
 case round =>
   obtain ⟨k, hk, rfl, HR⟩ := hrel
   obtain ⟨ss, hv, hw⟩ := HR.out
   by_cases hlt : k < n
   · have e1 : k < l.length := by rw [LN.out]; exact hlt
     obtain ⟨ad, sA, sn, sc, rfl, hb, q0, q1, sl, hs⟩ := (HK.out.bw hw).at_ e1
     obtain ⟨VA, vc, rfl, _, _⟩ := hv.form
     have hlk : (l.take k).length = k := by simp; omega
     rw [hlk] at hv ⊢
     have CP : Hid (∀ o, Calls Tryz.prog 244 #[.agg #[.int .i64 l[k].n, .slice sA sn sc]] (wr.alloc o) (ValPost (wr.alloc o) l[k])) := Lib.hid (fun o => HIH.out _ (List.getElem_mem e1) _ _ (hs.bw ((Bw.refl _).alloc _)))
     have HV := Lib.hid hv
     have HW := Lib.hid hw
     have hsw := hw.size
     have HT : Hid (l.take (k + 1) = l.take k ++ [l[k]]) := Lib.hid (List.take_succ_eq_append_getElem e1)
     clear hs sl hv hw HR hlk
     generalize hx : l[k] = x at *
     clear hx
     obtain ⟨xn, hxn⟩ : ∃ xn, x.n = xn := ⟨_, rfl⟩
     unfold ValPost at CP
     rw [hxn] at CP q0
     have HXN := Lib.hid hxn
     clear hxn
     go_wp2_with (first
       | (go_at_call 244; go_must (refine (CP.out _).mono ?_; rintro e w6 ⟨s6, rfl, hk6, hg6⟩; obtain ⟨A6, n6, c6, rfl, ln6, _, _⟩ := hk6.form; (have HK6 := Lib.hid hk6); (have HG6 : Hid (Bw wr w6) := Lib.hid (((Bw.refl _).alloc _).trans hg6)); (have hs6 : wr.heap.size < w6.heap.size := by have := hg6.size; simp at this; omega); (have HV6 := Lib.hid (HV.out.bw HG6.out)); clear hk6 hg6 ln6))
       | (at_builtin; go_must (refine wpList_append_any _ rfl _ _ 29 rfl w.heap.size 31 i0 _ 2 32 Tryz.underlying29 hi hz0 hz1 hz2 rfl (by decide) (.slice VA k vc) k (vCells (l.take k) ss) rfl (by have := (HV6.out.own.alloc (.cells #[.int .i64 xn, .slice A6 n6 c6] 31)); rwa [show (l.take k).length = k by simp; omega] at this) (w6.heap.size + 1) (some ⟨w6.heap.size, 0, none⟩) 1 1 [.int .i64 xn, .slice A6 n6 c6] rfl (reads_new2 w6 _ _ _) (one2 _ _ _ _) (by unfold maxLen; omega) (by omega) (by simp; omega) ?_; intro v7 w7 hown7 hgr7 hl7; obtain ⟨A7, c7, rfl⟩ := own_form hown7; (have HO7 := Lib.hid hown7); (have HG7 := Lib.hid hgr7); (have HL7 := Lib.hid hl7); clear hown7 hgr7 hl7)))
     go_roundw
     case rel =>
       have hlk : (l.take k).length = k := by simp; omega
       have hv6 := HV6.out
       have hk6 := HK6.out
       have hs7 := HG7.out.size
       refine ⟨k + 1, by omega, by go_num, Lib.hid ⟨ss ++ [.slice A6 n6 c6], ?_, ?_⟩⟩
       · rw [HT.out]
         refine (hv6.bw (((Bw.refl w6).alloc _))).push (x := x) (s := .slice A6 n6 c6) ?_ ?_ HG7.out HL7.out
         · refine KAt.keep (S := fun b => wr.heap.size < b ∧ b < w6.heap.size) ?_ (fun b hb => ⟨by omega, by simp; omega, fun e => ?_⟩) (fun p hp => World.cell?_alloc_lt w6 _ p hp.2)
           · exact hk6.keep (fun b hb => ⟨by have := hb.1; simp at this; omega, hb.2⟩) (fun _ _ => rfl)
           · have := (HV.out.own.lt b (by rw [hlk] at *; exact e)).2; omega
         · rw [hlk, HXN.out]; exact HO7.out
       · exact Below.trans (HW.out.trans (HG6.out.alloc _)) (below_own (Below.refl w.heap.size _) ((hv6.own.alloc _)) HG7.out (by simp; omega))
     case measure => simp [intOf]; omega
   · obtain rfl : k = n := by omega
     obtain ⟨VA, vc, rfl, _, _⟩ := hv.form
     have HV := Lib.hid hv
     have HW := Lib.hid hw
     clear hv hw HR
     go_wp2
     go_ret
     refine ⟨_, rfl, ?_, HW.out⟩
     have := HV.out.kat (Nat.le_refl _)
     rwa [List.take_of_length_le (by rw [LN.out]; omega)] at this ⊢

theorem ocopy_step (v : V) (s : Value) (w : World) (h : KB w w.heap.size s v.ks) (ih : ∀ (s : Value) (W : World), KB W W.heap.size s v.ks → Calls Tryz.prog 178 #[s] W (ValsPost W v.ks)) : Calls Tryz.prog 244 #[.agg #[.int .i64 v.n, s]] w (ValPost w v) := by
 obtain ⟨A, n, c, rfl, ln, bn, mn⟩ := h.form
 have CP : Hid (∀ W, Bw w W → Calls Tryz.prog 178 #[.slice A n c] W (ValsPost W v.ks)) := Lib.hid (fun W g => ih _ _ (h.bw g))
 unfold ValPost
 clear h ih ln
 generalize v.n = x at *
 go_enter Tryz.func244, Tryz.ntmps244
 go_wp2_with fail
 refine wp_world (fun W => Hid (Bw w W ∧ Blk W w.heap.size 31 #[.int .i64 x, .slice A n c] ∧ Blk W (w.heap.size + 1) 31 #[.int .i64 0, .slice none 0 0])) (Lib.hid ⟨((Bw.refl _).alloc _).alloc _, (Blk.new _ _ _).alloc _, by have := Blk.new (w.alloc (.cells #[.int .i64 x, .slice A n c] 31)) 31 #[.int .i64 0, .slice none 0 0]; simpa only [World.size_alloc] using this⟩) ?_
 intro W HW
 obtain ⟨hg, k1, k2⟩ := HW.out
 have p0 := k1.cell 0
 have p1 := k1.cell 1
 have z1 := k1.lt
 have z2 := k2.lt
 have hs0 := hg.size
 have e0 := k2.cell 0
 have e1 := k2.cell 1
 have f0 := k2.frozen 0
 have f1 := k2.frozen 1
 have KS : Hid (∀ w', Bw W.drew w' → w.heap.size + 1 < w'.heap.size ∧ w'.cell? ⟨w.heap.size, 0, none⟩ = some (.int .i64 x) ∧ w'.cell? ⟨w.heap.size + 1, 0, none⟩ = some (.int .i64 0) ∧ w'.cell? ⟨w.heap.size + 1, 1, none⟩ = some (.slice none 0 0) ∧ w'.frozen? ⟨w.heap.size + 1, 0, none⟩ = false ∧ w'.frozen? ⟨w.heap.size + 1, 1, none⟩ = false ∧ Blk w' (w.heap.size + 1) 31 #[.int .i64 0, .slice none 0 0]) := Lib.hid (fun w' g => by
   have g : Bw W w' := (Bw.refl W).drew.trans g
   have k3 := k2.below g.b z2
   exact ⟨k3.lt, (g.b.cell (p := ⟨w.heap.size, 0, none⟩) z1).trans p0, k3.cell 0, k3.cell 1, k3.frozen 0, k3.frozen 1, k3⟩)
 have CP2 : Hid (∀ W', Bw W W' → Calls Tryz.prog 178 #[.slice A n c] W' (ValsPost W' v.ks)) := Lib.hid (fun W' g => CP.out _ (hg.trans g))
 have HG := Lib.hid hg
 clear hg k1 k2 HW CP
 generalize hz : w.heap.size = z at *
 have HZ := Lib.hid hz
 clear hz
 go_region_with ((go_at_call 178; refine (CP2.out _ (by first | exact (Bw.refl _).drew | exact Bw.refl _)).mono ?_; rintro e w' ⟨s6, rfl, hk6, hg6⟩; obtain ⟨A6, n6, c6, rfl, ln6, _, _⟩ := hk6.form; obtain ⟨u0, u1, u2, u3, u4, u5, u6⟩ := KS.out _ hg6; (have HK6 := Lib.hid hk6); (have HG6 := Lib.hid hg6); (have HU6 := Lib.hid u6); clear hk6 hg6 ln6 u6))
 all_goals
   have HBB := Lib.hid (blk_set (i := 1) (.slice A6 n6 c6) (blk_set (i := 0) (.int .i64 x) HU6.out))
   go_wp2
   refine bodyPost_ret (results_cell_row (p := 2) (ty := 31) rfl _ _ (z + 1) 31 _ (0, 0) _ rfl HBB.out Tryz.underlying31 rfl (by kernel_rfl)) rfl ?_
   have hz := HZ.out
   refine ⟨.slice A6 n6 c6, rfl, HK6.out.keep (fun b hb => ⟨?_, ?_⟩) (fun p hp => ?_), ?_⟩
   · have h1 : W.heap.size ≤ b := hb.1
     omega
   · have h1 := hb.2
     simp [World.setCell]; omega
   · have h1 : W.heap.size ≤ p.block := hp.1
     rw [World.cell?_setCell_other _ _ _ _ (by intro e; subst e; simp at h1; omega), World.cell?_setCell_other _ _ _ _ (by intro e; subst e; simp at h1; omega)]
   · have h2 : Bw w w' := HG.out.trans ((Bw.refl W).drew.trans HG6.out)
     exact (h2.setCell (p := ⟨z + 1, 0, none⟩) (by dsimp only; omega) _).setCell (p := ⟨z + 1, 1, none⟩) (by dsimp only; omega) _
theorem ocopy_any (v : V) : v.size ≤ 1000000 → ∀ (s : Value) (w : World), KB w w.heap.size s v.ks → Calls Tryz.prog 244 #[aggV v s] w (ValPost w v) := by
 induction v using V.ind with
 | h n ks ih =>
   intro hsz s w h
   have h1 : sizeL ks < 1000000 := by simp [V.size] at hsz; omega
   exact ocopy_step (.mk n ks) s w h fun s' W h' => ocopies_step ks (fun v hv s2 W2 h2 => ih v hv (by have := sizeL_mem hv; omega) s2 W2 h2) s' W h' (by have := sizeL_length ks; omega)
theorem ocopies_any (l : List V) (h9 : sizeL l ≤ 1000000) (s : Value) (w : World) (h : KB w w.heap.size s l) : Calls Tryz.prog 178 #[s] w (ValsPost w l) :=
 ocopies_step l (fun v hv s2 W2 h2 => ocopy_any v (by have := sizeL_mem hv; omega) s2 W2 h2) s w h (by have := sizeL_length l; omega)
end
end Go.Proofs.YthhbkabdhkdafaaGreat
