/- Part of a proof of pruneShows_holds. -/
import Derived.Test.YthhbkabdhkdafaaGreatUBnQ
import Derived.Test.YthhbkabdhkdafaaGreatUBoQ
import Derived.Test.YthhbkabdhkdafaaGreatUBsQ
set_option linter.unusedSimpArgs false
set_option linter.unusedVariables false
set_option maxRecDepth 100000
set_option maxHeartbeats 16000000
namespace Go.Proofs.YthhbkabdhkdafaaGreat
section
open Go.RowKit
def WtsPost (w : World) (m : Mdl) (e : Ending) (w' : World) : Prop := ∃ (fA : Option Addr) (q fc : Nat) (vA : Option Addr) (vc : Nat) (F : List (List Int)), e = .returned (.tuple #[.agg #[.slice fA q fc, .slice vA q vc], .int .i64 0]) ∧ F.length = q ∧ F.Perm (flowsM m) ∧ MxAt w' (fun b => w.heap.size ≤ b ∧ b < w'.heap.size) (.slice fA q fc) F ∧ IAt w' (fun b => w.heap.size ≤ b ∧ b < w'.heap.size) (.slice vA q vc) (F.map fun y => dotI y m.cs) ∧ Bw w w'
theorem flowsM_le {m : Mdl} (h : CtOk m) : (flowsM m).length ≤ 4 := by
 unfold flowsM flowsU
 refine Nat.le_trans (List.length_filterMap_le _ _) ?_
 rw [List.length_range, chg_len]
 have := h.pl
 rcases (by omega : m.ps.length = 1 ∨ m.ps.length = 2) with e | e <;> rw [e] <;> decide
theorem val_any (m : Mdl) (hct : CtOk m) (y : List Int) (hy : y ∈ flowsM m) (cs : List Int) (hl : cs.length = m.ps.length) (hb : ∀ x ∈ cs, 0 ≤ x ∧ x ≤ 1048576) (s1 s2 : Value) (W : World) (h1 : IB W W.heap.size s1 y) (h2 : IB W W.heap.size s2 cs) : Calls Tryz.prog 51 #[s1, s2] W (fun e w' => e = .returned (.tuple #[.int .i64 (dotI y cs), .int .i64 0]) ∧ Bw W w') := by
 have F := isFlow_of (flowsM_ok hct y hy)
 have hp := hct.pl
 exact sfValue_any y cs (by rw [F.len, hl]) (by rw [F.len]; omega) (fun x hx => by have := F.bd x hx; omega) hb s1 s2 W h1 h2
theorem pnOf_any (m : Mdl) (hct : CtOk m) (sv pv rv kv : Value) (w : World) (h : MB w w.heap.size sv pv rv kv m) : Calls Tryz.prog 26 #[aggM sv pv rv kv] w (WtsPost w m) := by
 obtain ⟨A1, c1, A2, c2, A3, c3, A4, c4, rfl, rfl, rfl, rfl⟩ := h.form
 have CM : Hid (∀ W, Bw w W → Calls Tryz.prog 49 #[aggM (.slice A1 m.ss.length c1) (.slice A2 m.ps.length c2) (.slice A3 m.rs.length c3) (.slice A4 (1 + m.cs.length) c4)] W (TrPost W (chgT m))) := Lib.hid (fun W g => mdMatrix_any m hct _ _ _ _ W (h.bw g))
 have CO : Hid (∀ v W, MxAt W (· < W.heap.size) v (chgT m) → Calls Tryz.prog 50 #[v] W (fun e w' => ∃ (A : Option Addr) (q c : Nat) (ps : List (List Int × Value)), e = .returned (.tuple #[.slice A q c, .int .i64 0]) ∧ ps.length = q ∧ (ps.map (·.1)).Perm (flowsM m) ∧ (∀ p ∈ ps, p.1.length = m.ps.length) ∧ MxO w' W.heap.size (.slice A q c) ps ∧ Bw W w')) := Lib.hid (fun v W hv => sfOf_any (chgT m) _ _ (chg_ok hct) hct.pl.2 v W hv)
 have CN : Hid (∀ W, Bw w W → Calls Tryz.prog 52 #[.agg #[.int .i64 0, .slice A4 (1 + m.cs.length) c4]] W (IntsF W m.cs)) := Lib.hid (fun W g => shNumbers_any m.st m.cs _ W (h.bw g).k (by rw [hct.cl]; have := hct.pl; omega))
 have CV : Hid (∀ y, y ∈ flowsM m → ∀ s1 s2 W, IB W W.heap.size s1 y → IB W W.heap.size s2 m.cs → Calls Tryz.prog 51 #[s1, s2] W (fun e w' => e = .returned (.tuple #[.int .i64 (dotI y m.cs), .int .i64 0]) ∧ Bw W w')) := Lib.hid (fun y hy s1 s2 W h1 h2 => val_any m hct y hy m.cs hct.cl (fun x hx => by have := hct.c3 x hx; omega) s1 s2 W h1 h2)
 have BX := Lib.hid (box2 w 33 (mdA (.slice A1 m.ss.length c1) (.slice A2 m.ps.length c2) (.slice A3 m.rs.length c3) (.slice A4 (1 + m.cs.length) c4)) 77 #[.slice none 0 0, .slice none 0 0])
 have HFL := Lib.hid (flowsM_le hct)
 obtain ⟨i1, hi1, hy0, hy1, hy2⟩ := info_parts infoInt
 unfold WtsPost
 clear h hct
 unfold aggM mdA at *
 generalize m.ss.length = ns at *
 generalize m.ps.length = n at *
 generalize m.rs.length = q9 at *
 generalize 1 + m.cs.length = z at *
 generalize chgT m = T at *
 generalize flowsM m = FM at *
 generalize m.cs = cs at *
 unfold TrPost at CM
 go_enter Tryz.func26, Tryz.ntmps26
 go_upto_region 7 with (first
   | (go_at_call 49; go_must (refine (CM.out _ BX.out.1).mono ?_; rintro e w2 ⟨TA, tc, rfl, hm2, hg2⟩; (have HM2 := Lib.hid (hm2.keep (S' := fun b => b < w2.heap.size) (fun b hb => hb.2) (fun _ _ => rfl))); (have HG2 := Lib.hid hg2); clear hm2 hg2))
   | (go_at_call 50; go_must (refine (CO.out _ _ HM2.out).mono ?_; rintro e w3 ⟨SA, q, sc, ps, rfl, h1, h2, h3, h4, hg3⟩; (have HX := Lib.hid (And.intro h1 (And.intro h2 h4))); (have HG3 := Lib.hid (HG2.out.trans hg3)); clear h1 h2 h3 h4 hg3)))
 have hq4 : q ≤ 4 := by have h := HX.out.2.1.length_eq; have h2 := HX.out.1; rw [List.length_map] at h; have := HFL.out; omega
 obtain ⟨F, hF⟩ : ∃ F, ps.map (·.1) = F := ⟨_, rfl⟩
 have HF : Hid (F.Perm FM ∧ F.length = q ∧ ∀ y ∈ F, y ∈ FM) := Lib.hid ⟨by rw [← hF]; exact HX.out.2.1, by rw [← hF, List.length_map]; exact HX.out.1, fun y hy => (by rw [← hF] at hy; exact HX.out.2.1.subset hy)⟩
 obtain ⟨wb, hwb⟩ : ∃ wb, (w.alloc (.cells #[.int .i64 1, .slice A1 ns c1, .slice A2 n c2, .slice none 0 0, .slice none 0 0, .int .i64 0, .int .i64 0, .slice A3 q9 c3, .int .i64 0, .slice A4 z c4] 33)).alloc (.cells #[.slice none 0 0, .slice none 0 0] 77) = wb := ⟨_, rfl⟩
 have HWB : Hid (w.heap.size + 1 < wb.heap.size) := Lib.hid (by rw [← hwb]; simp)
 rw [hwb] at BX HG2 HG3
 have hsz2 := HG2.out.size
 have hsz3 := HG3.out.size
 have hsz9 := HWB.out
 have HMF : Hid (MxAt w3 (fun b => wb.heap.size ≤ b ∧ b < w3.heap.size) (.slice SA q sc) F) := Lib.hid (by
   have := HX.out.2.2.at_
   rw [hF] at this
   exact this.keep (fun b hb => ⟨by omega, hb.2⟩) (fun _ _ => rfl))
 go_upto_region 8 with fail
 refine wp_world (fun W => Hid (Bw wb W ∧ Blk W w3.heap.size 77 #[.slice SA q sc, .slice none 0 0] ∧ MxAt W (fun b => wb.heap.size ≤ b ∧ b < w3.heap.size) (.slice SA q sc) F)) (Lib.hid ⟨HG3.out.alloc _, Blk.new w3 _ _, HMF.out.keep (fun _ hb => hb) (fun p hp => World.cell?_of_block (Below.heap_alloc w3 _ p.block hp.2))⟩) ?_
 clear CM CO HM2 HX hwb hF HMF HG2 HG3 hsz2
 intro W0 HW0
 have hsb : w3.heap.size < W0.heap.size := HW0.out.2.1.lt
 generalize w3.heap.size = sb at *
 go_wp2_with fail
 go_loopw [34] (fun s34 wr => ∃ (k : Nat) (VA : Option Addr) (vc : Nat), k ≤ q ∧ s34 = .int .i64 (k : Int) ∧ Hid (Blk wr sb 77 #[.slice SA q sc, .slice VA k vc] ∧ wr.ownsRow W0.heap.size 3 1 (.slice VA k vc) k (intVs ((F.take k).map fun y => dotI y cs)) ∧ W0.grownBy wr (some sb))) (fun s34 _ => q - (intOf s34).toNat)
 case atStart => exact ⟨0, none, 0, by omega, rfl, Lib.hid ⟨HW0.out.2.1, World.ownsRow_nil _ _ _ _, World.grownBy.refl _ _⟩⟩
 case round =>
   obtain ⟨wo, hwo⟩ : ∃ wo, wo = wr := ⟨_, rfl⟩
   subst hwo
   obtain ⟨k, VA, vc, hk, rfl, HA⟩ := hrel
   obtain ⟨hblk, hown, hgr⟩ := HA.out
   have hbo : Bw wb wo := bw_gb HW0.out.1 hgr (fun r e => by injection e with e; omega)
   have hzo := hgr.size
   have hMo : MxAt wo (fun b => wb.heap.size ≤ b ∧ b < sb) (.slice SA q sc) F := HW0.out.2.2.keep (fun _ hb => hb) (fun p hp => World.cell?_of_block (hgr.block p.block (by omega) (fun e => by injection e with e; omega)))
   by_cases hlt : k < q
   · have hlt' : (k : Int) < (q : Int) := by omega
     have hkF : k < F.length := by rw [HF.out.2.1]; exact hlt
     obtain ⟨ad, yA, yc, rfl, hab, z0, hy⟩ := hMo.at_ hkF
     obtain ⟨y, y0, y1, y2, y3, y4, y5, y6, y7, y8, y9⟩ := (BX.out.2 wo hbo).2.1.c10
     have HT : Hid (intVs ((F.take (k + 1)).map fun y => dotI y cs) = intVs ((F.take k).map fun y => dotI y cs) ++ [.int .i64 (dotI F[k] cs)]) := Lib.hid (by rw [List.take_succ_eq_append_getElem hkF, List.map_append, ← intVs_append]; rfl)
     have HYV : Hid (∀ W, Bw wo W → IB W W.heap.size (.slice yA F[k].length yc) F[k]) := Lib.hid (fun W g => (hy.keep (S' := fun b => b < wo.heap.size) (fun b hb => by omega) (fun _ _ => rfl) : IB wo wo.heap.size _ _).bw g)
     have CVk := Lib.hid (CV.out F[k] (HF.out.2.2 _ (List.getElem_mem hkF)))
     have hbnd : Hid (∀ r, (Value.slice VA k vc).ownBlock = some r → W0.heap.size ≤ r ∧ r < wo.heap.size) := Lib.hid (fun r e => hown.lt r e)
     have HBLK := Lib.hid hblk
     have HOWN := Lib.hid hown
     have HGR := Lib.hid hgr
     have HBO := Lib.hid (BX.out.1.trans hbo)
     generalize dotI F[k] cs = d at *
     generalize F[k].length = yl at *
     clear hblk hown hgr hbo hMo hy HA
     go_wp2_with (first
       | (go_at_call 52; go_must (refine (CN.out _ HBO.out).mono ?_; rintro e w5 ⟨s5, rfl, ho5, hb5⟩; obtain ⟨NA, nc, rfl, -, -⟩ := own_bounds ho5; (have HN5 := Lib.hid (And.intro ho5 hb5)); clear ho5 hb5))
       | (go_at_call 51; go_must (refine (CVk.out _ _ _ (HYV.out _ HN5.out.2) ((own_iat2 HN5.out.1).keep (fun b hb => hb.2) (fun _ _ => rfl))).mono ?_; rintro e w6 ⟨rfl, hb6⟩; (have HB6 := Lib.hid (HN5.out.2.trans hb6)); (have hbk6 := HBLK.out.below (HN5.out.2.trans hb6).b HBLK.out.lt); (have b0 := hbk6.cell 0); (have b1 := hbk6.cell 1); (have bl := hbk6.lt); (have hs6 := (HN5.out.2.trans hb6).size); clear hb6))
       | (at_builtin; go_must (refine wpList_append_any _ rfl _ _ 27 rfl W0.heap.size 3 i1 _ 1 8 Tryz.underlying27 hi1 hy0 hy1 hy2 rfl (by decide) (.slice VA k vc) k (intVs ((F.take k).map fun y => dotI y cs)) rfl ((own_kept_below HOWN.out HB6.out.b).alloc _) (w6.heap.size + 1) (some ⟨w6.heap.size, 0, none⟩) 1 1 [.int .i64 d] rfl (reads_new1 w6 d) (by simp [Value.oneCell']) (by unfold maxLen; omega) (by omega) (by simp; omega) ?_; intro v7 w7 hown7 hgr7 hl7; obtain ⟨A7, c7, rfl⟩ := own_form hown7; (have hb7 := (hbk6.alloc (.cells #[.int .i64 d] 3)).grown hgr7 (fun e => by have := hbnd.out _ e.symm; omega)); (have t0 := hb7.cell 0); (have t1 := hb7.cell 1); (have tf := hb7.frozen 1); (have tl := hb7.lt); (have HO7 := Lib.hid (And.intro hown7 (And.intro hgr7 hb7))); clear hown7 hgr7 hl7 hb7)))
     have hA : Bw wo (w6.alloc (.cells #[.int .i64 d] 3)) := HB6.out.alloc _
     have hg7 : W0.grownBy w7 (some sb) := grown_own (grownBy_trans HGR.out (bw_gr0 hA _)) HO7.out.2.1 (fun r e => (hbnd.out r e).1)
     have hgs : w7.grownBy (w7.setCell ⟨sb, 1, none⟩ (.slice A7 (k + 1) c7)) (some sb) := grownBy_setCell (p := ⟨sb, 1, none⟩) (World.grownBy.refl w7 (some sb)) (.inl rfl) _
     exact ⟨⟨k + 1, A7, c7, by omega, by go_num, Lib.hid ⟨blk_set (i := 1) (.slice A7 (k + 1) c7) HO7.out.2.2, by rw [HT.out]; exact own_put HO7.out.1 hgs (by omega), grownBy_trans hg7 hgs⟩⟩, by simp [intOf]; omega⟩
   · obtain rfl : k = q := by omega
     have hz0 := (BX.out.2 wo hbo).2.2
     have HZ0 := Lib.hid hz0
     obtain ⟨zl, z0, z1⟩ := hz0.c2
     have f0 := hz0.frozen 0
     have f1 := hz0.frozen 1
     obtain ⟨bl, b0, b1⟩ := hblk.c2
     have HH := Lib.hid (And.intro hown (And.intro hbo (And.intro hMo hgr)))
     clear hz0 hblk hown hbo hMo hgr
     go_wp2_with fail
     have hst := blk2 (v0 := .slice SA k sc) (v1 := .slice VA k vc) HZ0.out
     refine bodyPost_ret (rrow1 (p := 2) (q := 3) (ty := 77) rfl _ _ (w.heap.size + 1) _ _ rfl (run_loadVar_row _ _ 77 77 _ (0, 0) _ hst.1 Tryz.underlying77 rfl (by kernel_rfl)) rfl) rfl ?_
     obtain ⟨h1, h2, h3, h4⟩ := HH.out
     rw [List.take_of_length_le (by rw [HF.out.2.1]; exact Nat.le_refl _)] at h1
     have hsf := hst.2.size
     have hz1 := BX.out.1.size
     have hlen : (F.map fun y => dotI y cs).length = k := by rw [List.length_map]; exact HF.out.2.1
     refine ⟨_, _, _, _, _, F, rfl, HF.out.2.1, HF.out.1, ?_, ?_, bw_gb (BX.out.1.trans h2) hst.2 (fun r e => by injection e with e; omega)⟩
     · exact h3.keep (fun b hb => ⟨by omega, by omega⟩) (fun p hp => World.cell?_of_block (hst.2.block p.block (by omega) (fun e => by injection e with e; omega)))
     · have h5 := own_iat h1
       exact h5.keep (fun b hb => ⟨by omega, by omega⟩) (fun p hp => World.cell?_of_block (hst.2.block p.block hp.2 (fun e => by injection e with e; have := hp.1; omega)))
def ExcPost (w : World) (F : List (List Int)) (cs c0 : List Int) (e : Ending) (w' : World) : Prop := ∃ r : Int, e = .returned (.int .i64 r) ∧ Bw w w' ∧ ((r = -1 ∧ ∀ y ∈ F, dotI y cs ≤ dotI y c0) ∨ ∃ k, ∃ h : k < F.length, r = (k : Int) ∧ dotI F[k] c0 < dotI F[k] cs)
theorem pnExc_any (m : Mdl) (hct : CtOk m) (F : List (List Int)) (hF : ∀ y ∈ F, y ∈ flowsM m) (h4 : F.length ≤ 1000) (st : Int) (cs : List Int) (hl : cs.length = m.ps.length) (hb : ∀ x ∈ cs, 0 ≤ x ∧ x ≤ 1048576) (fA : Option Addr) (fc : Nat) (vA : Option Addr) (vc : Nat) (kv : Value) (w : World) (hf : MxAt w (· < w.heap.size) (.slice fA F.length fc) F) (hv : IB w w.heap.size (.slice vA F.length vc) (F.map fun y => dotI y m.cs)) (hk : KB w w.heap.size kv (cfgV st cs).ks) :
   Calls Tryz.prog 28 #[.agg #[.slice fA F.length fc, .slice vA F.length vc], .agg #[.int .i64 0, kv]] w (ExcPost w F cs m.cs) := by
 obtain ⟨KA, kn, kc, rfl, -, -, -⟩ := hk.form
 have CN : Hid (∀ W, Bw w W → Calls Tryz.prog 52 #[.agg #[.int .i64 0, .slice KA kn kc]] W (IntsF W cs)) := Lib.hid (fun W g => shNumbers_any st cs _ W (hk.bw g) (by rw [hl]; have := hct.pl; omega))
 have CV : Hid (∀ y, y ∈ flowsM m → ∀ s1 s2 W, IB W W.heap.size s1 y → IB W W.heap.size s2 cs → Calls Tryz.prog 51 #[s1, s2] W (fun e w' => e = .returned (.tuple #[.int .i64 (dotI y cs), .int .i64 0]) ∧ Bw W w')) := Lib.hid (fun y hy s1 s2 W h1 h2 => val_any m hct y hy cs hl hb s1 s2 W h1 h2)
 have BX := Lib.hid (box2 w 77 #[.slice fA F.length fc, .slice vA F.length vc] 31 #[.int .i64 0, .slice KA kn kc])
 have HF := Lib.hid hF
 have HMV := Lib.hid (And.intro hf hv)
 clear hct hF hl hb hf hv hk
 generalize m.cs = c0 at *
 generalize flowsM m = FM at *
 generalize hq : F.length = q at *
 have HQL := Lib.hid hq
 clear hq
 go_enter Tryz.func28, Tryz.ntmps28
 go_upto_region 2 with (go_at_call 52; go_must (refine (CN.out _ BX.out.1).mono ?_; rintro e w5 ⟨s5, rfl, ho5, hb5⟩; obtain ⟨NA, nc, rfl, -, -⟩ := own_bounds ho5; (have HN5 := Lib.hid (And.intro ho5 hb5)); clear ho5 hb5))
 obtain ⟨wb, hwb⟩ : ∃ wb, (w.alloc (.cells #[.slice fA q fc, .slice vA q vc] 77)).alloc (.cells #[.int .i64 0, .slice KA kn kc] 31) = wb := ⟨_, rfl⟩
 rw [hwb] at BX HN5
 clear hwb CN
 have HBW := Lib.hid (BX.out.1.trans HN5.out.2)
 have HNC : Hid (∀ W, Bw w5 W → IB W W.heap.size (.slice NA cs.length nc) cs) := Lib.hid (fun W g => ((own_iat2 HN5.out.1).keep (S' := fun b => b < w5.heap.size) (fun b hb => hb.2) (fun _ _ => rfl) : IB w5 w5.heap.size _ _).bw g)
 obtain ⟨zl, z0, z1⟩ := (BX.out.2 w5 HN5.out.2).2.1.c2
 go_wp2_with fail
 clear zl z0 z1
 go_loopw [15] (fun s15 wr => ∃ k : Nat, k ≤ q ∧ s15 = .int .i64 (k : Int) ∧ Hid (Bw w5 wr ∧ ∀ j (h : j < F.length), j < k → dotI F[j] cs ≤ dotI F[j] c0)) (fun s15 _ => q - (intOf s15).toNat)
 case atStart => exact ⟨0, by omega, rfl, Lib.hid ⟨Bw.refl _, fun j h h0 => by omega⟩⟩
 case round =>
   obtain ⟨wo, hwo⟩ : ∃ wo, wo = wr := ⟨_, rfl⟩
   subst hwo
   obtain ⟨k, hk, rfl, HA⟩ := hrel
   by_cases hlt : k < q
   · have hlt' : (k : Int) < (q : Int) := by omega
     have hkF : k < F.length := by rw [HQL.out]; exact hlt
     obtain ⟨ad, yA, yc, rfl, hab, z0, hy⟩ := (HMV.out.1.bw (HBW.out.trans HA.out.1)).at_ hkF
     obtain ⟨vad, rfl, hvb, hv0⟩ := (HMV.out.2.bw (HBW.out.trans HA.out.1)).at_ (k := k) (by rw [List.length_map]; exact hkF)
     have HVK : Hid (∀ W, Bw wo W → W.cell? (vad.add k) = some (.int .i64 (dotI F[k] c0)) ∧ Blk W w.heap.size 77 #[.slice (some ad) q fc, .slice (some vad) q vc]) := Lib.hid (fun W g => ⟨(g.b.cell (p := vad.add k) (by rw [add_block]; exact hvb)).trans (by rw [hv0]; simp), (BX.out.2 W (HN5.out.2.trans (HA.out.1.trans g))).2.1⟩)
     have CVk := Lib.hid (CV.out F[k] (HF.out _ (List.getElem_mem hkF)))
     have HYV : Hid (IB wo wo.heap.size (.slice yA F[k].length yc) F[k]) := Lib.hid hy
     have HST : Hid ((∀ j (h : j < F.length), j < k → dotI F[j] cs ≤ dotI F[j] c0) ∧ k < F.length) := Lib.hid ⟨HA.out.2, hkF⟩
     have HDK : Hid (∀ d1 d2 : Int, dotI F[k] cs = d1 → dotI F[k] c0 = d2 → (d1 ≤ d2 → ∀ j (h : j < F.length), j < k + 1 → dotI F[j] cs ≤ dotI F[j] c0) ∧ (d2 < d1 → ∃ j, ∃ h : j < F.length, (k : Int) = (j : Int) ∧ dotI F[j] c0 < dotI F[j] cs)) := Lib.hid (fun d1 d2 e1 e2 => ⟨fun hd j h hj => by
       rcases Nat.lt_or_ge j k with hjk | hjk
       · exact HST.out.1 j h hjk
       · obtain rfl : j = k := by omega
         omega, fun hd => ⟨k, hkF, rfl, by omega⟩⟩)
     have HAB := Lib.hid HA.out.1
     clear hy hv0 hab hvb HA HST
     generalize hd1 : dotI F[k] cs = d1 at *
     generalize hd2 : dotI F[k] c0 = d2 at *
     have HD := Lib.hid (HDK.out d1 d2 rfl rfl)
     generalize F[k].length = yl at *
     clear hd1 hd2 HDK
     go_upto_region 6 with (go_at_call 51; go_must (refine (CVk.out _ _ _ HYV.out (HNC.out _ HAB.out)).mono ?_; rintro e w6 ⟨rfl, hb6⟩; (have HB6 := Lib.hid hb6); clear hb6))
     obtain ⟨v0, v1⟩ := HVK.out w6 HB6.out
     obtain ⟨bl, b0, b1⟩ := v1.c2
     clear v1 z0
     by_cases hd : d2 < d1
     · have hdd : decide (d2 < d1) = true := by simpa using hd
       go_wp2_with fail
       go_ret
       exact ⟨_, rfl, HBW.out.trans (HAB.out.trans HB6.out), .inr (HD.out.2 hd)⟩
     · have hdd : decide (d2 < d1) = false := by simpa using hd
       go_wp2_with fail
       exact ⟨⟨k + 1, by omega, by go_num, Lib.hid ⟨HAB.out.trans HB6.out, HD.out.1 (by omega)⟩⟩, by simp [intOf]; omega⟩
   · obtain rfl : k = q := by omega
     go_wp2_with fail
     go_ret
     refine ⟨_, rfl, HBW.out.trans HA.out.1, .inl ⟨rfl, fun y hy => ?_⟩⟩
     obtain ⟨j, hj, rfl⟩ := List.getElem_of_mem hy
     exact HA.out.2 j hj (by rw [← HQL.out]; exact hj)
def keepP (F : List (List Int)) (c0 cs : List Int) : Bool := F.all fun y => decide (dotI y cs ≤ dotI y c0)
theorem pnKeeps_any (m : Mdl) (hct : CtOk m) (F : List (List Int)) (hF : ∀ y ∈ F, y ∈ flowsM m) (h4 : F.length ≤ 1000) (st : Int) (cs : List Int) (hl : cs.length = m.ps.length) (hb : ∀ x ∈ cs, 0 ≤ x ∧ x ≤ 1048576) (fA : Option Addr) (fc : Nat) (vA : Option Addr) (vc : Nat) (kv : Value) (w : World) (hf : MxAt w (· < w.heap.size) (.slice fA F.length fc) F) (hv : IB w w.heap.size (.slice vA F.length vc) (F.map fun y => dotI y m.cs)) (hk : KB w w.heap.size kv (cfgV st cs).ks) :
   Calls Tryz.prog 48 #[.agg #[.slice fA F.length fc, .slice vA F.length vc], .agg #[.int .i64 0, kv]] w (BoolPost w (keepP F m.cs cs)) := by
 obtain ⟨KA, kn, kc, rfl, -, -, -⟩ := hk.form
 have CE : Hid (∀ W, Bw w W → Calls Tryz.prog 28 #[.agg #[.slice fA F.length fc, .slice vA F.length vc], .agg #[.int .i64 0, .slice KA kn kc]] W (ExcPost W F cs m.cs)) := Lib.hid (fun W g => pnExc_any m hct F hF h4 st cs hl hb fA fc vA vc _ W (hf.bw g) (hv.bw g) (hk.bw g))
 have BX := Lib.hid (box2 w 77 #[.slice fA F.length fc, .slice vA F.length vc] 31 #[.int .i64 0, .slice KA kn kc])
 unfold ExcPost at CE
 clear hct hF hl hb hf hv hk
 have HKP : Hid (∀ r : Int, ((r = -1 ∧ ∀ y ∈ F, dotI y cs ≤ dotI y m.cs) ∨ ∃ k, ∃ h : k < F.length, r = (k : Int) ∧ dotI F[k] m.cs < dotI F[k] cs) → decide (r < 0) = keepP F m.cs cs) := Lib.hid (fun r h => by
   unfold keepP
   rcases h with ⟨rfl, h⟩ | ⟨k, hk, rfl, h⟩
   · rw [List.all_eq_true.2 (fun y hy => decide_eq_true (h y hy))]; rfl
   · rw [List.all_eq_false.2 ⟨F[k], List.getElem_mem hk, by rw [decide_eq_true_eq]; omega⟩]; exact decide_eq_false (by omega))
 generalize keepP F m.cs cs = kp at *
 go_enter Tryz.func48, Tryz.ntmps48
 go_wp2_with (go_at_call 28; go_must (refine (CE.out _ BX.out.1).mono ?_; rintro e w5 ⟨r, rfl, hb5, hc5⟩; (have HB5 := Lib.hid (And.intro hb5 (HKP.out r hc5))); clear hb5 hc5))
 go_ret
 exact ⟨by
   show Ending.returned (.bool (decide (r < 0))) = _
   rw [HB5.out.2], BX.out.1.trans HB5.out.1⟩
def ExPost (w : World) (FM : List (List Int)) (c0 cs : List Int) (e : Ending) (w' : World) : Prop := ∃ (A : Option Addr) (k c : Nat) (over : Bool), e = .returned (.tuple #[.slice A k c, .bool over, .int .i64 0]) ∧ Bw w w' ∧ ((over = false ∧ k = 0 ∧ ∀ y ∈ FM, dotI y cs ≤ dotI y c0) ∨ (over = true ∧ ∃ y ∈ FM, k = y.length ∧ dotI y c0 < dotI y cs ∧ w'.ownsRow w.heap.size 3 1 (.slice A k c) k (intVs y)))
theorem pnExcess_any (m : Mdl) (hct : CtOk m) (st : Int) (cs : List Int) (hone : oneP 8 m.t (cfgV st cs) = true) (sv pv rv kv cv : Value) (w : World) (h : MB w w.heap.size sv pv rv kv m) (hk : KB w w.heap.size cv (cfgV st cs).ks) :
   Calls Tryz.prog 11 #[aggM sv pv rv kv, .agg #[.int .i64 0, cv]] w (ExPost w (flowsM m) m.cs cs) := by
 obtain ⟨A1, c1, A2, c2, A3, c3, A4, c4, rfl, rfl, rfl, rfl⟩ := h.form
 obtain ⟨KA, kn, kc, rfl, -, -, -⟩ := hk.form
 obtain ⟨s9, cs9, e9, -, -, hl, hb⟩ := one_flat.1 hone
 obtain ⟨rfl, rfl⟩ := cfgV_inj e9
 have CO : Hid (∀ W, Bw w W → Calls Tryz.prog 26 #[aggM (.slice A1 m.ss.length c1) (.slice A2 m.ps.length c2) (.slice A3 m.rs.length c3) (.slice A4 (1 + m.cs.length) c4)] W (WtsPost W m)) := Lib.hid (fun W g => pnOf_any m hct _ _ _ _ W (h.bw g))
 have CVd : Hid (∀ W, Bw w W → Calls Tryz.prog 27 #[aggM (.slice A1 m.ss.length c1) (.slice A2 m.ps.length c2) (.slice A3 m.rs.length c3) (.slice A4 (1 + m.cs.length) c4), .agg #[.int .i64 0, .slice KA kn kc]] W (BoolPost W true)) := Lib.hid (fun W g => by
   have := mdValid_any m hct.ok hct.nm (cfgV st cs) _ _ _ _ _ W (h.bw g) (hk.bw g)
   rw [validM hct.ok hone] at this
   exact this)
 have CE : Hid (∀ (F : List (List Int)) (fA : Option Addr) (fc : Nat) (vA : Option Addr) (vc : Nat) W, (∀ y ∈ F, y ∈ flowsM m) → F.length ≤ 1000 → Bw w W → MxAt W (· < W.heap.size) (.slice fA F.length fc) F → IB W W.heap.size (.slice vA F.length vc) (F.map fun y => dotI y m.cs) → Calls Tryz.prog 28 #[.agg #[.slice fA F.length fc, .slice vA F.length vc], .agg #[.int .i64 0, .slice KA kn kc]] W (ExcPost W F cs m.cs)) := Lib.hid (fun F fA fc vA vc W h1 h2 g h3 h4 => pnExc_any m hct F h1 h2 st cs hl hb fA fc vA vc _ W h3 h4 (hk.bw g))
 have BX := Lib.hid (box2 w 33 (mdA (.slice A1 m.ss.length c1) (.slice A2 m.ps.length c2) (.slice A3 m.rs.length c3) (.slice A4 (1 + m.cs.length) c4)) 31 #[.int .i64 0, .slice KA kn kc])
 have HFL := Lib.hid (flowsM_le hct)
 have HYL : Hid (∀ y ∈ flowsM m, 1 ≤ y.length ∧ y.length ≤ 2) := Lib.hid (fun y hy => by rw [(isFlow_of (flowsM_ok hct y hy)).len]; exact hct.pl)
 unfold WtsPost at CO
 unfold ExcPost at CE
 clear h hct hk hone hl hb e9
 unfold aggM mdA at *
 generalize m.ss.length = ns at *
 generalize m.ps.length = n at *
 generalize m.rs.length = q9 at *
 generalize 1 + m.cs.length = z at *
 generalize m.cs = c0 at *
 generalize flowsM m = FM at *
 go_enter Tryz.func11, Tryz.ntmps11
 go_upto_region 2 with (go_at_call 26; go_must (refine (CO.out _ BX.out.1).mono ?_; rintro e w2 ⟨fA, q, fc, vA, vc, F, rfl, h1, h2, h3, h4, hg2⟩; (have HX := Lib.hid (And.intro h1 (And.intro h2 (And.intro (h3.keep (S' := fun b => b < w2.heap.size) (fun b hb => hb.2) (fun _ _ => rfl)) (h4.keep (S' := fun b => b < w2.heap.size) (fun b hb => hb.2) (fun _ _ => rfl)))))); (have HG2 := Lib.hid hg2); clear h1 h2 h3 h4 hg2))
 obtain ⟨wb, hwb⟩ : ∃ wb, (w.alloc (.cells #[.int .i64 1, .slice A1 ns c1, .slice A2 n c2, .slice none 0 0, .slice none 0 0, .int .i64 0, .int .i64 0, .slice A3 q9 c3, .int .i64 0, .slice A4 z c4] 33)).alloc (.cells #[.int .i64 0, .slice KA kn kc] 31) = wb := ⟨_, rfl⟩
 rw [hwb] at BX HG2
 have hlF := HX.out.1
 subst hlF
 have HFM : Hid ((∀ y ∈ F, y ∈ FM) ∧ F.length ≤ 1000 ∧ F.Perm FM) := Lib.hid ⟨fun y hy => HX.out.2.1.subset hy, by have := HX.out.2.1.length_eq; have := HFL.out; omega, HX.out.2.1⟩
 refine wp_world (fun W => Hid (Bw wb W ∧ Blk W w2.heap.size 77 #[.slice fA F.length fc, .slice vA F.length vc] ∧ MxAt W (· < W.heap.size) (.slice fA F.length fc) F ∧ IB W W.heap.size (.slice vA F.length vc) (F.map fun y => dotI y c0))) (Lib.hid ⟨HG2.out.alloc _, Blk.new w2 _ _, HX.out.2.2.1.bw ((Bw.refl _).alloc _), HX.out.2.2.2.bw ((Bw.refl _).alloc _)⟩) ?_
 clear HX hwb HG2 CO
 intro W0 HW0
 generalize w2.heap.size = sb at *
 have HF0 := Lib.hid (BX.out.1.trans HW0.out.1)
 have CE0 : Hid (∀ W, Bw W0 W → Calls Tryz.prog 28 #[.agg #[.slice fA F.length fc, .slice vA F.length vc], .agg #[.int .i64 0, .slice KA kn kc]] W (fun e w' => ∃ r : Int, e = .returned (.int .i64 r) ∧ Bw W w' ∧ ((r = -1 ∧ ∀ y ∈ F, dotI y cs ≤ dotI y c0) ∨ ∃ k, ∃ h : k < F.length, r = (k : Int) ∧ dotI F[k] c0 < dotI F[k] cs))) := Lib.hid (fun W g => CE.out F fA fc vA vc W HFM.out.1 HFM.out.2.1 (HF0.out.trans g) (HW0.out.2.2.1.bw g) (HW0.out.2.2.2.bw g))
 have CV0 : Hid (∀ W, Bw W0 W → Calls Tryz.prog 27 #[.agg #[.int .i64 1, .slice A1 ns c1, .slice A2 n c2, .slice none 0 0, .slice none 0 0, .int .i64 0, .int .i64 0, .slice A3 q9 c3, .int .i64 0, .slice A4 z c4], .agg #[.int .i64 0, .slice KA kn kc]] W (BoolPost W true)) := Lib.hid (fun W g => CVd.out W (HF0.out.trans g))
 obtain ⟨y, y0, y1, y2, y3, y4, y5, y6, y7, y8, y9⟩ := (BX.out.2 W0 HW0.out.1).2.1.c10
 obtain ⟨xl, x0, x1⟩ := (BX.out.2 W0 HW0.out.1).2.2.c2
 have HCELL : Hid (∀ W, Bw W0 W → (w.heap.size + 1 < W.heap.size ∧ W.cell? ⟨w.heap.size + 1, 0, none⟩ = some (.int .i64 0) ∧ W.cell? ⟨w.heap.size + 1, 1, none⟩ = some (.slice KA kn kc)) ∧ (sb < W.heap.size ∧ W.cell? ⟨sb, 0, none⟩ = some (.slice fA F.length fc) ∧ W.cell? ⟨sb, 1, none⟩ = some (.slice vA F.length vc))) := Lib.hid (fun W g => ⟨(BX.out.2 W (HW0.out.1.trans g)).2.2.c2, (HW0.out.2.1.below g.b HW0.out.2.1.lt).c2⟩)
 clear CE CVd
 go_upto_region 7 with (first
   | (go_at_call 27; go_must (refine (CV0.out _ (Bw.refl _)).mono ?_; rintro e w4 ⟨rfl, hg4⟩; (have HG4 := Lib.hid hg4); clear y y0 y1 y2 y3 y4 y5 y6 y7 y8 y9 xl x0 x1; (obtain ⟨⟨xl, x0, x1⟩, ⟨ul, u0, u1⟩⟩ := HCELL.out _ hg4); clear hg4))
   | (go_at_call 28; go_must (refine (CE0.out _ HG4.out).mono ?_; rintro e w5 ⟨r, rfl, hg5, hc5⟩; (have HC5 := Lib.hid (And.intro hc5 (HG4.out.trans hg5))); clear hg5 hc5)))
 clear xl x0 x1 ul u0 u1
 obtain ⟨⟨xl, x0, x1⟩, ⟨ul, u0, u1⟩⟩ := HCELL.out _ HC5.out.2
 rcases HC5.out.1 with ⟨rfl, hall⟩ | ⟨k, hkF, rfl, hgt⟩
 · have HALL := Lib.hid hall
   clear hall
   go_wp2_with fail
   go_ret3
   exact ⟨_, _, _, false, rfl, HF0.out.trans HC5.out.2, .inl ⟨rfl, rfl, fun y hy => HALL.out y (HFM.out.2.2.symm.subset hy)⟩⟩
 · have hk0 : decide ((k : Int) < 0) = false := decide_eq_false (by omega)
   have hk1 : ¬ ((k : Int) < 0) := by omega
   have hk2 : (k : Int) < (F.length : Int) := by omega
   have HGT := Lib.hid hgt
   obtain ⟨ad, yA, yc, rfl, hab, z0, hy⟩ := (HW0.out.2.2.1.bw HC5.out.2).at_ hkF
   have hyl := HYL.out _ (HFM.out.1 _ (List.getElem_mem hkF))
   have CC := Lib.hid (clone_any yA F[k].length yc F[k] w5 (by unfold IsAt; exact hy.reads) rfl (by omega) (by omega))
   have HYM : Hid (F[k] ∈ FM) := Lib.hid (HFM.out.1 _ (List.getElem_mem hkF))
   have hw2 := HF0.out.trans HC5.out.2
   have HW2 := Lib.hid hw2
   clear hgt hy hab hyl hw2
   generalize hFk : F[k] = Y at *
   clear hFk
   go_wp2_with (go_at_call 29; go_must (refine CC.out.mono ?_; rintro e w6 ⟨g, cap, rfl, ho6, hb6⟩; (have HO6 := Lib.hid (And.intro ho6 hb6)); clear ho6 hb6))
   go_ret3
   exact ⟨_, _, _, true, rfl, HW2.out.trans HO6.out.2, .inr ⟨rfl, Y, HYM.out, rfl, HGT.out, own_base HO6.out.1 HW2.out.size⟩⟩
theorem keepP_perm {F G : List (List Int)} (h : F.Perm G) (c0 cs : List Int) : keepP F c0 cs = keepP G c0 cs := by
 unfold keepP
 rw [Bool.eq_iff_iff, List.all_eq_true, List.all_eq_true]
 exact ⟨fun g y hy => g y (h.symm.subset hy), fun g y hy => g y (h.subset hy)⟩
theorem pnStart_any (m : Mdl) (hct : CtOk m) (l : List V) (hl : ∀ v ∈ l, oneP 8 m.t v = true) (h9 : l.length ≤ 1000) (hs0 : (startS m.t l).2 = 0) (sv pv rv kv sl : Value) (w : World) (h : MB w w.heap.size sv pv rv kv m) (h1 : KB w w.heap.size sl l) :
   Calls Tryz.prog 24 #[aggM sv pv rv kv, sl] w (StartPostF w (startS m.t (l.filter fun v => keepP (flowsM m) m.cs (csV v)))) := by
 obtain ⟨A1, c1, A2, c2, A3, c3, A4, c4, rfl, rfl, rfl, rfl⟩ := h.form
 obtain ⟨A5, n5, c5, rfl, l5, b5, m5⟩ := h1.form
 subst l5
 have CO : Hid (∀ W, Bw w W → Calls Tryz.prog 26 #[aggM (.slice A1 m.ss.length c1) (.slice A2 m.ps.length c2) (.slice A3 m.rs.length c3) (.slice A4 (1 + m.cs.length) c4)] W (WtsPost W m)) := Lib.hid (fun W g => pnOf_any m hct _ _ _ _ W (h.bw g))
 have CS : Hid (∀ W, Bw w W → ∀ (l' : List V) (s' : Value), (∀ v ∈ l', v ∈ l) → l'.length ≤ 1000 → KB W W.heap.size s' l' → Calls Tryz.prog 37 #[aggM (.slice A1 m.ss.length c1) (.slice A2 m.ps.length c2) (.slice A3 m.rs.length c3) (.slice A4 (1 + m.cs.length) c4), s'] W (StartPostF W (startS m.t l'))) := Lib.hid (fun W g l' s' e1 e2 hk => bkstart_fresh m hct.ok hct.nm l' (fun v hv => hl v (e1 v hv)) e2 _ _ _ _ _ W (h.bw g) hk)
 have CK : Hid (∀ (F : List (List Int)) (fA : Option Addr) (fc : Nat) (vA : Option Addr) (vc : Nat) W, F.Perm (flowsM m) → F.length ≤ 1000 → MxAt W (· < W.heap.size) (.slice fA F.length fc) F → IB W W.heap.size (.slice vA F.length vc) (F.map fun y => dotI y m.cs) → ∀ v ∈ l, ∀ s', KB W W.heap.size s' v.ks → Calls Tryz.prog 48 #[.agg #[.slice fA F.length fc, .slice vA F.length vc], .agg #[.int .i64 0, s']] W (BoolPost W (keepP (flowsM m) m.cs (csV v)))) := Lib.hid (fun F fA fc vA vc W hp hn h3 h4 v hv s' hk => by
   obtain ⟨st, cs, rfl, -, -, hcl, hcb⟩ := one_flat.1 (hl v hv)
   have := pnKeeps_any m hct F (fun y hy => hp.subset hy) hn st cs hcl hcb fA fc vA vc s' W h3 h4 hk
   rw [keepP_perm hp] at this
   simpa using this)
 have HV0 : Hid (∀ v ∈ l, v.n = 0) := Lib.hid (fun v hv => by obtain ⟨st, cs, rfl, -⟩ := one_flat.1 (hl v hv); rfl)
 have HKT := Lib.hid h1
 have HS0 := Lib.hid hs0
 have BX := Lib.hid (box2 w 33 (mdA (.slice A1 m.ss.length c1) (.slice A2 m.ps.length c2) (.slice A3 m.rs.length c3) (.slice A4 (1 + m.cs.length) c4)) 67 #[.slice none 0 0, .slice none 0 0, .slice none 0 0, .int .i64 0])
 have HFL := Lib.hid (flowsM_le hct)
 obtain ⟨i0, hi, hz0, hz1, hz2⟩ := info_parts infoVal
 unfold WtsPost at CO
 clear h hct h1 hl hs0
 unfold aggM mdA at *
 generalize m.ss.length = ns at *
 generalize m.ps.length = n at *
 generalize m.rs.length = q9 at *
 generalize 1 + m.cs.length = z at *
 generalize m.cs = c0 at *
 generalize flowsM m = FM at *
 generalize m.t = ty at *
 generalize hKF : (fun v : V => keepP FM c0 (csV v)) = K9 at *
 have CK' : Hid (∀ (F : List (List Int)) (fA : Option Addr) (fc : Nat) (vA : Option Addr) (vc : Nat) W, F.Perm FM → F.length ≤ 1000 → MxAt W (· < W.heap.size) (.slice fA F.length fc) F → IB W W.heap.size (.slice vA F.length vc) (F.map fun y => dotI y c0) → ∀ v ∈ l, ∀ s', KB W W.heap.size s' v.ks → Calls Tryz.prog 48 #[.agg #[.slice fA F.length fc, .slice vA F.length vc], .agg #[.int .i64 0, s']] W (BoolPost W (K9 v))) := Lib.hid (by rw [← hKF]; exact CK.out)
 clear CK hKF
 go_enter Tryz.func24, Tryz.ntmps24
 go_upto_region 2 with (go_at_call 26; go_must (refine (CO.out _ BX.out.1).mono ?_; rintro e w2 ⟨fA, q, fc, vA, vc, F, rfl, h1, h2, h3, h4, hg2⟩; (have HX := Lib.hid (And.intro h1 (And.intro h2 (And.intro (h3.keep (S' := fun b => b < w2.heap.size) (fun b hb => hb.2) (fun _ _ => rfl)) (h4.keep (S' := fun b => b < w2.heap.size) (fun b hb => hb.2) (fun _ _ => rfl)))))); (have HG2 := Lib.hid hg2); clear h1 h2 h3 h4 hg2))
 obtain ⟨wb, hwb⟩ : ∃ wb, (w.alloc (.cells #[.int .i64 1, .slice A1 ns c1, .slice A2 n c2, .slice none 0 0, .slice none 0 0, .int .i64 0, .int .i64 0, .slice A3 q9 c3, .int .i64 0, .slice A4 z c4] 33)).alloc (.cells #[.slice none 0 0, .slice none 0 0, .slice none 0 0, .int .i64 0] 67) = wb := ⟨_, rfl⟩
 have HWB : Hid (w.heap.size + 1 < wb.heap.size) := Lib.hid (by rw [← hwb]; simp)
 rw [hwb] at BX HG2
 have hlF := HX.out.1
 subst hlF
 have HFM : Hid (F.Perm FM ∧ F.length ≤ 1000) := Lib.hid ⟨HX.out.2.1, by have := HX.out.2.1.length_eq; have := HFL.out; omega⟩
 refine wp_world (fun W => Hid (Bw wb W ∧ Blk W w2.heap.size 77 #[.slice fA F.length fc, .slice vA F.length vc] ∧ MxAt W (· < W.heap.size) (.slice fA F.length fc) F ∧ IB W W.heap.size (.slice vA F.length vc) (F.map fun y => dotI y c0))) (Lib.hid ⟨HG2.out.alloc _, Blk.new w2 _ _, HX.out.2.2.1.bw ((Bw.refl _).alloc _), HX.out.2.2.2.bw ((Bw.refl _).alloc _)⟩) ?_
 clear HX hwb HG2 CO
 intro W0 HW0
 generalize w2.heap.size = sb at *
 have HF0 := Lib.hid (BX.out.1.trans HW0.out.1)
 have CK0 : Hid (∀ W, Bw W0 W → ∀ v ∈ l, ∀ s', KB W W.heap.size s' v.ks → Calls Tryz.prog 48 #[.agg #[.slice fA F.length fc, .slice vA F.length vc], .agg #[.int .i64 0, s']] W (BoolPost W (K9 v))) := Lib.hid (fun W g => CK'.out F fA fc vA vc W HFM.out.1 HFM.out.2 (HW0.out.2.2.1.bw g) (HW0.out.2.2.2.bw g))
 obtain ⟨y, y0, y1, y2, y3, y4, y5, y6, y7, y8, y9⟩ := (BX.out.2 W0 HW0.out.1).2.1.c10
 have HSB : Hid (∀ W, Bw W0 W → (sb < W.heap.size ∧ W.cell? ⟨sb, 0, none⟩ = some (.slice fA F.length fc) ∧ W.cell? ⟨sb, 1, none⟩ = some (.slice vA F.length vc))) := Lib.hid (fun W g => (HW0.out.2.1.below g.b HW0.out.2.1.lt).c2)
 clear CK'
 have CS1 := Lib.hid (CS.out W0 HF0.out l (.slice A5 l.length c5) (fun v hv => hv) h9 (HKT.out.bw HF0.out))
 rw [show startS ty l = ((startS ty l).1, 0) from Prod.ext rfl HS0.out] at CS1
 unfold StartPostF at CS1
 simp only at CS1
 generalize (startS ty l).1 = ss1 at *
 go_upto_region 5 with (go_at_call 37; go_must (refine CS1.out.mono ?_; rintro e w4 ⟨bv, ov, fv, rfl, hs4, hg4⟩; obtain ⟨BA, bn, bc, rfl, -⟩ := hs4.b.form; obtain ⟨pso, heo, -⟩ := hs4.o; obtain ⟨OA, oc, rfl, -⟩ := heo.form; obtain ⟨FA, fn9, fc9, rfl, -⟩ := hs4.f.form; (have HG4 := Lib.hid hg4); clear hs4 hg4 heo))
 clear y y0 y1 y2 y3 y4 y5 y6 y7 y8 y9 CS1
 refine wp_world (fun W => Hid (Bw W0 W)) (Lib.hid (HG4.out.alloc _)) ?_
 clear HG4
 intro W1 HW1
 go_wp2_with fail
 go_loopw [10, 34] (fun s10 s34 wr => ∃ (k : Nat) (OA : Option Addr) (q oc : Nat), k ≤ l.length ∧ q ≤ k ∧ s34 = .int .i64 (k : Int) ∧ s10 = .slice OA q oc ∧ Hid (Bw W0 wr ∧ ∃ ps : List VS, ps.map (·.1) = (l.take k).filter K9 ∧ ps.length = q ∧ MRow wr W0.heap.size (.slice OA q oc) ps)) (fun _ s34 _ => l.length - (intOf s34).toNat)
 case atStart => exact ⟨0, none, 0, 0, by omega, by omega, rfl, rfl, Lib.hid ⟨HW1.out, [], rfl, rfl, MRow.nil _ _⟩⟩
 case round =>
   clear HW1
   obtain ⟨wo, hwo⟩ : ∃ wo, wo = wr := ⟨_, rfl⟩
   subst hwo
   obtain ⟨k, OA, q, oc, hk, hqk, rfl, rfl, HA⟩ := hrel
   by_cases hlt : k < l.length
   · have hlt' : (k : Int) < (l.length : Int) := by omega
     obtain ⟨hb, ps, hpe, hpl, hmr⟩ := HA.out
     have hwo : Bw w wo := HF0.out.trans hb
     have hsz := hwo.size
     obtain ⟨ad, sA, sn, sc, rfl, hab, q0, q1, -, hks⟩ := HKT.out.at_ hlt
     have hvn := HV0.out _ (List.getElem_mem hlt)
     rw [hvn] at q0
     replace q0 : wo.cell? (ad.add (k * 2)) = some (.int .i64 0) := (hwo.b.cell (by rw [add_block]; exact hab)).trans q0
     replace q1 : wo.cell? ⟨(ad.add (k * 2)).block, (ad.add (k * 2)).off + 1, none⟩ = some (.slice sA sn sc) := (hwo.b.cell (by show (ad.add (k * 2)).block < _; rw [add_block]; exact hab)).trans q1
     have HKS := Lib.hid hks
     have CKk : Hid (∀ W, Bw wo W → Calls Tryz.prog 48 #[.agg #[.slice fA F.length fc, .slice vA F.length vc], .agg #[.int .i64 0, .slice sA sn sc]] W (BoolPost W (K9 l[k]))) := Lib.hid (fun W g => CK0.out W (hb.trans g) _ (List.getElem_mem hlt) _ (hks.keep (fun b hb => Nat.lt_of_lt_of_le hb (hwo.trans g).size) (fun p hp => (hwo.trans g).b.cell hp)))
     have HT : Hid ((l.take (k + 1)).filter K9 = (l.take k).filter K9 ++ (if K9 l[k] then [l[k]] else [])) := Lib.hid (by
       rw [List.take_succ_eq_append_getElem hlt, List.filter_append]
       rcases hq : K9 l[k] with _ | _ <;> simp [hq])
     have HM := Lib.hid (And.intro hpe (And.intro hpl hmr))
     have HB := Lib.hid hb
     have hmrs := hmr.own
     have HVN := Lib.hid hvn
     have HSB2 : Hid (∀ W, Bw wo W → (sb < W.heap.size ∧ W.cell? ⟨sb, 0, none⟩ = some (.slice fA F.length fc) ∧ W.cell? ⟨sb, 1, none⟩ = some (.slice vA F.length vc))) := Lib.hid (fun W g => HSB.out W (hb.trans g))
     have HWO := Lib.hid hwo
     clear hb hpe hpl hmr hwo hks hvn hmrs HA hab
     generalize hx : l[k] = x at *
     have HX := Lib.hid hx
     clear hx
     go_upto_region 11 with fail
     refine wp_world (fun W => Hid (Bw wo W ∧ Blk W wo.heap.size 31 #[.int .i64 0, .slice sA sn sc])) (Lib.hid ⟨(Bw.refl _).alloc _, Blk.new wo _ _⟩) ?_
     clear q0 q1
     intro W2 HW2
     obtain ⟨xl, x0, x1⟩ := HW2.out.2.c2
     obtain ⟨ul, u0, u1⟩ := HSB2.out W2 HW2.out.1
     have CKw := Lib.hid (CKk.out W2 HW2.out.1)
     have hlb : wo.heap.size = wo.heap.size := rfl
     generalize hlb9 : wo.heap.size = lb at *
     have HLB := Lib.hid hlb9
     clear hlb9 hlb
     rcases hK : K9 x with _ | _
     · rw [hK] at CKw HT
       rw [if_neg (by decide), List.append_nil] at HT
       have HKK := Lib.hid hK
       clear hK
       go_wp2_with (go_at_call 48; go_must (refine CKw.out.mono ?_; rintro e w6 ⟨rfl, hg6⟩; (have HG6 := Lib.hid (HW2.out.1.trans hg6)); clear hg6))
       exact ⟨⟨k + 1, OA, q, oc, by omega, by omega, by go_num, rfl, Lib.hid ⟨HB.out.trans HG6.out, ps, by rw [HT.out]; exact HM.out.1, HM.out.2.1, HM.out.2.2.bw HG6.out HB.out.size⟩⟩, by simp [intOf]; omega⟩
     · rw [hK] at CKw HT
       rw [if_pos rfl] at HT
       have HKK := Lib.hid hK
       clear hK
       have HLW : Hid (W0.heap.size ≤ wo.heap.size) := Lib.hid HB.out.size
       go_wp2_with (first
         | (go_at_call 48; go_must (refine CKw.out.mono ?_; rintro e w6 ⟨rfl, hg6⟩; (have HG6 := Lib.hid (HW2.out.1.trans hg6)); clear xl x0 x1 ul u0 u1; (obtain ⟨xl, x0, x1⟩ := (HW2.out.2.below hg6.b HW2.out.2.lt).c2); (have hs6 := (HW2.out.1.trans hg6).size); (have HOW6 : Hid (∀ o, (w6.alloc o).ownsRow W0.heap.size 31 2 (.slice OA q oc) q (pCells ps)) := Lib.hid (fun o => by have := (HM.out.2.2.bw (HW2.out.1.trans hg6) HB.out.size).own.alloc o; rwa [HM.out.2.1] at this)); clear hg6))
         | (at_builtin; go_must (refine wpList_append_any _ rfl _ _ 29 rfl W0.heap.size 31 i0 _ 2 32 Tryz.underlying29 hi hz0 hz1 hz2 rfl (by decide) (.slice OA q oc) q (pCells ps) rfl (HOW6.out _) (w6.heap.size + 1) (some ⟨w6.heap.size, 0, none⟩) 1 1 [.int .i64 0, .slice sA sn sc] rfl (reads_new2 w6 31 _ _) (one2 _ _ _ _) (by unfold maxLen; omega) (by omega) (by have := HG6.out.size; have := HLW.out; simp; omega) ?_; intro v8 w8 hown8 hgr8 hl8; obtain ⟨A8, c8, rfl⟩ := own_form hown8; (have HO8 := Lib.hid (And.intro hown8 hgr8)); clear hown8 hgr8 hl8)))
       have hA : Bw wo (w6.alloc (.cells #[.int .i64 0, .slice sA sn sc] 31)) := HG6.out.alloc _
       have hmA := HM.out.2.2.bw hA HB.out.size
       have hkx : KAt (w6.alloc (.cells #[.int .i64 0, .slice sA sn sc] 31)) (· < W0.heap.size) (.slice sA sn sc) x.ks := HKS.out.keep (fun _ hb => Nat.lt_of_lt_of_le hb HF0.out.size) (fun p hp => (HWO.out.trans hA).b.cell hp)
       have hpu := hmA.push (v' := .slice A8 (q + 1) c8) (Nat.le_trans HB.out.size hA.size) (x := (x, .slice sA sn sc)) hkx (by rw [HM.out.2.1]; simp only [HVN.out]; exact HO8.out.1) HO8.out.2
       exact ⟨⟨k + 1, A8, q + 1, c8, by omega, by omega, by go_num, rfl, Lib.hid ⟨bw_gb (HB.out.trans hA) HO8.out.2 (fun r e => (hmA.own.lt r e).1), _, by rw [HT.out, List.map_append, HM.out.1]; rfl, by rw [List.length_append, HM.out.2.1]; rfl, hpu⟩⟩, by simp [intOf]; omega⟩
   · obtain rfl : k = l.length := by omega
     obtain ⟨hb, ps, hpe, hpl, hmr⟩ := HA.out
     rw [List.take_of_length_le (Nat.le_refl _)] at hpe
     have hkb := hmr.kb hb.size
     rw [hpe] at hkb
     have hfl : (l.filter K9).length ≤ 1000 := Nat.le_trans (List.length_filter_le _ _) h9
     have CS2 := Lib.hid (CS.out wo (HF0.out.trans hb) (l.filter K9) (.slice OA q oc) (fun v hv => (List.mem_filter.1 hv).1) hfl hkb)
     obtain ⟨y, y0, y1, y2, y3, y4, y5, y6, y7, y8, y9⟩ := (BX.out.2 wo (HW0.out.1.trans hb)).2.1.c10
     have HB := Lib.hid (HW0.out.1.trans hb)
     have HRE : Hid (∀ W, Bw wb W → Blk W (w.heap.size + 1) 67 #[.slice none 0 0, .slice none 0 0, .slice none 0 0, .int .i64 0]) := Lib.hid (fun W g => (BX.out.2 W g).2.2)
     unfold StartPostF at CS2
     clear hb hpe hpl hmr hkb HA hfl CK0 CS
     obtain ⟨us, er, hre⟩ : ∃ us er, (startS ty (l.filter K9)).1.us = us ∧ (startS ty (l.filter K9)).2 = er := ⟨_, _, rfl, rfl⟩
     rw [hre.1, hre.2] at CS2
     have HREQ := Lib.hid hre
     clear hre
     go_wp2_with (go_at_call 37; go_must (refine CS2.out.mono ?_; rintro e w6 ⟨bv, ov, fv, rfl, hs6, hg6⟩; obtain ⟨BA2, bn2, bc2, rfl, -⟩ := hs6.b.form; obtain ⟨pso2, heo, -⟩ := hs6.o; obtain ⟨OA2, oc2, rfl, -⟩ := heo.form; obtain ⟨FA2, fn2, fc2, rfl, -⟩ := hs6.f.form; (have HG6 := Lib.hid (HB.out.trans hg6)); (have HS6 := Lib.hid hs6); (have hr6 := HRE.out _ (HB.out.trans hg6)); (have r0 := hr6.cell 0); (have r1 := hr6.cell 1); (have r2 := hr6.cell 2); (have r3 := hr6.cell 3); (have f0 := hr6.frozen 0); (have f1 := hr6.frozen 1); (have f2 := hr6.frozen 2); (have f3 := hr6.frozen 3); (have rl := hr6.lt); (have HR6 := Lib.hid hr6); clear hs6 hg6 heo hr6))
     have hst := blk4 (v0 := .slice BA2 bn2 bc2) (v1 := .slice OA2 pso2.length oc2) (v2 := .slice FA2 fn2 fc2) (v3 := .int .i64 us) HR6.out
     refine bodyPost_ret (rrow1 (p := 4) (q := 5) (ty := 67) rfl _ _ (w.heap.size + 1) _ _ rfl (run_loadVar_row _ _ 67 67 _ (0, 0) _ hst.1 Tryz.underlying67 rfl (by kernel_rfl)) rfl) rfl ?_
     have hz1 := BX.out.1.size
     have hz2 := HWB.out
     have hz3 := HB.out.size
     have hzf := hst.2.size
     have kk : ∀ (v : Value) (l' : List V), KAt w6 (fun b => wo.heap.size ≤ b ∧ b < w6.heap.size) v l' → KAt ((((w6.setCell ⟨w.heap.size + 1, 0, none⟩ (.slice BA2 bn2 bc2)).setCell ⟨w.heap.size + 1, 1, none⟩ (.slice OA2 pso2.length oc2)).setCell ⟨w.heap.size + 1, 2, none⟩ (.slice FA2 fn2 fc2)).setCell ⟨w.heap.size + 1, 3, none⟩ (.int .i64 us)) (fun b => w.heap.size ≤ b ∧ b < ((((w6.setCell ⟨w.heap.size + 1, 0, none⟩ (.slice BA2 bn2 bc2)).setCell ⟨w.heap.size + 1, 1, none⟩ (.slice OA2 pso2.length oc2)).setCell ⟨w.heap.size + 1, 2, none⟩ (.slice FA2 fn2 fc2)).setCell ⟨w.heap.size + 1, 3, none⟩ (.int .i64 us)).heap.size) v l' := fun v l' hk => hk.grown hst.2 (fun b hb => ⟨⟨by omega, by omega⟩, by omega, fun e => by injection e with e; omega⟩)
     obtain ⟨ps9, he1, he2⟩ := HS6.out.o
     refine ⟨.slice BA2 bn2 bc2, .slice OA2 pso2.length oc2, .slice FA2 fn2 fc2, by rw [HREQ.out.1, HREQ.out.2]; rfl, ⟨kk _ _ HS6.out.b, ⟨ps9, he1.keep (fun b hb => ⟨by omega, by omega⟩) (fun p hp => World.cell?_of_block (hst.2.block p.block hp.2 (fun e => by injection e with e; have := hp.1; omega))), he2⟩, kk _ _ HS6.out.f⟩, bw_gb (BX.out.1.trans HG6.out) hst.2 (fun r e => by injection e with e; omega)⟩
theorem kat_three (w : World) (x y z : Int) : KAt (w.alloc (.cells #[.int .i64 x, .slice none 0 0, .int .i64 y, .slice none 0 0, .int .i64 z, .slice none 0 0] 31)) (fun b => w.heap.size ≤ b ∧ b < (w.alloc (.cells #[.int .i64 x, .slice none 0 0, .int .i64 y, .slice none 0 0, .int .i64 z, .slice none 0 0] 31)).heap.size) (.slice (some ⟨w.heap.size, 0, none⟩) 3 3) [.mk x [], .mk y [], .mk z []] :=
 VRow.kat (B := w.heap.size) (ss := [.slice none 0 0, .slice none 0 0, .slice none 0 0]) ⟨own_new w 31 #[.int .i64 x, .slice none 0 0, .int .i64 y, .slice none 0 0, .int .i64 z, .slice none 0 0] 2 (n := 3) rfl rfl, rfl, fun k h1 h2 => by
   rcases (by simp at h1; omega : k = 0 ∨ k = 1 ∨ k = 2) with rfl | rfl | rfl <;> exact KAt.nil _ _ (Nat.zero_le _)⟩ (Nat.le_refl _)
def ConfPost (w : World) (a b : Int) (e : Ending) (w' : World) : Prop := ∃ (g : Nat), e = .returned (.agg #[.int .i64 0, .slice (some ⟨g, 0, none⟩) 3 3]) ∧ w.heap.size ≤ g ∧ KAt w' (fun b => w.heap.size ≤ b ∧ b < w'.heap.size) (.slice (some ⟨g, 0, none⟩) 3 3) (cfgV 0 [a, b]).ks ∧ Bw w w'
theorem conf26_any (a b : Int) (w : World) : Calls Tryz.prog 23 #[.int .i64 a, .int .i64 b] w (ConfPost w a b) := by
 go_enter Tryz.func23, Tryz.ntmps23
 go_wp2_with fail
 have hb := (Blk.new w 31 #[.int .i64 0, .slice (some ⟨w.heap.size + 1, 0, none⟩) 3 3]).alloc (.cells #[.int .i64 0, .slice none 0 0, .int .i64 a, .slice none 0 0, .int .i64 b, .slice none 0 0] 31)
 refine bodyPost_ret (results_cell_row (p := 4) (ty := 31) rfl _ _ (w.heap.size) 31 _ (0, 0) _ rfl hb Tryz.underlying31 rfl (by kernel_rfl)) rfl ?_
 have hk := kat_three (w.alloc (.cells #[.int .i64 0, .slice (some ⟨w.heap.size + 1, 0, none⟩) 3 3] 31)) 0 a b
 simp only [World.size_alloc] at hk
 exact ⟨w.heap.size + 1, rfl, by omega, hk.keep (fun b hb => ⟨by omega, by simp; omega⟩) (fun _ _ => rfl), ((Bw.refl _).alloc _).alloc _⟩
def m26 : Mdl := ⟨[⟨#[97]⟩], [⟨#[120]⟩, ⟨#[121]⟩], [⟨⟨#[114]⟩, 0, 0, [1, 0], [0, 1]⟩], 0, [3, 0]⟩
theorem m26_ct : CtOk m26 := by
 refine ⟨⟨0, by decide, rfl⟩, ⟨1, by decide, rfl⟩, rfl, by decide, fun r hr => ?_, rfl, rfl, fun x hx => ?_⟩
 · simp [m26] at hr
   subst hr
   refine ⟨by decide, by decide, rfl, rfl, fun x hx => ?_, fun x hx => ?_⟩ <;> · simp at hx; omega
 · simp [m26] at hx; omega
theorem m26_flows : flowsM m26 = [[1, 1]] := by kernel_rfl
def PairPost (w : World) (e : Ending) (w' : World) : Prop := ∃ sv pv rv kv, e = .returned (aggM sv pv rv kv) ∧ MAt w' (fun b => w.heap.size ≤ b ∧ b < w'.heap.size) sv pv rv kv m26 ∧ Bw w w'
def rl26 (a b : Nat) : Array Value := #[.string ⟨#[114]⟩, .int .i64 0, .int .i64 0, .slice (some ⟨a, 0, none⟩) 2 2, .slice (some ⟨b, 0, none⟩) 2 2, .slice none 0 0, .int .i64 0, .int .i64 0, .int .i64 0, .slice none 0 0, .slice none 0 0, .slice none 0 0, .slice none 0 0, .int .i64 0]
def W26 (w : World) : World := (((((w.alloc (.cells zM10 33)).alloc (.cells #[.string ⟨#[97]⟩] 9)).alloc (.cells #[.string ⟨#[120]⟩, .string ⟨#[121]⟩] 9)).alloc (.cells #[.int .i64 1, .int .i64 0] 3)).alloc (.cells #[.int .i64 0, .int .i64 1] 3)).alloc (.cells (rl26 (w.heap.size + 1 + 1 + 1) (w.heap.size + 1 + 1 + 1 + 1)) 75)
theorem mem26 (w W : World) (g : Bw (W26 w) W) : Bw w W ∧ Blk W w.heap.size 33 zM10 ∧ StrAt W (fun b => w.heap.size + 1 ≤ b ∧ b < w.heap.size + 6) (.slice (some ⟨w.heap.size + 1, 0, none⟩) 1 1) m26.ss ∧ StrAt W (fun b => w.heap.size + 1 ≤ b ∧ b < w.heap.size + 6) (.slice (some ⟨w.heap.size + 1 + 1, 0, none⟩) 2 2) m26.ps ∧ RlsAt W (fun b => w.heap.size + 1 ≤ b ∧ b < w.heap.size + 6) (.slice (some ⟨w.heap.size + 1 + 1 + 1 + 1 + 1, 0, none⟩) 1 1) m26.rs ∧ w.heap.size + 6 ≤ W.heap.size := by
 unfold W26 at g
 obtain ⟨w0, e0⟩ : ∃ w0, w.alloc (.cells zM10 33) = w0 := ⟨_, rfl⟩
 have z0 : w0.heap.size = w.heap.size + 1 := by rw [← e0]; simp
 have b0 : Bw w w0 := by rw [← e0]; exact (Bw.refl _).alloc _
 have k0 : Blk w0 w.heap.size 33 zM10 := by rw [← e0]; exact Blk.new w _ _
 rw [e0] at g
 obtain ⟨w1, e1⟩ : ∃ w1, w0.alloc (.cells #[.string ⟨#[97]⟩] 9) = w1 := ⟨_, rfl⟩
 have z1 : w1.heap.size = w.heap.size + 2 := by rw [← e1, World.size_alloc, z0]
 have b1 : Bw w0 w1 := by rw [← e1]; exact (Bw.refl _).alloc _
 have k1 := own_StrB (l := [⟨#[97]⟩]) (own_new w0 9 #[.string ⟨#[97]⟩] 1 (n := 1) (xs := strVs [⟨#[97]⟩]) rfl rfl) rfl
 rw [e1, z0, z1] at k1
 rw [e1] at g
 obtain ⟨w2, e2⟩ : ∃ w2, w1.alloc (.cells #[.string ⟨#[120]⟩, .string ⟨#[121]⟩] 9) = w2 := ⟨_, rfl⟩
 have z2 : w2.heap.size = w.heap.size + 3 := by rw [← e2, World.size_alloc, z1]
 have b2 : Bw w1 w2 := by rw [← e2]; exact (Bw.refl _).alloc _
 have k2 := own_StrB (l := [⟨#[120]⟩, ⟨#[121]⟩]) (own_new w1 9 #[.string ⟨#[120]⟩, .string ⟨#[121]⟩] 1 (n := 2) (xs := strVs [⟨#[120]⟩, ⟨#[121]⟩]) rfl rfl) rfl
 rw [e2, z1, z2] at k2
 rw [e2] at g
 obtain ⟨w3, e3⟩ : ∃ w3, w2.alloc (.cells #[.int .i64 1, .int .i64 0] 3) = w3 := ⟨_, rfl⟩
 have z3 : w3.heap.size = w.heap.size + 4 := by rw [← e3, World.size_alloc, z2]
 have b3 : Bw w2 w3 := by rw [← e3]; exact (Bw.refl _).alloc _
 have k3 := own_new w2 3 #[.int .i64 1, .int .i64 0] 1 (n := 2) (xs := intVs [1, 0]) rfl rfl
 rw [e3, z2] at k3
 rw [e3] at g
 obtain ⟨w4, e4⟩ : ∃ w4, w3.alloc (.cells #[.int .i64 0, .int .i64 1] 3) = w4 := ⟨_, rfl⟩
 have z4 : w4.heap.size = w.heap.size + 5 := by rw [← e4, World.size_alloc, z3]
 have b4 : Bw w3 w4 := by rw [← e4]; exact (Bw.refl _).alloc _
 have k4 := own_new w3 3 #[.int .i64 0, .int .i64 1] 1 (n := 2) (xs := intVs [0, 1]) rfl rfl
 rw [e4, z3] at k4
 rw [e4] at g
 obtain ⟨w5, e5⟩ : ∃ w5, w4.alloc (.cells (rl26 (w.heap.size + 1 + 1 + 1) (w.heap.size + 1 + 1 + 1 + 1)) 75) = w5 := ⟨_, rfl⟩
 have z5 : w5.heap.size = w.heap.size + 6 := by rw [← e5, World.size_alloc, z4]
 have b5 : Bw w4 w5 := by rw [← e5]; exact (Bw.refl _).alloc _
 have k5 := own_new w4 75 (rl26 (w.heap.size + 1 + 1 + 1) (w.heap.size + 1 + 1 + 1 + 1)) 14 (n := 1) rfl rfl
 rw [e5, z4] at k5
 rw [e5] at g
 have hr : RulO w5 (w.heap.size + 1) (.slice (some ⟨w.heap.size + 5, 0, none⟩) 1 1) [(⟨⟨#[114]⟩, 0, 0, [1, 0], [0, 1]⟩, .slice (some ⟨w.heap.size + 3, 0, none⟩) 2 2, .slice (some ⟨w.heap.size + 4, 0, none⟩) 2 2)] :=
   ⟨own_base k5 (by omega), fun q hq => by
     rw [List.mem_singleton.1 hq]
     exact ⟨own_base (own_kept_below (own_kept_below k3 b4.b) b5.b) (by omega), own_base (own_kept_below k4 b5.b) (by omega)⟩⟩
 have hz := g.size
 refine ⟨b0.trans (b1.trans (b2.trans (b3.trans (b4.trans (b5.trans g))))), k0.below (b1.trans (b2.trans (b3.trans (b4.trans (b5.trans g))))).b k0.lt, k1.keep (fun b hb => by omega) (fun p hp => (b2.trans (b3.trans (b4.trans (b5.trans g)))).b.cell (by omega)), k2.keep (fun b hb => by omega) (fun p hp => (b3.trans (b4.trans (b5.trans g))).b.cell (by omega)), hr.at_.keep (fun b hb => by omega) (fun p hp => g.b.cell hp.2), by omega⟩
theorem pair26_any (w : World) : Calls Tryz.prog 22 #[] w (PairPost w) := by
 have C3 : Hid (∀ W, Calls Tryz.prog 23 #[.int .i64 3, .int .i64 0] W (ConfPost W 3 0)) := Lib.hid (conf26_any 3 0)
 have HM := Lib.hid (mem26 w)
 unfold ConfPost at C3
 go_enter Tryz.func22, Tryz.ntmps22
 go_wp2_with (go_at_call 23; go_must (refine (C3.out _).mono ?_; rintro e w2 ⟨g, rfl, hge, hk, hb⟩; (have HK := Lib.hid (And.intro hk (HM.out w2 hb))); (have hz := HK.out.2.2.1); (have r0 := hz.cell 0); (have r1 := hz.cell 1); (have r2 := hz.cell 2); (have r3 := hz.cell 3); (have r4 := hz.cell 4); (have r5 := hz.cell 5); (have r6 := hz.cell 6); (have r7 := hz.cell 7); (have r8 := hz.cell 8); (have r9 := hz.cell 9); (have f0 := hz.frozen 0); (have f1 := hz.frozen 1); (have f2 := hz.frozen 2); (have f3 := hz.frozen 3); (have f4 := hz.frozen 4); (have f5 := hz.frozen 5); (have f6 := hz.frozen 6); (have f7 := hz.frozen 7); (have f8 := hz.frozen 8); (have f9 := hz.frozen 9); (have rl := hz.lt); (have HZ := Lib.hid hz); (have HGE := Lib.hid hge); clear hk hb hz hge))
 have hst := blk10 (v0 := .int .i64 1) (v1 := .slice (some ⟨w.heap.size + 1, 0, none⟩) 1 1) (v2 := .slice (some ⟨w.heap.size + 1 + 1, 0, none⟩) 2 2) (v3 := .slice none 0 0) (v4 := .slice none 0 0) (v5 := .int .i64 0) (v6 := .int .i64 0) (v7 := .slice (some ⟨w.heap.size + 1 + 1 + 1 + 1 + 1, 0, none⟩) 1 1) (v8 := .int .i64 0) (v9 := .slice (some ⟨g, 0, none⟩) 3 3) HZ.out
 refine bodyPost_ret (results_cell_row (p := 0) (ty := 33) rfl _ _ (w.heap.size) 33 _ (0, 0) _ rfl hst.1 Tryz.underlying33 rfl (by kernel_rfl)) rfl ?_
 obtain ⟨h0, h1, h2, h3, h4, h5, h6⟩ := HK.out
 have hsf := hst.2.size
 have hge := HGE.out
 simp only [World.size_alloc] at hge
 have hne : ∀ p : Addr, (w.heap.size + 1 ≤ p.block ∧ p.block < w2.heap.size) → ∀ {X : World}, w2.grownBy X (some w.heap.size) → X.cell? p = w2.cell? p := fun p hp X hX => World.cell?_of_block (hX.block p.block hp.2 (fun e => by injection e with e; omega))
 exact ⟨_, _, _, _, rfl, ⟨h3.keep (fun b hb => ⟨by omega, by omega⟩) (fun p hp => hne p ⟨hp.1, by omega⟩ hst.2), h4.keep (fun b hb => ⟨by omega, by omega⟩) (fun p hp => hne p ⟨hp.1, by omega⟩ hst.2), h5.keep (fun b hb => ⟨by omega, by omega⟩) (fun p hp => hne p ⟨hp.1, by omega⟩ hst.2), h0.keep (fun b hb => ⟨by simp at hb; omega, by omega⟩) (fun p hp => hne p ⟨by have := hp.1; simp at this; omega, hp.2⟩ hst.2)⟩, bw_gb h1 hst.2 (fun r e => by injection e with e; omega)⟩
theorem one26 (a b : Int) (h : 0 ≤ a ∧ a ≤ 9 ∧ 0 ≤ b ∧ b ≤ 9) : oneP 8 m26.t (cfgV 0 [a, b]) = true :=
 one_flat.2 ⟨0, [a, b], rfl, by decide, by decide, rfl, fun c hc => by simp at hc; omega⟩
theorem start26 : (startS m26.t [cfgV 0 [2, 2], cfgV 0 [0, 2]]).2 = 0 := by kernel_rfl
theorem start26k : startS m26.t ([cfgV 0 [2, 2], cfgV 0 [0, 2]].filter fun v => keepP (flowsM m26) m26.cs (csV v)) = (⟨[cfgV 0 [0, 2]], [⟨cfgV 0 [0, 2], -2, .mk 0 []⟩], [cfgV 0 [0, 2]], 0⟩, 0) := by kernel_rfl
theorem kat_cfg2 {W : World} {s1 s2 : Value} {x y : V} (hx : x.n = 0) (hy : y.n = 0) (h1 : KB W W.heap.size s1 x.ks) (h2 : KB W W.heap.size s2 y.ks) : KB (W.alloc (.cells #[.int .i64 0, s1, .int .i64 0, s2] 31)) (W.alloc (.cells #[.int .i64 0, s1, .int .i64 0, s2] 31)).heap.size (.slice (some ⟨W.heap.size, 0, none⟩) 2 2) [x, y] := by
 have hm : MRow (W.alloc (.cells #[.int .i64 0, s1, .int .i64 0, s2] 31)) W.heap.size (.slice (some ⟨W.heap.size, 0, none⟩) 2 2) [(x, s1), (y, s2)] :=
   ⟨own_new W 31 #[.int .i64 0, s1, .int .i64 0, s2] 2 (n := 2) (by simp [pCells, hx, hy]) (by simp [pCells]), fun p hp => by
     have hk : KAt W (· < W.heap.size) p.2 p.1.ks := by
       simp only [List.mem_cons, List.not_mem_nil, or_false] at hp
       rcases hp with rfl | rfl
       · exact h1
       · exact h2
     exact hk.keep (fun _ hb => hb) (fun q hq => World.cell?_of_block (Below.heap_alloc W _ q.block hq))⟩
 exact hm.kb (by simp)
theorem sane26_any (w : World) : Calls Tryz.prog 6 #[] w fun e w' => e = .returned (.bool true) ∧ Bw w w' := by
 have CP := Lib.hid pair26_any
 have C2 : Hid (∀ W, Calls Tryz.prog 23 #[.int .i64 2, .int .i64 2] W (ConfPost W 2 2)) := Lib.hid (conf26_any 2 2)
 have C0 : Hid (∀ W, Calls Tryz.prog 23 #[.int .i64 0, .int .i64 2] W (ConfPost W 0 2)) := Lib.hid (conf26_any 0 2)
 have CE : Hid (∀ (sv pv rv kv cv : Value) W, MB W W.heap.size sv pv rv kv m26 → KB W W.heap.size cv (cfgV 0 [2, 2]).ks → Calls Tryz.prog 11 #[aggM sv pv rv kv, .agg #[.int .i64 0, cv]] W (fun e w' => ∃ (A : Option Addr) (c : Nat), e = .returned (.tuple #[.slice A 2 c, .bool true, .int .i64 0]) ∧ Bw W w')) := Lib.hid (fun sv pv rv kv cv W h1 h2 => (pnExcess_any m26 m26_ct 0 [2, 2] (one26 2 2 (by omega)) sv pv rv kv cv W h1 h2).mono fun e w' h => by
   obtain ⟨A, k, c, over, rfl, hb, h⟩ := h
   rw [m26_flows] at h
   rcases h with ⟨-, -, h⟩ | ⟨rfl, y, hy, rfl, -, -⟩
   · exact absurd (h [1, 1] (by simp)) (by decide)
   · rw [List.mem_singleton.1 hy]
     exact ⟨A, c, rfl, hb⟩)
 have CS : Hid (∀ (sv pv rv kv sl : Value) W, MB W W.heap.size sv pv rv kv m26 → KB W W.heap.size sl [cfgV 0 [2, 2], cfgV 0 [0, 2]] → Calls Tryz.prog 24 #[aggM sv pv rv kv, sl] W (StartPostF W (⟨[cfgV 0 [0, 2]], [⟨cfgV 0 [0, 2], -2, .mk 0 []⟩], [cfgV 0 [0, 2]], 0⟩, 0))) := Lib.hid (fun sv pv rv kv sl W h1 h2 => by
   have := pnStart_any m26 m26_ct [cfgV 0 [2, 2], cfgV 0 [0, 2]] (fun v hv => by
     simp only [List.mem_cons, List.not_mem_nil, or_false] at hv
     rcases hv with rfl | rfl
     · exact one26 2 2 (by omega)
     · exact one26 0 2 (by omega)) (by decide) start26 sv pv rv kv sl W h1 h2
   rwa [start26k] at this)
 unfold ConfPost at C2 C0
 unfold PairPost at CP
 unfold StartPostF at CS
 unfold aggM at *
 unfold aggS at *
 go_enter Tryz.func6, Tryz.ntmps6
 go_upto_region 2 with (first
   | (go_at_call 22; go_must (refine (CP.out _).mono ?_; rintro e w1 ⟨sv, pv, rv, kv, rfl, hm, hb⟩; (have HM1 := Lib.hid hm); (have HB1 := Lib.hid hb); clear hm hb))
   | (go_at_call 23; go_must (refine (C2.out _).mono ?_; rintro e w2 ⟨g2, rfl, -, hk, hb⟩; (have HK2 := Lib.hid (hk.keep (S' := fun b => b < w2.heap.size) (fun b hb => hb.2) (fun _ _ => rfl))); (have HM2 := Lib.hid (MAt.bw (HM1.out.keep (S' := fun b => b < w1.heap.size) (fun b hb => hb.2) (fun _ _ => rfl)) hb)); (have HB2 := Lib.hid (HB1.out.trans hb)); clear hk hb))
   | (go_at_call 11; go_must (refine (CE.out _ _ _ _ _ _ HM2.out HK2.out).mono ?_; rintro e w3 ⟨A3, c3, rfl, hb⟩; (have HB3 := Lib.hid (HB2.out.trans hb)); clear hb)))
 clear HM1 HB1 HK2 HM2 HB2
 go_upto_region 3 with (first
   | (go_at_call 22; go_must (refine (CP.out _).mono ?_; rintro e w4 ⟨sv4, pv4, rv4, kv4, rfl, hm, hb⟩; (have HM4 := Lib.hid (hm.keep (S' := fun b => b < w4.heap.size) (fun b hb => hb.2) (fun _ _ => rfl))); (have HB4 := Lib.hid (HB3.out.trans hb)); clear hm hb))
   | (go_at_call 23; (with_reducible refine (C2.out _).mono ?_); rintro e w5 ⟨g5, rfl, -, hk, hb⟩; (have HK5 := Lib.hid (hk.keep (S' := fun b => b < w5.heap.size) (fun b hb => hb.2) (fun _ _ => rfl))); (have HM5 := Lib.hid (MAt.bw HM4.out hb)); (have HB5 := Lib.hid (HB4.out.trans hb)); clear hk hb)
   | (go_at_call 23; go_must (refine (C0.out _).mono ?_; rintro e w6 ⟨g6, rfl, -, hk, hb⟩; (have HK6 := Lib.hid (kat_cfg2 (x := cfgV 0 [2, 2]) (y := cfgV 0 [0, 2]) rfl rfl (KAt.bw HK5.out hb) (hk.keep (S' := fun b => b < w6.heap.size) (fun b hb => hb.2) (fun _ _ => rfl)))); (have HM6 := Lib.hid (MAt.bw HM5.out (hb.alloc (.cells #[.int .i64 0, .slice (some ⟨g5, 0, none⟩) 3 3, .int .i64 0, .slice (some ⟨g6, 0, none⟩) 3 3] 31)))); (have HB6 := Lib.hid (HB5.out.trans (hb.alloc (.cells #[.int .i64 0, .slice (some ⟨g5, 0, none⟩) 3 3, .int .i64 0, .slice (some ⟨g6, 0, none⟩) 3 3] 31)))); clear hk hb))
   | (go_at_call 24; go_must (refine (CS.out _ _ _ _ _ _ HM6.out HK6.out).mono ?_; rintro e w7 ⟨bv, ov, fv, rfl, hs, hb⟩; obtain ⟨BA, bn, bc, rfl, hbn, -⟩ := hs.b.form; (obtain rfl : bn = 1 := by simpa using hbn.symm); obtain ⟨pso, heo, -⟩ := hs.o; obtain ⟨OA, oc, rfl, -⟩ := heo.form; obtain ⟨FA, fn, fc, rfl, -⟩ := hs.f.form; (have HS7 := Lib.hid hs.b); (have HB7 := Lib.hid (HB6.out.trans hb)); clear hs hb heo hbn)))
 refine wp_world (fun W => Hid (Bw w W ∧ Blk W w7.heap.size 67 #[.slice BA 1 bc, .slice OA pso.length oc, .slice FA fn fc, .int .i64 0] ∧ KB W W.heap.size (.slice BA 1 bc) [cfgV 0 [0, 2]])) (Lib.hid ⟨HB7.out.alloc _, Blk.new w7 _ _, (HS7.out.keep (fun b hb => by have := hb.2; simp; omega) (fun p hp => World.cell?_of_block (Below.heap_alloc w7 _ p.block hp.2)))⟩) ?_
 clear HM4 HB4 HK5 HM5 HB5 HK6 HM6 HB6 HS7 HB7 HB3
 intro W HW
 obtain ⟨bl, b0, b1, b2, b3⟩ := HW.out.2.1.c4
 obtain ⟨ad, KA, kn, kc, rfl, -, z0, z1, hkn, hks⟩ := HW.out.2.2.at_ (k := 0) (by simp)
 simp only [List.getElem_cons_zero] at z0 z1 hkn hks
 obtain rfl : kn = 3 := by rw [← hkn]; rfl
 obtain ⟨ad2, XA, xn, xc, rfl, -, q0, -, -, -⟩ := hks.at_ (k := 2) (by simp [cfgV])
 rw [show ad.add (0 * 2) = ad by simp [Addr.add]] at z0 z1
 replace q0 : W.cell? ⟨ad2.block, ad2.off + 4, none⟩ = some (.int .i64 2) := by
   have h : W.cell? (ad2.add 4) = some (.int .i64 2) := q0
   simpa [Addr.add] using h
 have HBW := Lib.hid HW.out.1
 clear hks hkn
 go_wp2_with fail
 go_ret
 exact ⟨rfl, HBW.out⟩
end
end Go.Proofs.YthhbkabdhkdafaaGreat
