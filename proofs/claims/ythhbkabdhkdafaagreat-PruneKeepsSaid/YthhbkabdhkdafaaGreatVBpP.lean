/- Part of a proof of pruneKeeps_holds. -/
import Derived.Test.YthhbkabdhkdafaaGreatVBoP
set_option linter.unusedSimpArgs false
set_option linter.unusedVariables false
set_option maxRecDepth 100000
set_option maxHeartbeats 16000000
namespace Go.Proofs.YthhbkabdhkdafaaGreat
section
open Go.RowKit
theorem kernPrim_any (M : List (List Int)) (k9 : Nat) (R C : List Nat) (all : Int) (f : Nat) (hk : 1 ≤ k9 ∧ k9 ≤ 6) (hf : f < k9) (hfC : f ∉ C) (h0 : all ≠ 0) (ha : all.natAbs ≤ 1024) (hd : ∀ i, i < C.length → (detP M R (C.set i f)).natAbs ≤ 1024)
   (s : Value) (W : World) (h : IB W W.heap.size s (kernV M k9 R C all f)) : Calls Tryz.prog 276 #[s] W (ColPost W (primP (kernV M k9 R C all f))) := by
 have e : kernV M k9 R C all f = kernS M k9 R C all f C.length := rfl
 have hb : ∀ x ∈ kernV M k9 R C all f, -1024 ≤ x ∧ x ≤ 1024 := by rw [e]; exact kernS_bd ha hd C.length (Nat.le_refl _)
 have hl : (kernV M k9 R C all f).length = k9 := by rw [e]; exact kernS_len M k9 R C all f C.length
 have hm : (all.natAbs : Int) ∈ kernV M k9 R C all f := by rw [e]; exact List.mem_of_getElem? (kernS_f hf hfC C.length (Nat.le_refl _))
 exact mxPrim_any _ (by omega) (by omega) (fun x hx => by have := hb x hx; omega) (gcdL_pos hm (by omega)) (gcdL_all _) (fun k => Nat.le_trans (gcdL_le (B := 1024) (fun x hx => by have := hb x (List.mem_of_mem_take hx); omega)) (by omega)) s W h
theorem set_natI (C : List Nat) (i f : Nat) : (natI C).set i (f : Int) = natI (C.set i f) := by simp [natI, List.map_set]
theorem intVs_set (l : List Int) (i : Nat) (x : Int) : (intVs l).set i (.int .i64 x) = intVs (l.set i x) := by simp [intVs, List.map_set]
theorem intVs_getE {l : List Int} {i : Nat} (h : i < l.length) : (intVs l)[i]? = some (.int .i64 l[i]) := by simp [intVs, h]
theorem mxKernel_any (M : List (List Int)) (n9 k9 : Nat) (ho : MxOk M n9 k9) (hk2 : k9 ≤ 2) (v : Value) (w : World) (h : MxAt w (· < w.heap.size) v M) : Calls Tryz.prog 215 #[v] w (TrPost w (kernP M k9)) := by
 obtain ⟨A, c, rfl, h3, h4⟩ := h.form
 have n1 := ho.n1
 have k1 := ho.k1
 have hln := ho.ln
 obtain ⟨ad, rA, rcx, rfl, hab, z0, -⟩ := h.at_ (k := 0) (by omega)
 rw [ho.rw _ (List.getElem_mem _)] at z0
 have HZ0 : Hid (∀ W, Bw w W → W.cell? ad = some (.slice rA k9 rcx)) := Lib.hid (fun W g => (g.b.cell hab).trans (by simpa [Addr.add] using z0))
 have CK : Hid (∀ W, Bw w W → Calls Tryz.prog 145 #[.slice (some ad) n9 c] W (NumPost W 0)) := Lib.hid (fun W g => by have := mxCheck_any M n9 k9 ho _ W (h.bw g); rwa [hln] at this)
 have CL : Hid (∀ W, Bw w W → Calls Tryz.prog 273 #[.slice (some ad) n9 c] W (LeadPost W (leadP M k9).1 (leadP M k9).2)) := Lib.hid (fun W g => by have := mxLeading_any M n9 k9 ho hk2 _ W (h.bw g); rwa [hln] at this)
 have hok := leadP_ok M n9 hln k9
 obtain ⟨R, C, hp⟩ : ∃ R C, leadP M k9 = (R, C) := ⟨_, _, rfl⟩
 have hkp : kernP M k9 = kernL M k9 R C k9 := by rw [kernP_eq, hp]
 obtain ⟨KP, hKP⟩ : ∃ KP, kernP M k9 = KP := ⟨_, rfl⟩
 rw [hKP] at hkp ⊢
 have HKP := Lib.hid hkp
 clear hkp hKP
 rw [hp] at CL hok
 simp only at CL
 have hRC : R.length = C.length := hok.len
 have hR2 : R.length ≤ 2 := by have := hok.le; simp at this; omega
 have HC2 : Hid (C.length ≤ 2) := Lib.hid (by omega)
 have DT := det_two M n9 k9 ho R hR2 hok.rn
 have HCN : Hid (∀ x ∈ C, x < k9) := Lib.hid hok.cn
 have HNZ : Hid (detP M R C ≠ 0) := Lib.hid hok.nz
 have DC : Hid (∀ (u1 u2 : Value) (cols : List Nat) (W : World), cols.length = C.length → (∀ x ∈ cols, x < k9) → Bw w W → IB W W.heap.size u1 (natI R) → IB W W.heap.size u2 (natI cols) → Calls Tryz.prog 274 #[.slice (some ad) n9 c, u1, u2] W (NumPost W (detP M R cols))) := Lib.hid (fun u1 u2 cols W e1 e2 g g1 g2 => by
   have := (DT cols (e1.trans hRC.symm) e2).2 _ u1 u2 W (h.bw g) g1 g2
   rwa [hln] at this)
 have DB : Hid (∀ cols : List Nat, cols.length = C.length → (∀ x ∈ cols, x < k9) → (detP M R cols).natAbs ≤ 1024) := Lib.hid (fun cols e1 e2 => (DT cols (e1.trans hRC.symm) e2).1)
 have HSC : Hid (∀ i f, f < k9 → (C.set i f).length = C.length ∧ ∀ x ∈ C.set i f, x < k9) := Lib.hid (fun i f hf => ⟨by simp, fun x hx => by
   rcases List.mem_or_eq_of_mem_set hx with h | h
   · exact hok.cn x h
   · omega⟩)
 have hall9 := DB.out C rfl HCN.out
 have PR : Hid (∀ f, f < k9 → f ∉ C → ∀ (s : Value) (W : World), IB W W.heap.size s (kernV M k9 R C (detP M R C) f) → Calls Tryz.prog 276 #[s] W (ColPost W (primP (kernV M k9 R C (detP M R C) f)))) := Lib.hid (fun f hf hfC s W hs => kernPrim_any M k9 R C _ f k1 hf hfC HNZ.out hall9 (fun i hi => DB.out _ (HSC.out i f hf).1 (HSC.out i f hf).2) s W hs)
 have HKL : Hid (∀ f, kernL M k9 R C (f + 1) = if f ∈ C then kernL M k9 R C f else kernL M k9 R C f ++ [primP (kernV M k9 R C (detP M R C) f)]) := Lib.hid (kernL_succ M k9 R C)
 obtain ⟨i0, hi0, hz0, hz1, hz2⟩ := info_parts infoInts
 have AM : Hid (∀ W, Calls Tryz.prog 275 #[.int .i64 (detP M R C)] W (NumPost W ((detP M R C).natAbs : Int))) := Lib.hid (fun W => mxAmount_any _ (by omega) W)
 rw [hln] at h3 ⊢
 clear h ho z0 hab hln hok hp DT hRC hR2 hall9
 go_enter Tryz.func215, Tryz.ntmps215
 go_wp2_with (first
   | (go_at_call 145; go_must (refine (CK.out _ (Bw.refl _)).mono ?_; rintro e w1 ⟨rfl, hg1⟩; (have HG1 := Lib.hid hg1); clear hg1))
   | (go_at_call 273; go_must (refine (CL.out _ HG1.out).mono ?_; rintro e w2 ⟨RA, rc, CA, cc, rfl, hr, hc, hg2⟩; (have HRC := Lib.hid (And.intro hr hc)); (have HG2 := Lib.hid (HG1.out.trans hg2)); clear hr hc hg2))
   | (go_at_call 274; go_must (refine (DC.out _ _ C _ rfl HCN.out HG2.out HRC.out.1 HRC.out.2).mono ?_; rintro e w3 ⟨rfl, hg3⟩; (have HG3 := Lib.hid (HG2.out.trans hg3)); (have z1 := HZ0.out _ HG3.out); (have HR3 : Hid (∀ W, Bw w3 W → IB W W.heap.size (.slice RA R.length rc) (natI R) ∧ IB W W.heap.size (.slice CA C.length cc) (natI C)) := Lib.hid (fun W g => ⟨HRC.out.1.bw (hg3.trans g), HRC.out.2.bw (hg3.trans g)⟩)); clear hg3)))
 clear CK CL HRC HG1 HG2 z1
 generalize hall : detP M R C = all at *
 clear hall
 go_loopw [8, 32] (fun s8 s32 wr => ∃ (f : Nat) (OA : Option Addr) (oc q : Nat), f ≤ k9 ∧ s32 = .int .i64 (f : Int) ∧ s8 = .slice OA q oc ∧ q ≤ f ∧ Hid (Bw w3 wr ∧ ∃ ps, ps.map (·.1) = kernL M k9 R C f ∧ ps.length = q ∧ MxO wr w3.heap.size (.slice OA q oc) ps)) (fun _ s32 _ => k9 - (intOf s32).toNat)
 case atStart => exact ⟨0, none, 0, 0, by omega, rfl, rfl, Nat.le_refl _, Lib.hid ⟨Bw.refl _, [], rfl, rfl, MxO.nil _ _⟩⟩
 case round => as_aux_lemma =>
   obtain ⟨wo, hwo⟩ : ∃ wo, wo = wr := ⟨_, rfl⟩
   subst hwo
   obtain ⟨f, OA, oc, q, hf, rfl, rfl, hqf, HA⟩ := hrel
   by_cases hlt : f < k9
   · have hlt' : (f : Int) < (k9 : Int) := by omega
     have HSL := Lib.hid (HKL.out f)
     have CT := Lib.hid (contI9_any (natI C) (f : Int) _ wo (HR3.out wo HA.out.1).2)
     by_cases hin : f ∈ C
     · rw [show decide ((f : Int) ∈ natI C) = true by simpa [natI_mem] using hin] at CT
       have hin := Lib.hid hin
       go_wp2_with (go_at_call 255; go_must (refine CT.out.mono ?_; rintro e w4 ⟨rfl, hg4⟩; (have HG4 := Lib.hid hg4); clear hg4))
       go_roundw
       case rel =>
         obtain ⟨hb, ps, h1, h2, h3⟩ := HA.out
         refine ⟨f + 1, OA, oc, q, by omega, by go_num, rfl, by omega, Lib.hid ⟨hb.trans HG4.out, ps, ?_, h2, h3.bw HG4.out⟩⟩
         rw [HSL.out, if_pos hin.out]; exact h1
       case measure => simp [intOf]; omega
     · rw [show decide ((f : Int) ∈ natI C) = false by simpa [natI_mem] using hin] at CT
       have hin := Lib.hid hin
       have hmk := mkIntsJ k9 (by omega)
       go_upto_region 12 with (go_at_call 255; go_must (refine CT.out.mono ?_; rintro e w4 ⟨rfl, hg4⟩; (have z1 := HZ0.out _ (HG3.out.trans (HA.out.1.trans hg4))); (have HG4 := Lib.hid hg4); clear hg4))
       refine wp_world (fun W => Hid (W.ownsRow wo.heap.size 3 1 (.slice (some ⟨w4.heap.size, 0, none⟩) k9 k9) k9 (intVs (List.replicate k9 0)) ∧ Bw wo W)) (Lib.hid ⟨own_base (own_new w4 3 (intVs (List.replicate k9 0)).toArray 1 (n := k9) rfl (by simp [intVs])) HG4.out.size, HG4.out.alloc _⟩) ?_
       clear CT z1 hmk
       have hgz : Hid (wo.heap.size ≤ w4.heap.size) := Lib.hid HG4.out.size
       clear HG4
       intro W0 HW0
       generalize hg : w4.heap.size = g at *
       clear hg
       go_upto_region 13 with (go_at_call 275; go_must (refine (AM.out _).mono ?_; rintro e w5 ⟨rfl, hg5⟩; (have HO5 := Lib.hid (And.intro (own_kept_below HW0.out.1 hg5.b) (HW0.out.2.trans hg5))); (have y0 : w5.cell? ⟨g, f, none⟩ = some (.int .i64 0) := (HO5.out.1.cellAt f (by omega)).trans (by simp [intVs, hlt])); (have y1 := HO5.out.1.frozenAt f); (have y2 := (HO5.out.1.lt g rfl).2); clear hg5))
       refine wp_world (fun W => Hid (W.ownsRow wo.heap.size 3 1 (.slice (some ⟨g, 0, none⟩) k9 k9) k9 (intVs (kernS M k9 R C all f 0)) ∧ Bw wo W)) (Lib.hid (by
         have hs := HO5.out.1.stored f (.int .i64 (all.natAbs : Int))
         rw [intVs_set, ← kernS_zero M k9 R C all f] at hs
         exact ⟨hs.1, bw_gbM HO5.out.2 hs.2 (fun r e => (HO5.out.1.lt r e).1)⟩)) ?_
       clear y0 y1 y2
       clear HO5 HW0 W0
       intro W1 HW1
       go_wp2_with fail
       go_loopw [50] (fun s50 wr => ∃ i : Nat, i ≤ C.length ∧ s50 = .int .i64 (i : Int) ∧ Hid (wr.ownsRow wo.heap.size 3 1 (.slice (some ⟨g, 0, none⟩) k9 k9) k9 (intVs (kernS M k9 R C all f i)) ∧ Bw wo wr)) (fun s50 _ => C.length - (intOf s50).toNat)
       case atStart => exact ⟨0, by omega, rfl, HW1⟩
       case round => as_aux_lemma =>
         clear HW1
         have hC2 := HC2.out
         obtain ⟨wi, hwi⟩ : ∃ wi, wi = wr := ⟨_, rfl⟩
         subst hwi
         obtain ⟨i, hi, rfl, HB⟩ := hrel
         by_cases hlti : i < C.length
         · have hlti' : (i : Int) < (C.length : Int) := by omega
           have hcC := HR3.out wi (HA.out.1.trans HB.out.2)
           obtain ⟨ad2, rfl, hb2, z2⟩ := hcC.2.at_ (k := i) (by rw [natI_len]; exact hlti)
           replace z2 : wi.cell? (ad2.add i) = some (.int .i64 (C[i] : Int)) := by simpa [natI] using z2
           have CLN := Lib.hid (clone_any (some ad2) C.length cc (natI C) wi (by unfold IsAt; rw [natI_len]; exact hcC.2.reads) (natI_len C) (by omega) (by have := HC2.out; omega))
           have hci := HCN.out _ (List.getElem_mem hlti)
           have HKS : Hid (kernS M k9 R C all f (i + 1) = (kernS M k9 R C all f i).set C[i] (if all < 0 then detP M R (C.set i f) else -(detP M R (C.set i f)))) := Lib.hid (by
             have := kernS_succ M k9 R C all f i
             rwa [show C.getD i 0 = C[i] by simp [List.getD, hlti]] at this)
           have hkl : Hid ((kernS M k9 R C all f i).length = k9) := Lib.hid (kernS_len M k9 R C all f i)
           have DCi := Lib.hid (fun (u1 u2 : Value) (W : World) => DC.out u1 u2 (C.set i f) W (HSC.out i f hlt).1 (HSC.out i f hlt).2)
           have hdb := DB.out (C.set i f) (HSC.out i f hlt).1 (HSC.out i f hlt).2
           have HNI : Hid ((natI C).set i (f : Int) = natI (C.set i f)) := Lib.hid (set_natI C i f)
           generalize C[i] = ci at *
           clear hcC hb2
           go_upto_region 17 with (go_at_call 29; go_must (refine CLN.out.mono ?_; rintro e w6 ⟨g2, cap2, rfl, ho6, hb6⟩; (have HO6 := Lib.hid (And.intro ho6 hb6)); (have y0 : w6.cell? ⟨g2, i, none⟩ = some (.int .i64 (natI C)[i]!) := (ho6.cellAt i (by omega)).trans (by simp [intVs, natI, hlti])); (have y1 := ho6.frozenAt i); (have y2 := (ho6.lt g2 rfl).2); clear ho6 hb6))
           clear z2 CLN
           go_upto_region 18 with fail
           refine wp_world (fun W => Hid (W.ownsRow wi.heap.size 3 1 (.slice (some ⟨g2, 0, none⟩) C.length cap2) C.length (intVs (natI (C.set i f))) ∧ Bw wi W)) (Lib.hid (by
             have hs := HO6.out.1.stored i (.int .i64 (f : Int))
             rw [intVs_set, HNI.out] at hs
             exact ⟨hs.1, bw_gbM HO6.out.2 hs.2 (fun r e => (HO6.out.1.lt r e).1)⟩)) ?_
           clear y0 y1 y2 HO6
           intro W7 HW7
           have CD7 := Lib.hid (DCi.out _ (.slice (some ⟨g2, 0, none⟩) C.length cap2) W7 (HG3.out.trans (HA.out.1.trans (HB.out.2.trans HW7.out.2))) (HR3.out W7 (HA.out.1.trans (HB.out.2.trans HW7.out.2))).1 ((own_iat (by simpa using HW7.out.1)).keep (fun b hb => hb.2) (fun _ _ => rfl)))
           clear DCi
           generalize detP M R (C.set i f) = dd at *
           have hq1 : IntKind.i64.wrap (-dd) = -dd := IntWalk.i64_in _ (by omega)
           have hq2 : IntKind.i64.wrap (- -dd) = dd := (IntWalk.i64_in _ (by omega)).trans (by omega)
           have hci' : (ci : Int) < (k9 : Int) := by omega
           go_upto_region 19 with (go_at_call 274; go_must (refine CD7.out.mono ?_; rintro e w8 ⟨rfl, hg8⟩; (have HO8 := Lib.hid (And.intro (own_kept_below HB.out.1 (HW7.out.2.trans hg8).b) (HB.out.2.trans (HW7.out.2.trans hg8)))); (have y0 : w8.cell? ⟨g, ci, none⟩ = some (.int .i64 ((kernS M k9 R C all f i)[ci]!)) := (HO8.out.1.cellAt ci (by omega)).trans (by rw [intVs_getE (by rw [hkl.out]; exact hci)]; simp [hkl.out, hci])); (have y1 := HO8.out.1.frozenAt ci); (have y2 := (HO8.out.1.lt g rfl).2); clear hg8))
           refine wp_world (fun W => Hid (W.ownsRow wo.heap.size 3 1 (.slice (some ⟨g, 0, none⟩) k9 k9) k9 (intVs ((kernS M k9 R C all f i).set ci (-dd))) ∧ Bw wo W)) (Lib.hid (by
             have hs := HO8.out.1.stored ci (.int .i64 (-dd))
             rw [intVs_set] at hs
             exact ⟨hs.1, bw_gbM HO8.out.2 hs.2 (fun r e => (HO8.out.1.lt r e).1)⟩)) ?_
           clear y0 y1 y2 HO8 CD7 HW7 HB W7
           intro W9 HW9
           by_cases hneg : all < 0
           · have d1 : decide (all < 0) = true := by simpa using hneg
             have y0 : W9.cell? ⟨g, ci, none⟩ = some (.int .i64 (-dd)) := (HW9.out.1.cellAt ci (by omega)).trans (by
               rw [intVs_getE (by rw [List.length_set, hkl.out]; exact hci)]; simp)
             have y1 := HW9.out.1.frozenAt ci
             have y2 := (HW9.out.1.lt g rfl).2
             have HN := Lib.hid hneg
             have HS2 : Hid (Hid (wi = wi) ∧ (kernS M k9 R C all f i).set ci dd = kernS M k9 R C all f (i + 1)) := Lib.hid ⟨Lib.hid rfl, by rw [HKS.out, if_pos hneg]⟩
             clear hneg
             go_wp2_with fail
             have hs := HW9.out.1.stored ci (.int .i64 dd)
             rw [intVs_set, List.set_set, HS2.out.2] at hs
             exact ⟨⟨i + 1, by omega, by go_num, Lib.hid ⟨hs.1, bw_gbM HW9.out.2 hs.2 (fun r e => (HW9.out.1.lt r e).1)⟩⟩, by simp [intOf]; omega⟩
           · have d1 : decide (all < 0) = false := by simpa using hneg
             have HS2 : Hid ((kernS M k9 R C all f i).set ci (-dd) = kernS M k9 R C all f (i + 1)) := Lib.hid (by rw [HKS.out, if_neg hneg])
             go_wp2_with fail
             have h1 := HW9.out
             rw [HS2.out] at h1
             exact ⟨⟨i + 1, by omega, by go_num, Lib.hid h1⟩, by simp [intOf]; omega⟩
         · obtain rfl : i = C.length := by omega
           have HV := Lib.hid (PR.out f hlt hin.out (.slice (some ⟨g, 0, none⟩) k9 k9) wi ((own_iat (by have := HB.out.1; exact this)).keep (fun b hb => hb.2) (fun _ _ => rfl)))
           obtain ⟨hb, ps, hpe, hpl, hmo⟩ := HA.out
           have HMO := Lib.hid (And.intro hpe (And.intro hmo hpl))
           have HBB := Lib.hid (hb.trans HB.out.2)
           have HOW : Hid (∀ W o, Bw wi W → (W.alloc o).ownsRow w3.heap.size 27 1 (.slice OA q oc) q (ps.map (·.2))) := Lib.hid (fun W o g => by
             have := own_kept_below hmo.own ((HB.out.2.trans g).alloc o).b
             rwa [hpl] at this)
           have hsz := hb.size
           have hsz2 := HB.out.2.size
           generalize hPP : primP (kernV M k9 R C all f) = PP at *
           have HNW : Hid (kernL M k9 R C (f + 1) = kernL M k9 R C f ++ [PP]) := Lib.hid (by rw [HSL.out, if_neg hin.out])
           rw [show ColPost wi PP = fun e w' => ∃ (A : Option Addr) (c : Nat), e = .returned (.slice A PP.length c) ∧ w'.ownsRow wi.heap.size 3 1 (.slice A PP.length c) PP.length (intVs PP) ∧ Bw wi w' from rfl] at HV
           clear hb hpe hpl hmo HSL hPP
           go_wp2_with (first
             | (go_at_call 276; go_must (refine HV.out.mono ?_; rintro e w9 ⟨PA, pc, rfl, ho9, hb9⟩; (have HC9 := Lib.hid (And.intro ho9 hb9)); (have hs9 := hb9.size); clear ho9 hb9))
             | (at_builtin; go_must (refine wpList_append_any _ rfl _ _ 44 rfl w3.heap.size 27 i0 _ 1 24 Tryz.underlying44 hi0 hz0 hz1 hz2 rfl (by decide) (.slice OA q oc) q (ps.map (·.2)) rfl (HOW.out _ _ HC9.out.2) (w9.heap.size + 1) (some ⟨w9.heap.size, 0, none⟩) 1 1 [.slice PA PP.length pc] rfl (reads_newS w9 _) (by simp [Value.oneCell']) (by unfold maxLen; omega) (by omega) (by simp; omega) ?_; intro v7 w7 hown7 hgr7 hl7; obtain ⟨A7, c7, rfl⟩ := own_form hown7; (have HO7 := Lib.hid (And.intro hown7 (And.intro hgr7 hl7))); clear hown7 hgr7 hl7)))
           have hA : Bw wi (w9.alloc (.cells #[.slice PA PP.length pc] 27)) := HC9.out.2.alloc _
           have hrow : ∀ r, (Value.slice OA q oc).ownBlock = some r → w3.heap.size ≤ r ∧ r < wo.heap.size := fun r e => HMO.out.2.1.own.lt r e
           have hpu := (HMO.out.2.1.bw (HB.out.2.trans hA)).push (r := PP) (s := .slice PA PP.length pc) ((own_iat2 HC9.out.1).keep (fun b hb => ⟨by omega, by simp; omega, fun e => by have := hrow b e; omega⟩) (fun p hp => World.cell?_of_block (Below.heap_alloc w9 _ p.block hp.2))) (by rw [HMO.out.2.2]; exact HO7.out.1) HO7.out.2.1 HO7.out.2.2
           exact ⟨⟨f + 1, A7, c7, q + 1, by omega, by go_num, rfl, by omega, Lib.hid ⟨bw_gbM (HBB.out.trans hA) HO7.out.2.1 (fun r e => (hrow r e).1), _, by rw [List.map_append, HMO.out.1, HNW.out]; rfl, by rw [List.length_append, HMO.out.2.2]; rfl, hpu⟩⟩, by simp [intOf]; omega⟩
   · obtain rfl : f = k9 := by omega
     go_wp2_with fail
     go_ret2
     obtain ⟨hb, ps, hpe, hpl, hmo⟩ := HA.out
     have hat := hmo.at_
     have hsz := HG3.out.size
     rw [hpe, ← HKP.out] at hat
     have hl : KP.length = q := by rw [HKP.out, ← hpe, List.length_map, hpl]
     unfold TrPost
     rw [hl]
     exact ⟨_, _, rfl, hat.keep (fun b hb => ⟨by omega, hb.2⟩) (fun _ _ => rfl), HG3.out.trans hb⟩
theorem sfSupp1_any (x : Int) (W : World) : Calls Tryz.prog 216 #[.int .i64 x] W (BoolPost W (decide (x ≤ 0))) := by
 go_enter Tryz.func216, Tryz.ntmps216
 go_wp2_with fail
 go_ret
 exact ⟨rfl, Bw.refl _⟩
def SuppPost (w : World) (n : Nat) (r : Option (List Int)) (e : Ending) (w' : World) : Prop := ∃ (A : Option Addr) (k c : Nat) (ok : Bool), e = .returned (.tuple #[.slice A k c, .bool ok]) ∧ Bw w w' ∧ ((r = none ∧ ok = false) ∨ ∃ y, r = some y ∧ ok = true ∧ k = n ∧ y.length = n ∧ w'.ownsRow w.heap.size 3 1 (.slice A k c) n (intVs y))
theorem bit_go (s i : Nat) (hs : s < 4) (hi : i < 2) : (bits BinOp.and IntKind.i64 ((s : Int) / 2 ^ i) 1 == 1) = bitB s i := by
 rcases (by omega : s = 0 ∨ s = 1 ∨ s = 2 ∨ s = 3) with rfl | rfl | rfl | rfl <;> rcases (by omega : i = 0 ∨ i = 1) with rfl | rfl <;> rfl
theorem mxAt_row {W : World} {B : Nat} {OA : Option Addr} {q oc : Nat} {ps : List (List Int × Value)} (ho : W.ownsRow B 27 1 (.slice OA q oc) q (ps.map (·.2))) (hl : ps.length = q) (hk : ∀ p ∈ ps, IAt W (· < W.heap.size) p.2 p.1) : MxAt W (· < W.heap.size) (.slice OA q oc) (ps.map (·.1)) := by
 obtain ⟨A', c', e, h1, h2⟩ := own_bounds ho
 injection e with e1 e2 e3
 subst e1 e3
 refine ⟨OA, q, oc, ps.map (·.2), rfl, by simp [hl], h1, h2, by simp [hl], fun hn => ?_, fun k a b => ?_⟩
 · obtain ⟨g, rfl, h3, h4, h5, h6⟩ := own_at ho hn
   exact ⟨_, rfl, h5, fun k hk => h6 k _ (List.getElem?_eq_getElem hk)⟩
 · have hk2 : k < ps.length := by simpa using a
   simp only [List.getElem_map]
   exact hk _ (List.getElem_mem hk2)
theorem kernP_len {M : List (List Int)} {k : Nat} {v : List Int} (h : v ∈ kernP M k) : v.length = k := by
 rw [kernP_eq, kernL] at h
 obtain ⟨f, _, rfl⟩ := List.mem_map.1 h
 rw [primP, List.length_map]
 exact kernS_len M k _ _ _ f _
theorem supp_none {c : List (List Int)} {k s : Nat} (h : (kernP (trP (setRows c s) k) (setRows c s).length).length ≠ 1) : suppP c k s = none := by
 unfold suppP
 split
 · rename_i v hv; rw [hv] at h; exact absurd rfl h
 · rfl
theorem supp_one {c : List (List Int)} {k s : Nat} {v : List Int} (h : kernP (trP (setRows c s) k) (setRows c s).length = [v]) : suppP c k s = if v.any (fun x => decide (x ≤ 0)) then none else some (fillA s v c.length) := by
 unfold suppP
 rw [h]
 simp only
 rw [fillP_all]
theorem fill_next (s : Nat) (y : List Int) (i n : Nat) (h : i < n) (x : Int) (hx : x = if bitB s i then y.getD (cntB s i) 0 else 0) : (fillA s y i ++ List.replicate (n - i) 0).set i x = fillA s y (i + 1) ++ List.replicate (n - (i + 1)) 0 := by
 rw [fillA_succ, ← hx, List.set_append_right _ _ (by rw [fillA_len]; exact Nat.le_refl _), fillA_len, Nat.sub_self, show n - i = (n - (i + 1)) + 1 by omega, List.replicate_succ, List.set_cons_zero]
 simp
theorem fill_same (s : Nat) (y : List Int) (i n : Nat) (h : i < n) (hx : bitB s i = false) : fillA s y i ++ List.replicate (n - i) 0 = fillA s y (i + 1) ++ List.replicate (n - (i + 1)) 0 := by
 rw [fillA_succ, hx, show n - i = (n - (i + 1)) + 1 by omega, List.replicate_succ]
 simp
theorem fill_get (s : Nat) (y : List Int) (i n : Nat) (h : i < n) : (fillA s y i ++ List.replicate (n - i) 0)[i]? = some 0 := by
 rw [List.getElem?_append_right (by rw [fillA_len]; exact Nat.le_refl _), fillA_len, Nat.sub_self, show n - i = (n - (i + 1)) + 1 by omega, List.replicate_succ]
 rfl
theorem sfSupp_any (cs : List (List Int)) (n k s : Nat) (ho : MxOk cs n k) (hn2 : n ≤ 2) (h1s : 1 ≤ s) (h2s : s < 2 ^ n) (v : Value) (w : World) (h : MxAt w (· < w.heap.size) v cs) : Calls Tryz.prog 146 #[v, .int .i64 (s : Int)] w (SuppPost w n (suppP cs k s)) := by
 obtain ⟨A, c, rfl, h3, h4⟩ := h.form
 have n1 := ho.n1
 have k1 := ho.k1
 have hln := ho.ln
 have hs4 : s < 4 := Nat.lt_of_lt_of_le h2s (by have := Nat.pow_le_pow_right (n := 2) (by omega) hn2; omega)
 have HM : Hid (∀ W, Bw w W → MxAt W (· < W.heap.size) (.slice A n c) cs) := Lib.hid (fun W g => by have := h.bw g; rwa [hln] at this)
 have HMw : Hid (MxAt w (· < w.heap.size) (.slice A n c) cs) := Lib.hid (by rwa [hln] at h)
 have HL := Lib.hid hln
 have HRW : Hid (∀ i (hi : i < cs.length), cs[i].length = k) := Lib.hid (fun i hi => ho.rw _ (List.getElem_mem hi))
 have HSE : Hid (setR cs s n = setRows cs s ∧ (setRows cs s).length = cntB s n) := Lib.hid ⟨by rw [← hln]; rfl, by rw [setRows_len, hln]⟩
 obtain ⟨hok, hc2⟩ := setR_ok ho hn2 h1s h2s
 have CTR : Hid (∀ v W, MxAt W (· < W.heap.size) v (setRows cs s) → Calls Tryz.prog 214 #[v] W (TrPost W (trP (setRows cs s) k))) := Lib.hid (fun v W hv => mxTranspose_any _ _ k hok v W hv)
 have CKE : Hid (∀ v W, MxAt W (· < W.heap.size) v (trP (setRows cs s) k) → Calls Tryz.prog 215 #[v] W (TrPost W (kernP (trP (setRows cs s) k) (cntB s n)))) := Lib.hid (fun v W hv => mxKernel_any _ _ _ (trP_ok hok) hc2 v W hv)
 obtain ⟨KK, hKK⟩ : ∃ KK, kernP (trP (setRows cs s) k) (cntB s n) = KK := ⟨_, rfl⟩
 have HKL : Hid (∀ y ∈ KK, y.length = cntB s n) := Lib.hid (by rw [← hKK]; exact fun y hy => kernP_len hy)
 have HS0 : Hid (KK.length ≠ 1 → suppP cs k s = none) := Lib.hid (fun h => supp_none (by rw [HSE.out.2, hKK]; exact h))
 have HS1 : Hid (∀ y, KK = [y] → suppP cs k s = if y.any (fun x => decide (x ≤ 0)) then none else some (fillA s y n)) := Lib.hid (fun y h => by
   have := supp_one (c := cs) (k := k) (s := s) (v := y) (by rw [HSE.out.2, hKK]; exact h)
   rwa [hln] at this)
 have HTL : Hid (∀ (TA : Option Addr) (tc : Nat) W, MxAt W (· < W.heap.size) (.slice TA (trP (setRows cs s) k).length tc) (trP (setRows cs s) k) → (trP (setRows cs s) k).length = k) := Lib.hid (fun _ _ _ _ => by simp [trP])
 rw [hKK] at CKE
 have HCM : Hid (∀ i, i < n → bitB s i = true → cntB s i < cntB s n) := Lib.hid (fun i hi hb => by
   have := cntB_mono s (show i + 1 ≤ n by omega)
   rw [cntB_succ, if_pos hb] at this
   omega)
 have HCU : Hid (∀ i, i ≤ n → cntB s i ≤ 2) := Lib.hid (fun i hi => by have := cntB_mono s hi; omega)
 rw [hln] at h3 ⊢
 generalize suppP cs k s = RS at *
 clear h hln ho hok hc2 hKK
 obtain ⟨i0, hi0, hz0, hz1, hz2⟩ := info_parts infoInts
 go_enter Tryz.func146, Tryz.ntmps146
 go_wp2_with fail
 go_loopw [6, 18] (fun s6 s18 wr => ∃ (i : Nat) (OA : Option Addr) (q oc : Nat), i ≤ n ∧ s18 = .int .i64 (i : Int) ∧ s6 = .slice OA q oc ∧ q ≤ i ∧ Hid (Bw w wr ∧ ∃ ps : List (List Int × Value), ps.map (·.1) = setR cs s i ∧ ps.length = q ∧ wr.ownsRow w.heap.size 27 1 (.slice OA q oc) q (ps.map (·.2)) ∧ ∀ p ∈ ps, IAt w (· < w.heap.size) p.2 p.1)) (fun _ s18 _ => n - (intOf s18).toNat)
 case atStart => exact ⟨0, none, 0, 0, by omega, rfl, rfl, by omega, Lib.hid ⟨Bw.refl _, [], rfl, rfl, World.ownsRow_nil _ _ _ _, fun p hp => by cases hp⟩⟩
 case round => as_aux_lemma =>
   obtain ⟨wo, hwo⟩ : ∃ wo, wo = wr := ⟨_, rfl⟩
   subst hwo
   obtain ⟨i, OA, q, oc, hi, rfl, rfl, hqi, HA⟩ := hrel
   by_cases hlt : i < n
   · have hlt' : (i : Int) < (n : Int) := by omega
     have hil : i < cs.length := by rw [HL.out]; exact hlt
     obtain ⟨ad, rA, rd, rfl, hb, z0, hki⟩ := HMw.out.at_ hil
     rw [HRW.out i hil] at z0 hki
     have z1 := (HA.out.1.b.cell (p := ad.add i) (by rw [add_block]; exact hb)).trans z0
     have HKI := Lib.hid hki
     have hbg := bit_go s i hs4 (by omega)
     have HSR := Lib.hid (setR_succ cs s i)
     have HGD : Hid (cs.getD i [] = cs[i]) := Lib.hid (by simp [List.getD, hil])
     obtain ⟨hbw, ps, hpe, hpl, hro, hpk⟩ := HA.out
     have HP := Lib.hid (And.intro hpe (And.intro hpl hpk))
     have HBW := Lib.hid hbw
     have hsz := hbw.size
     have HOW : Hid (∀ o, (wo.alloc o).ownsRow w.heap.size 27 1 (.slice OA q oc) q (ps.map (·.2))) := Lib.hid (fun o => hro.alloc o)
     have hrow : Hid (∀ r, (Value.slice OA q oc).ownBlock = some r → w.heap.size ≤ r ∧ r < wo.heap.size) := Lib.hid (fun r e => hro.lt r e)
     have HRO := Lib.hid hro
     clear hbw hpe hpl hpk hro hki z0 hb HA
     rcases hbit : bitB s i with _ | _
     · rw [hbit] at hbg
       have hbp : ¬ (bits BinOp.and IntKind.i64 ((s : Int) / 2 ^ i) 1 = 1) := by simpa using hbg
       have HBI := Lib.hid hbit
       clear hbit
       go_wp2_with fail
       exact ⟨⟨i + 1, OA, q, oc, by omega, by go_num, rfl, by omega, Lib.hid ⟨HBW.out, ps, by rw [HSR.out, if_neg (by rw [HBI.out]; decide)]; exact HP.out.1, HP.out.2.1, HRO.out, HP.out.2.2⟩⟩, by simp [intOf]; omega⟩
     · rw [hbit] at hbg
       have hbp : bits BinOp.and IntKind.i64 ((s : Int) / 2 ^ i) 1 = 1 := by simpa using hbg
       have HBI := Lib.hid hbit
       clear hbit
       go_wp2_with (at_builtin; go_must (refine wpList_append_any _ rfl _ _ 44 rfl w.heap.size 27 i0 _ 1 24 Tryz.underlying44 hi0 hz0 hz1 hz2 rfl (by decide) (.slice OA q oc) q (ps.map (·.2)) rfl (HOW.out _) (wo.heap.size + 1) (some ⟨wo.heap.size, 0, none⟩) 1 1 [.slice rA k rd] rfl (reads_newS wo _) (by simp [Value.oneCell']) (by unfold maxLen; omega) (by omega) (by simp; omega) ?_; intro v7 w7 hown7 hgr7 hl7; obtain ⟨A7, c7, rfl⟩ := own_form hown7; (have HO7 := Lib.hid (And.intro hown7 hgr7)); clear hown7 hgr7 hl7))
       exact ⟨⟨i + 1, A7, q + 1, c7, by omega, by go_num, rfl, by omega, Lib.hid ⟨bw_gbM (HBW.out.alloc _) HO7.out.2 (fun r e => (hrow.out r e).1), ps ++ [(cs[i], .slice rA k rd)], by rw [HSR.out, if_pos HBI.out, List.map_append, HP.out.1, HGD.out]; rfl, by rw [List.length_append, HP.out.2.1]; rfl, by rw [List.map_append]; exact HO7.out.1, fun p hp => by
         rcases List.mem_append.1 hp with hp | hp
         · exact HP.out.2.2 p hp
         · rw [List.mem_singleton.1 hp]; exact HKI.out⟩⟩, by simp [intOf]; omega⟩
   · obtain rfl : i = n := by omega
     obtain ⟨hbw, ps, hpe, hpl, hro, hpk⟩ := HA.out
     have hmx : MxAt wo (· < wo.heap.size) (.slice OA q oc) (setRows cs s) := by
       have := mxAt_row hro hpl (fun p hp => (hpk p hp).keep (fun b hb => Nat.lt_of_lt_of_le hb hbw.size) (fun p hp => hbw.b.cell hp))
       rwa [hpe, HSE.out.1] at this
     have C1 := Lib.hid (CTR.out _ _ hmx)
     have HBW := Lib.hid hbw
     clear hbw hpe hpl hro hpk HA hmx CTR
     generalize hTT : trP (setRows cs s) k = TT at *
     clear hTT
     rw [show TrPost wo TT = fun e w' => ∃ (A : Option Addr) (c : Nat), e = .returned (.tuple #[.slice A TT.length c, .int .i64 0]) ∧ MxAt w' (fun b => wo.heap.size ≤ b ∧ b < w'.heap.size) (.slice A TT.length c) TT ∧ Bw wo w' from rfl] at C1
     go_upto_region 10 with (first
       | (go_at_call 214; go_must (refine C1.out.mono ?_; rintro e w1 ⟨TA, tc, rfl, hm1, hg1⟩; (have HM1 := Lib.hid (hm1.keep (S' := fun b => b < w1.heap.size) (fun b hb => hb.2) (fun _ _ => rfl))); (have HG1 := Lib.hid (HBW.out.trans hg1)); clear hm1 hg1))
       | (go_at_call 215; go_must (refine (CKE.out _ _ HM1.out).mono ?_; rintro e w2 ⟨KA, kc, rfl, hm2, hg2⟩; (have HM2 := Lib.hid (hm2.keep (S' := fun b => b < w2.heap.size) (fun b hb => hb.2) (fun _ _ => rfl))); (have HG2 := Lib.hid (HG1.out.trans hg2)); clear hm2 hg2)))
     clear HM1 HG1 C1 CKE HBW
     by_cases hk1 : KK.length = 1
     · obtain ⟨y, rfl⟩ : ∃ y, KK = [y] := by
         match KK, hk1 with
         | [y], _ => exact ⟨y, rfl⟩
       have hyl : y.length = cntB s i := HKL.out y (by simp)
       have HYL := Lib.hid hyl
       have HRS := Lib.hid (HS1.out y rfl)
       obtain ⟨kad, yA, yc, rfl, hkb, zk, hyk⟩ := HM2.out.at_ (k := 0) (by simp)
       simp only [List.getElem_cons_zero] at zk hyk
       have HZK : Hid (∀ W, Bw w2 W → W.cell? kad = some (.slice yA y.length yc)) := Lib.hid (fun W g => (g.b.cell hkb).trans (by simpa [Addr.add] using zk))
       have HYK : Hid (∀ W, Bw w2 W → IB W W.heap.size (.slice yA y.length yc) y) := Lib.hid (fun W g => hyk.bw g)
       have CF := Lib.hid (contInt_any y (fun x => decide (x ≤ 0)) 216 #[] (enters_of Tryz.func216 (by kernel_rfl) rfl) _ w2 hyk (fun x hx _ W' _ _ => sfSupp1_any x W'))
       clear hk1 HS0 HS1 zk hyk hkb HM2 hyl HKL
       have z1 := HZK.out w2 (Bw.refl _)
       simp only [List.length_cons, List.length_nil, Nat.zero_add]
       generalize hyn : y.any (fun x => decide (x ≤ 0)) = yn at *
       clear hyn
       cases yn with
       | true =>
         rw [if_pos rfl] at HRS
         go_wp2_with (go_at_call 149; go_must (refine CF.out.mono ?_; rintro e w3 ⟨rfl, hg3⟩; (have HG3 := Lib.hid hg3); clear hg3))
         go_ret2
         exact ⟨none, 0, 0, false, rfl, HG2.out.trans HG3.out, .inl ⟨HRS.out, rfl⟩⟩
       | false =>
         rw [if_neg (by decide)] at HRS
         have hmk := mkIntsJ i (by omega)
         go_upto_region 13 with (go_at_call 149; go_must (refine CF.out.mono ?_; rintro e w3 ⟨rfl, hg3⟩; (have HG3 := Lib.hid hg3); clear hg3))
         refine wp_world (fun W => Hid (W.ownsRow w2.heap.size 3 1 (.slice (some ⟨w3.heap.size, 0, none⟩) i i) i (intVs (fillA s y 0 ++ List.replicate (i - 0) 0)) ∧ Bw w2 W)) (Lib.hid ⟨own_base (own_new w3 3 (intVs (List.replicate i 0)).toArray 1 (n := i) (by simp [show fillA s y 0 = [] from rfl]) (by simp [intVs, show fillA s y 0 = [] from rfl])) HG3.out.size, HG3.out.alloc _⟩) ?_
         clear CF z1 hmk
         clear HG3
         intro W0 HW0
         generalize hg : w3.heap.size = g at *
         clear hg
         go_wp2_with fail
         go_loopw [14, 57] (fun s14 s57 wr => ∃ j : Nat, j ≤ i ∧ s57 = .int .i64 (j : Int) ∧ s14 = .int .i64 (cntB s j : Int) ∧ Hid (wr.ownsRow w2.heap.size 3 1 (.slice (some ⟨g, 0, none⟩) i i) i (intVs (fillA s y j ++ List.replicate (i - j) 0)) ∧ Bw w2 wr)) (fun _ s57 _ => i - (intOf s57).toNat)
         case atStart => exact ⟨0, by omega, rfl, rfl, HW0⟩
         case round => as_aux_lemma =>
           clear HW0
           obtain ⟨wi, hwi⟩ : ∃ wi, wi = wr := ⟨_, rfl⟩
           subst hwi
           obtain ⟨j, hj, rfl, rfl, HB⟩ := hrel
           by_cases hltj : j < i
           · have hltj' : (j : Int) < (i : Int) := by omega
             have hbg := bit_go s j hs4 (by omega)
             have HCS := Lib.hid (cntB_succ s j)
             have hcu := HCU.out j hj
             rcases hbit : bitB s j with _ | _
             · rw [hbit] at hbg
               have hbp : ¬ (bits BinOp.and IntKind.i64 ((s : Int) / 2 ^ j) 1 = 1) := by simpa using hbg
               have HBI := Lib.hid hbit
               clear hbit
               go_wp2_with fail
               exact ⟨⟨j + 1, by omega, by go_num, by rw [HCS.out, if_neg (by rw [HBI.out]; decide)], Lib.hid ⟨by rw [← fill_same s y j i hltj HBI.out]; exact HB.out.1, HB.out.2⟩⟩, by simp [intOf]; omega⟩
             · rw [hbit] at hbg
               have hbp : bits BinOp.and IntKind.i64 ((s : Int) / 2 ^ j) 1 = 1 := by simpa using hbg
               have HBI := Lib.hid hbit
               have hcl := HCM.out j hltj hbit
               have hcy : cntB s j < y.length := by rw [HYL.out]; exact hcl
               have hcy' : (cntB s j : Int) < (y.length : Int) := by omega
               clear hbit
               have z1 := HZK.out wi HB.out.2
               obtain ⟨yad, rfl, hyb, z2⟩ := (HYK.out wi HB.out.2).at_ hcy
               have y0 : wi.cell? ⟨g, j, none⟩ = some (.int .i64 0) := (HB.out.1.cellAt j (by omega)).trans (by rw [intVs, List.getElem?_map, fill_get s y j i hltj]; rfl)
               have y1 := HB.out.1.frozenAt j
               have y2 := (HB.out.1.lt g rfl).2
               have HFN : Hid ((fillA s y j ++ List.replicate (i - j) 0).set j y[cntB s j] = fillA s y (j + 1) ++ List.replicate (i - (j + 1)) 0) := Lib.hid (fill_next s y j i hltj _ (by rw [if_pos HBI.out]; simp [List.getD, hcy]))
               generalize y[cntB s j] = yx at *
               generalize cntB s j = cj at *
               go_wp2_with fail
               have hs := HB.out.1.stored j (.int .i64 yx)
               rw [intVs_set, HFN.out] at hs
               exact ⟨⟨j + 1, by omega, by go_num, by rw [HCS.out, if_pos HBI.out]; go_num, Lib.hid ⟨hs.1, bw_gbM HB.out.2 hs.2 (fun r e => (HB.out.1.lt r e).1)⟩⟩, by simp [intOf]; omega⟩
           · obtain rfl : j = i := by omega
             go_wp2_with fail
             go_ret2
             have h1 := HB.out.1
             rw [Nat.sub_self, List.replicate_zero, List.append_nil] at h1
             exact ⟨_, _, _, true, rfl, HG2.out.trans HB.out.2, .inr ⟨_, HRS.out, rfl, rfl, fillA_len s y j, own_base h1 HG2.out.size⟩⟩
     · have hk2 : (((KK.length : Nat) : Int) != 1) = true := by simp; omega
       have HRS := Lib.hid (HS0.out hk1)
       obtain ⟨KA', kc', e, -, -⟩ := HM2.out.form
       go_wp2_with fail
       go_ret2
       exact ⟨none, 0, 0, false, rfl, HG2.out, .inl ⟨HRS.out, rfl⟩⟩
end
end Go.Proofs.YthhbkabdhkdafaaGreat
