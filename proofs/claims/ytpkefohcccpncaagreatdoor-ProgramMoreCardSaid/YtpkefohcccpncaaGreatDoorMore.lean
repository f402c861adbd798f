/- The walk of ProgramMore. -/
import Derived.Test.YtpkefohcccpncaaGreatDoorPkM
namespace Go.Proofs.YtpkefohcccpncaaGreatDoor
open Go.RowKit
set_option linter.unusedSimpArgs false
set_option linter.unusedVariables false

set_option maxRecDepth 100000 in
set_option maxHeartbeats 8000000 in
theorem pmore_any (A : Option Addr) (n c : Nat) (w : World) (hg : GlobP w) (hA : SeedsArg w A n c) :
    Calls Tryz.prog 4 #[.slice A n c] w fun e w' => e = .returned (.bool true) ∧ Below w.heap.size w w' := by
  have HG := Lib.hid hg
  have SA : Hid (Calls Tryz.prog 6 #[] w fun e w' => e = .returned (.bool true) ∧ Below w.heap.size w w') := Lib.hid (sane_any w hg)
  have NE : Hid (∀ W, Below w.heap.size w W → Calls Tryz.prog 7 #[.slice A n c] W (PNewPost W)) := Lib.hid (fun W h => pnew_arg W A n c (hA.up h))
  clear hg hA
  go_enter Tryz.func4, Tryz.ntmps4
  go_wp2_with fail
  refine (SA.out).mono ?_
  rintro e w1 ⟨rfl, hb1⟩
  have HB1 := Lib.hid hb1
  have hz1 := hb1.size
  clear hb1
  go_wp2_with fail
  refine (NE.out _ HB1.out).mono ?_
  rintro e w2 ⟨rfl, hd2, hb2⟩
  have HB2 := Lib.hid (HB1.out.trans (hb2.mono HB1.out.size))
  have HD2 := Lib.hid hd2
  clear hd2 hb2 NE SA
  go_wp2_with fail
  refine (dprogram_any _ _ HD2.out).mono ?_
  rintro e w3 ⟨p, PA, pc, rfl, hp3, hok3, hd3, hg3⟩
  have HB3 : Hid (Below w.heap.size w w3) := Lib.hid (HB2.out.trans (below_grownS hg3 HB1.out.size HB2.out.size))
  have HCK := Lib.hid hok3.check
  obtain ⟨b, hbb⟩ : ∃ b, w1.heap.size = b := ⟨_, rfl⟩
  rw [hbb]
  obtain ⟨pn, hpn⟩ : ∃ pn, p.ts.length = pn := ⟨_, rfl⟩
  obtain ⟨pv, hpv⟩ : ∃ pv, p.v = pv := ⟨_, rfl⟩
  rw [hpn, hpv]
  have hbw : b < w3.heap.size := by rw [← hbb]; exact hd3.lt
  have HI3 : Hid (PkM w (w3.alloc (.cells #[.int .i64 pv, .slice PA pn pc] 28)) b w3.heap.size p.ts pv PA pn pc) := Lib.hid ⟨by rw [← hbb]; exact hd3.below ((Below.refl _ _).alloc (Nat.le_refl _) _) hd3.lt, HB3.out.alloc HB3.out.size _, Blk.new _ _ _, hp3.below ((Below.refl _ _).alloc (Nat.le_refl _) _), by omega, hbw⟩
  have hv1 := hok3.v1
  have hv2 := hok3.v2
  rw [hpv] at hv1 hv2
  have hcp := placesP_le p
  have hcp0 := placesP_pos p hok3.check
  obtain ⟨cn, hcn⟩ : ∃ cn, (placesP p).length = cn := ⟨_, rfl⟩
  rw [hcn] at hcp hcp0
  have HCN := Lib.hid hcn
  have HPN := Lib.hid hpn
  have HPV := Lib.hid hpv
  have PL : Hid (∀ W, PkI w W b w3.heap.size p.ts pv PA pn pc → Calls Tryz.prog 13 #[.agg #[.int .i64 pv, .slice PA pn pc]] W (PlacesPost W (placesP p))) := Lib.hid (fun W h => by
    have := places_any p PA pn pc W h.th hpn (HG.out.below h.be) (prgOk_of HCK.out)
    rw [hpv] at this
    exact this)
  have FAI : Hid (∀ W CA cc cs bb, PkI w W b w3.heap.size p.ts pv PA pn pc → IsAt W W.heap.size CA cs → cs.length = cn → failsB p cs = bb → Calls Tryz.prog 14 #[.agg #[.int .i64 pv, .slice PA pn pc], .slice CA cn cc] W fun e w' => e = .returned (.bool bb) ∧ Below W.heap.size W w') := Lib.hid (fun W CA cc cs bb h hC hl hb => by
    have := fails_any p PA pn pc CA cn cc cs W h.th hpn (HG.out.below h.be) (prgOk_of HCK.out) hC hl hcn bb hb
    rw [hpv] at this
    exact this)
  have ST : Hid (∀ W CA cc v cs es, PkI w W b w3.heap.size p.ts pv PA pn pc → IsAt W W.heap.size CA cs → cs.length = cn → stepsP p v cs = (0, es) → Calls Tryz.prog 10 #[.agg #[.int .i64 pv, .slice PA pn pc], .int .i64 v, .slice CA cn cc] W (StepsPost W (0, es))) := Lib.hid (fun W CA cc v cs es h hC hl hr => by
    have := steps_any p PA pn pc v CA cn cc cs W h.th hpn (HG.out.below h.be) (prgOk_of HCK.out) hC hl (by omega) _ hr
    rw [hpv] at this
    exact this)
  have DO : Hid (∀ W CA cc v cs e M, PkI w W b w3.heap.size p.ts pv PA pn pc → IsAt W W.heap.size CA cs → cs.length = cn → (stepsP p v cs).1 = 0 → e ∈ (stepsP p v cs).2 → Bd cs M → M + 2 ≤ 1048576 → Calls Tryz.prog 12 #[.agg #[.int .i64 pv, .slice PA pn pc], .int .i64 v, .slice CA cn cc, .agg #[.int .i64 e.th, .int .i64 e.ln, .int .i64 e.nu, .int .i64 e.va, .int .i64 e.nx]] W (DoOwn W e.va (doC p cs e))) := Lib.hid (fun W CA cc v cs e M h hC hl h0 he hb hM => by
    have := do_ok p PA pn pc v CA cn cc cs e W M h.th hpn (HG.out.below h.be) (prgOk_of HCK.out) hC hl h0 he hb hM
    rw [hpv] at this
    exact this)
  have hz3 := HB3.out.size
  clear hp3 hok3 hd3 hg3 hpn hpv hcn HD2 HB2 HB3 hbb
  have hpz := HI3.out.pr.lt
  have q0 := HI3.out.pr.cell 0
  have PK3 : Hid (Calls Tryz.prog 11 #[.pointer (some ⟨b, 0, none⟩), .int .i64 pv] (w3.alloc (.cells #[.int .i64 pv, .slice PA pn pc] 28)) (PickPost (w3.alloc (.cells #[.int .i64 pv, .slice PA pn pc] 28)) b pv)) := Lib.hid (ppick_any _ b HI3.out.di pv (by omega) (by omega))
  go_wp2_with fail
  refine (PK3.out).mono ?_
  rintro e w4 ⟨v, rfl, hv, hd4, hg4⟩
  have HI4 := Lib.hid (HI3.out.pick hd4 hg4)
  clear hd4 hg4 HI3 q0 PK3
  have q0 := HI4.out.pr.cell 0
  have q1 := HI4.out.pr.cell 1
  go_wp2_with fail
  refine (PL.out _ HI4.out.pki).mono ?_
  rintro e w5 ⟨QA, qc, rfl, _, hb5⟩
  rw [HCN.out]
  have HI5 := Lib.hid (HI4.out.below hb5)
  clear hb5 HI4 q0 q1 PL
  obtain ⟨i0, hi, hz0, hz1, hz2⟩ := info_parts infoInt
  go_wp2_with fail
  go_loopw [6, 7, 33] (fun s6 s7 s33 wr => ∃ (FA MA : Option Addr) (fc mc k : Nat) (few more : List Int), k ≤ cn ∧ s33 = .int .i64 k ∧ s6 = .slice FA k fc ∧ s7 = .slice MA k mc ∧ Hid (PkM w wr b w3.heap.size p.ts pv PA pn pc ∧ TwoI wr b w3.heap.size (.slice FA k fc) (.slice MA k mc) few more ∧ few.length = k ∧ MoreOk few more)) (fun _ _ s33 _ => cn - (intOf s33).toNat)
  case atStart => exact ⟨none, none, 0, 0, 0, [], [], by omega, rfl, rfl, rfl, Lib.hid ⟨HI5.out, ⟨World.ownsRow_nil _ _ _ _, World.ownsRow_nil _ _ _ _, .inl rfl, HI5.out.bl.2⟩, rfl, ⟨rfl, fun j h => absurd h (by simp), fun j h => absurd h (by simp), fun j => Int.le_refl _⟩⟩⟩
  case round =>
    clear HI5
    obtain ⟨wo, rfl⟩ : ∃ wo : World, wo = wr := ⟨_, rfl⟩
    obtain ⟨FA, MA, fc, mc, k, few, more, hk, rfl, rfl, rfl, HR⟩ := hrel
    by_cases hlt : k < cn
    · obtain ⟨hI, hT, hfl, hM⟩ := HR.out
      have hml := hM.l
      have PK6 : Hid (Calls Tryz.prog 11 #[.pointer (some ⟨b, 0, none⟩), .int .i64 3] wo (PickPost wo b 3)) := Lib.hid (ppick_any _ b hI.di 3 (by omega) (by omega))
      have HI := Lib.hid hI
      have HT := Lib.hid hT
      have HFL := Lib.hid hfl
      have HM := Lib.hid hM
      have HML : Hid (more.length = k) := Lib.hid (by omega)
      clear hI hT hfl hM hml HR
      go_wp2_with fail
      refine (PK6.out).mono ?_
      rintro e w6 ⟨x, rfl, hx, hd6, hg6⟩
      have HI6 := Lib.hid (HI.out.pick hd6 hg6)
      have HT6 := Lib.hid (HT.out.pick hg6)
      have HF6 : Hid (∀ o, (w6.alloc o).ownsRow (w3.heap.size + 1) 3 1 (.slice FA k fc) k (intVs few)) := Lib.hid (fun o => by
        have := (HT6.out.alloc o).f
        rw [HFL.out] at this
        exact this)
      have hp6 := HI6.out.pr.lt
      clear hd6 hg6 PK6 HI HT
      go_wp2_with (at_builtin; go_must (refine wpList_append_any _ rfl _ _ 30 rfl (w3.heap.size + 1) 3 i0 _ 1 8 Tryz.underlying30 hi hz0 hz1 hz2 rfl (by decide) (.slice FA k fc) k (intVs few) rfl (HF6.out _) (w6.heap.size + 1) (some ⟨w6.heap.size, 0, none⟩) 1 1 [.int .i64 (x : Int)] rfl (reads_new1 w6 _) (by simp [Value.oneCell']) (by unfold maxLen; omega) (by omega) (by simp; omega) ?_; intro v7 w7 hown7 hgr7 hl7; obtain ⟨FA7, fc7, rfl⟩ := own_form hown7; (have HO7 := Lib.hid hown7); (have HG7 := Lib.hid hgr7); (have HL7 := Lib.hid hl7); clear hown7 hgr7 hl7))
      have HI7 : Hid (PkM w w7 b w3.heap.size p.ts pv PA pn pc) := Lib.hid ((HI6.out.alloc (.cells #[.int .i64 (x : Int)] 3)).row HG7.out (fun g e => by have := ((HF6.out (.cells #[] 0)).lt g e).1; omega))
      have HT7 : Hid (TwoI w7 b w3.heap.size (.slice FA7 (k + 1) fc7) (.slice MA k mc) (few ++ [(x : Int)]) more) := Lib.hid ((HT6.out.alloc (.cells #[.int .i64 (x : Int)] 3)).addF (x : Int) (by rw [HFL.out]; exact HO7.out) HG7.out HL7.out)
      have PK7 : Hid (Calls Tryz.prog 11 #[.pointer (some ⟨b, 0, none⟩), .int .i64 3] w7 (PickPost w7 b 3)) := Lib.hid (ppick_any _ b HI7.out.di 3 (by omega) (by omega))
      clear HI6 HT6 HF6 HO7 HG7 HL7
      refine (PK7.out).mono ?_
      rintro e w8 ⟨y, rfl, hy, hd8, hg8⟩
      have HI8 := Lib.hid (HI7.out.pick hd8 hg8)
      have HT8 := Lib.hid (HT7.out.pick hg8)
      have HF8 : Hid (∀ o, (w8.alloc o).ownsRow (w3.heap.size + 1) 3 1 (.slice MA k mc) k (intVs more)) := Lib.hid (fun o => by
        have := (HT8.out.alloc o).m
        rw [HML.out] at this
        exact this)
      have hp8 := HI8.out.pr.lt
      clear hd8 hg8 PK7 HI7 HT7
      go_wp2_with (at_builtin; go_must (refine wpList_append_any _ rfl _ _ 30 rfl (w3.heap.size + 1) 3 i0 _ 1 8 Tryz.underlying30 hi hz0 hz1 hz2 rfl (by decide) (.slice MA k mc) k (intVs more) rfl (HF8.out _) (w8.heap.size + 1) (some ⟨w8.heap.size, 0, none⟩) 1 1 [.int .i64 ((x : Int) + y)] rfl (reads_new1 w8 _) (by simp [Value.oneCell']) (by unfold maxLen; omega) (by omega) (by simp; omega) ?_; intro v9 w9 hown9 hgr9 hl9; obtain ⟨MA9, mc9, rfl⟩ := own_form hown9; (have HO9 := Lib.hid hown9); (have HG9 := Lib.hid hgr9); (have HL9 := Lib.hid hl9); clear hown9 hgr9 hl9))
      have HI9 : Hid (PkM w w9 b w3.heap.size p.ts pv PA pn pc) := Lib.hid ((HI8.out.alloc (.cells #[.int .i64 ((x : Int) + y)] 3)).row HG9.out (fun g e => by have := ((HF8.out (.cells #[] 0)).lt g e).1; omega))
      have HT9 : Hid (TwoI w9 b w3.heap.size (.slice FA7 (k + 1) fc7) (.slice MA9 (k + 1) mc9) (few ++ [(x : Int)]) (more ++ [(x : Int) + y])) := Lib.hid ((HT8.out.alloc (.cells #[.int .i64 ((x : Int) + y)] 3)).addM ((x : Int) + y) (by rw [HML.out]; exact HO9.out) HG9.out HL9.out)
      have HM9 : Hid (MoreOk (few ++ [(x : Int)]) (more ++ [(x : Int) + y])) := Lib.hid (HM.out.snoc (by omega) (by omega) (by omega) (by omega))
      go_roundw
      case rel => exact ⟨FA7, MA9, fc7, mc9, k + 1, few ++ [(x : Int)], more ++ [(x : Int) + y], by omega, by go_num, rfl, rfl, Lib.hid ⟨HI9.out, HT9.out, by simp [HFL.out], HM9.out⟩⟩
      case measure => simp [intOf]; omega
    · obtain rfl : k = cn := by omega
      obtain ⟨hI, hT, hfl, hM⟩ := HR.out
      have hml : more.length = k := by have := hM.l; omega
      have hbf := badC_of_bd hM.bf (by omega)
      have hbm := badC_of_bd hM.bm (by omega)
      have hv1' : (v : Int) < p.v := by rw [HPV.out]; exact hv
      have hsf := steps_of HCK.out (by omega) hv1' hbf (by rw [hfl, HCN.out])
      have hsm := steps_of HCK.out (by omega) hv1' hbm (by rw [hml, HCN.out])
      have hel9 := stepsTo_le p v few (placesP p) (placesP p).length
      obtain ⟨es, hes⟩ : ∃ es, stepsTo p v few (placesP p) (placesP p).length = es := ⟨_, rfl⟩
      rw [hes] at hsf hel9
      obtain ⟨el, hel⟩ : ∃ el, es.length = el := ⟨_, rfl⟩
      rw [hel, HCN.out] at hel9
      have hT2 := hT.f
      rw [hfl] at hT2
      have hT3 := hT.m
      rw [hml] at hT3
      have STo := Lib.hid (ST.out wo FA fc v few es hI.pki (own_isAt hT.f) hfl hsf)
      have HDO : Hid (∀ W x, x ∈ es → Below wo.heap.size wo W → Calls Tryz.prog 12 #[.agg #[.int .i64 pv, .slice PA pn pc], .int .i64 v, .slice FA k fc, .agg #[.int .i64 x.th, .int .i64 x.ln, .int .i64 x.nu, .int .i64 x.va, .int .i64 x.nx]] W (DoOwn W x.va (doC p few x)) ∧
          Calls Tryz.prog 12 #[.agg #[.int .i64 pv, .slice PA pn pc], .int .i64 v, .slice MA k mc, .agg #[.int .i64 x.th, .int .i64 x.ln, .int .i64 x.nu, .int .i64 x.va, .int .i64 x.nx]] W (DoOwn W x.va (doC p more x))) := Lib.hid (fun W x hx hW => by
        have h0 : (stepsP p v few).1 = 0 := by rw [hsf]
        have h0m : (stepsP p v more).1 = 0 := by rw [hsm]
        have hxf : x ∈ (stepsP p v few).2 := by rw [hsf]; exact hx
        have hxm := steps_more h0 h0m hM.le hxf
        have hIW := (hI.below hW).pki
        exact ⟨DO.out W FA fc v few x 2 hIW (((own_isAt hT.f).below hW).more hW.size) hfl h0 hxf hM.bf (by omega), DO.out W MA mc v more x 4 hIW (((own_isAt hT.m).below hW).more hW.size) hml h0m hxm hM.bm (by omega)⟩)
      have HI := Lib.hid hI
      have HT := Lib.hid hT
      have HT2 := Lib.hid hT2
      have HT3 := Lib.hid hT3
      have HM := Lib.hid hM
      have HFL := Lib.hid hfl
      have HML := Lib.hid hml
      have HEL := Lib.hid hel
      have HBB : Hid (failsB p few = true → failsB p more = true) := Lib.hid (fails_mono hM.le)
      have FA1 := Lib.hid (fun W bb (h : Below wo.heap.size wo W) (hb : failsB p few = bb) => FAI.out W FA fc few bb ((hI.below h).pki) (((own_isAt hT.f).below h).more h.size) hfl hb)
      have FA2 := Lib.hid (fun W bb (h : Below wo.heap.size wo W) (hb : failsB p more = bb) => FAI.out W MA mc more bb ((hI.below h).pki) (((own_isAt hT.m).below h).more h.size) hml hb)
      have q0 := hI.pr.cell 0
      have q1 := hI.pr.cell 1
      have hpo := hI.pr.lt
      have e0 : ((k : Int) == 0) = false := by simp; omega
      clear hI hT hfl hM hml hbf hbm hv1' hsf hsm hes hel hT2 hT3 HR
      go_wp2_with fail
      refine (STo.out).mono ?_
      rintro e w5 ⟨EA, ec, rfl, he5, hb5⟩
      dsimp only at he5 ⊢
      rw [HEL.out]
      have HE5 := Lib.hid he5
      have HB5 := Lib.hid hb5
      have hz5 := hb5.size
      clear he5 hb5 STo q0 q1
      go_wp2_with fail
      clear e0
      go_loopw [65] (fun s65 wr => ∃ i : Nat, i ≤ el ∧ s65 = .int .i64 i ∧ Hid (Below w5.heap.size w5 wr)) (fun s65 _ => el - (intOf s65).toNat)
      case atStart => exact ⟨0, by omega, rfl, Lib.hid (Below.refl _ _)⟩
      case round =>
        obtain ⟨w6, rfl⟩ : ∃ w6 : World, w6 = wr := ⟨_, rfl⟩
        obtain ⟨i, hi9, rfl, HW⟩ := hrel
        have hz6 := HW.out.size
        have HB6 : Hid (Below wo.heap.size wo w6) := Lib.hid (HB5.out.trans (HW.out.mono hz5))
        by_cases hil : i < el
        · have hix : i < es.length := by rw [HEL.out]; exact hil
          obtain ⟨ad, rfl, hab, g0, g1, g2, g3, g4⟩ := (EvsAt.at_ (Reads.below HE5.out HW.out) hix)
          have hmem := List.getElem_mem hix
          generalize es[i]'hix = x at *
          have D1 : Hid (∀ W, Below wo.heap.size wo W → _) := Lib.hid (fun W hW => (HDO.out W x hmem hW).1)
          have D2 : Hid (∀ W, Below wo.heap.size wo W → _) := Lib.hid (fun W hW => (HDO.out W x hmem hW).2)
          have HGC : Hid (∀ j, j < k → (doC p few x).getD j 0 = few.getD j 0 + doD p x j ∧ (doC p more x).getD j 0 = more.getD j 0 + doD p x j) := Lib.hid (fun j hj => ⟨doC_get p few x (by rw [HFL.out]; exact hj), doC_get p more x (by rw [HML.out]; exact hj)⟩)
          have HDD : Hid (∀ j, -1 ≤ doD p x j ∧ doD p x j ≤ 2) := Lib.hid (fun j => by have := doD_bd p x j; omega)
          have hl1 : (doC p few x).length = k := by rw [doC_length]; exact HFL.out
          have hl2 : (doC p more x).length = k := by rw [doC_length]; exact HML.out
          generalize doC p few x = C1 at *
          generalize doC p more x = C2 at *
          generalize doD p x = dd at *
          have HL1 := Lib.hid hl1
          have HL2 := Lib.hid hl2
          obtain ⟨xt, xl, xn, xa, xx⟩ := x
          dsimp only at *
          have hq := HI.out.pr.below HB6.out hpo
          have q0 := hq.cell 0
          have q1 := hq.cell 1
          have hp6 := hq.lt
          clear hmem hl1 hl2 hq hix
          go_wp2_with fail
          refine (D1.out _ (HB6.out.alloc HB6.out.size _)).mono ?_
          rintro e w7 ⟨CA, cc, rfl, hownc, hb7⟩
          rw [HL1.out] at hownc ⊢
          have HB7 : Hid (Below w6.heap.size w6 w7) := Lib.hid (((Below.refl _ _).alloc (Nat.le_refl _) _).trans (hb7.mono (by simp)))
          have HX7 : Hid (Blk w7 w6.heap.size 38 #[.int .i64 xt, .int .i64 xl, .int .i64 xn, .int .i64 xa, .int .i64 xx]) := Lib.hid ((Blk.new w6 _ _).below hb7 (by simp))
          have HC7 := Lib.hid hownc
          have p0 := ((HI.out.pr.below HB6.out hpo).below HB7.out hp6).cell 0
          have p1 := ((HI.out.pr.below HB6.out hpo).below HB7.out hp6).cell 1
          have x0 := HX7.out.cell 0
          have x1 := HX7.out.cell 1
          have x2 := HX7.out.cell 2
          have x3 := HX7.out.cell 3
          have x4 := HX7.out.cell 4
          have hz7 := HB7.out.size
          clear hownc hb7 D1 g0 g1 g2 g3 g4 q0 q1
          go_wp2_with fail
          refine (D2.out _ (HB6.out.trans (HB7.out.mono (by omega)))).mono ?_
          rintro e w8 ⟨KA, kc, rfl, hownk, hb8⟩
          rw [HL2.out] at hownk ⊢
          have HC8 : Hid (IsAt w8 w8.heap.size CA C1) := Lib.hid (by
            have h1 : IsAt w7 w7.heap.size CA C1 := by
              have := HC7.out
              rw [← HL1.out] at this
              exact own_isAt this
            exact (h1.below hb8).more hb8.size)
          have HK8 : Hid (IsAt w8 w8.heap.size KA C2) := Lib.hid (by
            have := hownk
            rw [← HL2.out] at this
            exact own_isAt this)
          have HB8 : Hid (Below w6.heap.size w6 w8) := Lib.hid (HB7.out.trans (hb8.mono hz7))
          have HB9 : Hid (Below wo.heap.size wo w8) := Lib.hid (HB6.out.trans (HB8.out.mono (by omega)))
          have HF8 : Hid (IsAt w8 w8.heap.size FA few ∧ IsAt w8 w8.heap.size MA more) := Lib.hid ⟨((own_isAt HT.out.f).below HB9.out).more HB9.out.size, ((own_isAt HT.out.m).below HB9.out).more HB9.out.size⟩
          clear hownk hb8 D2 p0 p1 x0 x1 x2 x3 x4
          go_wp2_with fail
          go_loopw [107] (fun s107 wr => ∃ j q : Nat, j ≤ k ∧ s107 = .int .i64 j ∧ Hid (wr = w8.drewN q)) (fun s107 _ => k - (intOf s107).toNat)
          case atStart => exact ⟨0, 0, by omega, rfl, Lib.hid rfl⟩
          case round =>
            obtain ⟨j, q, hj, rfl, HQ⟩ := hrel
            have hw := HQ.out
            subst hw
            by_cases hjl : j < k
            · obtain ⟨ad1, rfl, _, c1⟩ := HC8.out.at_ (k := j) (by rw [HL1.out]; exact hjl)
              obtain ⟨ad2, rfl, _, c2⟩ := HK8.out.at_ (k := j) (by rw [HL2.out]; exact hjl)
              obtain ⟨ad3, rfl, _, c3⟩ := HF8.out.1.at_ (k := j) (by rw [HFL.out]; exact hjl)
              obtain ⟨ad4, rfl, _, c4⟩ := HF8.out.2.at_ (k := j) (by rw [HML.out]; exact hjl)
              have b1 := HM.out.bf j (by rw [HFL.out]; exact hjl)
              have b2 := HM.out.bm j (by rw [HML.out]; exact hjl)
              have b3 := HM.out.le j
              obtain ⟨b4, b5⟩ := HGC.out j hjl
              have b6 := HDD.out j
              have n1 : C1[j]'(by rw [HL1.out]; exact hjl) = C1.getD j 0 := by simp [List.getD, HL1.out, hjl]
              have n2 : C2[j]'(by rw [HL2.out]; exact hjl) = C2.getD j 0 := by simp [List.getD, HL2.out, hjl]
              have n3 : few[j]'(by rw [HFL.out]; exact hjl) = few.getD j 0 := by simp [List.getD, HFL.out, hjl]
              have n4 : more[j]'(by rw [HML.out]; exact hjl) = more.getD j 0 := by simp [List.getD, HML.out, hjl]
              rw [n1] at c1
              rw [n2] at c2
              rw [n3] at c3
              rw [n4] at c4
              clear n1 n2 n3 n4
              generalize C1.getD j 0 = u1 at *
              generalize C2.getD j 0 = u2 at *
              generalize few.getD j 0 = u3 at *
              generalize more.getD j 0 = u4 at *
              generalize dd j = u5 at *
              have j0 : (0 : Int) ≤ (j : Int) := by omega
              have j1 : (j : Int) < (k : Int) := by omega
              have d1 : decide (u2 < u1) = false := by simp; omega
              have d2 : (u2 - u1 != u4 - u3) = false := by simp; omega
              have s1 : IntKind.i64.wrap (u2 - u1) = u2 - u1 := IntWalk.i64_in _ (by omega)
              have s2 : IntKind.i64.wrap (u4 - u3) = u4 - u3 := IntWalk.i64_in _ (by omega)
              clear b1 b2 b3 b4 b5 b6
              go_wp2_with fail
              go_quiet (fail)
              clear s1 s2
              go_wp2_with fail
              go_roundw
              case rel => exact ⟨j + 1, _, by omega, by go_num, Lib.hid rfl⟩
              case measure => simp [intOf]; omega
            · obtain rfl : j = k := by omega
              clear HQ
              go_wp2_with fail
              go_roundw
              case rel => exact ⟨i + 1, by omega, by go_num, Lib.hid (below_drewN (HW.out.trans (HB8.out.mono hz6)) _)⟩
              case measure => simp [intOf]; omega
        · obtain rfl : i = el := by omega
          have hq := HI.out.pr.below HB6.out hpo
          have q0 := hq.cell 0
          have q1 := hq.cell 1
          have hp6 := hq.lt
          clear hq
          rcases hbf : failsB p few with _ | _
          · have F1 := Lib.hid (FA1.out w6 false HB6.out hbf)
            clear hbf
            go_wp2_with fail
            refine (F1.out).mono ?_
            rintro e w7 ⟨rfl, hb7⟩
            have HBE := Lib.hid (HI.out.be.trans ((HB6.out.mono HI.out.be.size).trans (hb7.mono (by have := HI.out.be.size; have := HB6.out.size; omega))))
            clear hb7
            go_wp2_with fail
            go_ret
            exact ⟨rfl, HBE.out⟩
          · have F1 := Lib.hid (FA1.out w6 true HB6.out hbf)
            have F2 := Lib.hid (fun W h => FA2.out W true h (HBB.out hbf))
            clear hbf
            go_wp2_with fail
            refine (F1.out).mono ?_
            rintro e w7 ⟨rfl, hb7⟩
            have HB7 : Hid (Below wo.heap.size wo w7) := Lib.hid (HB6.out.trans (hb7.mono HB6.out.size))
            have q0 := (HI.out.pr.below HB7.out hpo).cell 0
            have q1 := (HI.out.pr.below HB7.out hpo).cell 1
            clear hb7
            go_wp2_with fail
            refine (F2.out _ HB7.out).mono ?_
            rintro e w8 ⟨rfl, hb8⟩
            have HBE := Lib.hid (HI.out.be.trans ((HB7.out.mono HI.out.be.size).trans (hb8.mono (by have := HI.out.be.size; have := HB7.out.size; omega))))
            clear hb8
            go_wp2_with fail
            go_ret
            exact ⟨rfl, HBE.out⟩
end Go.Proofs.YtpkefohcccpncaaGreatDoor
