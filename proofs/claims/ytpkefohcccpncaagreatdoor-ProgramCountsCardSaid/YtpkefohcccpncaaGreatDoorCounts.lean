/- The walk of ProgramCounts. -/
import Derived.Test.YtpkefohcccpncaaGreatDoorPkI
namespace Go.Proofs.YtpkefohcccpncaaGreatDoor
open Go.RowKit
set_option linter.unusedSimpArgs false
set_option linter.unusedVariables false

theorem startC_bd (n : Nat) : Bd (startC n) 1 := by
  intro j hj
  match j with
  | 0 => simp [startC]
  | j + 1 =>
    have h : j < (List.replicate (n - 1) (0 : Int)).length := by simpa [startC] using hj
    simp only [startC, List.getD_cons_succ]
    rw [List.getD_eq_getElem?_getD, List.getElem?_eq_getElem h]
    simp
set_option maxRecDepth 100000 in
set_option maxHeartbeats 8000000 in
theorem pcounts_any (A : Option Addr) (n c : Nat) (w : World) (hg : GlobP w) (hA : SeedsArg w A n c) :
    Calls Tryz.prog 3 #[.slice A n c] w fun e w' => e = .returned (.bool true) ∧ Below w.heap.size w w' := by
  have HG := Lib.hid hg
  have SA : Hid (Calls Tryz.prog 6 #[] w fun e w' => e = .returned (.bool true) ∧ Below w.heap.size w w') := Lib.hid (sane_any w hg)
  have NE : Hid (∀ W, Below w.heap.size w W → Calls Tryz.prog 7 #[.slice A n c] W (PNewPost W)) := Lib.hid (fun W h => pnew_arg W A n c (hA.up h))
  clear hg hA
  go_enter Tryz.func3, Tryz.ntmps3
  go_wp2_with fail
  refine (SA.out).mono ?_
  rintro e w1 ⟨rfl, hb1⟩
  have HB1 := Lib.hid hb1
  have hz1 := hb1.size
  clear hb1
  go_wp2_with fail
  refine (NE.out _ HB1.out).mono ?_
  rintro e w2 ⟨rfl, hd2, hb2⟩
  have HB2 := Lib.hid (HB1.out.trans (hb2.mono HB1.out.size))
  have HD2 := Lib.hid hd2
  clear hd2 hb2 NE SA
  go_wp2_with fail
  refine (dprogram_any _ _ HD2.out).mono ?_
  rintro e w3 ⟨p, PA, pc, rfl, hp3, hok3, hd3, hg3⟩
  have HB3 : Hid (Below w.heap.size w w3) := Lib.hid (HB2.out.trans (below_grownS hg3 HB1.out.size HB2.out.size))
  have HCK := Lib.hid hok3.check
  obtain ⟨b, hbb⟩ : ∃ b, w1.heap.size = b := ⟨_, rfl⟩
  rw [hbb]
  obtain ⟨pn, hpn⟩ : ∃ pn, p.ts.length = pn := ⟨_, rfl⟩
  obtain ⟨pv, hpv⟩ : ∃ pv, p.v = pv := ⟨_, rfl⟩
  rw [hpn, hpv]
  have hbw : b < w3.heap.size := by rw [← hbb]; exact hd3.lt
  have HI3 : Hid (PkI w (w3.alloc (.cells #[.int .i64 pv, .slice PA pn pc] 28)) b w3.heap.size p.ts pv PA pn pc) := Lib.hid ⟨by rw [← hbb]; exact hd3.below ((Below.refl _ _).alloc (Nat.le_refl _) _) hd3.lt, HB3.out.alloc HB3.out.size _, Blk.new _ _ _, hp3.up ((Below.refl _ _).alloc (Nat.le_refl _) _), by omega, hbw⟩
  have hv1 := hok3.v1
  have hv2 := hok3.v2
  rw [hpv] at hv1 hv2
  have hcp := placesP_le p
  have hcp0 := placesP_pos p hok3.check
  obtain ⟨cn, hcn⟩ : ∃ cn, (placesP p).length = cn := ⟨_, rfl⟩
  rw [hcn] at hcp hcp0
  have HCN := Lib.hid hcn
  have HPN := Lib.hid hpn
  have HPV := Lib.hid hpv
  have BG : Hid (∀ W, PkI w W b w3.heap.size p.ts pv PA pn pc → Calls Tryz.prog 9 #[.agg #[.int .i64 pv, .slice PA pn pc]] W (BeginOwn W (startC cn))) := Lib.hid (fun W h => by
    have := begin_own p PA pn pc W h.th hpn (HG.out.below h.be) (prgOk_of HCK.out) HCK.out
    rw [hcn, hpv] at this
    exact this)
  have ST : Hid (∀ W CA cc v cs es, PkI w W b w3.heap.size p.ts pv PA pn pc → IsAt W W.heap.size CA cs → cs.length = cn → stepsP p v cs = (0, es) → Calls Tryz.prog 10 #[.agg #[.int .i64 pv, .slice PA pn pc], .int .i64 v, .slice CA cn cc] W (StepsPost W (0, es))) := Lib.hid (fun W CA cc v cs es h hC hl hr => by
    have := steps_any p PA pn pc v CA cn cc cs W h.th hpn (HG.out.below h.be) (prgOk_of HCK.out) hC hl (by omega) _ hr
    rw [hpv] at this
    exact this)
  have DO : Hid (∀ W CA cc v cs e M, PkI w W b w3.heap.size p.ts pv PA pn pc → IsAt W W.heap.size CA cs → cs.length = cn → (stepsP p v cs).1 = 0 → e ∈ (stepsP p v cs).2 → Bd cs M → M + 2 ≤ 1048576 → Calls Tryz.prog 12 #[.agg #[.int .i64 pv, .slice PA pn pc], .int .i64 v, .slice CA cn cc, .agg #[.int .i64 e.th, .int .i64 e.ln, .int .i64 e.nu, .int .i64 e.va, .int .i64 e.nx]] W (DoOwn W e.va (doC p cs e))) := Lib.hid (fun W CA cc v cs e M h hC hl h0 he hb hM => by
    have := do_ok p PA pn pc v CA cn cc cs e W M h.th hpn (HG.out.below h.be) (prgOk_of HCK.out) hC hl h0 he hb hM
    rw [hpv] at this
    exact this)
  have hz3 := HB3.out.size
  clear hp3 hok3 hd3 hg3 hpn hpv hcn HD2 HB2 HB3 hbb
  have q0 := HI3.out.pr.cell 0
  have q1 := HI3.out.pr.cell 1
  go_wp2_with fail
  refine (BG.out _ HI3.out).mono ?_
  rintro e w4 ⟨CA, cc, rfl, hown, hb4⟩
  have hl4 : (startC cn).length = cn := startC_length hcp0
  rw [hl4] at hown ⊢
  have HI4 := Lib.hid (HI3.out.below hb4)
  have HO4 : Hid (OwnC w4 b (.slice CA cn cc) (startC cn)) := Lib.hid (by
    unfold OwnC; rw [hl4]
    exact own_down hown (by simp; omega))
  have HL4 := Lib.hid hl4
  clear hown hb4 hl4 q0 q1 HI3 BG
  go_wp2_with fail
  go_loopw [5, 6, 8] (fun s5 s6 s8 wr => ∃ (v : Int) (CA : Option Addr) (cc k : Nat) (cs : List Int), k ≤ 8 ∧ s8 = .int .i64 k ∧ s5 = .int .i64 v ∧ s6 = .slice CA cn cc ∧ 0 ≤ v ∧ v < pv ∧ Hid (PkI w wr b w3.heap.size p.ts pv PA pn pc ∧ OwnC wr b (.slice CA cn cc) cs ∧ cs.length = cn ∧ Bd cs (1 + 2 * k))) (fun _ _ s8 _ => 8 - (intOf s8).toNat)
  case atStart => exact ⟨0, CA, cc, 0, startC cn, by omega, rfl, rfl, rfl, by omega, by omega, Lib.hid ⟨HI4.out, HO4.out, HL4.out, by simpa using startC_bd cn⟩⟩
  case round =>
    clear HI4 HO4 HL4
    obtain ⟨wo, rfl⟩ : ∃ wo : World, wo = wr := ⟨_, rfl⟩
    obtain ⟨v, CA, cc, k, cs, hk, rfl, rfl, rfl, v0, v1, HR⟩ := hrel
    by_cases hlt : k < 8
    · obtain ⟨hI, hO, hcl, hbd⟩ := HR.out
      have hbad := badC_of_bd hbd (by omega)
      have hst := steps_of HCK.out v0 (by rw [HPV.out]; exact v1) hbad (by rw [hcl, HCN.out])
      have hel9 := stepsTo_le p v cs (placesP p) (placesP p).length
      obtain ⟨es, hes⟩ : ∃ es, stepsTo p v cs (placesP p) (placesP p).length = es := ⟨_, rfl⟩
      rw [hes] at hst hel9
      obtain ⟨el, hel⟩ : ∃ el, es.length = el := ⟨_, rfl⟩
      rw [hel, HCN.out] at hel9
      have STo := Lib.hid (ST.out wo CA cc v cs es hI hO.isAt hcl hst)
      have HI := Lib.hid hI
      have HO := Lib.hid hO
      have HCL := Lib.hid hcl
      have HBD := Lib.hid hbd
      have HST := Lib.hid hst
      have HEL := Lib.hid hel
      have q0 := hI.pr.cell 0
      have q1 := hI.pr.cell 1
      clear hI hO hcl hbd hbad hst hes hel HR
      go_wp2_with fail
      refine (STo.out).mono ?_
      rintro e w5 ⟨EA, ec, rfl, he5, hb5⟩
      dsimp only at he5 ⊢
      rw [HEL.out]
      have HI5 := Lib.hid (HI.out.below hb5)
      have HO5 := Lib.hid (HO.out.below hb5)
      have HE5 := Lib.hid he5
      clear he5 hb5 HI HO STo q0 q1
      by_cases h0 : el = 0
      · have e0 : ((el : Int) == 0) = true := by simp; omega
        go_wp2_with fail
        go_ret
        exact ⟨rfl, HI5.out.be⟩
      have e0 : ((el : Int) == 0) = false := by simp; omega
      have PK5 : Hid (Calls Tryz.prog 11 #[.pointer (some ⟨b, 0, none⟩), .int .i64 (el : Int)] w5 (PickPost w5 b el)) := Lib.hid (ppick_any w5 b HI5.out.di el (by omega) (by omega))
      go_wp2_with fail
      refine (PK5.out).mono ?_
      rintro e w6 ⟨r, rfl, hr, hd6, hg6⟩
      have HI6 := Lib.hid (HI5.out.pick hd6 hg6)
      have HO6 := Lib.hid (HO5.out.pick hg6)
      have he6 := HE5.out.pick HI5.out.di hg6
      have hrl : r < es.length := by rw [HEL.out]; omega
      obtain ⟨ad, rfl, hab, g0, g1, g2, g3, g4⟩ := he6.at_ hrl
      have hmem : es[r] ∈ es := List.getElem_mem hrl
      generalize es[r]'hrl = x at *
      have h0s : (stepsP p v cs).1 = 0 := by rw [HST.out]
      have hxm : x ∈ (stepsP p v cs).2 := by rw [HST.out]; exact hmem
      obtain ⟨i, kk, hat⟩ := ev_place h0s hxm
      have DO6 : Hid (∀ o, Calls Tryz.prog 12 #[.agg #[.int .i64 pv, .slice PA pn pc], .int .i64 v, .slice CA cn cc, .agg #[.int .i64 x.th, .int .i64 x.ln, .int .i64 x.nu, .int .i64 x.va, .int .i64 x.nx]] (w6.alloc o) (DoOwn (w6.alloc o) x.va (doC p cs x))) := Lib.hid (fun o =>
        DO.out (w6.alloc o) CA cc v cs x (1 + 2 * (k : Int)) (HI6.out.alloc o) (((HO6.out.isAt).below ((Below.refl _ _).alloc (Nat.le_refl _) o)).more (by simp)) HCL.out h0s hxm HBD.out (by omega))
      have HSUM : Hid ((doC p cs x).sum = cs.sum - 1 + (if x.nx = -1 then 0 else 1) + (if ((p.ts[i]'hat.hi).ls[kk]'hat.hk).k = 5 then 1 else 0)) := Lib.hid (by
        have := doC_sum HCK.out (by rw [HCL.out, HCN.out]) hat
        rw [hat.ok.th, hat.ok.ln, lnOf_at hat.hi hat.hk] at this
        exact this)
      have HLI : Hid (∀ W, ThsAt W W.heap.size PA p.ts → ∃ ad LA lc ad2, PA = some ad ∧ LA = some ad2 ∧ W.cell? (ad.add (i * 2)) = some (.string (p.ts[i]'hat.hi).nm) ∧ W.cell? ⟨(ad.add (i * 2)).block, (ad.add (i * 2)).off + 1, none⟩ = some (.slice LA (p.ts[i]'hat.hi).ls.length lc) ∧ W.cell? (ad2.add (kk * 3)) = some (.int .i64 ((p.ts[i]'hat.hi).ls[kk]'hat.hk).k)) := Lib.hid (fun W h => by
        obtain ⟨ad, LA, lc, e1, _, g0, g1, hL⟩ := h.at_ hat.hi
        obtain ⟨ad2, e2, _, l0, _, _⟩ := hL.at_ hat.hk
        exact ⟨ad, LA, lc, ad2, e1, e2, g0, g1, l0⟩)
      have hdl : (doC p cs x).length = cn := by rw [doC_length]; exact HCL.out
      have HDB := Lib.hid (doC_bd hat HBD.out)
      have hva := hat.ok.va v0 (by rw [HPV.out]; exact v1)
      rw [HPV.out] at hva
      have hin : i < pn := by rw [← HPN.out]; exact hat.hi
      obtain ⟨nl, hnl⟩ : ∃ nl, (p.ts[i]'hat.hi).ls.length = nl := ⟨_, rfl⟩
      have hkn : kk < nl := by rw [← hnl]; exact hat.hk
      rw [hnl] at HLI
      have hth := hat.ok.th
      have hln := hat.ok.ln
      generalize (p.ts[i]'hat.hi).nm = nm at HLI
      generalize ((p.ts[i]'hat.hi).ls[kk]'hat.hk).k = lk at HLI HSUM
      obtain ⟨DC, hDC⟩ : ∃ DC, doC p cs x = DC := ⟨_, rfl⟩
      rw [hDC] at HSUM hdl HDB DO6
      have HDL := Lib.hid hdl
      obtain ⟨xt, xl, xn, xa, xx⟩ := x
      dsimp only at *
      subst hth
      subst hln
      have q0 := HI6.out.pr.cell 0
      have q1 := HI6.out.pr.cell 1
      have hpl := HI6.out.pr.lt
      clear hnl hat he6 hrl hmem h0s hxm hDC hdl hd6 hg6 HE5 HI5 HO5 HST PK5 h0 HEL
      go_wp2_with fail
      refine (DO6.out _).mono ?_
      rintro e w7 ⟨DA, dc, rfl, hown7, hb7⟩
      rw [HDL.out] at hown7 ⊢
      have HI7 := Lib.hid ((HI6.out.alloc (.cells #[.int .i64 (i : Int), .int .i64 (kk : Int), .int .i64 xn, .int .i64 xa, .int .i64 xx] 38)).below hb7)
      have HX7 : Hid (Blk w7 w6.heap.size 38 #[.int .i64 (i : Int), .int .i64 (kk : Int), .int .i64 xn, .int .i64 xa, .int .i64 xx]) := Lib.hid ((Blk.new w6 _ _).below hb7 (by simp))
      have HO7 : Hid (OwnC w7 b (.slice CA cn cc) cs) := Lib.hid ((show OwnC (w6.alloc (.cells #[.int .i64 (i : Int), .int .i64 (kk : Int), .int .i64 xn, .int .i64 xa, .int .i64 xx] 38)) b (.slice CA cn cc) cs from World.ownsRow.alloc HO6.out _).below hb7)
      have HD7 : Hid (OwnC w7 b (.slice DA cn dc) DC) := Lib.hid (by
        unfold OwnC; rw [HDL.out]
        exact own_down hown7 (by have := HI6.out.di.lt; simp; omega))
      have x0 := HX7.out.cell 0
      have x1 := HX7.out.cell 1
      have x3 := HX7.out.cell 3
      have x4 := HX7.out.cell 4
      have p0 := HI7.out.pr.cell 0
      have p1 := HI7.out.pr.cell 1
      have d0 : decide (xa < 0) = false := by simp; omega
      have d1 : decide (pv ≤ xa) = false := by simp; omega
      clear hown7 hb7 HI6 HO6 DO6 g0 g1 g2 g3 g4 q0 q1
      go_wp2_with fail
      have h20 := HBD.out.mono (M' := 20) (by omega)
      have hd20 := HDB.out.mono (M' := 20) (by omega)
      have hclc := HCL.out
      have hdlc := HDL.out
      have HB20 := Lib.hid h20
      have HD20 := Lib.hid hd20
      clear h20 hd20 x0 x1 x3 x4 p0 p1 d0 d1
      go_loopw [15, 16, 85] (fun s15 s16 s85 wr => ∃ j q : Nat, j ≤ cn ∧ s85 = .int .i64 j ∧ s15 = .int .i64 ((cs.take j).sum) ∧ s16 = .int .i64 ((DC.take j).sum) ∧ Hid (wr = w7.drewN q)) (fun _ _ s85 _ => cn - (intOf s85).toNat)
      case atStart => exact ⟨0, 0, by omega, rfl, by simp, by simp, Lib.hid rfl⟩
      case round =>
        obtain ⟨j, q, hj, rfl, rfl, rfl, HW⟩ := hrel
        have hw := HW.out
        subst hw
        by_cases hjl : j < cn
        · have hjc : j < cs.length := by omega
          have hjd : j < DC.length := by omega
          have a1 := take_sum_bd HB20.out j (by omega)
          have a2 := take_sum_bd HD20.out j (by omega)
          have a3 := HB20.out j hjc
          have a4 := HD20.out j hjd
          have HS1 := Lib.hid (take_sum hjc)
          have HS2 := Lib.hid (take_sum hjd)
          obtain ⟨ad1, rfl, hab1, c1⟩ := HO7.out.isAt.at_ hjc
          obtain ⟨ad2, rfl, hab2, c2⟩ := HD7.out.isAt.at_ hjd
          have e1 : cs[j] = cs.getD j 0 := by simp [List.getD, hjc]
          have e2 : DC[j] = DC.getD j 0 := by simp [List.getD, hjd]
          rw [e1] at c1
          rw [e2] at c2
          generalize cs.getD j 0 = ca at *
          generalize DC.getD j 0 = da at *
          generalize (cs.take j).sum = sa at *
          generalize (DC.take j).sum = sb at *
          have j0 : (0 : Int) ≤ (j : Int) := by omega
          have j1 : (j : Int) < (cn : Int) := by omega
          have s1 : IntKind.i64.wrap (sa + ca) = sa + ca := IntWalk.i64_in _ (by omega)
          have s2 : IntKind.i64.wrap (sb + da) = sb + da := IntWalk.i64_in _ (by omega)
          clear e1 e2 hjc hjd
          go_wp2_with fail
          go_quiet (fail)
          clear s1 s2
          go_wp2_with fail
          go_roundw
          case rel => exact ⟨j + 1, _, by omega, by go_num, by rw [HS1.out], by rw [HS2.out], Lib.hid rfl⟩
          case measure => simp [intOf]; omega
        · obtain rfl : j = cn := by omega
          have b1 := take_sum_bd HB20.out j (by omega)
          have b2 := take_sum_bd HD20.out j (by omega)
          rw [List.take_of_length_le (by omega)] at b1 b2 ⊢
          rw [List.take_of_length_le (by omega)]
          have HI9 : Hid (∀ q, PkI w (w7.drewN q) b w3.heap.size p.ts pv PA pn pc ∧ OwnC (w7.drewN q) b (.slice DA j dc) DC ∧ DC.length = j ∧ Bd DC (1 + 2 * ((k + 1 : Nat) : Int))) := Lib.hid (fun q => ⟨HI7.out.drewN q, HD7.out.below (below_drewN (Below.refl _ _) q), HDL.out, HDB.out.mono (by push_cast; omega)⟩)
          have x0 := HX7.out.cell 0
          have x1 := HX7.out.cell 1
          have x4 := HX7.out.cell 4
          have p1 := HI7.out.pr.cell 1
          obtain ⟨ad3, LA, lc3, ad4, rfl, rfl, g0, g1, g2⟩ := HLI.out w7 HI7.out.th
          have hsum := HSUM.out
          generalize cs.sum = csum at *
          generalize DC.sum = dsum at *
          have i0 : (0 : Int) ≤ (i : Int) := by omega
          have i1 : (i : Int) < (pn : Int) := by omega
          have k0 : (0 : Int) ≤ (kk : Int) := by omega
          have k1 : (kk : Int) < (nl : Int) := by omega
          clear HW HSUM
          by_cases hx : xx = -1
          · have f1 : (xx == -1) = true := by simpa using hx
            rw [if_pos hx] at hsum
            by_cases h5 : lk = 5
            · have f2 : (lk == 5) = true := by simpa using h5
              rw [if_pos h5] at hsum
              have f3 : (dsum != csum - 1 + 1) = false := by simp; omega
              clear hx h5 hsum
              go_wp2_with fail
              go_quiet (fail)
              go_wp2_with fail
              go_roundw
              case rel => exact ⟨xa, DA, dc, k + 1, DC, by omega, by go_num, rfl, rfl, by omega, by omega, Lib.hid (HI9.out _)⟩
              case measure => simp [intOf]; omega
            · have f2 : (lk == 5) = false := by simpa using h5
              rw [if_neg h5] at hsum
              have f3 : (dsum != csum - 1) = false := by simp; omega
              clear hx h5 hsum
              go_wp2_with fail
              go_quiet (fail)
              go_wp2_with fail
              go_roundw
              case rel => exact ⟨xa, DA, dc, k + 1, DC, by omega, by go_num, rfl, rfl, by omega, by omega, Lib.hid (HI9.out _)⟩
              case measure => simp [intOf]; omega
          · have f1 : (xx == -1) = false := by simpa using hx
            rw [if_neg hx] at hsum
            by_cases h5 : lk = 5
            · have f2 : (lk == 5) = true := by simpa using h5
              rw [if_pos h5] at hsum
              have f3 : (dsum != csum + 1) = false := by simp; omega
              clear hx h5 hsum
              go_wp2_with fail
              go_quiet (fail)
              go_wp2_with fail
              go_roundw
              case rel => exact ⟨xa, DA, dc, k + 1, DC, by omega, by go_num, rfl, rfl, by omega, by omega, Lib.hid (HI9.out _)⟩
              case measure => simp [intOf]; omega
            · have f2 : (lk == 5) = false := by simpa using h5
              rw [if_neg h5] at hsum
              have f3 : (dsum != csum) = false := by simp; omega
              clear hx h5 hsum
              go_wp2_with fail
              go_quiet (fail)
              go_wp2_with fail
              go_roundw
              case rel => exact ⟨xa, DA, dc, k + 1, DC, by omega, by go_num, rfl, rfl, by omega, by omega, Lib.hid (HI9.out _)⟩
              case measure => simp [intOf]; omega
    · obtain rfl : k = 8 := by omega
      have HBE := Lib.hid HR.out.1.be
      clear HR
      go_wp2_with fail
      go_ret
      exact ⟨rfl, HBE.out⟩
end Go.Proofs.YtpkefohcccpncaaGreatDoor
