/- Steps: the events that can happen, or the error. -/
import Derived.Test.YtpkefohcccpncaaGreatDoorEvts
import Derived.Test.YtpkefohcccpncaaGreatDoorText
namespace Go.Proofs.YtpkefohcccpncaaGreatDoor
open Go.RowKit
set_option linter.unusedSimpArgs false
set_option linter.unusedVariables false

theorem evCells_one (es : List Ev) : ∀ u ∈ evCells es, u.oneCell' = true := by
  intro u hu
  simp only [evCells, List.mem_flatMap] at hu
  obtain ⟨e, _, he⟩ := hu
  simp only [List.mem_cons, List.not_mem_nil, or_false] at he
  rcases he with rfl | rfl | rfl | rfl | rfl <;> rfl
def StepsPost (w : World) (r : Int × List Ev) (e : Ending) (w' : World) : Prop := ∃ A c, e = .returned (.tuple #[.slice A r.2.length c, .int .i64 r.1]) ∧ EvsAt w' w'.heap.size A r.2 ∧ Below w.heap.size w w'
set_option maxRecDepth 100000 in
set_option maxHeartbeats 8000000 in
theorem steps_any (p : Prg) (A : Option Addr) (n c : Nat) (v : Int) (CA : Option Addr) (cn cc : Nat) (cs : List Int) (w : World) (hT : ThsAt w w.heap.size A p.ts) (hn : p.ts.length = n) (hg : GlobP w) (hok : PrgOk p)
    (hC : IsAt w w.heap.size CA cs) (hcn : cs.length = cn) (hc9 : cn ≤ 9223372036854775807) (r : Int × List Ev) (hr : stepsP p v cs = r) :
    Calls Tryz.prog 10 #[.agg #[.int .i64 p.v, .slice A n c], .int .i64 v, .slice CA cn cc] w (StepsPost w r) := by
  have hn9 := hok.n
  rw [hn] at hn9
  have HT := Lib.hid hT
  have HC := Lib.hid hC
  have HCN := Lib.hid hcn
  have HR := Lib.hid hr
  have CK : Hid (∀ o b, checkP p = b → Calls Tryz.prog 18 #[.agg #[.int .i64 p.v, .slice A n c]] (w.alloc o) fun e w' => e = .returned (.int .i64 (chkR b)) ∧ Below (w.alloc o).heap.size (w.alloc o) w') :=
    Lib.hid (fun o b hb => check_any p A n c (w.alloc o) (hT.up ((Below.refl _ _).alloc (Nat.le_refl _) o)) hn (hg.below ((Below.refl _ _).alloc (Nat.le_refl _) o)) hok b hb)
  have PL : Hid (∀ W, Below w.heap.size w W → Calls Tryz.prog 13 #[.agg #[.int .i64 p.v, .slice A n c]] W (PlacesPost W (placesP p))) :=
    Lib.hid (fun W h => places_any p A n c W (hT.up h) hn (hg.below h) hok)
  have CF : Hid (∀ W b, Below w.heap.size w W → cs.any badC = b → Calls Tryz.prog 32 #[.slice CA cn cc, .func (.func 33) #[] #[]] W fun e w' => e = .returned (.bool b) ∧ W = w') :=
    Lib.hid (fun W b h hb => contInt_any CA cn cc cs W w.heap.size (hC.below h) hcn hc9 b hb)
  have HN := Lib.hid hn
  rcases hb : checkP p with _ | _
  · have CK2 : Hid (∀ o, Calls Tryz.prog 18 #[.agg #[.int .i64 p.v, .slice A n c]] (w.alloc o) fun e w' => e = .returned (.int .i64 47) ∧ Below (w.alloc o).heap.size (w.alloc o) w') := Lib.hid (fun o => CK.out o false hb)
    have HF : Hid (r = (47, [])) := Lib.hid (by rw [← HR.out, stepsP, if_pos hb])
    clear hb CK hT hC hcn hr hok hg hn
    generalize p.v = pv at *
    go_enter Tryz.func10, Tryz.ntmps10
    go_wp2_with (go_at_call 18; go_must (refine (CK2.out _).mono ?_; rintro e w1 ⟨rfl, hb1⟩; (have HB1 := Lib.hid hb1); clear hb1))
    go_ret2
    rw [HF.out]
    exact ⟨none, 0, rfl, Reads.none_, ((Below.refl _ _).alloc (Nat.le_refl _) _).trans (HB1.out.mono (by simp))⟩
  have CK2 : Hid (∀ o, Calls Tryz.prog 18 #[.agg #[.int .i64 p.v, .slice A n c]] (w.alloc o) fun e w' => e = .returned (.int .i64 0) ∧ Below (w.alloc o).heap.size (w.alloc o) w') := Lib.hid (fun o => CK.out o true hb)
  have HCK := Lib.hid hb
  have HEVT : Hid (∀ i, (h : i < (placesP p).length) → ∀ W, Below w.heap.size w W → Calls Tryz.prog 34 #[.agg #[.int .i64 p.v, .slice A n c], .agg #[.int .i64 ((placesP p)[i].1 : Int), .int .i64 ((placesP p)[i].2 : Int)], .int .i64 v] W (EvsPost W (evsAt p v (placesP p)[i]))) :=
    Lib.hid (fun i h W hW => by
      obtain ⟨h1, h2⟩ := place_at (List.getElem_mem h)
      have h3 := lsLen_at h1
      have h4 := check_len hb ((placesP p)[i].1 + 1)
      rw [lenTo] at h4
      exact events_any p A n c _ _ v W (hT.up hW) hn h1 h2 (by omega) hn9)
  have h6 := placesP_le p
  have HRR : Hid ((if v < 0 ∨ p.v ≤ v ∨ cs.any badC = true then ((2, []) : Int × List Ev) else if cn ≠ (placesP p).length then (3, []) else (0, stepsTo p v cs (placesP p) (placesP p).length)) = r) := Lib.hid (by
    have h := hr
    rw [stepsP, if_neg (by rw [hb]; decide), hcn] at h
    exact h)
  have HEL : Hid (∀ x, (evsAt p v x).length ≤ 2) := Lib.hid (evsAt_le p v)
  have HSL : Hid (∀ i, (stepsTo p v cs (placesP p) i).length ≤ 2 * i) := Lib.hid (stepsTo_le p v cs (placesP p))
  have HV := Lib.hid (check_v hb)
  have HPA : Hid (∀ {PA : Option Addr} {W : World} {B : Nat}, PlsAt W B PA (placesP p) → ∀ i, (h : i < (placesP p).length) → ∃ ad, PA = some ad ∧ ad.block < B ∧ W.cell? (ad.add (i * 2)) = some (.int .i64 ((placesP p)[i].1 : Int)) ∧ W.cell? ⟨(ad.add (i * 2)).block, (ad.add (i * 2)).off + 1, none⟩ = some (.int .i64 ((placesP p)[i].2 : Int))) := Lib.hid (fun h i hi => PlsAt.at_ h hi)
  have HST : Hid (∀ i, (h : i < (placesP p).length) → (h' : i < cs.length) → stepsTo p v cs (placesP p) (i + 1) = stepsTo p v cs (placesP p) i ++ (if 0 < cs[i] then evsAt p v (placesP p)[i] else [])) := Lib.hid (fun i h h' => by
    rw [stepsTo]; simp [List.getD, h, h'])
  obtain ⟨m, hm⟩ : ∃ m, (placesP p).length = m := ⟨_, rfl⟩
  have HRR2 : Hid ((if v < 0 ∨ p.v ≤ v ∨ cs.any badC = true then ((2, []) : Int × List Ev) else if cn ≠ m then (3, []) else (0, stepsTo p v cs (placesP p) m)) = r) := Lib.hid (by rw [← hm]; exact HRR.out)
  rw [hm] at h6
  have HM := Lib.hid hm
  have HS0 : Hid (stepsTo p v cs (placesP p) 0 = []) := Lib.hid rfl
  generalize hse : stepsTo p v cs (placesP p) = sE at *
  generalize placesP p = ps at *
  obtain ⟨evf, hevf⟩ : ∃ evf, evsAt p v = evf := ⟨_, rfl⟩
  rw [hevf] at HEVT HST HEL
  clear hb CK hT hC hcn hr hok hg hn HR HRR hm hse hevf
  generalize p.v = pv at *
  have CK := CK2
  clear CK2
  by_cases v0 : v < 0
  · have d1 : decide (v < 0) = true := decide_eq_true v0
    have HF : Hid (r = (2, [])) := Lib.hid (by rw [← HRR2.out, if_pos (Or.inl v0)])
    clear v0
    go_enter Tryz.func10, Tryz.ntmps10
    go_wp2_with (go_at_call 18; go_must (refine (CK.out _).mono ?_; rintro e w1 ⟨rfl, hb1⟩; (have hq1 : Blk w1 w.heap.size 28 #[.int .i64 pv, .slice A n c] := (Blk.new w _ _).below hb1 (by simp)); (have q0 := hq1.cell 0); (have q1 := hq1.cell 1); (have HB1 := Lib.hid hb1); clear hb1 hq1))
    go_ret2
    rw [HF.out]
    exact ⟨none, 0, rfl, Reads.none_, ((Below.refl _ _).alloc (Nat.le_refl _) _).trans (HB1.out.mono (by simp))⟩
  have d1 : decide (v < 0) = false := decide_eq_false v0
  by_cases v1 : pv ≤ v
  · have d2 : decide (pv ≤ v) = true := decide_eq_true v1
    have HF : Hid (r = (2, [])) := Lib.hid (by rw [← HRR2.out, if_pos (Or.inr (Or.inl v1))])
    clear v0 v1
    go_enter Tryz.func10, Tryz.ntmps10
    go_wp2_with (go_at_call 18; go_must (refine (CK.out _).mono ?_; rintro e w1 ⟨rfl, hb1⟩; (have hq1 : Blk w1 w.heap.size 28 #[.int .i64 pv, .slice A n c] := (Blk.new w _ _).below hb1 (by simp)); (have q0 := hq1.cell 0); (have q1 := hq1.cell 1); (have HB1 := Lib.hid hb1); clear hb1 hq1))
    go_ret2
    rw [HF.out]
    exact ⟨none, 0, rfl, Reads.none_, ((Below.refl _ _).alloc (Nat.le_refl _) _).trans (HB1.out.mono (by simp))⟩
  have d2 : decide (pv ≤ v) = false := decide_eq_false v1
  rcases hbc : cs.any badC with _ | _
  rotate_left
  · have HF : Hid (r = (2, [])) := Lib.hid (by rw [← HRR2.out, if_pos (Or.inr (Or.inr hbc))])
    have CF2 := Lib.hid (fun W h => CF.out W true h hbc)
    clear v0 v1 hbc
    go_enter Tryz.func10, Tryz.ntmps10
    go_wp2_with (first
      | (go_at_call 18; go_must (refine (CK.out _).mono ?_; rintro e w1 ⟨rfl, hb1⟩; (have hq1 : Blk w1 w.heap.size 28 #[.int .i64 pv, .slice A n c] := (Blk.new w _ _).below hb1 (by simp)); (have q0 := hq1.cell 0); (have q1 := hq1.cell 1); (have HB1 : Hid (Below w.heap.size w w1) := Lib.hid (((Below.refl _ _).alloc (Nat.le_refl _) _).trans (hb1.mono (by simp)))); clear hb1 hq1))
      | (go_at_call 32; go_must (refine (CF2.out _ HB1.out).mono ?_; rintro e w' ⟨rfl, rfl⟩)))
    go_ret2
    rw [HF.out]
    exact ⟨none, 0, rfl, Reads.none_, HB1.out⟩
  have CF2 := Lib.hid (fun W h => CF.out W false h hbc)
  have HR3 : Hid ((if cn ≠ m then ((3, []) : Int × List Ev) else (0, sE m)) = r) := Lib.hid (by rw [← HRR2.out]; rw [if_neg (show ¬ (v < 0 ∨ pv ≤ v ∨ cs.any badC = true) from by rw [hbc]; simp; omega)])
  clear v0 v1 hbc CF HRR2
  by_cases hcm : cn = m
  rotate_left
  · have d3 : ((cn : Int) != (m : Int)) = true := by simp; omega
    have HF : Hid (r = (3, [])) := Lib.hid (by rw [← HR3.out, if_pos hcm])
    clear hcm
    go_enter Tryz.func10, Tryz.ntmps10
    go_wp2_with (first
      | (go_at_call 18; go_must (refine (CK.out _).mono ?_; rintro e w1 ⟨rfl, hb1⟩; (have hq1 : Blk w1 w.heap.size 28 #[.int .i64 pv, .slice A n c] := (Blk.new w _ _).below hb1 (by simp)); (have q0 := hq1.cell 0); (have q1 := hq1.cell 1); (have HB1 : Hid (Below w.heap.size w w1) := Lib.hid (((Below.refl _ _).alloc (Nat.le_refl _) _).trans (hb1.mono (by simp)))); clear hb1 hq1))
      | (go_at_call 32; go_must (refine (CF2.out _ HB1.out).mono ?_; rintro e w' ⟨rfl, rfl⟩))
      | (go_at_call 13; go_must (refine (PL.out _ HB1.out).mono ?_; rintro e w2 ⟨PA, pc, rfl, _, hb2⟩; (rw [HM.out]); (have z2 : w1.heap.size ≤ w2.heap.size := hb2.size); (have HB2 := Lib.hid (HB1.out.trans (hb2.mono HB1.out.size))); clear hb2)))
    go_ret2
    rw [HF.out]
    exact ⟨none, 0, rfl, Reads.none_, HB2.out⟩
  subst hcm
  have HF : Hid (r = (0, sE cn)) := Lib.hid (by rw [← HR3.out, if_neg (by simp)])
  go_enter Tryz.func10, Tryz.ntmps10
  go_wp2_with (first
    | (go_at_call 18; go_must (refine (CK.out _).mono ?_; rintro e w1 ⟨rfl, hb1⟩; (have hq1 : Blk w1 w.heap.size 28 #[.int .i64 pv, .slice A n c] := (Blk.new w _ _).below hb1 (by simp)); (have q0 := hq1.cell 0); (have q1 := hq1.cell 1); (have HQ1 := Lib.hid hq1); (have HB1 : Hid (Below w.heap.size w w1) := Lib.hid (((Below.refl _ _).alloc (Nat.le_refl _) _).trans (hb1.mono (by simp)))); clear hb1 hq1))
    | (go_at_call 32; go_must (refine (CF2.out _ HB1.out).mono ?_; rintro e w' ⟨rfl, rfl⟩))
    | (go_at_call 13; go_must (refine (PL.out _ HB1.out).mono ?_; rintro e w2 ⟨PA, pc, rfl, hpl, hb2⟩; (rw [HM.out]); (have z2 : w1.heap.size ≤ w2.heap.size := hb2.size); (have HPL := Lib.hid hpl); (have HQ2 := Lib.hid (HQ1.out.below hb2 HQ1.out.lt)); (have HB2 := Lib.hid (HB1.out.trans (hb2.mono HB1.out.size))); clear hb2 hpl)))
  have zw2 : w.heap.size < w2.heap.size := HQ2.out.lt
  clear q0 q1
  obtain ⟨i0, hi, hz0, hz1, hz2⟩ := info_parts infoEvent
  go_loopw [10, 39] (fun s10 ix wr => ∃ i ne : Nat, i ≤ cn ∧ ne ≤ 2 * i ∧ ix = .int .i64 i ∧ Hid ((sE i).length = ne ∧ wr.ownsRow w2.heap.size 38 5 s10 ne (evCells (sE i)) ∧ Below w2.heap.size w2 wr)) (fun _ ix _ => cn - (intOf ix).toNat)
  case atStart => exact ⟨0, 0, by omega, by omega, rfl, Lib.hid ⟨by rw [HS0.out]; rfl, by rw [HS0.out]; exact World.ownsRow_nil _ _ _ _, Below.refl _ _⟩⟩
  case round =>
    obtain ⟨i, ne, hi9, hne, rfl, HRL⟩ := hrel
    obtain ⟨hsl, hown, hbw⟩ := HRL.out
    have hwl : w2.heap.size ≤ wr.heap.size := hbw.size
    by_cases hlt : i < cn
    · have hip : i < ps.length := by rw [HM.out]; exact hlt
      have hic : i < cs.length := by rw [HCN.out]; exact hlt
      obtain ⟨ad, rfl, hab, h0, h1⟩ := HPA.out (HPL.out.below hbw) i hip
      obtain ⟨ad2, rfl, hab2, g0⟩ := (HC.out.below (HB2.out.trans (hbw.mono (by omega)))).at_ hic
      have g1 : ∀ o, (wr.alloc o).cell? (ad2.add i) = some (.int .i64 cs[i]) := fun o => by
        rw [World.cell?_alloc_lt _ _ _ (by rw [add_block]; omega)]; exact g0
      have EV := Lib.hid (HEVT.out i hip)
      have HSS := Lib.hid (HST.out i hip hic)
      have hq := HQ2.out.below hbw zw2
      have p0 : ∀ o, (wr.alloc o).cell? ⟨w.heap.size, 0, none⟩ = some (.int .i64 pv) := fun o => (hq.alloc o).cell 0
      have p1 : ∀ o, (wr.alloc o).cell? ⟨w.heap.size, 1, none⟩ = some (.slice A n c) := fun o => (hq.alloc o).cell 1
      generalize cs[i]'hic = ct at *
      generalize ps[i]'hip = x at *
      obtain ⟨x1, x2⟩ := x
      dsimp only at *
      obtain ⟨A3, c3, rfl⟩ := own_form hown
      have HO := Lib.hid hown
      have HB := Lib.hid hbw
      have HSL2 := Lib.hid hsl
      have HEL2 := HEL.out (x1, x2)
      obtain ⟨es, hes⟩ : ∃ es, evf (x1, x2) = es := ⟨_, rfl⟩
      rw [hes] at EV HSS HEL2
      obtain ⟨el, hel⟩ : ∃ el, es.length = el := ⟨_, rfl⟩
      rw [hel] at HEL2
      have HEL3 := Lib.hid hel
      clear g0 hq hown hbw hsl hes hel
      by_cases hct : 0 < ct
      · have d4 : decide (0 < ct) = true := decide_eq_true hct
        have HSX : Hid (sE (i + 1) = sE i ++ es) := Lib.hid (by rw [HSS.out, if_pos hct])
        clear hct HSS
        go_wp2_with (first
          | (go_at_call 34; go_must (refine (EV.out _ (HB2.out.trans (((HB.out.mono (by omega)).alloc (by omega) _)))).mono ?_; rintro e w5 ⟨EA, ec, rfl, he5, hb5⟩; (rw [HEL3.out]); (have hw5 : wr.heap.size < w5.heap.size := by have := hb5.size; simp at this; omega); (have HE5 := Lib.hid he5); (have HB5 := Lib.hid hb5); (have HO5 := Lib.hid (own_kept_below (HO.out.alloc _) hb5)); clear he5 hb5))
          | (at_builtin; go_must (refine wpList_append_any _ rfl _ _ 34 rfl w2.heap.size 38 i0 _ 5 40 Tryz.underlying34 hi hz0 hz1 hz2 rfl (by decide) (.slice A3 ne c3) ne (evCells (sE i)) rfl HO5.out w5.heap.size EA el ec (evCells es) rfl (by have := HE5.out; unfold EvsAt at this; rw [HEL3.out] at this; exact this) (evCells_one _) (by unfold maxLen; omega) (by omega) (by omega) ?_; intro v7 w7 hown7 hgr7 _; obtain ⟨A7, c7, rfl⟩ := own_form hown7; (have HO7 := Lib.hid hown7); (have HG7 := Lib.hid hgr7); clear hown7 hgr7)))
        have HREL : Hid ((sE (i + 1)).length = ne + el ∧ w7.ownsRow w2.heap.size 38 5 (.slice A7 (ne + el) c7) (ne + el) (evCells (sE (i + 1))) ∧ Below w2.heap.size w2 w7) := Lib.hid (by
          refine ⟨by rw [HSX.out, List.length_append, HSL2.out, HEL3.out], by rw [HSX.out, evCells_append]; exact HO7.out, ?_⟩
          exact below_own ((HB.out.alloc (by omega) _).trans (HB5.out.mono (by simp; omega))) HO5.out HG7.out (by omega))
        go_wp2_with fail
        go_roundw
        case rel => exact ⟨i + 1, ne + el, by omega, by omega, by go_num, HREL⟩
        case measure => simp [intOf]; omega
      · have d4 : decide (0 < ct) = false := decide_eq_false hct
        have HSX : Hid (sE (i + 1) = sE i) := Lib.hid (by rw [HSS.out, if_neg hct, List.append_nil])
        clear hct HSS
        go_wp2_with fail
        go_roundw
        case rel => exact ⟨i + 1, ne, by omega, by omega, by go_num, Lib.hid ⟨by rw [HSX.out]; exact HSL2.out, by rw [HSX.out]; exact HO.out.alloc _, HB.out.alloc (by omega) _⟩⟩
        case measure => simp [intOf]; omega
    · obtain rfl : i = cn := by omega
      obtain ⟨A3, c3, rfl⟩ := own_form hown
      have HO := Lib.hid hown
      have HB := Lib.hid hbw
      have HSL2 := Lib.hid hsl
      clear hown hbw hsl
      go_wp2_with fail
      go_ret2
      rw [HF.out]
      refine ⟨A3, c3, (by dsimp only; rw [HSL2.out]; rfl), ?_, HB2.out.trans (HB.out.mono (by omega))⟩
      unfold EvsAt
      dsimp only
      rw [HSL2.out]
      exact Reads.of_own HO.out
end Go.Proofs.YtpkefohcccpncaaGreatDoor
