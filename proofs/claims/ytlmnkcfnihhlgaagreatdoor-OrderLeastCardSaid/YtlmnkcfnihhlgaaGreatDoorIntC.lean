/- priority.Drops: whether it is empty. -/
import Derived.Test.YtlmnkcfnihhlgaaGreatDoorIntB
import Derived.Test.YtlmnkcfnihhlgaaGreatDoorPriA
import Derived.Test.YtlmnkcfnihhlgaaGreatDoorLeqA
import Derived.Deep.QuietTactic
namespace Go.Proofs.YtlmnkcfnihhlgaaGreatDoor
open Go.RowKit
set_option linter.unusedSimpArgs false
set_option linter.unusedVariables false

theorem drops_cons2 (r : Int → Int) (a b : Int) (l : List Int) : dropsB r (a :: b :: l) = (decide (r a ≤ r b) || dropsB r (b :: l)) := rfl
theorem drops_one (r : Int → Int) (a : Int) : dropsB r [a] = false := rfl
theorem drops_step {r : Int → Int} {x : List Int} {i : Nat} (h : i + 1 < x.length) : dropsB r (x.drop i) = (decide (r (x[i]'(by omega)) ≤ r x[i + 1]) || dropsB r (x.drop (i + 1))) := by
  rw [List.drop_eq_getElem_cons (by omega : i < x.length), List.drop_eq_getElem_cons h, drops_cons2]
theorem drops_end {r : Int → Int} {x : List Int} {i : Nat} (h : x.length ≤ i + 1) : dropsB r (x.drop i) = false := by
  by_cases h2 : i < x.length
  · rw [List.drop_eq_getElem_cons h2, List.drop_eq_nil_of_le h, drops_one]
  · rw [List.drop_eq_nil_of_le (by omega)]; rfl
theorem cutI_h (A : Option Addr) (n c m : Nat) (h2 : m ≤ c) (W : World) : (Instr.slice 22 (.slice A n c) none (some (.int .i64 (m : Int))) none).run Tryz.prog W = .ok (sliced A 0 m c 1) W := by
  rw [run_slice_h W 22 A n c (by kernel_rfl) .i64 (m : Int) (by omega) (by omega)]
  have : (sizeOf (Tryz.prog.elem 22)).run Tryz.prog W = .ok 1 W := by kernel_rfl
  rw [this]; simp [Result.andThen]
theorem reads_newv (W : World) (t : TypeId) (s : Value) : Reads (W.alloc (.cells #[s] t)) (W.heap.size + 1) 1 (some ⟨W.heap.size, 0, none⟩) 1 [s] := reads_blk (n := 1) (Blk.new W t #[s]) (by omega) rfl
theorem iiat_two {w : World} {a b : Value} {x y : List Int} {ty : TypeId} (ha : IB w w.heap.size a x) (hb : IB w w.heap.size b y) : IIAt (w.alloc (.cells #[a, b] ty)) (· < (w.alloc (.cells #[a, b] ty)).heap.size) (.slice (some ⟨w.heap.size, 0, none⟩) 2 2) [x, y] := by
  have hk := Blk.new w ty #[a, b]
  have key : ∀ {s : Value} {l : List Int}, IB w w.heap.size s l → IAt (w.alloc (.cells #[a, b] ty)) (· < (w.alloc (.cells #[a, b] ty)).heap.size) s l := fun h => h.keep (fun b hb => by simp; omega) (fun p hp => World.cell?_alloc_lt w _ p hp)
  refine ⟨_, 2, 2, [a, b], rfl, rfl, rfl, Nat.le_refl _, by unfold maxLen; omega, fun _ => ⟨_, rfl, by simp, fun k h => ?_⟩, fun k h h' => ?_⟩
  · match k, h with
    | 0, _ => exact hk.cell 0
    | 1, _ => exact hk.cell 1
  · match k, h, h' with
    | 0, _, _ => exact key ha
    | 1, _, _ => exact key hb
def DropPost (w : World) (b : Bool) (e : Ending) (w' : World) : Prop := ∃ A m c, e = .returned (.slice A m c) ∧ (m = 0 ↔ b = false) ∧ Bw w w'
set_option maxRecDepth 100000 in
set_option maxHeartbeats 4000000 in
theorem pDrops_any (r x : List Int) (s u : Value) (w : World) (h : IB w w.heap.size s r) (hx : IB w w.heap.size u x) (hv : wordP r x = true) : Calls Tryz.prog 89 #[s, u] w (DropPost w (dropsB (rankAt r) x)) := by
  obtain ⟨RA, rn, rc, rfl, lr, mr⟩ := h.form'
  obtain ⟨XA, xn, xc, rfl, lx, mx⟩ := hx.form'
  have PV : Hid (∀ W, Bw w W → Calls Tryz.prog 66 #[.slice RA rn rc, .slice XA xn xc] W (BoolPost W true)) := Lib.hid (fun W g => by rw [← hv]; exact pValid_any r x _ _ W (h.bw g) (hx.bw g))
  go_enter Tryz.func89, Tryz.ntmps89
  go_wp2_with (go_at_call 66; go_must ((with_reducible refine (PV.out _ (Bw.refl _)).mono ?_); rintro e w6 ⟨rfl, hg6⟩))
  have HG6 := Lib.hid hg6
  have HLO : Hid (LettersOk r x) := Lib.hid (by
    intro y hy
    unfold wordP at hv
    simp only [Bool.and_eq_true, Bool.not_eq_true', List.any_eq_false] at hv
    have := hv.2 y hy
    unfold badX at this
    simp only [Bool.or_eq_true, decide_eq_true_eq, not_or] at this
    omega)
  have H12 : xn ≤ 12 := by
    unfold wordP at hv
    simp only [Bool.and_eq_true, decide_eq_true_eq] at hv
    omega
  have HR := Lib.hid h
  have HX := Lib.hid hx
  have LX := Lib.hid lx
  have LR := Lib.hid lr
  clear hg6 h hx hv lx lr PV
  go_loopw [5, 6] (fun s5 s6 wr => ∃ i : Nat, i ≤ xn ∧ s6 = .int .i64 i ∧ Hid (∃ ps, DRow wr w.heap.size s5 ps ∧ ps.length ≤ i ∧ Bw w wr ∧ (ps.length = 0 → dropsB (rankAt r) x = dropsB (rankAt r) (x.drop i)) ∧ (0 < ps.length → dropsB (rankAt r) x = true))) (fun _ s6 _ => xn - (intOf s6).toNat)
  case atStart => exact ⟨0, by omega, rfl, Lib.hid ⟨[], DRow.nil _ _, by simp, HG6.out, fun _ => by simp, fun h => by simp at h⟩⟩
  case round =>
    obtain ⟨i, hi, rfl, HI⟩ := hrel
    obtain ⟨ps, hps, hpl, hg, hz, hnz⟩ := HI.out
    obtain ⟨OA, oc, rfl, ob1, ob2⟩ := own_bounds hps.own
    by_cases hlt : i + 1 < xn
    rotate_left
    · have d1 : decide ((i : Int) + 1 < (xn : Int)) = false := decide_eq_false (by omega)
      have HQ : Hid (ps.length = 0 ↔ dropsB (rankAt r) x = false) := Lib.hid (by
        constructor
        · intro h0
          rw [hz h0]
          exact drops_end (by rw [LX.out]; omega)
        · intro h0
          rcases Nat.eq_zero_or_pos ps.length with h1 | h1
          · exact h1
          · rw [hnz h1] at h0; cases h0)
      have SI := Lib.hid (sortI_any w.heap.size (DS wr (.slice OA ps.length oc)) ps _ wr hps (fun b hb => hb) (by omega))
      unfold SortIPost at SI
      have HG := Lib.hid hg
      have HOWN := Lib.hid hps.own
      clear hps hz hnz hg HI
      go_wp2_with (first
        | (go_at_call 116; go_must ((with_reducible refine SI.out.mono ?_); rintro e w7 ⟨rfl, qs, hq, hql, hg7⟩; (have HQ7 := Lib.hid hq); (have HL7 := Lib.hid hql); (have HG7 := Lib.hid hg7); (have CP := Lib.hid (compactI_any w.heap.size (DS wr (.slice OA ps.length oc)) qs _ w7 hq (fun b hb => ⟨Nat.lt_of_lt_of_le hb.1 hg7.size, hb.2⟩) (by omega))); unfold CompIPost at CP; clear hq hql hg7))
        | (go_at_call 118; go_must ((with_reducible refine CP.out.mono ?_); rintro e w8 ⟨A8, m8, c8, rfl, hm8, hg8⟩; (have HM8 := Lib.hid hm8); (have HG8 := Lib.hid hg8); clear hm8 hg8)))
      go_ret
      refine ⟨A8, m8, c8, rfl, ?_, Below.grown HG.out (grownBy_trans HG7.out HG8.out) HG.out.size (fun r e => (HOWN.out.lt r e).1)⟩
      rw [HM8.out, HL7.out]
      exact HQ.out
    have i0 : i < xn := by omega
    have wi : IntKind.i64.wrap ((i : Int) + 1) = (i : Int) + 1 := by simp [IntKind.wrap, IntKind.bits, IntKind.signed]; omega
    have ti : ((i : Int) + 1).toNat = i + 1 := by omega
    have t0 : 0 ≤ (i : Int) + 1 := by omega
    have t1 : (i : Int) + 1 < (xn : Int) := by omega
    have e0 : i < x.length := by rw [LX.out]; omega
    have e1 : i + 1 < x.length := by rw [LX.out]; omega
    obtain ⟨k0, hk0, y0, z0⟩ := rankAt_get (HLO.out _ (List.getElem_mem e0))
    obtain ⟨k1, hk1, y1, z1⟩ := rankAt_get (HLO.out _ (List.getElem_mem e1))
    have HXW := HX.out.bw hg
    have HRW := HR.out.bw hg
    obtain ⟨xd, rfl, hxb, q0⟩ := HXW.at_ e0
    obtain ⟨xd', ex', _, q1⟩ := HXW.at_ e1
    obtain rfl : xd = xd' := Option.some.inj ex'
    obtain ⟨rd, rfl, hrb, q2⟩ := HRW.at_ hk0
    obtain ⟨rd', er', _, q3⟩ := HRW.at_ hk1
    obtain rfl : rd = rd' := Option.some.inj er'
    rw [y0] at q0
    rw [y1] at q1
    have q1b : wr.cell? ⟨xd.block, xd.off + (i + 1), none⟩ = some (.int .i64 (k1 : Int)) := by simpa [Addr.add] using q1
    have HD : Hid (dropsB (rankAt r) (x.drop i) = (decide (r[k0] ≤ r[k1]) || dropsB (rankAt r) (x.drop (i + 1)))) := Lib.hid (by rw [drops_step e1, z0, z1])
    have r0 : k0 < rn := by rw [LR.out] at hk0; exact hk0
    have r1 : k1 < rn := by rw [LR.out] at hk1; exact hk1
    have HI2 := Lib.hid (And.intro hps (And.intro hz (And.intro hnz hg)))
    have HPL := Lib.hid hpl
    clear ex' er' hps hz hnz hg HI y0 y1 z0 z1 HXW HRW
    generalize r[k0] = a0 at *
    generalize r[k1] = a1 at *
    by_cases hle : a0 ≤ a1
    rotate_left
    · have d1 : decide (a0 ≤ a1) = false := decide_eq_false hle
      have HF : Hid (dropsB (rankAt r) (x.drop i) = dropsB (rankAt r) (x.drop (i + 1))) := Lib.hid (by rw [HD.out, d1]; rfl)
      clear HD hle
      go_wp2_with fail
      go_quiet (fail)
      go_wp2
      go_roundw
      case rel =>
        obtain ⟨h1, h2, h3, h4⟩ := HI2.out
        exact ⟨i + 1, by omega, by go_num, Lib.hid ⟨ps, h1.bw ((Bw.refl _).drewN _), by have := HPL.out; omega, h4.drewN _, fun h => by rw [h2 h, HF.out], h3⟩⟩
      case measure => simp [intOf]; omega
    · have d1 : decide (a0 ≤ a1) = true := decide_eq_true hle
      have HF : Hid (dropsB (rankAt r) (x.drop i) = true) := Lib.hid (by rw [HD.out, d1]; rfl)
      clear HD hle
      go_wp2_with fail
      go_quiet (fail)
      go_wp2_with fail
      have hg := HI2.out.2.2.2
      have hxw := HX.out.bw hg
      have bx : xn ≤ xc := by
        obtain ⟨_, _, _, e, _, h3, _⟩ := hxw.form
        injection e with _ e2 e3
        omega
      have p1 := hxw.part (k := 0) (m := i) (Nat.zero_le _) (by omega)
      have p2 := hxw.part (k := i + 1) (m := xn) (by omega) (Nat.le_refl _)
      have hc1 := fun W => cutI_h (some xd) xn xc i (by omega) W
      have hc2 := fun W => cutI_l (some xd) xn xc (i + 1) (by omega) W
      obtain ⟨P1, hP1⟩ := sliced_form (some xd) 0 i xc 1
      obtain ⟨P2, hP2⟩ := sliced_form (some xd) (i + 1) xn xc 1
      rw [Nat.sub_zero, Nat.sub_zero] at hP1
      rw [hP1] at p1 hc1
      rw [hP2] at p2 hc2
      rw [List.drop_zero] at p1
      rw [List.take_of_length_le (by rw [LX.out]; omega)] at p2
      push_cast at hc2
      have HYL : Hid ((x.take i ++ x.drop (i + 1)).length ≤ 1000000) := Lib.hid (by simp; have := LX.out; omega)
      have CC : Hid (∀ W b, Bw wr W → b = W.heap.size → Calls Tryz.prog 115 #[.slice (some ⟨b, 0, none⟩) 2 2] (W.alloc (.cells #[.slice P1 i xc, .slice P2 (xn - (i + 1)) (xc - (i + 1))] 22)) (IntsPost (W.alloc (.cells #[.slice P1 i xc, .slice P2 (xn - (i + 1)) (xc - (i + 1))] 22)) (x.take i ++ x.drop (i + 1)))) := Lib.hid (fun W b g hb => by
        subst hb
        have := concatI_any [x.take i, x.drop (i + 1)] (by simpa using HYL.out) _ _ (iiat_two (ty := 22) (p1.bw g) (p2.bw g))
        simpa using this)
      have HDR := Lib.hid HI2.out.1
      have HG := Lib.hid hg
      have HT : Hid (dropsB (rankAt r) x = true) := Lib.hid (by
        rcases Nat.eq_zero_or_pos ps.length with h | h
        · rw [HI2.out.2.1 h, HF.out]
        · exact HI2.out.2.2.1 h)
      have hpl := HPL.out
      have hsz : w.heap.size ≤ wr.heap.size := hg.size
      unfold IntsPost at CC
      generalize hy : x.take i ++ x.drop (i + 1) = y at *
      generalize xn - (i + 1) = m2 at *
      generalize xc - (i + 1) = q2 at *
      obtain ⟨i0, hi, hz0, hz1, hz2⟩ := info_parts infoIntsI
      clear hxw p1 p2 hP1 hP2 hg HYL hy HF HI2
      go_region_law (first
        | (go_simp; go_at_call 115; refine (CC.out _ _ (by exact (Bw.refl wr).drewN _) rfl).mono ?_; rintro e w6 ⟨s6, rfl, hk6, hg6⟩; obtain ⟨A6, n6, c6, rfl, -, -, -⟩ := hk6.form; have HK6 := Lib.hid hk6; have HG6 : Hid (Bw wr w6) := Lib.hid ((((Bw.refl wr).drewN _).alloc _).trans hg6); have hs6 : wr.heap.size ≤ w6.heap.size := HG6.out.size; clear hk6 hg6)
        | (refine step_append_any _ rfl (.tmp 34) (.tmp 44) 106 rfl w.heap.size 22 i0 _ 1 24 Tryz.underlying106 hi hz0 hz1 hz2 rfl (by decide) (.slice OA ps.length oc) ps.length (ps.map (·.2)) (by simp [Act.eval, Act.put]) (HDR.out.bw (HG6.out.alloc _)).own (w6.heap.size + 1) (some ⟨w6.heap.size, 0, none⟩) 1 1 [.slice A6 n6 c6] (by simp [Act.eval, Act.put]) (reads_newv w6 _ _) (by simp [Value.oneCell']) (by unfold maxLen; omega) (by omega) (by simp; omega) ?_; intro v7 w7 hown7 hgr7 hl7; obtain ⟨A7, c7, rfl, -, -⟩ := own_bounds hown7; have HO7 := Lib.hid hown7; have HG7 := Lib.hid hgr7; have HL7 := Lib.hid hl7; clear hown7 hgr7 hl7))
      all_goals
        go_wp2
        go_roundw
        case rel =>
          have hA := HDR.out.bw (HG6.out.alloc (.cells #[.slice A6 n6 c6] 22))
          refine ⟨i + 1, by omega, by go_num, Lib.hid ⟨ps ++ [(y, .slice A6 n6 c6)], hA.push (HK6.out.keep (fun b hb => ⟨?_, fun e => ?_⟩) (fun p hp => World.cell?_alloc_lt w6 _ p hp.2)) HO7.out HG7.out HL7.out, by simp; omega, Below.grown (HG.out.trans (HG6.out.alloc _)) HG7.out (HG.out.trans (HG6.out.alloc _)).size (fun r e => (hA.own.lt r e).1), fun h => by simp at h, fun _ => HT.out⟩⟩
          · have := hb.2; simp; omega
          · have h1 := (HDR.out.own.lt b e).2
            have h2 := hb.1
            simp at h2
            omega
        case measure => simp [intOf]; omega
end Go.Proofs.YtlmnkcfnihhlgaaGreatDoor
