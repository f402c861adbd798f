/- multiset.Most: mostP. -/
import Derived.Test.YtlmnkcfnihhlgaaGreatDoorMatA
namespace Go.Proofs.YtlmnkcfnihhlgaaGreatDoor
open Go.RowKit
set_option linter.unusedSimpArgs false
set_option linter.unusedVariables false

theorem own_RowC {w : World} {base : Nat} {e : TypeId} {A : Option Addr} {c n : Nat} {xs : List Value} (h : w.ownsRow base e 1 (.slice A n c) n xs) (hn : 0 < n) : ∃ g, A = some ⟨g, 0, none⟩ ∧ base ≤ g ∧ RowC w g e xs := by
  have hl := h.1
  rcases h.2 with ⟨hv, rfl⟩ | ⟨g, cap, cur, hv, hb, hg, h1, h2, h3, h4⟩
  · omega
  · injection hv with e1 e2 e3
    subst e1
    refine ⟨g, rfl, hb, cur, hg, by omega, fun j u hu => ?_⟩
    rw [← h4, List.getElem?_take] at hu
    split at hu
    · simpa using hu
    · cases hu
theorem boolVs_one (cs : List Bool) : ∀ u ∈ boolVs cs, u.oneCell' = true := by
  intro u hu
  obtain ⟨x, _, rfl⟩ := List.mem_map.1 hu
  rfl
def ClonePost (w : World) (m : Nat) (bs : List Bool) (e : Ending) (w' : World) : Prop := ∃ g c, e = .returned (.slice (some ⟨g, 0, none⟩) m c) ∧ RowC w' g 4 (boolVs bs) ∧ w.heap.size ≤ g ∧ Bw w w'
set_option maxRecDepth 100000 in
set_option maxHeartbeats 2000000 in
theorem clone_any (m : Nat) (hm : 0 < m) (h9 : m ≤ 1000) (bs : List Bool) (hbs : bs.length = m) (ug c : Nat) (w : World) (hu : RowC w ug 4 (boolVs bs)) : Calls Tryz.prog 168 #[.slice (some ⟨ug, 0, none⟩) m c] w (ClonePost w m bs) := by
  obtain ⟨i0, hi, hz0, hz1, hz2⟩ := info_parts infoBool
  have hl : (boolVs bs).length = m := by simp [boolVs, hbs]
  have HR : Hid (∀ o, Reads (w.alloc o) w.heap.size 1 (some ⟨ug, 0, none⟩) m (boolVs bs)) := Lib.hid (fun o => ⟨by rw [hl]; omega, fun _ => ⟨_, rfl, hu.lt, fun j u h => by
    have e : ((⟨ug, 0, none⟩ : Addr).add j) = ⟨ug, j, none⟩ := by
      unfold Addr.add
      by_cases h0 : j = 0 <;> simp [h0]
    rw [e, World.cell?_alloc_lt w o _ hu.lt]
    exact hu.cell h⟩⟩)
  clear hu hbs
  have heq : (binOp .eql 102 (.slice (some ⟨ug, 0, none⟩) m c) (.slice none 0 0)).run Tryz.prog w = .ok (.bool false) w := Lib.run_eql_slice_nil w 102 4 (some ⟨ug, 0, none⟩) m c 0 0 Tryz.underlying102
  go_enter Tryz.func168, Tryz.ntmps168
  go_wp2_with (at_builtin; go_must (refine wpList_append_any _ rfl _ _ 102 rfl w.heap.size 4 i0 _ 1 1 Tryz.underlying102 hi hz0 hz1 hz2 rfl (by decide) (.slice (some ⟨w.heap.size, 0, none⟩) 0 0) 0 [] rfl (own_new w _ _ _ rfl rfl) w.heap.size (some ⟨ug, 0, none⟩) m c (boolVs bs) rfl (HR.out _) (boolVs_one _) (by unfold maxLen; omega) (by omega) (by simp) ?_; intro v7 w7 hown7 hgr7 hl7; obtain ⟨A7, c7, rfl⟩ := own_form hown7; (have HO7 := Lib.hid hown7); (have HG7 := Lib.hid hgr7); clear hown7 hgr7 hl7))
  go_ret
  have ho := HO7.out
  rw [Nat.zero_add, List.nil_append] at ho
  obtain ⟨g, rfl, hb, hrow⟩ := own_RowC ho hm
  refine ⟨g, c7, rfl, hrow, hb, ?_⟩
  exact Below.trans ((Bw.refl w).alloc _) (below_own (B := w.heap.size) (Below.refl _ _) (own_new w 4 #[] 1 (n := 0) (xs := []) rfl rfl) HG7.out (by simp))
/-- one row more -/
theorem mostL_step (tb : List (List Bool)) (m k row : Nat) (o : List Int) : mostL tb m (k + 1) row o = (if (srch tb (m + 1) o (List.replicate m false) row).1 then 1 else 0) + mostL tb m k (row + 1) (srch tb (m + 1) o (List.replicate m false) row).2.1 := rfl
set_option maxRecDepth 100000 in
set_option maxHeartbeats 8000000 in
theorem mmost_pos (tb : List (List Bool)) (n m : Nat) (hn : tb.length = n) (hm : ∀ r ∈ tb, r.length = m) (hn9 : n ≤ 1000) (hm0 : 0 < m) (hm9 : m ≤ 1000) (tv : Value) (ug uc : Nat) (w : World) (hT : TabAt w (· < w.heap.size) tv tb) (hu : RowC w ug 4 (boolVs (List.replicate m false))) :
    Calls Tryz.prog 133 #[tv, .int .i64 0, .slice (some ⟨ug, 0, none⟩) m uc] w (NumPost w (mostP tb m)) := by
  obtain ⟨TA, tn, tc, rfl, ltn, mtn⟩ := hT.form
  obtain rfl : tn = n := by omega
  have HT := Lib.hid hT
  have HU := Lib.hid hu
  have HSAID := Lib.hid (srch_said (n := tn) hn hm (m + 1))
  have HSR : Hid (∀ (og sg : Nat) (o : List Int) (row oc sc : Nat) (W : World), w.heap.size ≤ og → w.heap.size ≤ sg → og ≠ sg → row < tn → KOk tn m o (List.replicate m false) → EntOk tb o → Below w.heap.size w W → RowC W og 3 (intVs o) → RowC W sg 4 (boolVs (List.replicate m false)) →
      Calls Tryz.prog 167 #[.slice TA tn tc, .slice (some ⟨og, 0, none⟩) m oc, .slice (some ⟨sg, 0, none⟩) m sc, .int .i64 (row : Int)] W (SrchPost W og sg (srch tb (m + 1) o (List.replicate m false) row))) := Lib.hid (fun og sg o row oc sc W h1 h2 h3 h4 h5 h6 h7 h8 h9 =>
    msearch_any tb tn m hn hm hn9 hm9 _ og sg h3 (· < w.heap.size) (fun b hb => ⟨by omega, by omega⟩) (m + 1) o _ row oc sc W h4 h5 h6 (by simp [unseen, List.countP_replicate]) (HT.out.keep (fun _ h => h) (fun p hp => h7.cell hp)) h8 h9)
  have HMP : Hid (mostP tb m = mostL tb m tn 0 (List.replicate m (-1))) := Lib.hid (by unfold mostP; rw [hn])
  have HRP : Hid (∀ o, o = .cells #[.int .i64 (-1)] 3 → Calls Tryz.prog 166 #[.slice (some ⟨w.heap.size, 0, none⟩) 1 1, .int .i64 (m : Int)] (w.alloc o) (RepPost (w.alloc o) m (-1))) := Lib.hid (fun o ho => by subst ho; exact repeat_any m hm9 (-1) w.heap.size _ (Blk.new _ _ _))
  have hsz1 : (w.alloc (.cells #[.int .i64 (-1)] 3)).heap.size = w.heap.size + 1 := by simp
  clear hT hu hn hm ltn
  generalize hmp : mostP tb m = mp at *
  clear hmp
  go_enter Tryz.func133, Tryz.ntmps133
  go_wp2_with (go_at_call 166; go_must (refine (HRP.out _ rfl).mono ?_; rintro e w3 ⟨rfl, hb3, hg3⟩; (have HB3 := Lib.hid hb3); (have HG3 := Lib.hid hg3); clear hb3 hg3; simp only [World.size_alloc]))
  go_loopw [8, 9] (fun s8 s9 wr => ∃ (cnt row : Nat), row ≤ tn ∧ cnt ≤ row ∧ s8 = .int .i64 cnt ∧ s9 = .int .i64 row ∧ Hid (∃ o, RowC wr (w.heap.size + 1) 3 (intVs o) ∧ Below w.heap.size w wr ∧ KOk tn m o (List.replicate m false) ∧ EntOk tb o ∧ mp = cnt + mostL tb m (tn - row) row o)) (fun _ s9 _ => tn - (intOf s9).toNat)
  case atStart =>
    refine ⟨0, 0, by omega, by omega, rfl, rfl, Lib.hid ⟨List.replicate m (-1), ?_, ?_, ⟨by simp, by simp, fun x hx => .inl (List.mem_replicate.1 hx).2⟩, fun j hj => .inl (by simp at hj; simp [List.getD_eq_getElem?_getD, hj]), by rw [HMP.out]; simp⟩⟩
    · have := HB3.out
      rw [hsz1] at this
      exact ⟨_, this, by simp [intVs], fun j u hu => by simpa using hu⟩
    · have := HG3.out
      exact Below.trans ((Bw.refl w).alloc _) (this.mono (by simp))
  case round =>
    obtain ⟨cnt, row, hrow, hcnt, rfl, rfl, HR⟩ := hrel
    obtain ⟨o, hro, hbw, hko, heo, hmp⟩ := HR.out
    have hl1 := hro.lt
    have HRO := Lib.hid hro
    have HBW := Lib.hid hbw
    have HKO := Lib.hid hko
    have HEO := Lib.hid heo
    have HM := Lib.hid hmp
    clear hro hbw hko heo hmp HR
    by_cases hlt : row < tn
    · have CL : Hid (Calls Tryz.prog 168 #[.slice (some ⟨ug, 0, none⟩) m uc] wr (ClonePost wr m (List.replicate m false))) := Lib.hid (clone_any m hm0 hm9 _ (by simp) ug uc wr (HU.out.block (HBW.out.block _ HU.out.lt)))
      have hsaid := HSAID.out o (List.replicate m false) row hlt HKO.out HEO.out (by simp [unseen, List.countP_replicate])
      have HM2 : Hid (mp = cnt + ((if (srch tb (m + 1) o (List.replicate m false) row).1 then 1 else 0) + mostL tb m (tn - (row + 1)) (row + 1) (srch tb (m + 1) o (List.replicate m false) row).2.1)) := Lib.hid (by
        rw [HM.out, show tn - row = (tn - (row + 1)) + 1 by omega, mostL_step])
      rcases hrec : srch tb (m + 1) o (List.replicate m false) row with ⟨b, o2, s2⟩
      have SR : Hid (∀ sg sc W, wr.heap.size ≤ sg → Bw wr W → RowC W sg 4 (boolVs (List.replicate m false)) → Calls Tryz.prog 167 #[.slice TA tn tc, .slice (some ⟨w.heap.size + 1, 0, none⟩) m m, .slice (some ⟨sg, 0, none⟩) m sc, .int .i64 (row : Int)] W (SrchPost W (w.heap.size + 1) sg (b, o2, s2))) := Lib.hid (fun sg sc W h1 h2 h3 => by
        rw [← hrec]
        exact HSR.out _ sg o row m sc W (by omega) (by omega) (by omega) hlt HKO.out HEO.out (Below.trans HBW.out (h2.b.mono (by omega))) (HRO.out.block (h2.b.block _ hl1)) h3)
      rw [hrec] at hsaid HM2
      have HSD := Lib.hid hsaid
      clear hsaid hrec
      have HNX : Hid (KOk tn m o2 (List.replicate m false) ∧ EntOk tb o2) := Lib.hid (by
        have h1 := HSD.out.ok
        refine ⟨⟨h1.ol, by simp, h1.ow⟩, ?_⟩
        cases b with
        | true => exact (HSD.out.yes rfl).1
        | false => have := (HSD.out.no rfl).1; simp only at this; rw [this]; exact HEO.out)
      cases b with
      | true =>
        have HM3 : Hid (mp = (cnt + 1 : Nat) + mostL tb m (tn - (row + 1)) (row + 1) o2) := Lib.hid (by have := HM2.out; simp only [if_true] at this; rw [this]; omega)
        go_wp2_with (first
          | (go_at_call 168; go_must (refine CL.out.mono ?_; rintro e w6 ⟨sg, sc, rfl, hc6, hsg, hg6⟩; (have HC6 := Lib.hid hc6); (have HG6 := Lib.hid hg6); (have SR2 := Lib.hid (SR.out sg sc w6 hsg hg6 hc6)); clear hc6 hg6))
          | (go_at_call 167; go_must (refine SR2.out.mono ?_; rintro e w7 ⟨rfl, ro7, rs7, fr7⟩; (have HRO7 := Lib.hid ro7); (have HFR7 := Lib.hid fr7); clear ro7 rs7 fr7)))
        go_roundw
        case rel =>
          refine ⟨cnt + 1, row + 1, by omega, by omega, by go_num, by go_num, Lib.hid ⟨o2, HRO7.out, ?_, HNX.out.1, HNX.out.2, HM3.out⟩⟩
          have h1 : Below w.heap.size w w6 := Below.trans HBW.out (HG6.out.b.mono (by omega))
          have f7 := HFR7.out
          exact Below.trans h1 ⟨f7.os, f7.tape, f7.output, by have := f7.size; omega, fun k hk => f7.block k (by omega) (by omega)⟩
        case measure => simp [intOf]; omega
      | false =>
        have HM3 : Hid (mp = cnt + mostL tb m (tn - (row + 1)) (row + 1) o2) := Lib.hid (by have := HM2.out; simp at this; rw [this])
        go_wp2_with (first
          | (go_at_call 168; go_must (refine CL.out.mono ?_; rintro e w6 ⟨sg, sc, rfl, hc6, hsg, hg6⟩; (have HC6 := Lib.hid hc6); (have HG6 := Lib.hid hg6); (have SR2 := Lib.hid (SR.out sg sc w6 hsg hg6 hc6)); clear hc6 hg6))
          | (go_at_call 167; go_must (refine SR2.out.mono ?_; rintro e w7 ⟨rfl, ro7, rs7, fr7⟩; (have HRO7 := Lib.hid ro7); (have HFR7 := Lib.hid fr7); clear ro7 rs7 fr7)))
        go_roundw
        case rel =>
          refine ⟨cnt, row + 1, by omega, by omega, rfl, by go_num, Lib.hid ⟨o2, HRO7.out, ?_, HNX.out.1, HNX.out.2, HM3.out⟩⟩
          have h1 : Below w.heap.size w w6 := Below.trans HBW.out (HG6.out.b.mono (by omega))
          have f7 := HFR7.out
          exact Below.trans h1 ⟨f7.os, f7.tape, f7.output, by have := f7.size; omega, fun k hk => f7.block k (by omega) (by omega)⟩
        case measure => simp [intOf]; omega
    · obtain rfl : row = tn := by omega
      have HF : Hid (mp = cnt) := Lib.hid (by rw [HM.out]; simp [mostL])
      go_wp2
      go_ret
      exact ⟨ret_int (by rw [HF.out]), HBW.out⟩

/- tables without columns -/
theorem srch_zero {tb : List (List Bool)} (hm : ∀ r ∈ tb, r.length = 0) (f row : Nat) (o : List Int) (s : List Bool) (hr : row < tb.length) : srch tb (f + 1) o s row = (false, o, s) := by
  have : tb.getD row [] = [] := by
    rw [List.getD_eq_getElem?_getD, List.getElem?_eq_getElem hr]
    exact List.eq_nil_of_length_eq_zero (hm _ (List.getElem_mem hr))
  show srchL _ _ _ (tb.getD row []) _ _ = _
  rw [this]; rfl
theorem mostP_zero {tb : List (List Bool)} (hm : ∀ r ∈ tb, r.length = 0) : mostP tb 0 = 0 := by
  have key : ∀ k row o, row + k = tb.length → mostL tb 0 k row o = 0 := by
    intro k
    induction k with
    | zero => intro row o _; rfl
    | succ k ih =>
      intro row o h
      rw [mostL_step, srch_zero hm 0 row o _ (by omega)]
      simp only [Bool.false_eq_true, if_false]
      rw [ih (row + 1) o (by omega)]
  exact key _ 0 _ (by omega)
set_option maxRecDepth 100000 in
set_option maxHeartbeats 2000000 in
theorem msearch_zero (tb : List (List Bool)) (n : Nat) (hn : tb.length = n) (hm : ∀ r ∈ tb, r.length = 0) (tv o s : Value) (row : Nat) (w : World) (hrow : row < n) (S : Nat → Prop) (hT : TabAt w S tv tb) :
    Calls Tryz.prog 167 #[tv, o, s, .int .i64 (row : Int)] w fun e w' => e = .returned (.bool false) ∧ w = w' := by
  have hrt : row < tb.length := by omega
  obtain ⟨TA, tn, tc, rfl, ltn, mtn⟩ := hT.form
  obtain ⟨adt, RA, rn, rc, rfl, hSt, qt, lrn, mrn, hB⟩ := hT.at_ hrt
  obtain rfl : rn = 0 := by rw [← lrn]; exact hm _ (List.getElem_mem hrt)
  obtain rfl : tn = n := by omega
  clear hT hB lrn hrt hm hn ltn
  go_enter Tryz.func167, Tryz.ntmps167
  go_wp2
  go_loop [16] (fun i => i = .int .i64 0) (fun i => 0)
  case atStart => exact rfl
  case round =>
    subst hrel
    go_wp2
    go_ret
    exact ⟨rfl, rfl⟩
theorem buildEmpty : True := trivial
set_option maxRecDepth 100000 in
set_option maxHeartbeats 4000000 in
theorem mmost_zero (tb : List (List Bool)) (n : Nat) (hn : tb.length = n) (hm : ∀ r ∈ tb, r.length = 0) (hn9 : n ≤ 1000) (tv : Value) (ug uc : Nat) (w : World) (hT : TabAt w (· < w.heap.size) tv tb) :
    Calls Tryz.prog 133 #[tv, .int .i64 0, .slice (some ⟨ug, 0, none⟩) 0 uc] w (NumPost w 0) := by
  obtain ⟨TA, tn, tc, rfl, ltn, mtn⟩ := hT.form
  obtain rfl : tn = n := by omega
  have HT := Lib.hid hT
  have HRP : Hid (∀ o, o = .cells #[.int .i64 (-1)] 3 → Calls Tryz.prog 166 #[.slice (some ⟨w.heap.size, 0, none⟩) 1 1, .int .i64 0] (w.alloc o) (RepPost (w.alloc o) 0 (-1))) := Lib.hid (fun o ho => by subst ho; exact repeat_any 0 (by omega) (-1) w.heap.size _ (Blk.new _ _ _))
  have SR : Hid (∀ o s row W, row < tn → Below w.heap.size w W → Calls Tryz.prog 167 #[.slice TA tn tc, o, s, .int .i64 (row : Int)] W fun e w' => e = .returned (.bool false) ∧ W = w') := Lib.hid (fun o s row W h1 h2 => msearch_zero tb tn hn hm _ o s row W h1 (· < w.heap.size) (HT.out.keep (fun _ h => h) (fun p hp => h2.cell hp)))
  have CL : Hid (∀ W, Calls Tryz.prog 168 #[.slice (some ⟨ug, 0, none⟩) 0 uc] W fun e w' => ∃ s, e = .returned s ∧ Bw W w') := Lib.hid (fun W => by
    obtain ⟨i0, hi, hz0, hz1, hz2⟩ := info_parts infoBool
    have heq : (binOp .eql 102 (.slice (some ⟨ug, 0, none⟩) 0 uc) (.slice none 0 0)).run Tryz.prog W = .ok (.bool false) W := Lib.run_eql_slice_nil W 102 4 (some ⟨ug, 0, none⟩) 0 uc 0 0 Tryz.underlying102
    have HRD : Hid (∀ o, Reads (W.alloc o) W.heap.size 1 (some ⟨ug, 0, none⟩) 0 []) := Lib.hid (fun o => ⟨rfl, fun h => absurd h (by omega)⟩)
    clear hT HRP SR
    go_enter Tryz.func168, Tryz.ntmps168
    go_wp2_with (at_builtin; go_must (refine wpList_append_any _ rfl _ _ 102 rfl W.heap.size 4 i0 _ 1 1 Tryz.underlying102 hi hz0 hz1 hz2 rfl (by decide) (.slice (some ⟨W.heap.size, 0, none⟩) 0 0) 0 [] rfl (own_new W _ _ _ rfl rfl) W.heap.size (some ⟨ug, 0, none⟩) 0 uc [] rfl (HRD.out _) (by simp) (by unfold maxLen; omega) (by omega) (by simp) ?_; intro v7 w7 hown7 hgr7 hl7; obtain ⟨A7, c7, rfl⟩ := own_form hown7; (have HO7 := Lib.hid hown7); (have HG7 := Lib.hid hgr7); clear hown7 hgr7 hl7))
    go_ret
    exact ⟨_, rfl, Below.trans ((Bw.refl W).alloc _) (below_own (B := W.heap.size) (Below.refl _ _) (own_new W 4 #[] 1 (n := 0) (xs := []) rfl rfl) HG7.out (by simp))⟩)
  clear hT hn hm ltn
  go_enter Tryz.func133, Tryz.ntmps133
  go_wp2_with (go_at_call 166; go_must (refine (HRP.out _ rfl).mono ?_; rintro e w3 ⟨rfl, hb3, hg3⟩; (have HG3 := Lib.hid hg3); clear hb3 hg3; simp only [World.size_alloc]))
  go_loopw [8, 9] (fun s8 s9 wr => ∃ (row : Nat), row ≤ tn ∧ s8 = .int .i64 0 ∧ s9 = .int .i64 row ∧ Hid (Below w.heap.size w wr)) (fun _ s9 _ => tn - (intOf s9).toNat)
  case atStart => exact ⟨0, by omega, rfl, rfl, Lib.hid (Below.trans ((Bw.refl w).alloc _) (HG3.out.mono (by simp)))⟩
  case round =>
    obtain ⟨row, hrow, rfl, rfl, HR⟩ := hrel
    by_cases hlt : row < tn
    · go_wp2_with (first
        | (go_at_call 168; go_must (refine (CL.out _).mono ?_; rintro e w6 ⟨s6, rfl, hg6⟩; (have HG6 : Hid (Below w.heap.size w w6) := Lib.hid (Below.trans HR.out (hg6.b.mono (by have := HR.out.size; omega)))); clear hg6))
        | (go_at_call 167; go_must (refine (SR.out _ _ row _ hlt HG6.out).mono ?_; rintro e w7 ⟨rfl, rfl⟩)))
      go_roundw
      case rel => exact ⟨row + 1, by omega, rfl, by go_num, Lib.hid HG6.out⟩
      case measure => simp [intOf]; omega
    · obtain rfl : row = tn := by omega
      go_wp2
      go_ret
      exact ⟨rfl, HR.out⟩
/- Valid, columns, Most -/
set_option maxRecDepth 100000 in
set_option maxHeartbeats 4000000 in
theorem mvalid_any (tb : List (List Bool)) (n m : Nat) (hn : tb.length = n) (hm : ∀ r ∈ tb, r.length = m) (hn9 : n ≤ 12) (hm9 : m ≤ 12) (tv : Value) (S : Nat → Prop) (w : World) (hT : TabAt w S tv tb) :
    Calls Tryz.prog 132 #[tv] w fun e w' => e = .returned (.bool true) ∧ w = w' := by
  obtain ⟨TA, tn, tc, rfl, ltn, mtn⟩ := hT.form
  obtain rfl : tn = n := by omega
  have HT := Lib.hid hT
  have HM := Lib.hid hm
  have HN := Lib.hid hn
  have d0 : decide ((12 : Int) < (tn : Int)) = false := by simp; omega
  clear hT hm hn ltn
  go_enter Tryz.func132, Tryz.ntmps132
  go_wp2
  go_loop [10] (fun i => ∃ k : Nat, k ≤ tn ∧ i = .int .i64 k) (fun i => tn - (intOf i).toNat)
  case atStart => exact ⟨0, by omega, rfl⟩
  case round =>
    obtain ⟨k, hk, rfl⟩ := hrel
    by_cases hlt : k < tn
    · obtain ⟨ad, RA, rn, rc, rfl, _, q0, lrn, mrn, _⟩ := HT.out.at_ (show k < tb.length by rw [HN.out]; exact hlt)
      obtain ⟨ad', RA', rn', rc', e', _, q1, lrn', _, _⟩ := HT.out.at_ (show 0 < tb.length by rw [HN.out]; omega)
      obtain rfl : ad = ad' := Option.some.inj e'
      have e0 : ad.add 0 = ad := by unfold Addr.add; simp
      rw [e0] at q1
      obtain rfl : rn = m := by rw [← lrn]; exact HM.out _ (List.getElem_mem _)
      obtain rfl : rn' = rn := by rw [← lrn']; exact HM.out _ (List.getElem_mem _)
      have d1 : decide ((12 : Int) < (rn' : Int)) = false := by simp; omega
      have d2 : 0 < tn := by omega
      clear lrn lrn' e0 e'
      go_wp2
      go_round
      case rel => exact ⟨k + 1, by omega, by go_num⟩
      case measure => simp [intOf]; omega
    · obtain rfl : k = tn := by omega
      go_wp2
      go_ret
      exact ⟨rfl, rfl⟩
theorem mcolumns_any (tb : List (List Bool)) (n m : Nat) (hn : tb.length = n) (hn9 : n ≤ 12) (hm : ∀ r ∈ tb, r.length = m) (hm9 : m ≤ 12) (tv : Value) (S : Nat → Prop) (w : World) (hT : TabAt w S tv tb) :
    Calls Tryz.prog 134 #[tv] w fun e w' => e = .returned (.int .i64 ((if n = 0 then 0 else m : Nat) : Int)) ∧ w = w' := by
  obtain ⟨TA, tn, tc, rfl, ltn, mtn⟩ := hT.form
  obtain rfl : tn = n := by omega
  by_cases h0 : tn = 0
  · subst h0
    clear hT hm hn ltn
    go_enter Tryz.func134, Tryz.ntmps134
    go_wp2
    go_ret
    exact ⟨rfl, rfl⟩
  · obtain ⟨ad', RA', rn', rc', rfl, hs9, q1, lrn', hr9, hb9⟩ := hT.at_ (show 0 < tb.length by omega)
    clear hb9
    have e0 : ad'.add 0 = ad' := by unfold Addr.add; simp
    rw [e0] at q1
    obtain rfl : rn' = m := by rw [← lrn']; exact hm _ (List.getElem_mem _)
    have d2 : 0 < tn := by omega
    clear hT hm hn ltn lrn' e0
    go_enter Tryz.func134, Tryz.ntmps134
    go_wp2
    go_ret
    exact ⟨by simp [h0], rfl⟩
set_option maxRecDepth 100000 in
set_option maxHeartbeats 4000000 in
theorem mMost_any (tb : List (List Bool)) (n m : Nat) (hn : tb.length = n) (hm : ∀ r ∈ tb, r.length = m) (hn9 : n ≤ 12) (hm9 : m ≤ 12) (tv : Value) (w : World) (hT : TabAt w (· < w.heap.size) tv tb) :
    Calls Tryz.prog 108 #[tv] w fun e w' => e = .returned (.tuple #[.int .i64 (mostP tb m), .bool true]) ∧ Bw w w' := by
  obtain ⟨TA, tn, tc, rfl, ltn, mtn⟩ := hT.form
  obtain rfl : tn = n := by omega
  have VA := Lib.hid (mvalid_any tb tn m hn hm hn9 hm9 _ _ w hT)
  have CO := Lib.hid (mcolumns_any tb tn m hn hn9 hm hm9 _ _ w hT)
  have hTA : ∀ o, TabAt (w.alloc o) (· < (w.alloc o).heap.size) (.slice TA tn tc) tb := fun o => hT.keep (fun b hb => by simp; omega) (fun p hp => World.cell?_alloc_lt w o p hp)
  have MO : Hid (∀ k, k = (if tn = 0 then 0 else m : Nat) → ∀ o, o = .cells (boolVs (List.replicate k false)).toArray 4 → Calls Tryz.prog 133 #[.slice TA tn tc, .int .i64 0, .slice (some ⟨w.heap.size, 0, none⟩) k k] (w.alloc o) (NumPost (w.alloc o) (mostP tb m))) := Lib.hid (fun k hk o ho => by
    subst ho
    by_cases h0 : tn = 0
    · rw [if_pos h0] at hk
      subst hk
      obtain rfl : tb = [] := List.eq_nil_of_length_eq_zero (by omega)
      have := mmost_zero [] tn hn (by simp) (by omega) _ w.heap.size 0 _ (hTA (.cells (boolVs (List.replicate 0 false)).toArray 4))
      exact this
    · rw [if_neg h0] at hk
      subst hk
      by_cases hk0 : k = 0
      · subst hk0
        have := mmost_zero tb tn hn hm (by omega) _ w.heap.size 0 _ (hTA (.cells (boolVs (List.replicate 0 false)).toArray 4))
        have e : ((mostP tb 0 : Nat) : Int) = 0 := by rw [mostP_zero hm]; rfl
        rw [e]; exact this
      · exact mmost_pos tb tn k hn hm (by omega) (by omega) (by omega) _ w.heap.size k _ (hTA _) ⟨_, Blk.new _ _ _, by simp, fun j u h => by simpa using h⟩)
  have hkk : (if tn = 0 then 0 else m : Nat) ≤ 12 := by split <;> omega
  generalize hkq : (if tn = 0 then 0 else m : Nat) = k at *
  clear hT hn hm ltn hTA
  have HKQ := Lib.hid hkq
  have hmk := mkBools k (by omega) w
  have MO2 := Lib.hid (fun o => MO.out k rfl o)
  clear hkq MO
  generalize mostP tb m = mp at *
  go_enter Tryz.func108, Tryz.ntmps108
  go_wp2_with (first
    | (go_at_call 132; go_must (refine VA.out.mono ?_; rintro e w' ⟨rfl, rfl⟩))
    | (go_at_call 134; go_must (refine CO.out.mono ?_; rintro e w' ⟨rfl, rfl⟩))
    | (go_at_call 133; go_must (refine (MO2.out _ rfl).mono ?_; rintro e w6 ⟨rfl, hg6⟩; (have HG6 := Lib.hid hg6); clear hg6)))
  go_ret2
  exact ⟨rfl, ((Bw.refl _).alloc _).trans HG6.out⟩
end Go.Proofs.YtlmnkcfnihhlgaaGreatDoor
