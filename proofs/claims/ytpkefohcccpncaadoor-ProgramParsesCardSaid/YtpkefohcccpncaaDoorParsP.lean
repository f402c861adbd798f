/- The walk of ProgramParses. -/
import Derived.Test.YtpkefohcccpncaaDoorBackP
import Derived.Test.YtpkefohcccpncaaDoorPrgLaw
namespace Go.Proofs.YtpkefohcccpncaaDoor
open Go.RowKit
set_option linter.unusedSimpArgs false
set_option linter.unusedVariables false

def StrsAt (w : World) (B : Nat) (L : List ByteArray) : Prop := ∀ j (h : j < L.length), w.cell? ⟨B, j, none⟩ = some (.string L[j])
theorem strsAt_new (w : World) (L : List ByteArray) (ca : Array Value) (h : ca = (L.map Value.string).toArray) : StrsAt (w.alloc (.cells ca 9)) w.heap.size L := fun j hj => by
  subst h
  rw [cell_of_row _ _ _ _ _ _ (heap_alloc_new w _)]
  simp [hj]
theorem StrsAt.below {w w' : World} {B : Nat} {L : List ByteArray} (h : StrsAt w B L) {b : Nat} (hb : Below b w w') (hB : B < b) : StrsAt w' B L := fun j hj => (hb.cell (p := ⟨B, j, none⟩) hB).trans (h j hj)

theorem nlP_take {l : List UInt8} {k : Nat} (hk : k < l.length) : nl (l.take (k + 1)) = nl (l.take k) + (if l[k].toNat = 10 then 1 else 0) := by
  rw [List.take_succ_eq_append_getElem hk]
  unfold nl
  rw [List.countP_append]
  congr 1
  by_cases h : l[k].toNat = 10 <;> simp [nlB, h]
theorem nl_le (l : List UInt8) : nl l ≤ l.length := List.countP_le_length
/-- what Parse leaves, in one shape -/
def PshPost (w : World) (l : List UInt8) (e : Ending) (w' : World) : Prop := Below w.heap.size w w' ∧ ∃ (pv : Int) (QA : Option Addr) (qn qc : Nat) (nn er : Int), e = .returned (.tuple #[.agg #[.int .i64 pv, .slice QA qn qc], .int .i64 nn, .int .i64 er]) ∧
  Hid ((0 ≤ nn ∧ nn ≤ 1 + nl l ∧ er = 47) ∨ (nn = 0 ∧ er = 0 ∧ ∃ q : Prg, q.v = pv ∧ q.ts.length = qn ∧ ThsAt w' w'.heap.size QA q.ts ∧ checkP q = true))
theorem psh_of {w : World} {l : List UInt8} {e : Ending} {w' : World} (h : ParPost w (parseP l) e w') : PshPost w l e w' := by
  obtain ⟨hb, h⟩ := h
  refine ⟨hb, ?_⟩
  rcases hR : parseP l with m | q
  · rw [hR] at h
    have := parse_line l m hR
    exact ⟨0, none, 0, 0, m, 47, h, Lib.hid (.inl ⟨by omega, by omega, rfl⟩)⟩
  · rw [hR] at h
    obtain ⟨A, c, he, ht⟩ := h
    exact ⟨q.v, A, q.ts.length, c, 0, 0, he, Lib.hid (.inr ⟨rfl, rfl, q, rfl, rfl, ht, parse_checks l q hR⟩)⟩
set_option maxRecDepth 100000 in
set_option maxHeartbeats 8000000 in
theorem pparses_any (A : Option Addr) (n c : Nat) (data : ByteArray) (hdata : data.size ≤ 9223372036854775807) (at_ by_ : Int) (hy0 : 0 ≤ by_) (hy1 : by_ ≤ 255) (w : World) (hg : GlobP w) (hA : SeedsArg w A n c) :
    Calls Tryd.prog 4 #[.slice A n c, .string data, .int .i64 at_, .int .u8 by_] w fun e w' => e = .returned (.bool true) ∧ Below w.heap.size w w' := by
  have HG := Lib.hid hg
  have HA := Lib.hid hA
  clear hg hA
  have SA : Hid (∀ W, Below w.heap.size w W → Calls Tryd.prog 5 #[] W fun e w' => e = .returned (.bool true) ∧ Below W.heap.size W w') := Lib.hid (fun W h => sane_any W (HG.out.below h))
  have NE : Hid (∀ W, Below w.heap.size w W → Calls Tryd.prog 6 #[.slice A n c] W (PNewPost W)) := Lib.hid (fun W h => pnew_arg W A n c (HA.out.up h))
  have TX : Hid (∀ W A n c p, Below w.heap.size w W → ThsAt W W.heap.size A p.ts → p.ts.length = n → checkP p = true → Calls Tryd.prog 8 #[.agg #[.int .i64 p.v, .slice A n c]] W (fun e w' => Below W.heap.size W w' ∧ ∃ s : ByteArray, e = .returned (.tuple #[.string s, .int .i64 0]) ∧ s.data.toList = textP p)) := Lib.hid (fun W A n c p h hT hn hc => (text_any p A n c W hT hn (HG.out.below h) (prgOk_of hc) true hc).mono fun e w' ⟨hb, s, he, hs⟩ => ⟨hb, s, he, hs rfl⟩)
  have PA : Hid (∀ W (s : ByteArray) R, Below w.heap.size w W → s.size ≤ 4096 → parseP s.data.toList = R → Calls Tryd.prog 9 #[.string s] W (ParPost W R)) := Lib.hid (fun W s R h hs hR => by
    have := parse_any s W hs (HG.out.below h)
    rw [hR] at this
    exact this)
  have CK : Hid (∀ W A n c p, Below w.heap.size w W → ThsAt W W.heap.size A p.ts → p.ts.length = n → checkP p = true → Calls Tryd.prog 12 #[.agg #[.int .i64 p.v, .slice A n c]] W fun e w' => e = .returned (.int .i64 0) ∧ Below W.heap.size W w') := Lib.hid (fun W A n c p h hT hn hc => check_any p A n c W hT hn (HG.out.below h) (prgOk_of hc) true hc)
  by_cases hlong : 300 < data.size
  · have d1 : decide (300 < (data.size : Int)) = true := by simp; omega
    go_enter Tryd.func4, Tryd.ntmps4
    go_wp2_with fail
    refine (SA.out _ (Below.refl _ _)).mono ?_
    rintro e w1 ⟨rfl, hb1⟩
    have HB1 := Lib.hid hb1
    clear hb1
    go_wp2_with fail
    go_ret
    exact ⟨rfl, HB1.out⟩
  have d1 : decide (300 < (data.size : Int)) = false := by simp; omega
  have hd300 : data.size ≤ 300 := by omega
  clear hlong
  go_enter Tryd.func4, Tryd.ntmps4
  go_wp2_with fail
  refine (SA.out _ (Below.refl _ _)).mono ?_
  rintro e w1 ⟨rfl, hb1⟩
  have HB1 := Lib.hid hb1
  clear hb1
  go_wp2_with fail
  refine (NE.out _ HB1.out).mono ?_
  rintro e w2 ⟨rfl, hd2, hb2⟩
  have HB2 := Lib.hid (HB1.out.trans (hb2.mono HB1.out.size))
  have HD2 := Lib.hid hd2
  clear hd2 hb2
  go_wp2_with fail
  refine (dprogram_any _ _ HD2.out).mono ?_
  rintro e w3 ⟨p, PA3, pc3, rfl, hp3, hok3, hd3, hg3⟩
  have HB3 : Hid (Below w.heap.size w w3) := Lib.hid (HB2.out.trans (below_grownS hg3 HB1.out.size HB2.out.size))
  have HCK := Lib.hid hok3.check
  have TX3 := Lib.hid (TX.out w3 PA3 p.ts.length pc3 p HB3.out hp3 rfl hok3.check)
  have hz3 := HB3.out.size
  clear hp3 hok3 hd3 hg3 HD2 HB2
  go_wp2_with fail
  refine (TX3.out).mono ?_
  rintro e w4 ⟨hb4, t, rfl, ht⟩
  have hts : t.size ≤ 980 ∧ 0 < t.size := by
    obtain ⟨h1, h2⟩ := textP_len HCK.out
    rw [← ht] at h1 h2
    rw [← size_data]
    exact ⟨h1, List.length_pos_iff.2 h2⟩
  obtain ⟨hts1, hts0⟩ := hts
  have HB6 : Hid (Below w.heap.size w w4) := Lib.hid (HB3.out.trans (hb4.mono hz3))
  have hz6 := HB6.out.size
  clear ht hb4 TX3
  obtain ⟨w6, rfl⟩ : ∃ w6 : World, w6 = w4 := ⟨_, rfl⟩
  obtain ⟨C, cap, hconv, hC⟩ := conv_pack w6 t
  have HC := Lib.hid hC
  clear hC
  obtain ⟨j, hj⟩ := Int.eq_ofNat_of_zero_le (Int.emod_nonneg at_ (show (t.size : Int) ≠ 0 by omega))
  have hjl : j < t.size := by
    have := Int.emod_lt_of_pos at_ (show (0 : Int) < t.size by omega)
    omega
  have MO : Hid (∀ W : World, Calls Tryd.prog 11 #[.int .i64 at_, .int .i64 (t.size : Int)] W fun e w' => e = .returned (.int .i64 (j : Int)) ∧ W = w') := Lib.hid (fun W => by
    have := pmod_any W at_ t.size (by omega) (by omega)
    rw [hj] at this
    exact this)
  obtain ⟨vj, hcj⟩ := HC.out.cell hjl
  have hfz := HC.out.frozen hjl
  clear hj
  go_upto_region 10 with (go_at_call 11; go_must (refine (MO.out _).mono ?_; rintro e w' ⟨rfl, rfl⟩))
  refine wp_world (fun X => Hid (BytesAt X w6.heap.size (t.data.toList.set j (UInt8.ofNat by_.toNat)) ∧ Below w.heap.size w X)) (Lib.hid ⟨?_, ?_⟩) ?_
  · exact BytesAt.set_ HC.out.at_ (show j < t.data.toList.length from hjl) hy0 hy1
  · exact (((HB6.out.alloc hz6 _).setCell (p := ⟨w6.heap.size, j, none⟩) hz6 _)).drew
  intro X HX
  obtain ⟨s2, hs2⟩ : ∃ s2 : ByteArray, s2.data.toList = t.data.toList.set j (UInt8.ofNat by_.toNat) := ⟨⟨(t.data.toList.set j (UInt8.ofNat by_.toNat)).toArray⟩, rfl⟩
  have hs2l : s2.size = t.size := by rw [← size_data, hs2, List.length_set, size_data]
  have hs24 : s2.size ≤ 980 := by omega
  have hback := BytesAt.back (w := X.drew) HX.out.1 cap (n := t.size) (by rw [List.length_set, size_data]) hs2
  have HB7 := Lib.hid HX.out.2
  have HBY := Lib.hid HX.out.1
  have HS2 := Lib.hid hs2
  have hX6 : w6.heap.size < X.heap.size := by
    have := HX.out.1 j (by rw [List.length_set]; exact hjl)
    by_cases h : w6.heap.size < X.heap.size
    · exact h
    · exfalso; simp only [World.cell?, Array.getElem?_eq_none (Nat.le_of_not_lt h)] at this; cases this
  clear hs2 hs2l hconv hcj hfz HC HX
  have HSX : Hid (∀ W : World, BytesAt W w6.heap.size (t.data.toList.set j (UInt8.ofNat by_.toNat)) → (Go.convert 22 9 (.slice (some ⟨w6.heap.size, 0, none⟩) t.size cap)).run Tryd.prog W = .ok (.string s2) W) := Lib.hid (fun W h => BytesAt.back (w := W) h cap (n := t.size) (by rw [List.length_set, size_data]) HS2.out)
  have HK2 : Hid (∀ o, (Go.convert 22 9 (.slice (some ⟨w6.heap.size, 0, none⟩) t.size cap)).run Tryd.prog ((X.alloc o).drew) = .ok (.string s2) ((X.alloc o).drew)) := Lib.hid (fun o => HSX.out ((X.alloc o).drew) (by
    have := HBY.out.below ((Below.refl _ _).alloc (Nat.le_refl _) o) hX6
    exact this))
  have j0 : (0 : Int) ≤ (j : Int) := by omega
  have j1 : (j : Int) ≤ (t.size : Int) := by omega
  go_region_held3 (fun w' => (Go.convert 22 9 (.slice (some ⟨w6.heap.size, 0, none⟩) t.size cap)).run Tryd.prog w' = .ok (.string s2) w') (first | assumption | exact HSX.out _ HBY.out | exact HK2.out _) ((go_at_call 11; refine (MO.out _).mono ?_; rintro e w' ⟨rfl, rfl⟩))
  go_wp2
  obtain ⟨L, hL⟩ : ∃ L : List ByteArray, L = [t, s2, data, t.extract 0 j] := ⟨_, rfl⟩
  have hLl : L.length = 4 := by rw [hL]; rfl
  have hLs : ∀ s ∈ L, s.size ≤ 980 := by
    intro s hs'
    rw [hL] at hs'
    simp only [List.mem_cons, List.not_mem_nil, or_false] at hs'
    rcases hs' with rfl | rfl | rfl | rfl
    · exact hts1
    · exact hs24
    · omega
    · simp only [ByteArray.size_extract]; omega
  have HST0 : Hid (StrsAt ((X.alloc (.cells #[.string t, .string s2, .string data, .string (t.extract 0 j)] 9)).drew) X.heap.size L) := Lib.hid (by
    rw [hL]; exact strsAt_new X _ _ rfl)
  have HB8 : Hid (Below w.heap.size w ((X.alloc (.cells #[.string t, .string s2, .string data, .string (t.extract 0 j)] 9)).drew)) := Lib.hid (HB7.out.alloc HB7.out.size _).drew
  have hz8 := HB7.out.size
  have HLL := Lib.hid hLl
  have HLS := Lib.hid hLs
  clear hL hLl hLs HSX HK2 HBY HB7 j0 j1 hback MO
  go_loopw [59] (fun i wr => ∃ k : Nat, k ≤ 4 ∧ i = .int .i64 k ∧ Hid (StrsAt wr X.heap.size L ∧ X.heap.size < wr.heap.size ∧ Below w.heap.size w wr)) (fun i _ => 4 - (intOf i).toNat)
  case atStart => exact ⟨0, by omega, rfl, Lib.hid ⟨HST0.out, by simp, HB8.out⟩⟩
  case round =>
    obtain ⟨wo, rfl⟩ : ∃ wo : World, wo = wr := ⟨_, rfl⟩
    obtain ⟨k, hk, rfl, HR⟩ := hrel
    obtain ⟨hst, hxw, hbw⟩ := HR.out
    by_cases hlt : k < 4
    · have hcell := hst k (by rw [HLL.out]; exact hlt)
      have hsz := HLS.out _ (List.getElem_mem (show k < L.length by rw [HLL.out]; exact hlt))
      generalize (L[k]'(by rw [HLL.out]; exact hlt)) = x at hcell hsz
      have HST := Lib.hid hst
      have HBW := Lib.hid hbw
      have PX : Hid (Calls Tryd.prog 9 #[.string x] wo (PshPost wo x.data.toList)) := Lib.hid ((PA.out wo x _ hbw (by omega) rfl).mono fun e w' h => psh_of h)
      have hzo := hbw.size
      clear hst hbw
      go_wp2_with fail
      refine (PX.out).mono ?_
      rintro e w5 ⟨hb5, pv, QA, qn, qc, nn, er, rfl, HC5⟩
      have HST5 := Lib.hid (HST.out.below hb5 hxw)
      have HB5 := Lib.hid (HBW.out.trans (hb5.mono hzo))
      have hz5 : wo.heap.size ≤ w5.heap.size := hb5.size
      clear hb5 PX
      go_wp2_with fail
      go_loop [17, 18] (fun s17 s18 => ∃ k2 : Nat, k2 ≤ x.size ∧ s18 = .int .i64 k2 ∧ s17 = .int .i64 ((1 + nl (x.data.toList.take k2) : Nat) : Int)) (fun _ s18 => x.size - (intOf s18).toNat)
      case atStart => exact ⟨0, by omega, rfl, rfl⟩
      case round =>
        obtain ⟨k2, hk2, rfl, rfl⟩ := hrel
        by_cases hlt2 : k2 < x.size
        · have HS : Hid (nl (x.data.toList.take (k2 + 1)) = nl (x.data.toList.take k2) + (if x[k2].toNat = 10 then 1 else 0)) := Lib.hid (nlP_take (l := x.data.toList) (k := k2) (by rw [size_data]; exact hlt2))
          have hm2 : nl (x.data.toList.take k2) ≤ k2 := Nat.le_trans (nl_le _) (List.length_take_le _ _)
          generalize nl (x.data.toList.take k2) = m2 at *
          by_cases h10 : x[k2].toNat = 10
          · have c10 : ((x[k2].toNat : Int) == 10) = true := by simp [h10]
            have HS2 : Hid (nl (x.data.toList.take (k2 + 1)) = m2 + 1) := Lib.hid (by rw [HS.out, if_pos h10])
            clear h10
            go_wp2_with fail
            go_round
            case rel => exact ⟨k2 + 1, by omega, by go_num, by rw [HS2.out]; go_num⟩
            case measure => simp [intOf]; omega
          · have c10 : ((x[k2].toNat : Int) == 10) = false := by simp; omega
            have HS2 : Hid (nl (x.data.toList.take (k2 + 1)) = m2) := Lib.hid (by rw [HS.out, if_neg h10]; rfl)
            clear h10
            go_wp2_with fail
            go_round
            case rel => exact ⟨k2 + 1, by omega, by go_num, by rw [HS2.out]⟩
            case measure => simp [intOf]; omega
        · obtain rfl : k2 = x.size := by omega
          rw [List.take_of_length_le (by rw [size_data]; exact Nat.le_refl _)]
          have hnl : nl x.data.toList ≤ 980 := Nat.le_trans (nl_le _) (by rw [size_data]; exact hsz)
          rcases HC5.out with ⟨c0, c1, c2⟩ | ⟨c0, c1, q, c2, c3, c4, c5⟩
          · subst c2
            generalize nl x.data.toList = m3 at *
            have e1 : decide (nn < 0) = false := by simp; omega
            have e2 : decide (((1 + m3 : Nat) : Int) < nn) = false := by simp; omega
            go_wp2_with fail
            go_roundw
            case rel => exact ⟨k + 1, by omega, by go_num, Lib.hid ⟨HST5.out.below ((Below.refl _ _).alloc (Nat.le_refl _) _) (by omega), by simp; omega, HB5.out.alloc HB5.out.size _⟩⟩
            case measure => simp [intOf]; omega
          · subst c0
            subst c1
            generalize nl x.data.toList = m3 at *
            have e2 : decide (((1 + m3 : Nat) : Int) < 0) = false := by simp; omega
            have CK5 : Hid (∀ o, Calls Tryd.prog 12 #[.agg #[.int .i64 pv, .slice QA qn qc]] (w5.alloc o) fun e w' => e = .returned (.int .i64 0) ∧ Below (w5.alloc o).heap.size (w5.alloc o) w') := Lib.hid (fun o => by
              have := CK.out (w5.alloc o) QA qn qc q (HB5.out.alloc HB5.out.size _) (c4.up ((Below.refl _ _).alloc (Nat.le_refl _) o)) c3 c5
              rw [c2] at this
              exact this)
            clear c2 c3 c4 c5 HC5
            go_wp2_with (go_at_call 12; go_must (refine (CK5.out _).mono ?_; rintro e w9 ⟨rfl, hb9⟩; (have HB9 := Lib.hid hb9); clear hb9))
            go_roundw
            case rel => exact ⟨k + 1, by omega, by go_num, Lib.hid ⟨(HST5.out.below ((Below.refl _ _).alloc (Nat.le_refl _) _) (by omega)).below HB9.out (by simp; omega), by have := HB9.out.size; simp at this; omega, (HB5.out.alloc HB5.out.size _).trans (HB9.out.mono (by have := HB5.out.size; simp; omega))⟩⟩
            case measure => simp [intOf]; omega
    · obtain rfl : k = 4 := by omega
      have HBW := Lib.hid hbw
      clear hst hbw
      go_wp2_with fail
      go_ret
      exact ⟨rfl, HBW.out⟩
end Go.Proofs.YtpkefohcccpncaaDoor
