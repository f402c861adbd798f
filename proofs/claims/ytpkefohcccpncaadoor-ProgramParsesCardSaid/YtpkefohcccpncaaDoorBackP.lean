/- The walk of ProgramBack. -/
import Derived.Test.YtpkefohcccpncaaDoorSane
import Derived.Test.YtpkefohcccpncaaDoorDiceP
import Derived.Test.YtpkefohcccpncaaDoorTextLaw
import Derived.Test.YtpkefohcccpncaaDoorPrgLaw
namespace Go.Proofs.YtpkefohcccpncaaDoor
open Go.RowKit
set_option linter.unusedSimpArgs false
set_option linter.unusedVariables false

/-- a list of seeds that came in -/
structure SeedsArg (w : World) (A : Option Addr) (n c : Nat) : Prop where
  le : n ≤ c
  c63 : c ≤ 9223372036854775807
  rd : ∃ zs : List Int, ∀ k, k < n → ∃ ad : Addr, A = some ad ∧ ad.block < w.heap.size ∧ w.cell? (ad.add k) = some (.int .u8 (zs.getD k 0)) ∧ 0 ≤ zs.getD k 0 ∧ zs.getD k 0 ≤ 255
theorem SeedsArg.up {w w' : World} {A : Option Addr} {n c : Nat} (h : SeedsArg w A n c) (hb : Below w.heap.size w w') : SeedsArg w' A n c := by
  obtain ⟨h1, h2, zs, hr⟩ := h
  refine ⟨h1, h2, zs, fun k hk => ?_⟩
  obtain ⟨ad, e, hl, hc, hz⟩ := hr k hk
  exact ⟨ad, e, Nat.lt_of_lt_of_le hl hb.size, (hb.cell (by rw [add_block]; exact hl)).trans hc, hz⟩
theorem pnew_arg (w : World) (A : Option Addr) (n c : Nat) (h : SeedsArg w A n c) : Calls Tryd.prog 6 #[.slice A n c] w (PNewPost w) := by
  obtain ⟨h1, h2, zs, hr⟩ := h
  exact pnew_any w A n c zs h1 h2 hr
theorem prgOk_of {p : Prg} (h : checkP p = true) : PrgOk p := by
  have hv := valid_of h
  have h6 := valid_l6 h
  refine ⟨by have := hv.t6; omega, fun t ht => ⟨by have := h6 t ht; omega, ?_⟩⟩
  have := named_len (hv.nms t ht)
  rw [size_data] at this
  omega
theorem below_dice {a u v : World} (h : Below a.heap.size a u) (hg : u.grownBy v (some u.heap.size)) : Below a.heap.size a v := h.trans (below_grownS hg h.size h.size)

set_option maxRecDepth 100000 in
set_option maxHeartbeats 8000000 in
theorem pback_any (A : Option Addr) (n c : Nat) (at_ by_ : Int) (hy0 : 0 ≤ by_) (hy1 : by_ ≤ 255) (w : World) (hg : GlobP w) (hA : SeedsArg w A n c) :
    Calls Tryd.prog 3 #[.slice A n c, .int .i64 at_, .int .u8 by_] w fun e w' => e = .returned (.bool true) ∧ Below w.heap.size w w' := by
  have HG := Lib.hid hg
  have HA := Lib.hid hA
  clear hg hA
  have SA : Hid (∀ W, Below w.heap.size w W → Calls Tryd.prog 5 #[] W fun e w' => e = .returned (.bool true) ∧ Below W.heap.size W w') := Lib.hid (fun W h => sane_any W (HG.out.below h))
  have NE : Hid (∀ W, Below w.heap.size w W → Calls Tryd.prog 6 #[.slice A n c] W (PNewPost W)) := Lib.hid (fun W h => pnew_arg W A n c (HA.out.up h))
  have TX : Hid (∀ W A n c p, Below w.heap.size w W → ThsAt W W.heap.size A p.ts → p.ts.length = n → checkP p = true → Calls Tryd.prog 8 #[.agg #[.int .i64 p.v, .slice A n c]] W (fun e w' => Below W.heap.size W w' ∧ ∃ s : ByteArray, e = .returned (.tuple #[.string s, .int .i64 0]) ∧ s.data.toList = textP p)) := Lib.hid (fun W A n c p h hT hn hc => (text_any p A n c W hT hn (HG.out.below h) (prgOk_of hc) true hc).mono fun e w' ⟨hb, s, he, hs⟩ => ⟨hb, s, he, hs rfl⟩)
  have PA : Hid (∀ W (s : ByteArray) R, Below w.heap.size w W → s.size ≤ 4096 → parseP s.data.toList = R → Calls Tryd.prog 9 #[.string s] W (ParPost W R)) := Lib.hid (fun W s R h hs hR => by
    have := parse_any s W hs (HG.out.below h)
    rw [hR] at this
    exact this)
  go_enter Tryd.func3, Tryd.ntmps3
  go_wp2_with fail
  refine (SA.out _ (Below.refl _ _)).mono ?_
  rintro e w1 ⟨rfl, hb1⟩
  have HB1 := Lib.hid hb1
  clear hb1
  go_wp2_with fail
  refine (NE.out _ HB1.out).mono ?_
  rintro e w2 ⟨rfl, hd2, hb2⟩
  have HB2 := Lib.hid (HB1.out.trans (hb2.mono HB1.out.size))
  have HD2 := Lib.hid hd2
  have HB21 := Lib.hid hb2
  clear hd2 hb2
  go_wp2_with fail
  refine (dprogram_any _ _ HD2.out).mono ?_
  rintro e w3 ⟨p, PA3, pc3, rfl, hp3, hok3, hd3, hg3⟩
  have HB3 : Hid (Below w.heap.size w w3) := Lib.hid (HB2.out.trans (below_grownS hg3 HB1.out.size HB2.out.size))
  have HP3 := Lib.hid hp3
  have HCK := Lib.hid hok3.check
  obtain ⟨pn, hpn⟩ : ∃ pn, p.ts.length = pn := ⟨_, rfl⟩
  obtain ⟨pv, hpv⟩ : ∃ pv, p.v = pv := ⟨_, rfl⟩
  rw [hpn, hpv]
  have HPN := Lib.hid hpn
  have HPV := Lib.hid hpv
  have hz3 := HB3.out.size
  clear hp3 hok3 hd3 hg3 hpn hpv HD2 HB21 HB2
  go_wp2_with fail
  have TX3 : Hid (∀ W, Below w3.heap.size w3 W → Calls Tryd.prog 8 #[.agg #[.int .i64 pv, .slice PA3 pn pc3]] W (fun e w' => Below W.heap.size W w' ∧ ∃ s : ByteArray, e = .returned (.tuple #[.string s, .int .i64 0]) ∧ s.data.toList = textP p)) := Lib.hid (fun W h => by
    have := TX.out W PA3 pn pc3 p (HB3.out.trans (h.mono hz3)) (HP3.out.up h) HPN.out HCK.out
    rw [HPV.out] at this
    exact this)
  refine (TX3.out _ ((Below.refl _ _).alloc (Nat.le_refl _) _)).mono ?_
  rintro e w4 ⟨hb4, t, rfl, ht⟩
  have HT4 := Lib.hid ht
  have HB34 : Hid (Below w3.heap.size w3 w4) := Lib.hid (((Below.refl _ _).alloc (Nat.le_refl _) _).trans (hb4.mono (by simp)))
  have HK4 : Hid (Blk w4 w3.heap.size 26 #[.int .i64 pv, .slice PA3 pn pc3]) := Lib.hid ((Blk.new w3 _ _).below hb4 (by simp))
  have hts : t.size ≤ 980 ∧ 0 < t.size := by
    obtain ⟨h1, h2⟩ := textP_len HCK.out
    rw [← ht] at h1 h2
    rw [← size_data]
    exact ⟨h1, List.length_pos_iff.2 h2⟩
  obtain ⟨hts1, hts0⟩ := hts
  have hz4 := HB34.out.size
  clear ht hb4 TX3
  go_wp2_with fail
  refine (PA.out _ t (.inr p) (HB3.out.trans (HB34.out.mono hz3)) (by omega) (by rw [HT4.out]; exact parse_back HCK.out)).mono ?_
  rintro e w5 ⟨hb5, PA5, pc5, rfl, hp5⟩
  rw [HPN.out, HPV.out]
  have HP5 := Lib.hid hp5
  have HB35 : Hid (Below w3.heap.size w3 w5) := Lib.hid (HB34.out.trans (hb5.mono hz4))
  have HK5 : Hid (Blk w5 w3.heap.size 26 #[.int .i64 pv, .slice PA3 pn pc3]) := Lib.hid (HK4.out.below hb5 HK4.out.lt)
  have hz5 := HB35.out.size
  clear hb5 hp5
  have k50 := HK5.out.cell 0
  have k51 := HK5.out.cell 1
  have hk5 := HK5.out.lt
  go_wp2_with fail
  have SM : Hid (∀ o, Calls Tryd.prog 10 #[.agg #[.int .i64 pv, .slice PA3 pn pc3], .agg #[.int .i64 pv, .slice PA5 pn pc5]] (w5.alloc o) fun e w' => e = .returned (.bool true) ∧ Below (w5.alloc o).heap.size (w5.alloc o) w') := Lib.hid (fun o => by
    have := sameP_any p p PA3 PA5 pn pn pc3 pc5 (w5.alloc o) (HP3.out.up (HB35.out.alloc hz5 _)) (HP5.out.up ((Below.refl _ _).alloc (Nat.le_refl _) _)) HPN.out HPN.out (prgOk_of HCK.out) true (sameP_self p)
    rw [HPV.out] at this
    exact this)
  refine (SM.out _).mono ?_
  rintro e w6 ⟨rfl, hb6⟩
  have HB6 : Hid (Below w.heap.size w w6) := Lib.hid ((HB3.out.trans ((HB35.out.alloc hz5 _).mono hz3)).trans (hb6.mono (by simp; omega)))
  have hz6 := HB6.out.size
  clear hb6 SM k50 k51 hk5 HK5 HB35 HP5 HK4 HB34 HP3 HB3 HPV HPN
  obtain ⟨C, cap, hconv, hC⟩ := conv_pack w6 t
  have HC := Lib.hid hC
  clear hC
  obtain ⟨j, hj⟩ := Int.eq_ofNat_of_zero_le (Int.emod_nonneg at_ (show (t.size : Int) ≠ 0 by omega))
  have hjl : j < t.size := by
    have := Int.emod_lt_of_pos at_ (show (0 : Int) < t.size by omega)
    omega
  have MO : Hid (∀ W : World, Calls Tryd.prog 11 #[.int .i64 at_, .int .i64 (t.size : Int)] W fun e w' => e = .returned (.int .i64 (j : Int)) ∧ W = w') := Lib.hid (fun W => by
    have := pmod_any W at_ t.size (by omega) (by omega)
    rw [hj] at this
    exact this)
  obtain ⟨vj, hcj⟩ := HC.out.cell hjl
  have hfz := HC.out.frozen hjl
  clear hj
  go_upto_region 10 with (go_at_call 11; go_must (refine (MO.out _).mono ?_; rintro e w' ⟨rfl, rfl⟩))
  refine wp_world (fun X => Hid (BytesAt X w6.heap.size (t.data.toList.set j (UInt8.ofNat by_.toNat)) ∧ Below w.heap.size w X)) (Lib.hid ⟨?_, ?_⟩) ?_
  · exact BytesAt.set_ HC.out.at_ (show j < t.data.toList.length from hjl) hy0 hy1
  · exact (((HB6.out.alloc hz6 _).setCell (p := ⟨w6.heap.size, j, none⟩) hz6 _)).drew
  intro X HX
  obtain ⟨s2, hs2⟩ : ∃ s2 : ByteArray, s2.data.toList = t.data.toList.set j (UInt8.ofNat by_.toNat) := ⟨⟨(t.data.toList.set j (UInt8.ofNat by_.toNat)).toArray⟩, rfl⟩
  have hs2l : s2.size = t.size := by rw [← size_data, hs2, List.length_set, size_data]
  have hback := HX.out.1.back cap (n := t.size) (by rw [List.length_set, size_data]) hs2
  have HB7 := Lib.hid HX.out.2
  have HBY := Lib.hid HX.out.1
  have HS2L : Hid (s2.size = t.size) := Lib.hid hs2l
  have hs24 : s2.size ≤ 4096 := by omega
  have HS2 := Lib.hid hs2
  have hz7 := HB7.out.size
  have hX6 : w6.heap.size < X.heap.size := by
    have := HX.out.1 j (by rw [List.length_set]; exact hjl)
    by_cases h : w6.heap.size < X.heap.size
    · exact h
    · exfalso; simp only [World.cell?, Array.getElem?_eq_none (Nat.le_of_not_lt h)] at this; cases this
  clear hs2 hs2l hconv hcj hfz HC MO HX
  rcases hR : parseP s2.data.toList with m | q
  · have PA2 := Lib.hid (fun W h => PA.out W s2 _ h hs24 hR)
    clear hR
    go_wp2_with fail
    refine (PA2.out _ HB7.out).mono ?_
    rintro e w8 ⟨hb8, rfl⟩
    have HB8 := Lib.hid (HB7.out.trans (hb8.mono hz7))
    clear hb8 hback
    go_wp2_with fail
    go_ret
    exact ⟨rfl, HB8.out.alloc HB8.out.size _⟩
  · have PA2 := Lib.hid (fun W h => PA.out W s2 _ h hs24 hR)
    have HQ := Lib.hid (parse_text _ _ hR)
    have HQC := Lib.hid (parse_checks _ _ hR)
    clear hR
    go_wp2_with fail
    refine (PA2.out _ HB7.out).mono ?_
    rintro e w8 ⟨hb8, PA8, pc8, rfl, hp8⟩
    obtain ⟨qn, hqn⟩ : ∃ qn, q.ts.length = qn := ⟨_, rfl⟩
    obtain ⟨qv, hqv⟩ : ∃ qv, q.v = qv := ⟨_, rfl⟩
    rw [hqn, hqv]
    have HB8 := Lib.hid (HB7.out.trans (hb8.mono hz7))
    have HBY8 := Lib.hid (HBY.out.below hb8 hX6)
    have TX8 : Hid (∀ o, Calls Tryd.prog 8 #[.agg #[.int .i64 qv, .slice PA8 qn pc8]] (w8.alloc o) (fun e w' => Below (w8.alloc o).heap.size (w8.alloc o) w' ∧ ∃ s : ByteArray, e = .returned (.tuple #[.string s, .int .i64 0]) ∧ s.data.toList = textP q)) := Lib.hid (fun o => by
      have hup : Below w8.heap.size w8 (w8.alloc o) := (Below.refl _ _).alloc (Nat.le_refl _) o
      have := TX.out (w8.alloc o) PA8 qn pc8 q (HB8.out.alloc HB8.out.size _) (hp8.up hup) hqn HQC.out
      rw [hqv] at this
      exact this)
    have hz8 := HB8.out.size
    have hX8 : w6.heap.size < w8.heap.size := by have := hb8.size; omega
    clear hb8 hp8 hqn hqv hback
    go_wp2_with fail
    refine (TX8.out _).mono ?_
    rintro e w9 ⟨hb9, u, rfl, hu⟩
    obtain rfl : u = s2 := bytes_ext (by rw [hu]; exact HQ.out)
    have HB9 := Lib.hid ((HB8.out.alloc hz8 _).trans (hb9.mono (by simp; omega)))
    have hback9 := ((HBY8.out.below ((Below.refl _ _).alloc (Nat.le_refl _) _) hX8).below hb9 (by simp; omega)).back cap (n := t.size) (by rw [List.length_set, size_data]) HS2.out
    clear hb9 hu TX8
    go_wp2_with fail
    go_ret
    exact ⟨rfl, HB9.out⟩
end Go.Proofs.YtpkefohcccpncaaDoor
