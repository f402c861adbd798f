/- The reference's text of a line, and of a program. The reference's reading: two, digits, read. -/
import Derived.Test.YtpkefohcccpncaaGreatDoorQAl
import Derived.Test.YtpkefohcccpncaaGreatDoorQAh
import Derived.Deep.RegionHeld3
import Derived.Test.YtpkefohcccpncaaGreatDoorQAd
import Derived.Test.YtpkefohcccpncaaGreatDoorQAe
import Derived.Test.YtpkefohcccpncaaGreatDoorShelf
import Derived.Test.YtpkefohcccpncaaGreatDoorQAk
namespace Go.Proofs.YtpkefohcccpncaaGreatDoor
open Go.RowKit
set_option linter.unusedSimpArgs false
set_option linter.unusedVariables false

set_option maxHeartbeats 4000000 in
theorem rline_any (p : Prg) (A : Option Addr) (n c : Nat) (w : World) (hT : ThsAt w w.heap.size A p.ts) (hn : p.ts.length = n) (hn9 : n ≤ 1000000) (m : Nat) (l : Ln) (hl : LnOk p m l) :
    Calls Tryz.prog 43 #[.agg #[.int .i64 p.v, .slice A n c], .agg #[.int .i64 l.k, .int .i64 l.a, .int .i64 l.n]] w (StrPost w (lineT p l)) := by
  have HL := Lib.hid hl
  have HT := Lib.hid hT
  have HN := Lib.hid hn
  have hk : l.k = 1 ∨ l.k = 2 ∨ l.k = 3 ∨ l.k = 4 ∨ l.k = 5 ∨ l.k = 6 ∨ l.k = 7 := by have := hl.k1; have := hl.k7; have := hl.kn; omega
  have a0 := hl.a0
  have a9 := hl.a9
  obtain ⟨lk, la, lm⟩ := l
  dsimp only at *
  obtain ⟨u, rfl⟩ := Int.eq_ofNat_of_zero_le a0
  generalize hpv : p.v = v at *
  have HB2 : Hid (∀ o1 o2, Below w.heap.size w ((w.alloc o1).alloc o2)) := Lib.hid (fun o1 o2 => ((Below.refl _ _).alloc (Nat.le_refl _) _).alloc (by simp) _)
  have IT : ∀ W : World, Calls Tryz.prog 40 #[.int .i64 (u : Int)] W fun e w' => e = .returned (.string ⟨(Lib.decDigits u).toArray⟩) ∧ W = w' := fun W => (Tryz.strconv_Itoa_small u (by omega) W).mono fun e w' h => ⟨h.1, h.2.symm⟩
  have hdl : (Lib.decDigits u).length ≤ 7 := by rw [Lib.decDigits_length]; exact nDigits_le 6 u (by omega)
  have hsz : (⟨(Lib.decDigits u).toArray⟩ : ByteArray).size ≤ 7 := hdl
  obtain ⟨du, hdu⟩ : ∃ du : ByteArray, du = ⟨(Lib.decDigits u).toArray⟩ := ⟨_, rfl⟩
  rw [← hdu] at IT hsz
  have HDU : Hid (du.data.toList = Lib.itoa (u : Int)) := Lib.hid (by rw [hdu, Lib.itoa_nonneg])
  have HIT := Lib.hid IT
  clear IT hdl hdu hpv hl hT hn a0
  rcases hk with rfl | rfl | rfl | rfl | rfl | rfl | rfl
  · have HR : Hid (∀ s : ByteArray, s.data.toList = [115, 101, 116, 32] ++ Lib.itoa (u : Int) → s.data.toList = lineT p ⟨1, u, lm⟩) := Lib.hid (fun s h => h)
    go_enter Tryz.func43, Tryz.ntmps43
    go_wp2_with (go_at_call 40; go_must (refine (HIT.out _).mono ?_; rintro e w' ⟨rfl, rfl⟩))
    go_ret
    exact ⟨_, rfl, HR.out _ (by simp only [append_data, HDU.out]), HB2.out _ _⟩
  · have HR : Hid (∀ s : ByteArray, s.data.toList = [119, 104, 101, 110, 32] ++ Lib.itoa (u : Int) → s.data.toList = lineT p ⟨2, u, lm⟩) := Lib.hid (fun s h => h)
    go_enter Tryz.func43, Tryz.ntmps43
    go_wp2_with (go_at_call 40; go_must (refine (HIT.out _).mono ?_; rintro e w' ⟨rfl, rfl⟩))
    go_ret
    exact ⟨_, rfl, HR.out _ (by simp only [append_data, HDU.out]), HB2.out _ _⟩
  · have HR : Hid (∀ s : ByteArray, s.data.toList = [106, 117, 109, 112, 32] ++ Lib.itoa (u : Int) → s.data.toList = lineT p ⟨3, u, lm⟩) := Lib.hid (fun s h => h)
    go_enter Tryz.func43, Tryz.ntmps43
    go_wp2_with (go_at_call 40; go_must (refine (HIT.out _).mono ?_; rintro e w' ⟨rfl, rfl⟩))
    go_ret
    exact ⟨_, rfl, HR.out _ (by simp only [append_data, HDU.out]), HB2.out _ _⟩
  · have HR : Hid (∀ s : ByteArray, s.data.toList = [109, 97, 121, 98, 101, 32] ++ Lib.itoa (u : Int) → s.data.toList = lineT p ⟨4, u, lm⟩) := Lib.hid (fun s h => h)
    go_enter Tryz.func43, Tryz.ntmps43
    go_wp2_with (go_at_call 40; go_must (refine (HIT.out _).mono ?_; rintro e w' ⟨rfl, rfl⟩))
    go_ret
    exact ⟨_, rfl, HR.out _ (by simp only [append_data, HDU.out]), HB2.out _ _⟩
  · obtain ⟨t, ht, hnm⟩ := HL.out.at3 rfl
    obtain ⟨hul, hut⟩ := List.getElem?_eq_some_iff.1 ht
    simp only [Int.toNat_natCast] at hul hut
    have hun : u < n := by rw [← HN.out]; exact hul
    obtain ⟨ad, LA, lc, rfl, hab, h0, h1, hLn⟩ := HT.out.at_ hul
    rw [hut] at h0
    have h0' : ∀ a b : Obj, ((w.alloc a).alloc b).cell? (ad.add (u * 2)) = some (.string t.nm) := fun a b =>
      (HB2.out a b).cell (p := ad.add (u * 2)) (by rw [add_block]; exact hab) |>.trans h0
    have hn12 : t.nm.size ≤ 12 := named_len hnm
    have HR : Hid (∀ s : ByteArray, s.data.toList = [115, 112, 97, 119, 110, 32] ++ t.nm.data.toList → s.data.toList = lineT p ⟨5, u, lm⟩) := Lib.hid (fun s h => by
      rw [h]
      show _ = kwOf 5 ++ 32 :: ((p.ts[((u : Nat) : Int).toNat]?.map fun t => t.nm.data.toList).getD [])
      rw [ht]; rfl)
    clear h1 hLn ht hut hul
    generalize t.nm = nm at *
    go_enter Tryz.func43, Tryz.ntmps43
    go_wp2_with fail
    go_ret
    exact ⟨_, rfl, HR.out _ (by simp only [append_data]), HB2.out _ _⟩
  · go_enter Tryz.func43, Tryz.ntmps43
    go_wp2_with fail
    go_ret
    exact ⟨_, rfl, rfl, HB2.out _ _⟩
  · go_enter Tryz.func43, Tryz.ntmps43
    go_wp2_with fail
    go_ret
    exact ⟨_, rfl, rfl, HB2.out _ _⟩

/-- the text so far: the first k threads -/
def rtx (p : Prg) (k : Nat) : List UInt8 := kwValues ++ 32 :: Lib.itoa p.v ++ [10] ++ (p.ts.take k).flatMap (thT p)
/-- .. and a thread with its first lines -/
def rtxL (p : Prg) (k : Nat) (nm : List UInt8) (ls : List Ln) : List UInt8 := rtx p k ++ (kwThread ++ 32 :: nm ++ [10]) ++ linesT p ls
theorem rtx_all (p : Prg) : rtx p p.ts.length = textP p := by unfold rtx textP; rw [List.take_length]
theorem rtx_succ {p : Prg} {k : Nat} (hk : k < p.ts.length) : rtx p (k + 1) = rtxL p k p.ts[k].nm.data.toList p.ts[k].ls ++ kwEnd ++ [10] := by
  unfold rtxL rtx
  rw [List.take_succ_eq_append_getElem hk, List.flatMap_append]
  simp [thT, List.append_assoc]
theorem rtxL_succ {p : Prg} {k j : Nat} {nm : List UInt8} {ls : List Ln} (hj : j < ls.length) : rtxL p k nm (ls.take (j + 1)) = rtxL p k nm (ls.take j) ++ (lineT p ls[j] ++ [10]) := by
  unfold rtxL linesT
  rw [List.take_succ_eq_append_getElem hj, List.flatMap_append]
  simp [List.append_assoc]
theorem rtx_len {p : Prg} (h : checkP p = true) (k : Nat) : (rtx p k).length ≤ 980 := by
  have h1 := (textP_len h).1
  have : textP p = rtx p k ++ (p.ts.drop k).flatMap (thT p) := by
    have e : (p.ts.take k).flatMap (thT p) ++ (p.ts.drop k).flatMap (thT p) = p.ts.flatMap (thT p) := by rw [← List.flatMap_append, List.take_append_drop]
    unfold textP rtx
    rw [← e]; simp only [List.append_assoc]
  rw [this, List.length_append] at h1
  omega
theorem rtxL_len {p : Prg} (h : checkP p = true) {k : Nat} (hk : k < p.ts.length) (j : Nat) : (rtxL p k p.ts[k].nm.data.toList (p.ts[k].ls.take j)).length ≤ 980 := by
  have h1 := rtx_len h (k + 1)
  rw [rtx_succ hk] at h1
  have h2 : linesT p p.ts[k].ls = linesT p (p.ts[k].ls.take j) ++ linesT p (p.ts[k].ls.drop j) := by
    unfold linesT; rw [← List.flatMap_append, List.take_append_drop]
  unfold rtxL at h1 ⊢
  rw [h2] at h1
  simp only [List.length_append] at h1 ⊢
  omega
theorem sz_of {s : ByteArray} {l : List UInt8} (h : s.data.toList = l) : s.size = l.length := by rw [← h]; simp
def rtextL (p : Prg) (b : Bool) : List UInt8 := if b then textP p else []
def RTextPost (w : World) (p : Prg) (b : Bool) (e : Ending) (w' : World) : Prop := Below w.heap.size w w' ∧ ∃ s : ByteArray, e = .returned (.tuple #[.string s, .int .i64 (chkR b)]) ∧ s.data.toList = rtextL p b
set_option maxRecDepth 100000 in
set_option maxHeartbeats 8000000 in
theorem rtext_any (p : Prg) (A : Option Addr) (n c : Nat) (w : World) (hT : ThsAt w w.heap.size A p.ts) (hn : p.ts.length = n) (hok : PrgOk p) (b : Bool) (hb : checkP p = b) :
    Calls Tryz.prog 17 #[.agg #[.int .i64 p.v, .slice A n c]] w (RTextPost w p b) := by
  have CK : Hid (∀ o, Calls Tryz.prog 19 #[.agg #[.int .i64 p.v, .slice A n c]] (w.alloc o) fun e w' => e = .returned (.int .i64 (chkR b)) ∧ Below (w.alloc o).heap.size (w.alloc o) w') := Lib.hid (fun o =>
    rcheck_any p A n c (w.alloc o) (hT.up ((Below.refl _ _).alloc (Nat.le_refl _) o)) hn hok b hb)
  rcases b with _ | _
  · generalize p.v = v at *
    clear hT hn hok hb
    go_enter Tryz.func17, Tryz.ntmps17
    go_wp2_with (go_at_call 19; go_must (refine (CK.out _).mono ?_; rintro e w1 ⟨rfl, hb1⟩; unfold chkR))
    go_ret2
    exact ⟨((Below.refl _ _).alloc (Nat.le_refl _) _).trans (hb1.mono (by simp)), _, rfl, rfl⟩
  have hv := valid_of hb
  have h6 := valid_l6 hb
  obtain ⟨u, hu⟩ := Int.eq_ofNat_of_zero_le (show 0 ≤ p.v by have := hv.v1; omega)
  have hu8 : u ≤ 8 := by have := hv.v8; omega
  have IT : ∀ W : World, Calls Tryz.prog 40 #[.int .i64 p.v] W fun e w' => e = .returned (.string ⟨(Lib.itoa p.v).toArray⟩) ∧ W = w' := fun W => by
    have := Tryz.strconv_Itoa_small u (by omega) W
    rw [hu, Lib.itoa_nonneg]; exact this.mono fun e w' h => ⟨h.1, h.2.symm⟩
  obtain ⟨du, hdu⟩ : ∃ du : ByteArray, du = ⟨(Lib.itoa p.v).toArray⟩ := ⟨_, rfl⟩
  rw [← hdu] at IT
  have hdl : du.size ≤ 7 := by rw [hdu]; exact decD_len (by have := hv.v1; omega) (by have := hv.v8; omega)
  have HS0 : Hid (∀ s : ByteArray, s.data.toList = [118, 97, 108, 117, 101, 115, 32] ++ du.data.toList ++ [10] → s.data.toList = rtx p 0) := Lib.hid (fun s h => by
    rw [h, hdu]; simp [rtx, kwValues])
  have HIT := Lib.hid IT
  have hn6 : n ≤ 6 := by rw [← hn]; exact hv.t6
  have TO : Hid (∀ (W : World), Below w.heap.size w W → ∀ m l, LnOk p m l → Calls Tryz.prog 43 #[.agg #[.int .i64 p.v, .slice A n c], .agg #[.int .i64 l.k, .int .i64 l.a, .int .i64 l.n]] W (StrPost W (lineT p l))) := Lib.hid (fun W hW m l hl =>
    rline_any p A n c W ((hT.below hW).more hW.size) hn (by omega) m l hl)
  have HT := Lib.hid hT
  have HV := Lib.hid hv
  have H6 := Lib.hid h6
  have HN := Lib.hid hn
  have HBC := Lib.hid hb
  clear hT hn hok hb hv h6 hu IT hdu
  generalize hpv : p.v = v at *
  clear hpv
  go_enter Tryz.func17, Tryz.ntmps17
  go_wp2_with (first
    | (go_at_call 19; go_must (refine (CK.out _).mono ?_; rintro e w1 ⟨rfl, hb1⟩; unfold chkR; (have hpb : Blk w1 w.heap.size 28 #[.int .i64 v, .slice A n c] := (Blk.new w _ _).below hb1 (by simp)); (have p0 := hpb.cell 0); (have p1 := hpb.cell 1); (have HPB := Lib.hid hpb); (have z1 : w.heap.size < w1.heap.size := by have := hb1.size; simp at this; omega); clear hpb))
    | (go_at_call 40; go_must (refine (HIT.out _).mono ?_; rintro e w' ⟨rfl, rfl⟩)))
  have HB1 := Lib.hid (((Below.refl w.heap.size w).alloc (Nat.le_refl _) _).trans (hb1.mono (by simp)))
  clear hb1 CK
  go_loopw [5, 6] (fun s5 s6 wr => ∃ (k : Nat) (s : ByteArray), k ≤ n ∧ s5 = .string s ∧ s6 = .int .i64 k ∧ s.size ≤ 980 ∧ Hid (s.data.toList = rtx p k ∧ Below w.heap.size w wr ∧ Blk wr w.heap.size 28 #[.int .i64 v, .slice A n c])) (fun _ s6 _ => n - (intOf s6).toNat)
  case atStart =>
    have h0 := HS0.out (⟨#[118, 97, 108, 117, 101, 115, 32]⟩ ++ du ++ ⟨#[10]⟩) (by simp only [append_data])
    exact ⟨0, _, by omega, rfl, rfl, by rw [sz_of h0]; exact rtx_len HBC.out 0, Lib.hid ⟨h0, HB1.out, HPB.out⟩⟩
  case round =>
    obtain ⟨wo, rfl⟩ : ∃ wo : World, wo = wr := ⟨_, rfl⟩
    obtain ⟨k, s, hk, rfl, rfl, hs9, HR⟩ := hrel
    obtain ⟨hse, hbw, hpb⟩ := HR.out
    have p1 := hpb.cell 1
    have p0 := hpb.cell 0
    have zwo : w.heap.size < wo.heap.size := hpb.lt
    by_cases hlt : k < n
    · have hkp : k < p.ts.length := by rw [HN.out]; exact hlt
      obtain ⟨ad, LA, lc, rfl, hab, h0, h1, hL⟩ := HT.out.at_ hkp
      replace h0 := (hbw.cell (p := ad.add (k * 2)) (by rw [add_block]; exact hab)).trans h0
      replace h1 := (hbw.cell (p := ⟨(ad.add (k * 2)).block, (ad.add (k * 2)).off + 1, none⟩) (by simp only [add_block]; exact hab)).trans h1
      obtain ⟨m, hm⟩ := thsOk_at _ _ HV.out.ths k hkp
      have hl6 := H6.out _ (List.getElem_mem hkp)
      have HSU := Lib.hid (rtx_succ hkp)
      have HLE := Lib.hid (rtxL_len HBC.out hkp)
      generalize ht : p.ts[k]'hkp = t at *
      obtain ⟨nm, ls⟩ := t
      dsimp only at *
      obtain ⟨ln, hln⟩ : ∃ ln, ls.length = ln := ⟨_, rfl⟩
      rw [hln] at h1 hl6
      have hnm12 : nm.size ≤ 12 := named_len hm.nm
      have HM := Lib.hid hm
      have HL := Lib.hid hL
      have HLN := Lib.hid hln
      have HBW := Lib.hid hbw
      have HPB2 := Lib.hid hpb
      have HSE := Lib.hid hse
      have H1 := Lib.hid h1
      have k0 : (0 : Int) ≤ (k : Int) := by omega
      have k1 : (k : Int) < (n : Int) := by omega
      clear hm hL hln hbw hpb ht hse HR
      go_wp2_with fail
      go_loopw [5, 7] (fun s5 s7 wr => ∃ (j : Nat) (s : ByteArray), j ≤ ln ∧ s5 = .string s ∧ s7 = .int .i64 j ∧ s.size ≤ 980 ∧ Hid (s.data.toList = rtxL p k nm.data.toList (ls.take j) ∧ Below wo.heap.size wo wr)) (fun _ s7 _ => ln - (intOf s7).toNat)
      case atStart =>
        have h0 : (s ++ (⟨#[116, 104, 114, 101, 97, 100, 32]⟩ ++ nm ++ ⟨#[10]⟩)).data.toList = rtxL p k nm.data.toList (ls.take 0) := by
          simp only [append_data, HSE.out]; simp [rtxL, linesT, kwThread]
        exact ⟨0, _, by omega, rfl, rfl, by rw [sz_of h0]; exact HLE.out 0, Lib.hid ⟨h0, Below.refl _ _⟩⟩
      case round =>
        obtain ⟨j, s, hj, rfl, rfl, hs9, HR3⟩ := hrel
        obtain ⟨hse, hbw⟩ := HR3.out
        clear p0 p1 h0 h1
        have hpb := HPB2.out.below hbw zwo
        have zr : wo.heap.size ≤ wr.heap.size := hbw.size
        by_cases hjl : j < ln
        · have hjp : j < ls.length := by rw [HLN.out]; exact hjl
          obtain ⟨ad2, rfl, hab2, g0, g1, g2⟩ := (HL.out.below (HBW.out.trans (hbw.mono (by omega)))).at_ hjp
          obtain ⟨m2, hm2⟩ := lnsOk_at _ _ HM.out.ls j hjp
          have HTK := Lib.hid (rtxL_succ (p := p) (k := k) (nm := nm.data.toList) hjp)
          have hll := lineT_len hm2
          generalize hl : ls[j]'hjp = l at *
          obtain ⟨lk, la, lm⟩ := l
          dsimp only at *
          have KS : Hid (∀ W', Below wr.heap.size wr W' → W'.cell? ⟨w.heap.size, 0, none⟩ = some (.int .i64 v) ∧ W'.cell? ⟨w.heap.size, 1, none⟩ = some (.slice (some ad) n c) ∧ W'.cell? ⟨(ad.add (k * 2)).block, (ad.add (k * 2)).off + 1, none⟩ = some (.slice (some ad2) ln lc) ∧ W'.cell? (ad2.add (j * 3)) = some (.int .i64 lk) ∧ W'.cell? ⟨(ad2.add (j * 3)).block, (ad2.add (j * 3)).off + 1, none⟩ = some (.int .i64 la) ∧ W'.cell? ⟨(ad2.add (j * 3)).block, (ad2.add (j * 3)).off + 2, none⟩ = some (.int .i64 lm)) := Lib.hid (fun W' h => by
            have hb := hpb.below h (by omega)
            have hq := H1.out
            refine ⟨hb.cell 0, hb.cell 1, ?_, (h.cell (p := ad2.add (j * 3)) (by rw [add_block]; omega)).trans g0, (h.cell (p := ⟨(ad2.add (j * 3)).block, (ad2.add (j * 3)).off + 1, none⟩) (by simp only [add_block]; omega)).trans g1, (h.cell (p := ⟨(ad2.add (j * 3)).block, (ad2.add (j * 3)).off + 2, none⟩) (by simp only [add_block]; omega)).trans g2⟩
            exact ((h.mono (by omega) : Below wo.heap.size wr W').cell (p := ⟨(ad.add (k * 2)).block, (ad.add (k * 2)).off + 1, none⟩) (by simp only [add_block]; omega)).trans ((hbw.cell (p := ⟨(ad.add (k * 2)).block, (ad.add (k * 2)).off + 1, none⟩) (by simp only [add_block]; omega)).trans hq))
          have RL : Hid (∀ (W : World), Below wr.heap.size wr W → Calls Tryz.prog 43 #[.agg #[.int .i64 v, .slice (some ad) n c], .agg #[.int .i64 lk, .int .i64 la, .int .i64 lm]] W (StrPost W (lineT p ⟨lk, la, lm⟩))) := Lib.hid (fun W h => TO.out W ((HBW.out.trans (hbw.mono (by omega))).trans (h.mono (by omega))) m2 ⟨lk, la, lm⟩ hm2)
          unfold StrPost at RL
          have HR0 : Hid (Below wr.heap.size wr wr.drew) := Lib.hid (below_drewN (Below.refl _ _) 1)
          obtain ⟨p0, p1, q0, q1, q2, q3⟩ := KS.out wr (Below.refl _ _)
          have j0 : (0 : Int) ≤ (j : Int) := by omega
          have j1 : (j : Int) < (ln : Int) := by omega
          have HSE2 := Lib.hid hse
          have HB2 := Lib.hid hbw
          clear hse hbw hpb HR3 g0 g1 g2 hm2 hl
          go_upto_region 12 with fail
          go_region_held3 (fun w' => w'.cell? ⟨w.heap.size, 0, none⟩ = some (.int .i64 v) ∧ w'.cell? ⟨w.heap.size, 1, none⟩ = some (.slice (some ad) n c) ∧ w'.cell? ⟨(ad.add (k * 2)).block, (ad.add (k * 2)).off + 1, none⟩ = some (.slice (some ad2) ln lc) ∧ w'.cell? (ad2.add (j * 3)) = some (.int .i64 lk) ∧ w'.cell? ⟨(ad2.add (j * 3)).block, (ad2.add (j * 3)).off + 1, none⟩ = some (.int .i64 la) ∧ w'.cell? ⟨(ad2.add (j * 3)).block, (ad2.add (j * 3)).off + 2, none⟩ = some (.int .i64 lm)) (first | (refine KS.out _ ?_; first | exact HR0.out | exact HR5.out)) ((go_at_call 43; (with_reducible refine (RL.out _ HR0.out).mono ?_); rintro e w5 ⟨s5, rfl, hs5, hb5⟩; (have HR5 : Hid (Below wr.heap.size wr w5) := Lib.hid (HR0.out.trans hb5)); (have h18 : s5.size ≤ 18 := by rw [sz_of hs5]; exact hll); (have z1 : ¬ 9223372036854775807 < s5.size + (⟨#[10]⟩ : ByteArray).size := by show ¬ 9223372036854775807 < s5.size + 1; omega); (have z2 : ¬ 9223372036854775807 < s5.size + 1 := by omega); (have z3 : ¬ 9223372036854775807 < s.size + (s5.size + 1) := by omega); (have HS5 := Lib.hid hs5); clear hs5 hb5))
          have hnew : (s ++ (s5 ++ ⟨#[10]⟩)).data.toList = rtxL p k nm.data.toList (ls.take (j + 1)) := by
            simp only [append_data, HSE2.out, HS5.out, HTK.out]
          have hnl : (s ++ (s5 ++ ⟨#[10]⟩)).size ≤ 980 := by rw [sz_of hnew]; exact HLE.out (j + 1)
          have HNEW := Lib.hid hnew
          clear hnew z1 z2 z3 p0 p1 q0 q1 q2 q3
          go_wp2_with fail
          go_roundw
          case rel => exact ⟨j + 1, _, by omega, rfl, by go_num, hnl, Lib.hid ⟨HNEW.out, HB2.out.trans (HR5.out.mono zr)⟩⟩
          case measure => simp [intOf]; omega
        · obtain rfl : j = ln := by omega
          have p1 := hpb.cell 1
          have p0 := hpb.cell 0
          have h1 := (hbw.cell (p := ⟨(ad.add (k * 2)).block, (ad.add (k * 2)).off + 1, none⟩) (by simp only [add_block]; omega)).trans H1.out
          have hnew : (s ++ ⟨#[101, 110, 100, 10]⟩).data.toList = rtx p (k + 1) := by
            rw [List.take_of_length_le (show ls.length ≤ j by rw [HLN.out]; exact Nat.le_refl _)] at hse
            simp only [append_data, hse, HSU.out]
            simp [kwEnd]
          have hnl : (s ++ ⟨#[101, 110, 100, 10]⟩ : ByteArray).size ≤ 980 := by rw [sz_of hnew]; exact rtx_len HBC.out (k + 1)
          have HNEW := Lib.hid hnew
          have HBX := Lib.hid (HBW.out.trans (hbw.mono (by omega)))
          have HPX := Lib.hid hpb
          clear hse hbw hpb HR3 hnew
          go_wp2_with fail
          go_roundw
          case rel => exact ⟨k + 1, _, by omega, rfl, by go_num, hnl, Lib.hid ⟨HNEW.out, HBX.out, HPX.out⟩⟩
          case measure => simp [intOf]; omega
    · obtain rfl : k = n := by omega
      have HBW := Lib.hid hbw
      have HF : Hid (s.data.toList = textP p) := Lib.hid (by rw [hse, ← HN.out, rtx_all])
      clear hbw hpb hse HR
      go_wp2_with fail
      go_ret2
      exact ⟨HBW.out, _, rfl, HF.out⟩
end Go.Proofs.YtpkefohcccpncaaGreatDoor
namespace Go.Proofs.YtpkefohcccpncaaGreatDoor
open Go.RowKit
set_option linter.unusedSimpArgs false
set_option linter.unusedVariables false

theorem hasPrefix_iff (s p : List UInt8) : Lib.hasPrefix s p = decide (p <+: s) := by
  unfold Lib.hasPrefix
  rw [Bool.eq_iff_iff, List.isPrefixOf_iff_prefix, decide_eq_true_eq]
def TwoPost (w : World) (x f : List UInt8) (e : Ending) (w' : World) : Prop := ∃ r : ByteArray, e = .returned (.tuple #[.string r, .bool (twoL x f).isSome]) ∧ r.data.toList = (twoL x f).getD [] ∧ w = w'
set_option maxHeartbeats 2000000 in
theorem rtwo_any (s f : ByteArray) (w : World) (hs : s.size ≤ 100000) (hf : f.size ≤ 100) : Calls Tryz.prog 57 #[.string s, .string f] w (TwoPost w s.data.toList f.data.toList) := by
  have HP : Hid (∀ W : World, Calls Tryz.prog 78 #[.string s, .string (f ++ ⟨#[32]⟩)] W fun e w' => e = .returned (.bool (decide (f.data.toList ++ [32] <+: s.data.toList))) ∧ W = w') := by
    obtain ⟨f', hf'⟩ : ∃ f' : ByteArray, f' = f ++ ⟨#[32]⟩ := ⟨_, rfl⟩
    rw [← hf']
    have e : f'.data.toList = f.data.toList ++ [32] := by rw [hf', append_data]
    rw [← e]
    clear hf' e
    exact Lib.hid (fun W => (Tryz.strings_HasPrefix s f' W).mono fun e w' h => ⟨by rw [h.1, hasPrefix_iff], h.2.symm⟩)
  by_cases hp : f.data.toList ++ [32] <+: s.data.toList
  · have HF : Hid (twoL s.data.toList f.data.toList = some (s.data.toList.drop (f.size + 1))) := Lib.hid (by unfold twoL; rw [if_pos hp]; simp)
    have hle : f.size + 1 ≤ s.size := by
      have := hp.length_le
      simp at this; omega
    rw [decide_eq_true hp] at HP
    clear hp
    go_enter Tryz.func57, Tryz.ntmps57
    go_wp2_with (go_at_call 78; go_must (refine (HP.out _).mono ?_; rintro e w' ⟨rfl, rfl⟩))
    go_ret2
    exact ⟨_, by rw [HF.out]; rfl, by rw [HF.out]; exact Lib.extract_to_end _ _, rfl⟩
  · have HF : Hid (twoL s.data.toList f.data.toList = none) := Lib.hid (by unfold twoL; rw [if_neg hp])
    rw [decide_eq_false hp] at HP
    clear hp
    go_enter Tryz.func57, Tryz.ntmps57
    go_wp2_with (go_at_call 78; go_must (refine (HP.out _).mono ?_; rintro e w' ⟨rfl, rfl⟩))
    go_ret2
    exact ⟨_, by rw [HF.out]; rfl, by rw [HF.out]; rfl, rfl⟩

def digV (l : List UInt8) : Int := if numL l then valD l else 0
theorem digV_ok {l : List UInt8} (h : numL l = true) : digV l = valD l := by unfold digV; rw [if_pos h]
theorem digV_no {l : List UInt8} (h : numL l = false) : digV l = 0 := by unfold digV; rw [h]; rfl
theorem valL_bd : ∀ (l : List UInt8), l.all digitB = true → valL l < 10 ^ l.length := by
  intro l
  have : ∀ (m : List UInt8) (b n : Nat), b < 10 ^ n → m.all digitB = true → m.foldl (fun b c => 10 * b + (c.toNat - 48)) b < 10 ^ (n + m.length) := by
    intro m
    induction m with
    | nil => intro b n h _; simpa using h
    | cons c m ih =>
      intro b n h hd
      rw [List.all_cons, Bool.and_eq_true] at hd
      have hc : 48 ≤ c.toNat ∧ c.toNat ≤ 57 := by simpa [digitB] using hd.1
      rw [List.foldl_cons, List.length_cons, show n + (m.length + 1) = n + 1 + m.length from by omega]
      refine ih _ _ ?_ hd.2
      rw [Nat.pow_succ]; omega
  intro h
  have := this l 0 0 (by simp) h
  simpa [valL] using this
set_option maxHeartbeats 4000000 in
theorem rdigits_any (s : ByteArray) (w : World) (hs : s.size ≤ 9223372036854775807) :
    Calls Tryz.prog 58 #[.string s] w fun e w' => e = .returned (.tuple #[.int .i64 (digV s.data.toList), .bool (numL s.data.toList)]) ∧ w = w' := by
  have hsz : s.data.toList.length = s.size := by simp
  have HNO : Hid (numL s.data.toList = false → (.returned (.tuple #[.int .i64 0, .bool false]) : Ending) = .returned (.tuple #[.int .i64 (digV s.data.toList), .bool (numL s.data.toList)])) := Lib.hid (fun h => by rw [digV_no h, h])
  by_cases h0 : s.size = 0
  · have HF := Lib.hid (HNO.out (by rw [numL_eq]; simp [h0]))
    have e1 : decide ((s.size : Int) < 1) = true := by simp; omega
    go_enter Tryz.func58, Tryz.ntmps58
    go_wp2_with fail
    go_ret2
    exact ⟨HF.out, rfl⟩
  have e1 : decide ((s.size : Int) < 1) = false := by simp; omega
  by_cases h7 : 7 < s.size
  · have HF := Lib.hid (HNO.out (by rw [numL_eq]; simp; omega))
    have e2 : decide ((7 : Int) < (s.size : Int)) = true := by simp; omega
    go_enter Tryz.func58, Tryz.ntmps58
    go_wp2_with fail
    go_ret2
    exact ⟨HF.out, rfl⟩
  have e2 : decide ((7 : Int) < (s.size : Int)) = false := by simp; omega
  have hpos : 0 < s.size := by omega
  have hd : s.data.toList.headD 0 = s[0] := by
    rw [List.headD_eq_head?_getD, List.head?_eq_getElem?, List.getElem?_eq_getElem (by omega)]; rfl
  have hrest : (1 < s.size ∧ s[0].toNat = 48) ∨ ¬ (1 < s.size ∧ s[0].toNat = 48) := by omega
  rcases hrest with ⟨h1, h48⟩ | hok
  · have HF := Lib.hid (HNO.out (by
      have : s[0] = 48 := UInt8.toNat_inj.1 h48
      rw [numL_eq, hd, this]; simp; omega))
    have e3 : decide ((1 : Int) < (s.size : Int)) = true := by simp; omega
    have e4 : ((s[0].toNat : Int) == 48) = true := by simp; omega
    clear h48 hd
    go_enter Tryz.func58, Tryz.ntmps58
    go_wp2_with fail
    go_ret2
    exact ⟨HF.out, rfl⟩
  have HOK : Hid (runL digitB s.data.toList = s.size → numL s.data.toList = true) := Lib.hid (fun h => by
    rw [numL_eq, hd, h]
    have : (s[0] ≠ 48 ∨ s.size = 1) := by
      by_cases e : s[0] = 48
      · right; by_cases e1 : 1 < s.size
        · exact absurd ⟨e1, by rw [e]; rfl⟩ hok
        · omega
      · left; exact e
    rw [decide_eq_true h0, decide_eq_true (show s.size ≤ 7 by omega), decide_eq_true (p := s.size = s.size) rfl]
    simpa using this)
  have HNR : Hid (runL digitB s.data.toList ≠ s.size → numL s.data.toList = false) := Lib.hid (fun h => by rw [numL_eq]; simp [h])
  have hle := runL_le digitB s.data.toList
  have key : (decide ((1 : Int) < (s.size : Int)) = true ∧ ((s[0].toNat : Int) == 48) = false) ∨ decide ((1 : Int) < (s.size : Int)) = false := by
    by_cases h1 : 1 < s.size
    · have h48 : s[0].toNat ≠ 48 := fun e => hok ⟨h1, e⟩
      exact .inl ⟨by simp; omega, by simp; omega⟩
    · exact .inr (by simp; omega)
  have HLT := Lib.hid (fun k => @runL_lt digitB s.data.toList k)
  have HEQ := Lib.hid (fun k => @runL_eq digitB s.data.toList k)
  clear hok hd
  rcases key with ⟨e3, e4⟩ | e3
  all_goals
    go_enter Tryz.func58, Tryz.ntmps58
    go_wp2_with fail
    go_loop [4, 5] (fun s4 s5 => ∃ (k m : Nat), k ≤ runL digitB s.data.toList ∧ s5 = .int .i64 k ∧ s4 = .int .i64 m ∧ m < 10 ^ k ∧ Hid (valL (s.data.toList.take k) = m)) (fun _ s5 => s.size - (intOf s5).toNat)
    case atStart => exact ⟨0, 0, Nat.zero_le _, rfl, rfl, by simp, Lib.hid rfl⟩
    case round =>
      obtain ⟨k, m, hk, rfl, rfl, hm, HV⟩ := hrel
      by_cases hlt : k < s.size
      · have hm7 : m < 10 ^ 7 := Nat.lt_of_lt_of_le hm (Nat.pow_le_pow_right (by omega) (by omega))
        have HTK : Hid (valL (s.data.toList.take (k + 1)) = 10 * m + (s[k].toNat - 48)) := Lib.hid (by
          rw [List.take_succ_eq_append_getElem (by omega), valL_snoc, HV.out]; rfl)
        obtain ⟨d, hdg⟩ : ∃ d : Nat, s[k].toNat = d := ⟨_, rfl⟩
        have hdb : d < 256 := by rw [← hdg]; exact s[k].toNat_lt
        rw [hdg] at HTK
        have hpd : digitB s.data.toList[k] = (decide (48 ≤ d) && decide (d ≤ 57)) := by rw [← hdg]; rfl
        have k0 : (0 : Int) ≤ (k : Int) := by omega
        have k1 : (k : Int) < (s.size : Int) := by omega
        have hm8 : m < 10000000 := hm7
        have HM := Lib.hid hm
        clear hm hm7
        by_cases hd1 : d < 48
        · have d1 : decide ((d : Int) < 48) = true := by simp; omega
          have HF := Lib.hid (HNO.out (HNR.out (by rw [HEQ.out k hk (by omega) (by rw [hpd, decide_eq_false (by omega)]; rfl)]; omega)))
          clear hpd
          go_wp2_with fail
          go_ret2
          exact ⟨HF.out, rfl⟩
        have d1 : decide ((d : Int) < 48) = false := by simp; omega
        by_cases hd2 : 57 < d
        · have d2 : decide ((57 : Int) < (d : Int)) = true := by simp; omega
          have HF := Lib.hid (HNO.out (HNR.out (by rw [HEQ.out k hk (by omega) (by rw [hpd, decide_eq_false (show ¬ d ≤ 57 by omega)]; simp)]; omega)))
          clear hpd
          go_wp2_with fail
          go_ret2
          exact ⟨HF.out, rfl⟩
        have d2 : decide ((57 : Int) < (d : Int)) = false := by simp; omega
        have HKR := Lib.hid (HLT.out k hk (by omega) (by rw [hpd, decide_eq_true (show 48 ≤ d by omega), decide_eq_true (show d ≤ 57 by omega)]; rfl))
        have s1 : IntKind.u8.wrap ((d : Int) - 48) = (d : Int) - 48 := IntWalk.u8_in _ (by omega)
        clear hpd
        go_wp2_with fail
        go_round
        case rel => exact ⟨k + 1, 10 * m + (d - 48), HKR.out, by go_num, by rw [show ((10 * m + (d - 48) : Nat) : Int) = 10 * (m : Int) + ((d : Int) - 48) by omega], by have := HM.out; rw [Nat.pow_succ]; omega, HTK⟩
        case measure => simp [intOf]; omega
      · have hr : runL digitB s.data.toList = s.size := by omega
        have hn := HOK.out hr
        have hval : valL s.data.toList = m := by
          have := HV.out
          rwa [List.take_of_length_le (by omega)] at this
        have HF : Hid ((.returned (.tuple #[.int .i64 (m : Int), .bool true]) : Ending) = .returned (.tuple #[.int .i64 (digV s.data.toList), .bool (numL s.data.toList)])) := Lib.hid (by rw [digV_ok hn, hn, valD, hval])
        clear hn hval hr
        go_wp2_with fail
        go_ret2
        exact ⟨HF.out, rfl⟩
end Go.Proofs.YtpkefohcccpncaaGreatDoor
