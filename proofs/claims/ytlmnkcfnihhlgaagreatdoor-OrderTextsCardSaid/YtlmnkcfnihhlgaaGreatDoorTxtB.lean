/- The reference's text of a number of any sign. The reference's text of a value. -/
import Derived.Test.YtlmnkcfnihhlgaaGreatDoorPlnC
import Derived.Test.YtlmnkcfnihhlgaaGreatDoorIdxA
import Derived.Laws.IdiomStrings
import Derived.Lib.ItoaMem
import Derived.Lib.ItoaLen
import Derived.Deep.RegionWith
import Derived.Test.YtlmnkcfnihhlgaaGreatDoorBldA
namespace Go.Proofs.YtlmnkcfnihhlgaaGreatDoor
open Go.RowKit
set_option linter.unusedSimpArgs false
set_option linter.unusedVariables false

theorem ba_ext {a b : ByteArray} (h : a.data.toList = b.data.toList) : a = b := by
  cases a; cases b; simp only [ByteArray.mk.injEq]; exact Array.toList_inj.1 h
theorem ba_append (a b : ByteArray) : (a ++ b).data.toList = a.data.toList ++ b.data.toList := by simp [ByteArray.data_append]
theorem conv_one (W : World) (a : Addr) (x : Int) (h0 : 0 ≤ x) (h1 : x < 256) (h : W.cell? a = some (.int .u8 x)) :
    (Go.convert 53 9 (.slice (some a) 1 1)).run Tryz.prog W = .ok (.string ⟨#[UInt8.ofNat x.toNat]⟩) W := by
  refine run_convert_bytes_back (P := Tryz.prog) W 53 9 5 a 1 [UInt8.ofNat x.toNat] Tryz.underlying53 Tryz.underlying5 Tryz.underlying9 (fun j hj => ?_)
  obtain rfl : j = 0 := by simp at hj; omega
  show W.cell? a = _
  rw [h]
  have : ((UInt8.ofNat x.toNat).toNat : Int) = x := by simp; omega
  simp only [List.getElem_cons_zero, this]
def decOne (d : Nat) : ByteArray := ⟨#[UInt8.ofNat (48 + d)]⟩
def decMinus (d : Nat) : ByteArray := ⟨#[45, UInt8.ofNat (48 + d)]⟩
theorem minus_one (d : Nat) : (⟨#[45]⟩ : ByteArray) ++ decOne d = decMinus d := ba_ext (by rw [ba_append]; rfl)
theorem decOne_size (d : Nat) : (decOne d).size = 1 := rfl
set_option maxRecDepth 100000 in
set_option maxHeartbeats 2000000 in
theorem dec_step (n q r : Int) (d : Nat) (hd : d < 10) (hr : n.tmod 10 = r) (hq : IntKind.i64.wrap (n.tdiv 10) = q) (hrd : r = d ∨ (r < 0 ∧ r = -(d : Int))) (s1 out : ByteArray) (z1 : s1.size ≤ 21)
    (hs1 : q ≠ 0 → ∀ W, Calls Tryz.prog 96 #[.int .i64 q] W fun e w' => e = .returned (.string s1) ∧ Bw W w')
    (ho : out = if q = 0 then (if n < 0 then decMinus d else decOne d) else s1 ++ decOne d) (w : World) :
    Calls Tryz.prog 96 #[.int .i64 n] w fun e w' => e = .returned (.string out) ∧ Bw w w' := by
  have FB : ∀ (W : World) (a : Addr), W.cell? a = some (.int .u8 (48 + (d : Int))) → (Go.convert 53 9 (.slice (some a) 1 1)).run Tryz.prog W = .ok (.string (decOne d)) W := fun W a h => by
    have := conv_one W a (48 + d) (by omega) (by omega) h
    rw [this]; unfold decOne; congr 5
  have w1 : IntKind.i64.wrap (48 + (d : Int)) = 48 + (d : Int) := by simp [IntKind.wrap, IntKind.bits, IntKind.signed]; omega
  have w2 : IntKind.u8.wrap (48 + (d : Int)) = 48 + (d : Int) := by simp [IntKind.wrap, IntKind.bits, IntKind.signed]; omega
  have w3 : IntKind.i64.wrap (d : Int) = (d : Int) := by simp [IntKind.wrap, IntKind.bits, IntKind.signed]; omega
  have HM := Lib.hid (minus_one d)
  have z2 := decOne_size d
  have HO := Lib.hid ho
  have HS := Lib.hid hs1
  clear ho hs1
  generalize decOne d = s2 at *
  generalize hm2 : decMinus d = s3 at *
  clear hm2
  have hrd' : r = d ∨ (r < 0 ∧ IntKind.i64.wrap (-r) = d) := hrd.imp id (fun h => ⟨h.1, by rw [h.2, Int.neg_neg, w3]⟩)
  clear hrd
  rcases hrd' with rfl | ⟨hneg, wneg⟩
  · have dn : ¬ ((d : Int) < 0) := by omega
    by_cases h0 : q = 0
    · subst h0
      have HO2 := Lib.hid (show out = if n < 0 then s3 else s2 by have := HO.out; rwa [if_pos rfl] at this)
      clear HO HS
      by_cases hn : n < 0
      · have HO3 := Lib.hid (show out = s3 by have := HO2.out; rwa [if_pos hn] at this)
        clear HO2
        go_enter Tryz.func96, Tryz.ntmps96
        go_wp2
        go_ret
        exact ⟨by rw [HO3.out, ← HM.out]; rfl, (Bw.refl _).alloc _⟩
      · have HO3 := Lib.hid (show out = s2 by have := HO2.out; rwa [if_neg hn] at this)
        clear HO2
        go_enter Tryz.func96, Tryz.ntmps96
        go_wp2
        go_ret
        exact ⟨by rw [HO3.out]; rfl, (Bw.refl _).alloc _⟩
    · have HO2 := Lib.hid (show out = s1 ++ s2 by have := HO.out; rwa [if_neg h0] at this)
      have HS2 := Lib.hid (HS.out h0)
      clear HO HS
      go_enter Tryz.func96, Tryz.ntmps96
      go_wp2_with (go_at_call 96; go_must (refine (HS2.out _).mono ?_; rintro e w1 ⟨rfl, hg⟩; (have HG := Lib.hid (((Bw.refl w).alloc _).trans hg)); clear hg))
      go_ret
      exact ⟨by rw [HO2.out]; rfl, HG.out⟩
  · by_cases h0 : q = 0
    · subst h0
      have HO2 := Lib.hid (show out = if n < 0 then s3 else s2 by have := HO.out; rwa [if_pos rfl] at this)
      clear HO HS
      by_cases hn : n < 0
      · have HO3 := Lib.hid (show out = s3 by have := HO2.out; rwa [if_pos hn] at this)
        clear HO2
        go_enter Tryz.func96, Tryz.ntmps96
        go_wp2
        go_ret
        exact ⟨by rw [HO3.out, ← HM.out]; rfl, (Bw.refl _).alloc _⟩
      · have HO3 := Lib.hid (show out = s2 by have := HO2.out; rwa [if_neg hn] at this)
        clear HO2
        go_enter Tryz.func96, Tryz.ntmps96
        go_wp2
        go_ret
        exact ⟨by rw [HO3.out]; rfl, (Bw.refl _).alloc _⟩
    · have HO2 := Lib.hid (show out = s1 ++ s2 by have := HO.out; rwa [if_neg h0] at this)
      have HS2 := Lib.hid (HS.out h0)
      clear HO HS
      go_enter Tryz.func96, Tryz.ntmps96
      go_wp2_with (go_at_call 96; go_must (refine (HS2.out _).mono ?_; rintro e w1 ⟨rfl, hg⟩; (have HG := Lib.hid (((Bw.refl w).alloc _).trans hg)); clear hg))
      go_ret
      exact ⟨by rw [HO2.out]; rfl, HG.out⟩
theorem dec_pos_any : ∀ (k m : Nat) (w : World), m ≤ k → m ≤ 9223372036854775807 → Calls Tryz.prog 96 #[.int .i64 (m : Int)] w fun e w' => e = .returned (.string ⟨(Lib.decDigits m).toArray⟩) ∧ Bw w w' := by
  intro k
  induction k using Nat.strongRecOn with
  | _ k ih =>
    intro m w hk h1
    have hq : (m : Int).tdiv 10 = ((m / 10 : Nat) : Int) := by rw [Int.tdiv_eq_ediv_of_nonneg (by omega)]; omega
    have hr : (m : Int).tmod 10 = ((m % 10 : Nat) : Int) := by rw [Int.tmod_eq_emod_of_nonneg (by omega)]; omega
    have hw : IntKind.i64.wrap ((m : Int).tdiv 10) = ((m / 10 : Nat) : Int) := by rw [hq]; simp [IntKind.wrap, IntKind.bits, IntKind.signed]; omega
    refine dec_step (m : Int) _ _ (m % 10) (by omega) hr hw (.inl rfl) ⟨(Lib.decDigits (m / 10)).toArray⟩ _ ?_ (fun h0 W => ih (m / 10) (by omega) (m / 10) W (Nat.le_refl _) (by omega)) ?_ w
    · show (Lib.decDigits (m / 10)).length ≤ 21
      have := dec_len (m / 10) (by omega); omega
    · rw [if_neg (show ¬ ((m : Int) < 0) by omega)]
      by_cases h : m < 10
      · rw [if_pos (by omega), Lib.decDigits, dif_pos h]
        unfold decOne
        rw [Nat.mod_eq_of_lt h]
      · rw [if_neg (by omega), Lib.decDigits, dif_neg h]
        exact ba_ext (by rw [ba_append]; rfl)
theorem dec_neg_any : ∀ (k m : Nat) (w : World), m ≤ k → 1 ≤ m → m ≤ 9223372036854775808 → Calls Tryz.prog 96 #[.int .i64 (-(m : Int))] w fun e w' => e = .returned (.string ⟨(45 :: Lib.decDigits m).toArray⟩) ∧ Bw w w' := by
  intro k
  induction k using Nat.strongRecOn with
  | _ k ih =>
    intro m w hk h0 h1
    have hq : (-(m : Int)).tdiv 10 = -((m / 10 : Nat) : Int) := by rw [Int.neg_tdiv, Int.tdiv_eq_ediv_of_nonneg (by omega)]; omega
    have hr : (-(m : Int)).tmod 10 = -((m % 10 : Nat) : Int) := by rw [Int.neg_tmod, Int.tmod_eq_emod_of_nonneg (by omega)]; omega
    have hw : IntKind.i64.wrap ((-(m : Int)).tdiv 10) = -((m / 10 : Nat) : Int) := by rw [hq]; simp [IntKind.wrap, IntKind.bits, IntKind.signed]; omega
    refine dec_step (-(m : Int)) _ _ (m % 10) (by omega) hr hw (by omega) ⟨(45 :: Lib.decDigits (m / 10)).toArray⟩ _ ?_ (fun h0 W => ih (m / 10) (by omega) (m / 10) W (Nat.le_refl _) (by omega) (by omega)) ?_ w
    · show (45 :: Lib.decDigits (m / 10)).length ≤ 21
      have := dec_len (m / 10) (by omega); simp; omega
    · rw [if_pos (show -(m : Int) < 0 by omega)]
      by_cases h : m < 10
      · rw [if_pos (by omega), Lib.decDigits, dif_pos h]
        unfold decMinus
        rw [Nat.mod_eq_of_lt h]
      · rw [if_neg (by omega), Lib.decDigits, dif_neg h]
        exact ba_ext (by rw [ba_append]; rfl)
theorem decimal_any (n : Int) (h0 : -9223372036854775808 ≤ n) (h1 : n ≤ 9223372036854775807) (w : World) : Calls Tryz.prog 96 #[.int .i64 n] w fun e w' => e = .returned (.string ⟨(Lib.itoa n).toArray⟩) ∧ Bw w w' := by
  by_cases hn : n < 0
  · obtain ⟨m, rfl⟩ : ∃ m : Nat, n = -(m : Int) := ⟨n.natAbs, by omega⟩
    rw [Lib.itoa_neg m (by omega)]
    exact dec_neg_any m m w (Nat.le_refl _) (by omega) (by omega)
  · obtain ⟨m, rfl⟩ : ∃ m : Nat, n = (m : Int) := ⟨n.toNat, by omega⟩
    rw [Lib.itoa_nonneg]
    exact dec_pos_any m m w (Nat.le_refl _) (by omega)
end Go.Proofs.YtlmnkcfnihhlgaaGreatDoor
namespace Go.Proofs.YtlmnkcfnihhlgaaGreatDoor
open Go.RowKit
set_option linter.unusedSimpArgs false
set_option linter.unusedVariables false

def StrPost (w : World) (l : List UInt8) (e : Ending) (w' : World) : Prop := e = .returned (.string ⟨l.toArray⟩) ∧ Bw w w'
def RtSays (v : V) : Prop := ∀ (s : Value) (w : World), KB w w.heap.size s v.ks → Calls Tryz.prog 59 #[.agg #[.int .i64 v.n, s]] w (StrPost w (textV v))
theorem ba_eq {b : ByteArray} {l : List UInt8} (h : b.data.toList = l) : b = ⟨l.toArray⟩ := ba_ext (by rw [h])
theorem ba_size {b : ByteArray} {l : List UInt8} (h : b.data.toList = l) : b.size = l.length := by rw [ba_eq h]; rfl
set_option maxRecDepth 100000 in
set_option maxHeartbeats 4000000 in
theorem rtext_step (v : V) (hr : i64V v = true) (hz : v.size ≤ 1000000) (ih : ∀ k ∈ v.ks, RtSays k) : RtSays v := by
  intro s w hk
  obtain ⟨A, n, c, rfl, ln, bn, mn⟩ := hk.form
  unfold maxLen at mn
  have hr' := hr
  rw [i64V_eq, Bool.and_eq_true, Bool.and_eq_true] at hr'
  obtain ⟨⟨r0, r1⟩, rk⟩ := hr'
  have r0 : -9223372036854775808 ≤ v.n := of_decide_eq_true r0
  have r1 : v.n ≤ 9223372036854775807 := of_decide_eq_true r1
  have hil := Lib.itoa_length_le v.n r0 r1
  have HT : Hid (textV v = Lib.itoa v.n ++ (textK 40 v.ks ++ (if v.ks.isEmpty then [] else [41]))) := Lib.hid (textV_eq v)
  have HSZ : Hid (∀ k, 1 + sizeL (v.ks.take k) ≤ v.size) := Lib.hid (fun k => by have := sizeL_take_le v.ks k; have := v.size_eq; omega)
  have HTL : Hid (∀ k, (textK 40 (v.ks.take k)).length ≤ 23 * sizeL (v.ks.take k)) := Lib.hid (fun k => textK_take_len rk k)
  have HTK : Hid (∀ k (h : k < v.ks.length), textK 40 (v.ks.take (k + 1)) = textK 40 (v.ks.take k) ++ ((if k = 0 then 40 else 32) :: textV v.ks[k])) := Lib.hid (fun k h => textK_take h)
  have HKL : Hid (∀ k (h : k < v.ks.length), (textV v.ks[k]).length ≤ 23000000) := Lib.hid (fun k h => by
    have h1 := HTL.out (k + 1)
    rw [HTK.out k h] at h1
    have h2 := HSZ.out (k + 1)
    simp only [List.length_append, List.length_cons] at h1
    omega)
  have HKA : Hid (∀ k, (Lib.itoa v.n ++ textK 40 (v.ks.take k)).length ≤ 24000000) := Lib.hid (fun k => by
    have h1 := HTL.out k
    have h2 := HSZ.out k
    simp only [List.length_append]
    omega)
  have DC : Hid (∀ W, Calls Tryz.prog 96 #[.int .i64 v.n] W fun e w' => e = .returned (.string ⟨(Lib.itoa v.n).toArray⟩) ∧ Bw W w') := Lib.hid (fun W => decimal_any v.n r0 r1 W)
  obtain ⟨dn, hdn⟩ : ∃ dn : ByteArray, dn = ⟨(Lib.itoa v.n).toArray⟩ := ⟨_, rfl⟩
  rw [← hdn] at DC
  have HDN : Hid (dn.data.toList = Lib.itoa v.n) := Lib.hid (by rw [hdn])
  have HK := Lib.hid hk
  have HIH := Lib.hid ih
  have LN := Lib.hid ln
  have HBX : Hid (∀ x, Bw w (w.alloc (.cells #[.int .i64 x, .slice A n c] 28)) ∧ Blk (w.alloc (.cells #[.int .i64 x, .slice A n c] 28)) w.heap.size 28 #[.int .i64 x, .slice A n c]) := Lib.hid (fun x => ⟨(Bw.refl _).alloc _, Blk.new _ _ _⟩)
  unfold StrPost
  clear hr hk ih hdn hil rk r0 r1 ln hz
  generalize hx : v.n = x at *
  clear hx
  have HB := Lib.hid (HBX.out x)
  clear HBX
  go_enter Tryz.func59, Tryz.ntmps59
  go_wp2_with (go_at_call 96; go_must (refine (DC.out _).mono ?_; rintro e w2 ⟨rfl, hg2⟩; (have HG2 := Lib.hid hg2); clear hg2))
  go_loopw [3, 4] (fun s3 i wr => ∃ (k : Nat) (bs : ByteArray), k ≤ n ∧ i = .int .i64 k ∧ s3 = .string bs ∧ bs.size ≤ 24000000 ∧ Hid (bs.data.toList = Lib.itoa x ++ textK 40 (v.ks.take k) ∧ Bw (w.alloc (.cells #[.int .i64 x, .slice A n c] 28)) wr)) (fun _ i _ => n - (intOf i).toNat)
  case atStart => exact ⟨0, dn, by omega, rfl, rfl, by rw [ba_size HDN.out]; have := HKA.out 0; simp only [List.length_append] at this; omega, Lib.hid ⟨by simpa [textK] using HDN.out, HG2.out⟩⟩
  case round =>
    obtain ⟨k, bs, hk, rfl, rfl, hbs, HR⟩ := hrel
    obtain ⟨hbl, hg⟩ := HR.out
    have hb := HB.out.2.below hg.b HB.out.2.lt
    have q0 := hb.cell 1
    have z0 := hb.lt
    have HG := Lib.hid hg
    have HBL := Lib.hid hbl
    have hgw := HB.out.1.trans hg
    by_cases hlt : k < n
    · have e1 : k < v.ks.length := by rw [LN.out]; exact hlt
      obtain ⟨ad, sA, sn, sc, rfl, hbk, y0, y1, sl, hs⟩ := (HK.out.bw hgw).at_ e1
      have RC : Hid (∀ W, Bw wr W → Calls Tryz.prog 59 #[.agg #[.int .i64 v.ks[k].n, .slice sA sn sc]] W (StrPost W (textV v.ks[k]))) := Lib.hid (fun W g => HIH.out v.ks[k] (List.getElem_mem e1) _ W (hs.bw g))
      have hkl := HKL.out k e1
      have HT2 := Lib.hid (HTK.out k e1)
      unfold StrPost at RC
      obtain ⟨t1, ht1⟩ : ∃ t1 : ByteArray, t1 = ⟨(textV v.ks[k]).toArray⟩ := ⟨_, rfl⟩
      rw [← ht1] at RC
      have HT1 : Hid (t1.data.toList = textV v.ks[k]) := Lib.hid (by rw [ht1])
      have ht1s : t1.size ≤ 23000000 := by rw [ba_size HT1.out]; exact hkl
      have HKA1 := Lib.hid (HKA.out (k + 1))
      clear hs sl hb hg hbl hgw HR ht1 hkl
      generalize v.ks[k].n = x1 at *
      by_cases hk0 : k = 0
      · obtain rfl : 0 = k := hk0.symm
        have y0z : wr.cell? ad = some (.int .i64 x1) := by simpa [Addr.add] using y0
        have y1z : wr.cell? ⟨ad.block, ad.off + 1, none⟩ = some (.slice sA sn sc) := by simpa [Addr.add] using y1
        go_wp2_with (go_at_call 59; go_must (refine (RC.out _ (Bw.refl _)).mono ?_; rintro e w5 ⟨rfl, hg5⟩; (have HG5 := Lib.hid hg5); clear hg5))
        have HE : Hid ((bs ++ ⟨#[40]⟩ ++ t1 : ByteArray).data.toList = Lib.itoa x ++ textK 40 (v.ks.take (0 + 1))) := Lib.hid (by
          rw [ba_append, ba_append, HBL.out, HT1.out, HT2.out]; simp [textK])
        go_roundw
        case rel => exact ⟨1, _, by omega, by go_num, rfl, by rw [ba_size HE.out]; exact HKA1.out, Lib.hid ⟨HE.out, HG.out.trans HG5.out⟩⟩
        case measure => simp [intOf]; omega
      · have hk1 : (1 : Int) ≤ (k : Int) := by omega
        have hk2 : ((k : Int) == 0) = false := by simp; omega
        go_wp2_with (go_at_call 59; go_must (refine (RC.out _ (Bw.refl _)).mono ?_; rintro e w5 ⟨rfl, hg5⟩; (have HG5 := Lib.hid hg5); clear hg5))
        have HE : Hid ((bs ++ ⟨#[32]⟩ ++ t1 : ByteArray).data.toList = Lib.itoa x ++ textK 40 (v.ks.take (k + 1))) := Lib.hid (by
          rw [ba_append, ba_append, HBL.out, HT1.out, HT2.out, if_neg hk0]; simp [List.append_assoc])
        go_roundw
        case rel => exact ⟨k + 1, _, by omega, by go_num, rfl, by rw [ba_size HE.out]; exact HKA1.out, Lib.hid ⟨HE.out, HG.out.trans HG5.out⟩⟩
        case measure => simp [intOf]; omega
    · obtain rfl : k = n := by omega
      have hfull : v.ks.take k = v.ks := List.take_of_length_le (by rw [LN.out]; omega)
      rw [hfull] at HBL
      have HF : Hid (textV v = bs.data.toList ++ (if k = 0 then [] else [41])) := Lib.hid (by
        rw [HT.out, HBL.out, ← isEmpty_if LN.out]; simp [List.append_assoc])
      clear hb hg hbl HR hfull
      have HGW := Lib.hid hgw
      clear hgw
      by_cases hk0 : k = 0
      · obtain rfl : 0 = k := hk0.symm
        go_wp2
        go_ret
        refine ⟨?_, HGW.out⟩
        show Ending.returned (.string bs) = _
        rw [HF.out]
        simp
      · have hk1 : (0 : Int) < (k : Int) := by omega
        go_wp2
        go_ret
        refine ⟨?_, HGW.out⟩
        rw [HF.out, if_neg hk0]
        congr 1
theorem rtext_any (v : V) : i64V v = true → v.size ≤ 1000000 → RtSays v := by
  induction v using V.ind with
  | h n ks ih =>
    intro hr hz
    have hr' := hr
    rw [i64V, i64L_all, Bool.and_eq_true] at hr'
    exact rtext_step _ hr hz (fun k hk => ih k hk (List.all_eq_true.1 hr'.2 k hk) (by have h1 := sizeL_mem hk; have h2 := V.size_eq (.mk n ks); simp only [V.ks_mk] at h1 h2; omega))
set_option maxHeartbeats 1000000 in
theorem r6Text_any (v : V) (hr : i64V v = true) (s : Value) (w : World) (h : KB w w.heap.size s v.ks) (p : ByteArray × Int) (hp : txtP v = p) : Calls Tryz.prog 34 #[.agg #[.int .i64 v.n, s]] w (TxtPost w p) := by
  obtain ⟨A, n, c, rfl, ln, _, _⟩ := h.form
  have SZ : Hid (∀ W, Bw w W → Calls Tryz.prog 44 #[.agg #[.int .i64 v.n, .slice A n c], .int .i64 128] W (NumPost W (cntI v 128))) := Lib.hid (fun W g => r6sz_any v _ W 128 (by omega) (by omega) (h.bw g))
  have TX : Hid (v.size ≤ 128 → ∀ W, Bw w W → Calls Tryz.prog 59 #[.agg #[.int .i64 v.n, .slice A n c]] W (StrPost W (textV v))) := Lib.hid (fun hz W g => rtext_any v hr (by omega) _ W (h.bw g))
  have HB : Hid (∀ W, Bw (w.alloc (.cells #[.int .i64 v.n, .slice A n c] 28)) W → Bw w W ∧ W.cell? ⟨w.heap.size, 0, none⟩ = some (.int .i64 v.n) ∧ W.cell? ⟨w.heap.size, 1, none⟩ = some (.slice A n c)) := Lib.hid (fun W g => by
    have hb := (Blk.new w 28 #[.int .i64 v.n, .slice A n c]).below g.b (by simp)
    exact ⟨((Bw.refl _).alloc _).trans g, hb.cell 0, hb.cell 1⟩)
  have HB0 : Hid (Bw w (w.alloc (.cells #[.int .i64 v.n, .slice A n c] 28))) := Lib.hid ((Bw.refl _).alloc _)
  unfold txtP at hp
  unfold StrPost at TX
  clear h hr ln
  by_cases hz : v.size ≤ 128
  · rw [if_pos hz] at hp
    have TX2 := Lib.hid (TX.out hz)
    have hm : ¬ (128 < cntI v 128) := by unfold cntI; omega
    subst hp
    clear TX hz
    generalize cntI v 128 = m at *
    generalize v.n = x at *
    generalize textV v = l at *
    go_enter Tryz.func34, Tryz.ntmps34
    go_wp2_with (first
      | (go_at_call 44; go_must (refine (SZ.out _ HB0.out).mono ?_; rintro e w6 ⟨rfl, hg6⟩; (obtain ⟨hw6, q0, q1⟩ := HB.out _ hg6); (have HW6 := Lib.hid hw6); clear hg6 hw6))
      | (go_at_call 59; go_must (refine (TX2.out _ HW6.out).mono ?_; rintro e w7 ⟨rfl, hg7⟩; (have HW7 := Lib.hid (HW6.out.trans hg7)); clear hg7)))
    go_ret2
    exact ⟨rfl, HW7.out⟩
  · rw [if_neg hz] at hp
    have hm : 128 < cntI v 128 := by unfold cntI; omega
    subst hp
    clear TX hz
    generalize cntI v 128 = m at *
    generalize v.n = x at *
    go_enter Tryz.func34, Tryz.ntmps34
    go_wp2_with (go_at_call 44; go_must (refine (SZ.out _ HB0.out).mono ?_; rintro e w6 ⟨rfl, hg6⟩; (obtain ⟨hw6, q0, q1⟩ := HB.out _ hg6); (have HW6 := Lib.hid hw6); clear hg6 hw6))
    go_ret2
    exact ⟨rfl, HW6.out⟩
end Go.Proofs.YtlmnkcfnihhlgaaGreatDoor
