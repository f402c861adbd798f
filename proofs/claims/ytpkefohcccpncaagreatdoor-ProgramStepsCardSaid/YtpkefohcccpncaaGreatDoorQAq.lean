/- The reference's Parse. -/
import Derived.Test.YtpkefohcccpncaaGreatDoorQAp
import Derived.Deep.DeepCutAuto
import Derived.Deep.CutBlock
import Derived.Deep.RegionHeld3
import Derived.Deep.RegionLaw
namespace Go.Proofs.YtpkefohcccpncaaGreatDoor
open Go.RowKit
set_option linter.unusedSimpArgs false
set_option linter.unusedVariables false

/-- what is left of a whole reading -/
def parF : Nat ⊕ PS × Nat → Nat ⊕ Prg
  | .inl n => .inl n
  | .inr (st, n) => if st.ts.length = 0 ∨ st.op = true then .inl (n + 1) else finR st
theorem rdl_line {st : PS} {at_ j : Nat} {l : List UInt8} (h : Lib.indexByte l 10 = (j : Int)) (hj : j < l.length) : rd st at_ (l.take (j + 1)) = rdText st at_ (l.take j) := by
  have hl : l.take (j + 1) = l.take j ++ [l[j]] := List.take_succ_eq_append_getElem hj
  have h10 : l[j] = 10 := by
    have : ∀ (l : List UInt8) (j : Nat), Lib.indexByte l 10 = (j : Int) → ∀ (hj : j < l.length), l[j] = 10 := by
      intro l
      induction l with
      | nil => intro j h hj; simp at hj
      | cons c r ih =>
        intro j h hj
        simp only [Lib.indexByte] at h
        split at h
        · rename_i hc
          have : j = 0 := by omega
          subst this
          simpa using hc
        · split at h
          · omega
          · rename_i h2
            rcases indexByte_bd' r 10 with h3 | ⟨h3, _⟩
            · rw [h3] at h2; simp at h2
            · obtain ⟨i, hi⟩ : ∃ i : Nat, Lib.indexByte r 10 = (i : Int) := ⟨_, (Int.toNat_of_nonneg h3).symm⟩
              obtain rfl : j = i + 1 := by omega
              simpa using ih i hi (by simpa using hj)
    exact this l j h hj
  unfold rd
  rw [hl, h10, if_pos (by simp), List.dropLast_concat]
theorem rd_open {st : PS} {at_ : Nat} {l : List UInt8} (h : Lib.indexByte l 10 = -1) : rd st at_ l = none := by
  unfold rd
  rw [if_neg]
  intro e
  have hm : (10 : UInt8) ∈ l := List.mem_of_getLast? e
  have : ∀ l : List UInt8, (10 : UInt8) ∈ l → Lib.indexByte l 10 ≠ -1 := by
    intro l
    induction l with
    | nil => intro h; cases h
    | cons c r ih =>
      intro h he
      simp only [Lib.indexByte] at he
      split at he
      · cases he
      · rename_i hc
        rcases List.mem_cons.1 h with h | h
        · exact hc (by simpa using h.symm)
        · have h2 := ih h
          rcases indexByte_bd' r 10 with h3 | ⟨h3, _⟩
          · exact h2 h3
          · split at he
            · rename_i h4
              exact h2 (by simpa using h4)
            · omega
  exact this l hm h
theorem RsI.zero {w W : World} {st : PS} {tv lv : Value} {vs : List Value} {lim : Nat} {sps : List Sp} (h : RsI w W st tv lv vs lim sps) :
    Blk ((W.setCell ⟨w.heap.size, 0, none⟩ (.int .i64 0)).setCell ⟨w.heap.size, 1, none⟩ (.slice none 0 0)) w.heap.size 28 #[.int .i64 0, .slice none 0 0] ∧ Below w.heap.size w ((W.setCell ⟨w.heap.size, 0, none⟩ (.int .i64 0)).setCell ⟨w.heap.size, 1, none⟩ (.slice none 0 0)) :=
  ⟨(h.res.set_ 0 _).set_ 1 _, (h.be.setCell (p := ⟨w.heap.size, 0, none⟩) (Nat.le_refl _) _).setCell (p := ⟨w.heap.size, 1, none⟩) (Nat.le_refl _) _⟩
theorem rdR_spawn {x : List UInt8} {at_ : Nat} {y : Ln × List UInt8} (h : rdR x at_ = some y) (h5 : y.1.k = 5) : y.2 ≠ [] := by
  unfold rdR at h
  have num : ∀ {c : Bool} {k : Int} {r : List UInt8}, (if c = true then some ((⟨k, valD r, at_⟩ : Ln), ([] : List UInt8)) else none) = some y → k ≠ 5 → False := fun {c k r} h hk => by
    rcases c with _ | _
    · cases h
    · injection h with h; rw [← h] at h5; exact hk h5
  split at h
  · exact absurd (num h (by decide)) id
  · exact absurd (num h (by decide)) id
  · exact absurd (num h (by decide)) id
  · exact absurd (num h (by decide)) id
  · rename_i r _ _ _ _ _
    rcases hc : namedL r with _ | _
    · rw [hc] at h; cases h
    · rw [hc] at h; injection h with h; rw [← h]
      intro e
      have e : r = [] := e
      rw [e] at hc; cases hc
  · split at h
    · injection h with h; rw [← h] at h5; cases h5
    · split at h
      · injection h with h; rw [← h] at h5; cases h5
      · cases h
theorem infoSpawned : (Tryz.prog.info? 102).map (fun i => (i.zero, i.size, i.bytes)) = some (some (.agg #[.int .i64 0, .int .i64 0, .string ⟨#[]⟩]), 3, 32) := by kernel_rfl
theorem spL_length (i : Nat) : ∀ (ns : List (List UInt8)) (j : Nat), (spL i j ns).length ≤ ns.length := by
  intro ns
  induction ns with
  | nil => intro j; simp [spL]
  | cons x r ih =>
    intro j
    rw [spL_cons, List.length_append, List.length_cons]
    have h1 := ih (j + 1)
    have h2 : (sp1 i j x).length ≤ 1 := by rcases x with _ | _ <;> simp [sp1]
    omega
theorem spT_length : ∀ (ts : List Th) (i : Nat) (ns : List (List UInt8)), (spT i ts ns).length ≤ ns.length := by
  intro ts
  induction ts with
  | nil => intro i ns; simp [spT]
  | cons t r ih =>
    intro i ns
    rw [spT, List.length_append]
    have h1 := spL_length i (ns.take t.ls.length) 0
    have h2 := ih (i + 1) (ns.drop t.ls.length)
    rw [List.length_take] at h1
    rw [List.length_drop] at h2
    omega
/-- the loop's relation: what is read so far, and what is left -/
def PaRel (w : World) (s : List UInt8) (R0 : Nat ⊕ PS × Nat) (at_ k : Nat) (b : Bool) (lv : Value) (W : World) : Prop :=
  ∃ st tv vs lim sps, RsI w W st tv lv vs lim sps ∧ RInv st k ∧ SpK (st.ts.flatMap (·.ls)) st.ns ∧ sps = spT 0 st.ts st.ns ∧ st.op = b ∧ rdAll st k (splitLs (s.drop at_)) = R0
set_option maxRecDepth 100000 in
set_option maxHeartbeats 16000000 in
theorem rparse_any (s : ByteArray) (w : World) (hs : s.size ≤ 4096) : Calls Tryz.prog 30 #[.string s] w (ParPost w (parseP s.data.toList)) := by
  have hsz : s.data.toList.length = s.size := by simp
  have HPP : Hid (∀ r, rdAll ps0 0 (splitLs s.data.toList) = r → (∀ st n, r = .inr (st, n) → SpK (st.ts.flatMap (·.ls)) st.ns) → parseP s.data.toList = parF r) := Lib.hid (fun r hr hk => by
    unfold parseP
    have hr' : rdAll ⟨0, [], false, []⟩ 0 (splitLs s.data.toList) = r := hr
    rw [hr']
    rcases r with n | ⟨st, n⟩
    · rfl
    · show (if st.ts.length = 0 ∨ st.op = true then (.inl (n + 1) : Nat ⊕ Prg) else _) = (if st.ts.length = 0 ∨ st.op = true then (.inl (n + 1) : Nat ⊕ Prg) else finR st)
      by_cases h : st.ts.length = 0 ∨ st.op = true
      · rw [if_pos h, if_pos h]
      · rw [if_neg h, if_neg h]
        exact fin_eq (hk st n rfl))
  obtain ⟨R0, hR0⟩ : ∃ r, rdAll ps0 0 (splitLs s.data.toList) = r := ⟨_, rfl⟩
  have HR0 := Lib.hid hR0
  have HP0 := Lib.hid (HPP.out R0 hR0)
  obtain ⟨PP, hPP⟩ : ∃ r, parseP s.data.toList = r := ⟨_, rfl⟩
  rw [hPP] at HP0 ⊢
  have e0 : decide ((4096 : Int) < (s.size : Int)) = false := by simp; omega
  have IDX : Hid (∀ (c : ByteArray) (W : World), Calls Tryz.prog 56 #[.string c, .int .u8 10] W fun e w' => e = .returned (.int .i64 (Lib.indexByte c.data.toList 10)) ∧ W = w') := Lib.hid (fun c W => (Tryz.strings_IndexByte c 10 W).mono fun e w' h => ⟨by rw [h.1]; rfl, h.2.symm⟩)
  clear HPP hR0 hPP
  go_enter Tryz.func30, Tryz.ntmps30
  go_wp2_with fail
  go_loopw [6, 7, 8, 9] (fun s6 s7 s8 s9 wr => ∃ (at_ k : Nat) (b : Bool) (lv : Value), at_ ≤ s.size ∧ k ≤ at_ ∧ s9 = .int .i64 at_ ∧ s8 = .int .i64 k ∧ s7 = .bool b ∧ lv = s6 ∧
      Hid (PaRel w s.data.toList R0 at_ k b lv wr)) (fun _ _ _ s9 _ => s.size - (intOf s9).toNat)
  case atStart =>
    exact ⟨0, 0, false, _, by omega, by omega, rfl, rfl, rfl, rfl, Lib.hid ⟨ps0, _, _, _, _, RsI.new w, ⟨by simp [ps0], by simp [ps0], rfl, (fun h => by cases h), (fun t ht => by cases ht)⟩, rfl, rfl, rfl, by rw [List.drop_zero]; exact HR0.out⟩⟩
  case round =>
    obtain ⟨at_, k, b, lv, hat, hka, rfl, rfl, rfl, rfl, HR⟩ := hrel
    obtain ⟨W, rfl⟩ : ∃ W : World, W = wr := ⟨_, rfl⟩
    obtain ⟨st, tv, vs, lim, sps, hrs, hinv, hspk, hsps, hop, hrd⟩ := HR.out
    have HRS := Lib.hid hrs
    have HINV := Lib.hid hinv
    have HSPK := Lib.hid hspk
    have HSPS := Lib.hid hsps
    have HOP := Lib.hid hop
    clear HR hrs hinv hspk hsps hop
    by_cases hlt : at_ < s.size
    · obtain ⟨l, hl⟩ : ∃ l, s.data.toList.drop at_ = l := ⟨_, rfl⟩
      have hll : l.length = s.size - at_ := by rw [← hl, List.length_drop, hsz]
      rw [hl] at hrd
      have HL := Lib.hid hl
      have hne : l ≠ [] := by intro e; rw [e] at hll; simp at hll; omega
      have HLT : Hid (∀ c : ByteArray, c = s.extract at_ s.size → c.data.toList = l) := Lib.hid (fun c h => by rw [h, ← HL.out]; exact Lib.extract_to_end _ _)
      rcases indexByte_bd' l 10 with hi | ⟨hi0, hi1⟩
      · have HRX : Hid (PP = .inl (k + 1)) := Lib.hid (by
          have h : R0 = .inl (k + 1) := by rw [← hrd, splitLs_none l hne hi, rdAll, rd_open hi]
          rw [HP0.out (fun _ _ e => by rw [h] at e; cases e), h]; rfl)
        have r0 := HRS.out.res.cell 0
        have r1 := HRS.out.res.cell 1
        have f0 := HRS.out.res.frozen 0
        have f1 := HRS.out.res.frozen 1
        have HI := Lib.hid hi
        clear hrd hi
        go_wp2_with (go_at_call 56; go_must (refine (IDX.out _ _).mono ?_; rintro e w' ⟨rfl, rfl⟩; rw [HLT.out _ rfl, HI.out]))
        refine bodyPost_ret (results_row_tmp2 (p := 2) (q := 3) (r := 4) (ty := 28) rfl _ _ w.heap.size _ _ _ rfl (run_loadVar_row _ _ 28 28 _ (0, 0) _ HRS.out.zero.1 Tryz.underlying28 rfl (by kernel_rfl)) rfl rfl) rfl ?_
        rw [HRX.out]
        exact ⟨HRS.out.zero.2, rfl⟩
      · obtain ⟨j, hj⟩ : ∃ j : Nat, Lib.indexByte l 10 = (j : Int) := ⟨_, (Int.toNat_of_nonneg hi0).symm⟩
        have hjl : j < l.length := by omega
        have hrd2 : (match rdText st (k + 1) (l.take j) with | none => (.inl (k + 1) : Nat ⊕ PS × Nat) | some st' => rdAll st' (k + 1) (splitLs (l.drop (j + 1)))) = R0 := by
          rw [← hrd, splitLs_some l j hj, rdAll, rdl_line hj hjl]
          rcases rdText st (k + 1) (l.take j) with _ | _ <;> rfl
        have HXT : Hid (∀ c : ByteArray, c = s.extract at_ (at_ + j) → c.data.toList = l.take j) := Lib.hid (fun c h => by rw [h, Lib.extract_data, HL.out, Nat.add_sub_cancel_left])
        have HXS : Hid ((s.extract at_ (at_ + j)).size ≤ 4096) := Lib.hid (by rw [ByteArray.size_extract]; omega)
        have hj4 : j < 4096 := by omega
        have HRI : Hid (∀ st', rdText st (k + 1) (l.take j) = some st' → RInv st' (k + 1)) := Lib.hid (fun st' h => rd_inv HINV.out (by rw [← h]; exact rdl_line hj hjl))
        have HDR : Hid (s.data.toList.drop (at_ + (j + 1)) = l.drop (j + 1)) := Lib.hid (by rw [← HL.out, List.drop_drop])
        have HJ := Lib.hid hj
        have HERR : Hid (rdText st (k + 1) (l.take j) = none → PP = .inl (k + 1)) := Lib.hid (fun h => by
          rw [h] at hrd2
          have hrd3 : R0 = .inl (k + 1) := hrd2.symm
          rw [HP0.out (fun _ _ e => by rw [hrd3] at e; cases e), hrd3]; rfl)
        have HNEXT : Hid (∀ st', rdText st (k + 1) (l.take j) = some st' → rdAll st' (k + 1) (splitLs (s.data.toList.drop (at_ + (j + 1)))) = R0) := Lib.hid (fun st' h => by
          rw [HDR.out, ← hrd2, h])
        obtain ⟨x, hx⟩ : ∃ x, l.take j = x := ⟨_, rfl⟩
        rw [hx] at HXT HRI HERR HNEXT
        have hxl : x.length ≤ 4096 := by rw [← hx, List.length_take]; omega
        have TW : Hid (∀ (f : ByteArray), f.size ≤ 100 → ∀ (W : World), Calls Tryz.prog 57 #[.string (s.extract at_ (at_ + j)), .string f] W (TwoPost W x f.data.toList)) := Lib.hid (fun f hf W => by
          have := rtwo_any (s.extract at_ (at_ + j)) f W (by have := HXS.out; omega) hf
          rw [HXT.out _ rfl] at this; exact this)
        unfold TwoPost at TW
        have DG : Hid (∀ (W : World) (r : ByteArray), r.size ≤ 9223372036854775807 → Calls Tryz.prog 58 #[.string r] W fun e w' => e = .returned (.tuple #[.int .i64 (digV r.data.toList), .bool (numL r.data.toList)]) ∧ W = w') := Lib.hid (fun W r h => rdigits_any r W h)
        have NM : Hid (∀ (W : World) (r : ByteArray), r.size ≤ 9223372036854775807 → Calls Tryz.prog 46 #[.string r] W fun e w' => e = .returned (.bool (namedL r.data.toList)) ∧ W = w') := Lib.hid (fun W r h => rname_any r W h _ rfl)
        have HTL : Hid (∀ f r, twoL x f = some r → r.length ≤ 4096) := Lib.hid (fun f r h => by
          unfold twoL at h
          split at h
          · injection h with h; rw [← h, List.length_drop]; omega
          · cases h)
        clear hi0 hi1 hj hrd hrd2 hx hne
        have r0 := HRS.out.res.cell 0
        have r1 := HRS.out.res.cell 1
        have f0 := HRS.out.res.frozen 0
        have f1 := HRS.out.res.frozen 1
        have v0 := HRS.out.blk.cell 0
        have v1 := HRS.out.blk.cell 1
        have g0 := HRS.out.blk.frozen 0
        have g1 := HRS.out.blk.frozen 1
        have hzw : w.heap.size + 1 < W.heap.size := HRS.out.blk.lt
        by_cases hk0 : k = 0
        · subst hk0
          have TV := Lib.hid (fun W => TW.out ⟨#[118, 97, 108, 117, 101, 115]⟩ (by decide) W)
          have HRT := Lib.hid (rdText_first st x)
          rcases htw : twoL x kwValues with _ | r
          · have HE := Lib.hid (HERR.out (by rw [Nat.zero_add, HRT.out, htw]))
            have HT2 : Hid (twoL x (⟨#[118, 97, 108, 117, 101, 115]⟩ : ByteArray).data.toList = none) := Lib.hid htw
            rw [HT2.out] at TV
            clear htw
            go_wp2_with (first
              | (go_at_call 56; go_must (refine (IDX.out _ _).mono ?_; rintro e w' ⟨rfl, rfl⟩; rw [HLT.out _ rfl, HJ.out]))
              | (go_at_call 57; go_must (refine (TV.out _).mono ?_; rintro e w' ⟨rr, rfl, hrr, rfl⟩; (have hrs : rr.size ≤ 9223372036854775807 := by (rw [sz_of hrr]; simp)); clear hrr))
              | (go_at_call 58; go_must (refine (DG.out _ rr hrs).mono ?_; rintro e w' ⟨rfl, rfl⟩)))
            refine bodyPost_ret (results_row_tmp2 (p := 2) (q := 3) (r := 4) (ty := 28) rfl _ _ w.heap.size _ _ _ rfl (run_loadVar_row _ _ 28 28 _ (0, 0) _ HRS.out.zero.1 Tryz.underlying28 rfl (by kernel_rfl)) rfl rfl) rfl ?_
            rw [HE.out]
            exact ⟨HRS.out.zero.2, rfl⟩
          have hrl := HTL.out _ _ htw
          have HT2 : Hid (twoL x (⟨#[118, 97, 108, 117, 101, 115]⟩ : ByteArray).data.toList = some r) := Lib.hid htw
          rw [HT2.out] at TV
          rcases hnl : numL r with _ | _
          · have HE := Lib.hid (HERR.out (by rw [Nat.zero_add, HRT.out, htw]; simp [hnl]))
            have HNL := Lib.hid hnl
            clear htw hnl
            go_wp2_with (first
              | (go_at_call 56; go_must (refine (IDX.out _ _).mono ?_; rintro e w' ⟨rfl, rfl⟩; rw [HLT.out _ rfl, HJ.out]))
              | (go_at_call 57; go_must (refine (TV.out _).mono ?_; rintro e w' ⟨rr, rfl, hrr, rfl⟩; (have hrs : rr.size ≤ 9223372036854775807 := by (rw [sz_of hrr]; simp; omega)); (have HRR : Hid (rr.data.toList = r) := Lib.hid hrr); clear hrr))
              | (go_at_call 58; go_must (refine (DG.out _ rr hrs).mono ?_; rintro e w' ⟨rfl, rfl⟩; rw [HRR.out, HNL.out])))
            refine bodyPost_ret (results_row_tmp2 (p := 2) (q := 3) (r := 4) (ty := 28) rfl _ _ w.heap.size _ _ _ rfl (run_loadVar_row _ _ 28 28 _ (0, 0) _ HRS.out.zero.1 Tryz.underlying28 rfl (by kernel_rfl)) rfl rfl) rfl ?_
            rw [HE.out]
            exact ⟨HRS.out.zero.2, rfl⟩
          have hst : rdText st (0 + 1) x = some { st with v := valD r } := by rw [Nat.zero_add, HRT.out, htw]; simp [hnl]
          have HREL : Hid (∀ a, a = at_ + (j + 1) → PaRel w s.data.toList R0 a (0 + 1) b lv (W.setCell ⟨w.heap.size + 1, 0, none⟩ (.int .i64 (valD r)))) := Lib.hid (fun a ha => by
            subst ha
            exact ⟨{ st with v := valD r }, tv, vs, lim, sps, HRS.out.setv (st' := { st with v := valD r }) (valD r) rfl rfl, HRI.out _ hst, HSPK.out, HSPS.out, HOP.out, HNEXT.out _ hst⟩)
          have HNL := Lib.hid hnl
          have HDV := Lib.hid (digV_ok hnl)
          clear htw hnl hst
          go_wp2_with (first
            | (go_at_call 56; go_must (refine (IDX.out _ _).mono ?_; rintro e w' ⟨rfl, rfl⟩; rw [HLT.out _ rfl, HJ.out]))
            | (go_at_call 57; go_must (refine (TV.out _).mono ?_; rintro e w' ⟨rr, rfl, hrr, rfl⟩; (have hrs : rr.size ≤ 9223372036854775807 := by (rw [sz_of hrr]; simp; omega)); (have HRR : Hid (rr.data.toList = r) := Lib.hid hrr); clear hrr))
            | (go_at_call 58; go_must (refine (DG.out _ rr hrs).mono ?_; rintro e w' ⟨rfl, rfl⟩; rw [HRR.out, HNL.out, HDV.out])))
          go_roundw
          case rel => exact ⟨at_ + (j + 1), 0 + 1, b, lv, by omega, by omega, by go_num, by go_num, rfl, rfl, Lib.hid (HREL.out _ rfl)⟩
          case measure => simp [intOf]; omega
        have d1 : (((k : Int) + 1) == 1) = false := by simp; omega
        have hk1 : k + 1 ≠ 1 := by omega
        obtain ⟨TA, tc, htv⟩ : ∃ TA tc, tv = .slice TA st.ts.length tc := own_form HRS.out.tr.th
        subst htv
        have hop2 := HOP.out
        rcases b with _ | _
        · have TV := Lib.hid (fun W => TW.out ⟨#[116, 104, 114, 101, 97, 100]⟩ (by decide) W)
          have HRT := Lib.hid (rdText_th x hk1 hop2)
          rcases htw : twoL x kwThread with _ | r
          · have HE := Lib.hid (HERR.out (by rw [HRT.out, htw]))
            have HT2 : Hid (twoL x (⟨#[116, 104, 114, 101, 97, 100]⟩ : ByteArray).data.toList = none) := Lib.hid htw
            rw [HT2.out] at TV
            clear htw hop2
            go_wp2_with (first
              | (go_at_call 56; go_must (refine (IDX.out _ _).mono ?_; rintro e w' ⟨rfl, rfl⟩; rw [HLT.out _ rfl, HJ.out]))
              | (go_at_call 57; go_must (refine (TV.out _).mono ?_; rintro e w' ⟨rr, rfl, hrr, rfl⟩; (have hrs : rr.size ≤ 9223372036854775807 := by (rw [sz_of hrr]; simp)); clear hrr)))
            refine bodyPost_ret (results_row_tmp2 (p := 2) (q := 3) (r := 4) (ty := 28) rfl _ _ w.heap.size _ _ _ rfl (run_loadVar_row _ _ 28 28 _ (0, 0) _ HRS.out.zero.1 Tryz.underlying28 rfl (by kernel_rfl)) rfl rfl) rfl ?_
            rw [HE.out]
            exact ⟨HRS.out.zero.2, rfl⟩
          have hrl := HTL.out _ _ htw
          have HT2 : Hid (twoL x (⟨#[116, 104, 114, 101, 97, 100]⟩ : ByteArray).data.toList = some r) := Lib.hid htw
          rw [HT2.out] at TV
          rcases hnl : namedL r with _ | _
          · have HE := Lib.hid (HERR.out (by rw [HRT.out, htw]; simp [hnl]))
            have HNL := Lib.hid hnl
            clear htw hnl hop2
            go_wp2_with (first
              | (go_at_call 56; go_must (refine (IDX.out _ _).mono ?_; rintro e w' ⟨rfl, rfl⟩; rw [HLT.out _ rfl, HJ.out]))
              | (go_at_call 57; go_must (refine (TV.out _).mono ?_; rintro e w' ⟨rr, rfl, hrr, rfl⟩; (have hrs : rr.size ≤ 9223372036854775807 := by (rw [sz_of hrr]; simp; omega)); (have HRR : Hid (rr.data.toList = r) := Lib.hid hrr); clear hrr))
              | (go_at_call 46; go_must (refine (NM.out _ rr hrs).mono ?_; rintro e w' ⟨rfl, rfl⟩; rw [HRR.out, HNL.out])))
            refine bodyPost_ret (results_row_tmp2 (p := 2) (q := 3) (r := 4) (ty := 28) rfl _ _ w.heap.size _ _ _ rfl (run_loadVar_row _ _ 28 28 _ (0, 0) _ HRS.out.zero.1 Tryz.underlying28 rfl (by kernel_rfl)) rfl rfl) rfl ?_
            rw [HE.out]
            exact ⟨HRS.out.zero.2, rfl⟩
          have hst : rdText st (k + 1) x = some { st with ts := st.ts ++ [⟨⟨r.toArray⟩, []⟩], op := true } := by rw [HRT.out, htw]; simp [hnl]
          have HST := Lib.hid hst
          have HNL := Lib.hid hnl
          obtain ⟨i0, hi, hz0, hz1, hz2⟩ := info_parts infoThread
          have HTH := Lib.hid HRS.out.tr.th
          have hts9 : st.ts.length ≤ 4096 := by have := HINV.out.ts; omega
          have hB2 : w.heap.size + 2 ≤ W.heap.size := HRS.out.tr.Bw
          clear htw hnl hst hop2
          go_wp2_with (first
            | (go_at_call 56; go_must (refine (IDX.out _ _).mono ?_; rintro e w' ⟨rfl, rfl⟩; rw [HLT.out _ rfl, HJ.out]))
            | (go_at_call 57; go_must (refine (TV.out _).mono ?_; rintro e w' ⟨rr, rfl, hrr, rfl⟩; (have hrs : rr.size ≤ 9223372036854775807 := by (rw [sz_of hrr]; simp; omega)); (have HRR : Hid (rr.data.toList = r) := Lib.hid hrr); clear hrr))
            | (go_at_call 46; go_must (refine (NM.out _ rr hrs).mono ?_; rintro e w' ⟨rfl, rfl⟩; rw [HRR.out, HNL.out]))
            | (at_builtin; go_must (refine wpList_append_own _ rfl _ _ 26 rfl (w.heap.size + 2) 45 i0 _ 2 40 Tryz.underlying26 hi hz0 hz1 hz2 rfl (by decide) _ _ _ rfl (HTH.out.alloc _) ⟨W.heap.size, 0, none⟩ 1 1 [.string rr, .slice none 0 0] rfl rfl (cells_new_list W _ _) (by simp [Value.oneCell']) (by unfold maxLen; omega) (by omega) (by simp; omega) ?_; intro v7 w7 hown7 hgr7 _; obtain ⟨A7, c7, rfl⟩ := own_form hown7; (have hb7 : Blk w7 (w.heap.size + 1) 28 #[.int .i64 st.v, .slice TA st.ts.length tc] := (HRS.out.blk.alloc _).grown hgr7 (fun e => by have := (HTH.out.lt _ e.symm).1; omega)); (have q1 := hb7.cell 1); (have p1 := hb7.frozen 1); (have HO7 := Lib.hid hown7); (have HG7 := Lib.hid hgr7); clear hown7 hgr7 hb7)))
          have hrt : rr = ⟨r.toArray⟩ := by rw [← HRR.out]
          have HREL : Hid (∀ a, a = at_ + (j + 1) → PaRel w s.data.toList R0 a (k + 1) true lv (w7.setCell ⟨w.heap.size + 1, 1, none⟩ (.slice A7 (st.ts.length + 1) c7))) := Lib.hid (fun a ha => by
            subst ha
            refine ⟨{ st with ts := st.ts ++ [⟨⟨r.toArray⟩, []⟩], op := true }, _, _, _, sps, (HRS.out.alloc (.cells #[.string rr, .slice none 0 0] 45)).thread (x := ⟨r.toArray⟩) ?_ HG7.out rfl rfl, HRI.out _ HST.out, ?_, ?_, rfl, HNEXT.out _ HST.out⟩
            · have := HO7.out
              rw [List.length_append, ← hrt]; exact this
            · show SpK ((st.ts ++ [(⟨⟨r.toArray⟩, []⟩ : Th)]).flatMap (·.ls)) st.ns
              rw [flat_th]; exact HSPK.out
            · show sps = spT 0 (st.ts ++ [⟨⟨r.toArray⟩, []⟩]) st.ns
              rw [spT_th _ _ _ HSPK.out.len]; exact HSPS.out)
          go_wp2_with fail
          go_roundw
          case rel => exact ⟨at_ + (j + 1), k + 1, true, lv, by omega, by omega, by go_num, by go_num, rfl, rfl, Lib.hid (HREL.out _ rfl)⟩
          case measure => simp [intOf]; omega
        by_cases hend : x = kwEnd
        · have c6 : ∀ c : ByteArray, c.data.toList = x → (c.toList == [101, 110, 100]) = true := fun c h => by rw [toList_data, h, hend]; rfl
          have c7 := c6 _ (HXT.out _ rfl)
          have hst : rdText st (k + 1) x = some { st with op := false } := by rw [hend]; exact rdText_end hk1 hop2
          have HREL : Hid (∀ a, a = at_ + (j + 1) → PaRel w s.data.toList R0 a (k + 1) false lv W) := Lib.hid (fun a ha => by
            subst ha
            exact ⟨{ st with op := false }, _, _, _, sps, HRS.out.st_ rfl rfl, HRI.out _ hst, HSPK.out, HSPS.out, rfl, HNEXT.out _ hst⟩)
          clear hend hst hop2 c6
          go_wp2_with (go_at_call 56; go_must (refine (IDX.out _ _).mono ?_; rintro e w' ⟨rfl, rfl⟩; rw [HLT.out _ rfl, HJ.out]))
          go_roundw
          case rel => exact ⟨at_ + (j + 1), k + 1, false, lv, by omega, by omega, by go_num, by go_num, rfl, rfl, Lib.hid (HREL.out _ rfl)⟩
          case measure => simp [intOf]; omega
        have c6 : ∀ c : ByteArray, c.data.toList = x → (c.toList == [101, 110, 100]) = false := fun c h => by rw [toList_data, h]; exact beq_eq_false_iff_ne.2 hend
        have c7 := c6 _ (HXT.out _ rfl)
        have HRT := Lib.hid (rdText_in hk1 hop2 hend)
        have hne := HINV.out.op hop2
        have RDC : Hid (Calls Tryz.prog 59 #[.string (s.extract at_ (at_ + j)), .int .i64 ((k : Int) + 1)] W (RdPost W x (k + 1))) := Lib.hid (by
          have := rread_any (s.extract at_ (at_ + j)) (k + 1) W (by have := HXS.out; omega) (by omega)
          rw [HXT.out _ rfl] at this; exact this)
        unfold RdPost at RDC
        clear hend c6 d1
        rcases hrr : rdR x (k + 1) with _ | y
        · have HE := Lib.hid (HERR.out (by rw [HRT.out, hrr]; rfl))
          rw [hrr] at RDC
          clear hrr hop2
          go_wp2_with (first
            | (go_at_call 56; go_must (refine (IDX.out _ _).mono ?_; rintro e w' ⟨rfl, rfl⟩; rw [HLT.out _ rfl, HJ.out]))
            | (go_at_call 59; go_must (refine (RDC.out).mono ?_; rintro e w5 ⟨yl, wd, rfl, _, hb5⟩; (have HR5 := Lib.hid ((HRS.out.below hb5).alloc (.cells #[.int .i64 yl.k, .int .i64 yl.a, .int .i64 yl.n] 42))); (have q0 := HR5.out.res.cell 0); (have q1 := HR5.out.res.cell 1); (have q2 := HR5.out.res.frozen 0); (have q3 := HR5.out.res.frozen 1); clear hb5)))
          refine bodyPost_ret (results_row_tmp2 (p := 2) (q := 3) (r := 4) (ty := 28) rfl _ _ w.heap.size _ _ _ rfl (run_loadVar_row _ _ 28 28 _ (0, 0) _ HR5.out.zero.1 Tryz.underlying28 rfl (by kernel_rfl)) rfl rfl) rfl ?_
          rw [HE.out]
          exact ⟨HR5.out.zero.2, rfl⟩
        have hst : rdText st (k + 1) x = some (addLn st y) := by rw [HRT.out, hrr]; rfl
        have HST := Lib.hid hst
        have HY : Hid (y.1.k = 5 ↔ y.2 ≠ []) := Lib.hid ⟨rdR_spawn hrr, rdR_kind hrr⟩
        have HSK := Lib.hid (spk_add HSPK.out hne hrr)
        rw [hrr] at RDC
        obtain ⟨pre, t, hts⟩ : ∃ pre t, st.ts = pre ++ [t] := ⟨_, _, (List.dropLast_concat_getLast hne).symm⟩
        have HSP := Lib.hid (spT_put (pre := pre) (t := t) (ns := st.ns) (l := y.1) y.2 (by rw [← hts]; exact HSPK.out.len))
        obtain ⟨ntl, hntl⟩ : ∃ ntl, pre.length = ntl := ⟨_, rfl⟩
        have hlen : st.ts.length = ntl + 1 := by rw [hts, ← hntl]; simp
        have hn9 : ntl ≤ 4096 := by have := HINV.out.ts; omega
        obtain ⟨yl, yw⟩ := y
        dsimp only at *
        clear hrr hst hop2
        rw [hlen] at v1
        go_upto_region 31 with (first
          | (go_at_call 56; go_must (refine (IDX.out _ _).mono ?_; rintro e w' ⟨rfl, rfl⟩; rw [HLT.out _ rfl, HJ.out]))
          | (go_at_call 59; go_must (refine (RDC.out).mono ?_; rintro e w5 ⟨yl', wd, rfl, hy5, hb5⟩; (have HY5 := Lib.hid (hy5 _ rfl)); (have hz5 := hb5.size); (have HR5 := Lib.hid ((HRS.out.below hb5).alloc (.cells #[.int .i64 yl'.k, .int .i64 yl'.a, .int .i64 yl'.n] 42))); clear hb5 hy5)))
        obtain ⟨hy1, hy2⟩ := HY5.out
        subst hy1
        have HWD := Lib.hid hy2
        refine wp_world (fun W6 => Hid (RsI w W6 st (.slice TA st.ts.length tc) lv vs lim sps ∧ Blk W6 w5.heap.size 42 #[.int .i64 yl.k, .int .i64 yl.a, .int .i64 yl.n])) (Lib.hid ⟨HR5.out, Blk.new w5 _ _⟩) ?_
        intro W6 HW6
        obtain ⟨gy, hgy⟩ : ∃ gy, w5.heap.size = gy := ⟨_, rfl⟩
        have HVG : Hid (∀ k (h : k < vs.length), ∀ g', vs[k].ownBlock = some g' → g' < gy) := Lib.hid (fun k h g' e => by
          have := (HRS.out.tr.ln k h (by rw [← HRS.out.tr.vl]; exact h)).lt g' e
          omega)
        rw [hgy] at HW6 ⊢
        have hspl : sps.length ≤ 4096 := by
          rw [HSPS.out]
          have h1 := spT_length st.ts 0 st.ns
          have h2 := HINV.out.ns
          omega
        clear hy2 HY5 HR5 hgy RDC IDX TW DG NM HTL r0 r1 f0 f1 v0 v1 g0 g1 hzw
        obtain ⟨ly, la, lm⟩ := yl
        dsimp only at *
        rw [hlen] at HW6
        obtain ⟨hrs, hyb⟩ := HW6.out
        obtain ⟨gt, cap, etv, hbgt, hltg⟩ := (by have := hrs.tr.th; rw [hlen] at this; exact this : W6.ownsRow (w.heap.size + 2) 45 2 (.slice TA (ntl + 1) tc) (ntl + 1) (thCells st.ts vs)).form (by omega)
        injection etv with eTA _ etc
        subst eTA
        subst etc
        obtain ⟨pvs, vn, hvs⟩ : ∃ pvs vn, vs = pvs ++ [vn] := ⟨_, _, (List.dropLast_concat_getLast (by intro e; have := hrs.tr.vl; rw [e, hlen] at this; simp at this)).symm⟩
        have hpl : pvs.length = ntl := by have := hrs.tr.vl; rw [hvs, hlen] at this; simpa using this
        have hvn : W6.ownsRow (w.heap.size + 2) 42 3 vn t.ls.length (lnCells t.ls) := by
          have := hrs.tr.ln ntl (by rw [hvs]; simp [hpl]) (by omega)
          simpa [hvs, hts, hpl, hntl, List.getElem_append_right] using this
        obtain ⟨LA, lc, rfl⟩ := own_form hvn
        obtain ⟨ln, hln⟩ : ∃ ln, t.ls.length = ln := ⟨_, rfl⟩
        have hln9 : ln ≤ 4096 := by
          have h1 := lensum_le st.ts t (by rw [hts]; simp)
          have h2 := HINV.out.sum
          have h3 := HINV.out.ns
          omega
        rw [hln] at hvn hvs
        have HYN : Hid ((Value.slice LA ln lc).ownBlock ≠ some gy) := Lib.hid (fun e => by
          have h1 : vs[ntl]'(by rw [hvs]; simp [hpl]) = .slice LA ln lc := by simp [hvs, ← hpl]
          have := HVG.out ntl (by rw [hvs]; simp [hpl]) gy (by rw [h1]; exact e)
          omega)
        have HCELL : Hid ((thCells st.ts vs)[ntl * 2 + 1]? = some (.slice LA ln lc)) := Lib.hid (by
          rw [(thCells_get st.ts vs hrs.tr.vl ntl (by omega)).2]
          simp [hvs, ← hpl])
        have hcl : W6.cell? ⟨gt, ntl * 2 + 1, none⟩ = some (.slice LA ln lc) := by
          have hth : W6.ownsRow (w.heap.size + 2) 45 2 (.slice (some ⟨gt, 0, none⟩) (ntl + 1) tc) (ntl + 1) (thCells st.ts vs) := by have := hrs.tr.th; rw [hlen] at this; exact this
          rw [hth.cellAt (ntl * 2 + 1) (by omega)]
          exact HCELL.out
        have b0 := hyb.cell 0
        have b1 := hyb.cell 1
        have b2 := hyb.cell 2
        have v1 := hrs.blk.cell 1
        have hgy : gy < W6.heap.size := hyb.lt
        have hB2 : w.heap.size + 2 ≤ W6.heap.size := hrs.tr.Bw
        have HLN := Lib.hid hln
        obtain ⟨SA, sc, rfl⟩ := own_form hrs.sp
        have HRS6 := Lib.hid hrs
        have HYB := Lib.hid hyb
        have HVN := Lib.hid hvn
        have HVS := Lib.hid hvs
        have HTS := Lib.hid hts
        have HNTL := Lib.hid hntl
        have HLEN := Lib.hid hlen
        have n0 : (0 : Int) ≤ (ntl : Int) := by omega
        have n1 : (ntl : Int) < ((ntl + 1 : Nat) : Int) := by omega
        have n2 : (ntl : Int) < (ntl : Int) + 1 := by omega
        clear hrs hyb hvn hvs hts hntl hlen hln HW6 HRS
        go_upto_if 116 with fail
        go_cut [6] from 114 to 129 (fun s6 wx => Hid (RsI w wx st (.slice (some ⟨gt, 0, none⟩) (ntl + 1) tc) s6 vs lim (sps ++ sp1 ntl ln yw) ∧ Blk wx gy 42 #[.int .i64 ly, .int .i64 la, .int .i64 lm]))
        case first =>
          by_cases h5 : ly = 5
          · have e5 : (ly == 5) = true := by simpa using h5
            have hyw := HY.out.1 h5
            have HSPX : Hid (sp1 ntl ln yw = [⟨ntl, ln, yw⟩]) := Lib.hid (by
              rcases hw : yw with _ | ⟨c0, y0⟩
              · exact absurd hw hyw
              · rfl)
            have HWB : Hid (wd = ⟨yw.toArray⟩) := Lib.hid (by rw [← HWD.out])
            obtain ⟨i1, hi1, hz3, hz4, hz5⟩ := info_parts infoSpawned
            clear h5 hyw
            go_wp2_with (at_builtin; go_must (refine wpList_append_own _ rfl _ _ 93 rfl (w.heap.size + 2) 102 i1 _ 3 32 Tryz.underlying93 hi1 hz3 hz4 hz5 rfl (by decide) _ _ _ rfl (HRS6.out.sp.alloc _) ⟨W6.heap.size, 0, none⟩ 1 1 [.int .i64 (ntl : Int), .int .i64 (ln : Int), .string wd] rfl rfl (cells_new_list W6 _ _) (by simp [Value.oneCell']) (by unfold maxLen; omega) (by omega) (by simp; omega) ?_; intro v9 w9 hown9 hgr9 _; (have HO9 := Lib.hid hown9); (have HG9 := Lib.hid hgr9); clear hown9 hgr9))
            go_meet
            refine Lib.hid ⟨?_, (HYB.out.alloc _).grown HG9.out (fun e => ?_)⟩
            · rw [HSPX.out]
              refine (HRS6.out.alloc (.cells #[.int .i64 (ntl : Int), .int .i64 (ln : Int), .string wd] 102)).spawn ⟨ntl, ln, yw⟩ ?_ HG9.out
              have := HO9.out
              rw [spCells_append, List.length_append]
              rw [HWB.out] at this
              exact this
            · exact own_blk_ne HRS6.out.sp HYB.out (by decide) e.symm
          · have e5 : (ly == 5) = false := by simpa using h5
            have hyw : yw = [] := by
              by_cases h : yw = []
              · exact h
              · exact absurd (HY.out.2 h) h5
            have HSPX : Hid (sp1 ntl ln yw = []) := Lib.hid (by rw [hyw]; rfl)
            clear h5 hyw
            go_wp2_with fail
            go_meet
            exact Lib.hid ⟨by rw [HSPX.out, List.append_nil]; exact HRS6.out, HYB.out⟩
        case rest =>
          obtain ⟨W7, rfl⟩ : ∃ W7 : World, W7 = wc := ⟨_, rfl⟩
          obtain ⟨lv7, hlv7⟩ : ∃ lv7, lv7 = u6 := ⟨_, rfl⟩
          rw [← hlv7] at hcut ⊢
          clear hlv7
          obtain ⟨hrs, hyb⟩ := hcut.out
          have hvn : W7.ownsRow (w.heap.size + 2) 42 3 (.slice LA ln lc) ln (lnCells t.ls) := by
            have := hrs.tr.ln ntl (by rw [HVS.out]; simp [hpl]) (by rw [HLEN.out]; omega)
            have e : t.ls.length = ln := HLN.out
            simp only [HVS.out, HTS.out] at this
            rw [List.getElem_append_right (by omega), List.getElem_append_right (by have := HNTL.out; omega)] at this
            simpa [hpl, HNTL.out, e] using this
          have hth : W7.ownsRow (w.heap.size + 2) 45 2 (.slice (some ⟨gt, 0, none⟩) (ntl + 1) tc) (ntl + 1) (thCells st.ts vs) := by have := hrs.tr.th; rw [HLEN.out] at this; exact this
          have hcl : W7.cell? ⟨gt, ntl * 2 + 1, none⟩ = some (.slice LA ln lc) := by
            rw [hth.cellAt (ntl * 2 + 1) (by omega)]
            exact HCELL.out
          have b0 := hyb.cell 0
          have b1 := hyb.cell 1
          have b2 := hyb.cell 2
          have v1 := hrs.blk.cell 1
          have hgy : gy < W7.heap.size := hyb.lt
          have hB2 : w.heap.size + 2 ≤ W7.heap.size := hrs.tr.Bw
          have hgtW : gt < W7.heap.size := (hth.lt gt rfl).2
          have hzp : w.heap.size + 1 < W7.heap.size := by omega
          obtain ⟨i0, hi, hz0, hz1, hz2⟩ := info_parts infoLine
          have HI := Lib.hid hi
          have H0 := Lib.hid hz0
          have H1 := Lib.hid hz1
          have H2 := Lib.hid hz2
          have HO : Hid (((W7.alloc (.cells #[.int .i64 ly, .int .i64 la, .int .i64 lm] 42)).drew).ownsRow (w.heap.size + 2) 42 3 (.slice LA ln lc) ln (lnCells t.ls)) := Lib.hid (hvn.alloc _)
          have HRD : Hid (Reads ((W7.alloc (.cells #[.int .i64 ly, .int .i64 la, .int .i64 lm] 42)).drew) (W7.heap.size + 1) 3 (some ⟨W7.heap.size, 0, none⟩) 1 (lnCells [⟨ly, la, lm⟩])) := Lib.hid
            ⟨rfl, fun _ => ⟨_, rfl, Nat.lt_succ_self _, cells_new_list W7 42 (lnCells [⟨ly, la, lm⟩])⟩⟩
          have HTH : Hid (((W7.alloc (.cells #[.int .i64 ly, .int .i64 la, .int .i64 lm] 42)).drew).ownsRow (w.heap.size + 2) 45 2 (.slice (some ⟨gt, 0, none⟩) (ntl + 1) tc) (ntl + 1) (thCells st.ts vs)) := Lib.hid (hth.alloc _)
          have HPB : Hid (Blk ((W7.alloc (.cells #[.int .i64 ly, .int .i64 la, .int .i64 lm] 42)).drew) (w.heap.size + 1) 28 #[.int .i64 st.v, .slice (some ⟨gt, 0, none⟩) (ntl + 1) tc]) := Lib.hid ((hrs.blk.alloc _).drew)
          have HYB7 : Hid (Blk ((W7.alloc (.cells #[.int .i64 ly, .int .i64 la, .int .i64 lm] 42)).drew) gy 42 #[.int .i64 ly, .int .i64 la, .int .i64 lm]) := Lib.hid ((hyb.alloc _).drew)
          have HGY : Hid (gy ≠ gt ∧ w.heap.size + 1 ≠ gt) := Lib.hid ⟨fun e => own_blk_ne hth hyb (by decide) (by rw [e]; rfl), by have := (hth.lt gt rfl).1; omega⟩
          have HRS7 := Lib.hid hrs
          clear hrs hyb hvn hth hi hz0 hz1 hz2 hcut
          go_upto_region 34 with fail
          have HREL : Hid (∀ a W8, a = at_ + (j + 1) → (∃ tv vs lim, RsI w W8 (addLn st (⟨ly, la, lm⟩, yw)) tv lv7 vs lim (sps ++ sp1 ntl ln yw)) → PaRel w s.data.toList R0 a (k + 1) true lv7 W8) := Lib.hid (fun a W8 ha hh => by
            subst ha
            obtain ⟨tv', vs', lim', h⟩ := hh
            refine ⟨_, tv', vs', lim', _, h, HRI.out _ HST.out, HSK.out, ?_, HOP.out, HNEXT.out _ HST.out⟩
            show sps ++ sp1 ntl ln yw = spT 0 (putLn st.ts ⟨ly, la, lm⟩) (st.ns ++ [yw])
            rw [HTS.out, putLn_snoc, HSP.out, HNTL.out, HLN.out, HSPS.out, HTS.out])
          have HAA : Hid (at_ + (j + 1) ≤ s.size ∧ k + 1 ≤ at_ + (j + 1) ∧ s.size - (at_ + (j + 1)) < s.size - at_) := Lib.hid (by omega)
          have HPUT : Hid (∀ w7 A7 c7, w7.ownsRow (w.heap.size + 2) 42 3 (.slice A7 (ln + 1) c7) (ln + 1) (lnCells t.ls ++ lnCells [⟨ly, la, lm⟩]) → (W7.alloc (.cells #[.int .i64 ly, .int .i64 la, .int .i64 lm] 42)).drew.grownBy w7 (Value.slice LA ln lc).ownBlock → ((Value.slice A7 (ln + 1) c7).ownBlock = (Value.slice LA ln lc).ownBlock ∨ (Value.slice A7 (ln + 1) c7).ownBlock = some (W7.alloc (.cells #[.int .i64 ly, .int .i64 la, .int .i64 lm] 42)).drew.heap.size) →
              ∃ tv vs lim, RsI w (w7.setCell ⟨gt, ntl * 2 + 1, none⟩ (.slice A7 (ln + 1) c7)) (addLn st (⟨ly, la, lm⟩, yw)) tv lv7 vs lim (sps ++ sp1 ntl ln yw)) := Lib.hid (fun w7 A7 c7 ho hg hd => by
            have hown8 : w7.ownsRow (w.heap.size + 2) 42 3 (.slice A7 (ln + 1) c7) (t.ls ++ [(⟨ly, la, lm⟩ : Ln)]).length (lnCells (t.ls ++ [⟨ly, la, lm⟩])) := by
              rw [lnCells_append, List.length_append, HLN.out]; exact ho
            have hput := ((HRS7.out.alloc (.cells #[.int .i64 ly, .int .i64 la, .int .i64 lm] 42)).drewN 1).put (st' := addLn st (⟨ly, la, lm⟩, yw)) HTS.out HVS.out (by rw [HLEN.out]) ⟨ly, la, lm⟩ hown8 hg hd rfl rfl
            rw [HNTL.out] at hput
            exact ⟨_, _, _, hput⟩)
          clear HST HSK HNEXT HRI HSP HSPS HTS HVS HLEN HNTL HOP HRS7 HRS6 HYB HVN HWD HSPK HINV HXT HXS HJ HDR HERR HL HR0 HP0 HY HRT HLT hj4 hxl hk1 hk0 hspl hpl hat hka hlt hll hjl hne c7 hbgt hltg hsz hs e0
          have hgy1 := HGY.out.1
          have hgy2 := HGY.out.2
          have KS : Hid (∀ W', Below W7.heap.size W7 W' → W'.cell? ⟨w.heap.size + 1, 1, none⟩ = some (.slice (some ⟨gt, 0, none⟩) (ntl + 1) tc) ∧ W'.cell? ⟨gy, 0, none⟩ = some (.int .i64 ly) ∧ W'.cell? ⟨gy, 1, none⟩ = some (.int .i64 la) ∧ W'.cell? ⟨gy, 2, none⟩ = some (.int .i64 lm)) := Lib.hid (fun W' h => ⟨(h.cell (p := ⟨w.heap.size + 1, 1, none⟩) hzp).trans v1, (h.cell (p := ⟨gy, 0, none⟩) hgy).trans b0, (h.cell (p := ⟨gy, 1, none⟩) hgy).trans b1, (h.cell (p := ⟨gy, 2, none⟩) hgy).trans b2⟩)
          have HD0 : Hid (Below W7.heap.size W7 W7.drew) := Lib.hid (below_drewN (Below.refl _ _) 1)
          have HD1 : Hid (∀ o, Below W7.heap.size W7 (W7.alloc o).drew) := Lib.hid (fun o => below_drewN ((Below.refl _ _).alloc (Nat.le_refl _) o) 1)
          have HKA : Hid (∀ w7, (W7.alloc (.cells #[.int .i64 ly, .int .i64 la, .int .i64 lm] 42)).drew.grownBy w7 (Value.slice LA ln lc).ownBlock → Blk w7 (w.heap.size + 1) 28 #[.int .i64 st.v, .slice (some ⟨gt, 0, none⟩) (ntl + 1) tc] ∧ Blk w7 gy 42 #[.int .i64 ly, .int .i64 la, .int .i64 lm]) := Lib.hid (fun w7 hg => ⟨HPB.out.grown hg (own_blk_ne HO.out HPB.out (by decide)).symm, HYB7.out.grown hg (HYN.out).symm⟩)
          have HKB : Hid (∀ w7 u, Blk w7 (w.heap.size + 1) 28 #[.int .i64 st.v, .slice (some ⟨gt, 0, none⟩) (ntl + 1) tc] ∧ Blk w7 gy 42 #[.int .i64 ly, .int .i64 la, .int .i64 lm] → ∀ W', W' = w7.setCell ⟨gt, ntl * 2 + 1, none⟩ u → W'.cell? ⟨w.heap.size + 1, 1, none⟩ = some (.slice (some ⟨gt, 0, none⟩) (ntl + 1) tc) ∧ W'.cell? ⟨gy, 0, none⟩ = some (.int .i64 ly) ∧ W'.cell? ⟨gy, 1, none⟩ = some (.int .i64 la) ∧ W'.cell? ⟨gy, 2, none⟩ = some (.int .i64 lm)) := Lib.hid (fun w7 u h W' e => by
            subst e
            have h1 := h.1.far (p := ⟨gt, ntl * 2 + 1, none⟩) (by dsimp only; omega) u
            have h2 := h.2.far (p := ⟨gt, ntl * 2 + 1, none⟩) (by dsimp only; omega) u
            exact ⟨h1.cell 1, h2.cell 0, h2.cell 1, h2.cell 2⟩)
          have hcla : ∀ o, (W7.alloc o).cell? ⟨gt, ntl * 2 + 1, none⟩ = some (.slice LA ln lc) := fun o => (World.cell?_alloc_lt W7 o ⟨gt, ntl * 2 + 1, none⟩ hgtW).trans hcl
          refine wp_region_held_drew (S := (fun W' => W'.cell? ⟨w.heap.size + 1, 1, none⟩ = some (.slice (some ⟨gt, 0, none⟩) (ntl + 1) tc) ∧ W'.cell? ⟨gy, 0, none⟩ = some (.int .i64 ly) ∧ W'.cell? ⟨gy, 1, none⟩ = some (.int .i64 la) ∧ W'.cell? ⟨gy, 2, none⟩ = some (.int .i64 lm))) (by kernel_rfl) ?_ (fun hHeld => ?_)
          · exact KS.out _ HD0.out
          refine wpAnyH_take (i := 0) (oi := _) (v := ?v1) rfl (by kernel_rfl) (by kernel_rfl) (by kernel_rfl) (fun _ _ _ h => h) (Or.inl ⟨by rfl, ?hy1⟩) (by assumption) ?rest1
          case hy1 => ((intro W hSw); (try dsimp only at hSw); go_simp; (first | done | with_reducible rfl))
          (try simp only [Act.put, List.setIfInBounds_toArray, List.set_cons_zero, List.set_cons_succ])
          refine wpAnyH_take (i := 1) (oi := _) (v := ?v2) rfl (by kernel_rfl) (by kernel_rfl) (by kernel_rfl) (fun _ _ _ h => h) (Or.inl ⟨by rfl, ?hy2⟩) (by assumption) ?rest2
          case hy2 => ((intro W hSw); (try dsimp only at hSw); go_simp; (first | done | with_reducible rfl))
          (try simp only [Act.put, List.setIfInBounds_toArray, List.set_cons_zero, List.set_cons_succ])
          refine wpAnyH_take (i := 2) (oi := _) (v := ?v3) rfl (by kernel_rfl) (by kernel_rfl) (by kernel_rfl) (fun _ _ _ h => h) (Or.inl ⟨by rfl, ?hy3⟩) (by assumption) ?rest3
          case hy3 => ((intro W hSw); (try dsimp only at hSw); go_simp; (first | done | with_reducible rfl))
          (try simp only [Act.put, List.setIfInBounds_toArray, List.set_cons_zero, List.set_cons_succ])
          refine wpAnyH_take (i := 3) (oi := _) (v := ?v4) rfl (by kernel_rfl) (by kernel_rfl) (by kernel_rfl) (fun _ _ _ h => h) (Or.inl ⟨by rfl, ?hy4⟩) (by assumption) ?rest4
          case hy4 => ((intro W hSw); (try dsimp only at hSw); go_simp; (first | done | with_reducible rfl))
          (try simp only [Act.put, List.setIfInBounds_toArray, List.set_cons_zero, List.set_cons_succ])
          refine wpAnyH_take (i := 4) (oi := _) (v := ?v5) rfl (by kernel_rfl) (by kernel_rfl) (by kernel_rfl) (fun _ _ _ h => h) (Or.inl ⟨by rfl, ?hy5⟩) (by assumption) ?rest5
          case hy5 => ((intro W hSw); (try dsimp only at hSw); go_simp; (first | done | with_reducible rfl))
          (try simp only [Act.put, List.setIfInBounds_toArray, List.set_cons_zero, List.set_cons_succ])
          refine wpAnyH_take (i := 5) (oi := _) (v := ?v6) rfl (by kernel_rfl) (by kernel_rfl) (by kernel_rfl) (fun _ _ _ h => h) (Or.inl ⟨by rfl, ?hy6⟩) (by assumption) ?rest6
          case hy6 => ((intro W hSw); (try dsimp only at hSw); go_simp; (first | done | with_reducible rfl))
          (try simp only [Act.put, List.setIfInBounds_toArray, List.set_cons_zero, List.set_cons_succ])
          refine wpAnyH_take (i := 6) (oi := _) (v := ?v7) rfl (by kernel_rfl) (by kernel_rfl) (by kernel_rfl) (fun _ _ _ h => h) (Or.inl ⟨by rfl, ?hy7⟩) (by assumption) ?rest7
          case hy7 => ((intro W hSw); (try dsimp only at hSw); go_simp; (first | done | with_reducible rfl))
          (try simp only [Act.put, List.setIfInBounds_toArray, List.set_cons_zero, List.set_cons_succ])
          refine wpAnyH_take (i := 7) (oi := _) (v := ?v8) rfl (by kernel_rfl) (by kernel_rfl) (by kernel_rfl) (fun _ _ _ h => h) (Or.inl ⟨by rfl, ?hy8⟩) (by assumption) ?rest8
          case hy8 => ((intro W hSw); (try dsimp only at hSw); go_simp; (first | done | with_reducible rfl))
          (try simp only [Act.put, List.setIfInBounds_toArray, List.set_cons_zero, List.set_cons_succ])
          refine wpAnyH_take (i := 9) (oi := _) (v := ?v9) rfl (by kernel_rfl) (by kernel_rfl) (by kernel_rfl) (fun _ _ _ h => h) (Or.inl ⟨by rfl, ?hy9⟩) (by assumption) ?rest9
          case hy9 => ((intro W hSw); (try dsimp only at hSw); go_simp; (first | done | with_reducible rfl))
          (try simp only [Act.put, List.setIfInBounds_toArray, List.set_cons_zero, List.set_cons_succ])
          refine wpAnyH_ready (rs := [8, 10]) (by kernel_rfl) (by simp) ?_
          refine AllReadyH.cons (o := _) rfl (fun K hK => ?_) ?_
          · go_simp
            refine hK.out _ _ ?_ (fun hHeld2 => ?_)
            · exact KS.out _ HD0.out
            clear hK K hHeld
            have hHeld := hHeld2
            clear hHeld2
            (try simp only [Act.put, List.setIfInBounds_toArray, List.set_cons_zero, List.set_cons_succ])
            refine wpAnyH_ready (rs := [10]) (by kernel_rfl) (by simp) ?_
            refine AllReadyH.cons (o := _) rfl (fun K hK => ?_) ?_
            · go_simp
              refine hK.out _ _ ?_ (fun hHeld2 => ?_)
              · exact KS.out _ (HD1.out _)
              clear hK K hHeld
              have hHeld := hHeld2
              clear hHeld2
              (try simp only [Act.put, List.setIfInBounds_toArray, List.set_cons_zero, List.set_cons_succ])
              refine wpAnyH_ready (rs := [11]) (by kernel_rfl) (by simp) ?_
              refine AllReadyH.cons (o := _) rfl (fun K hK => ?_) ?_
              · (refine step_append_any _ rfl (.tmp 138) (.tmp 140) 43 rfl (w.heap.size + 2) 42 i0 _ 3 24 Tryz.underlying43 HI.out H0.out H1.out H2.out rfl (by decide) (.slice LA ln lc) ln (lnCells t.ls) (by simp [Act.eval, Act.put]) HO.out (W7.heap.size + 1) (some ⟨W7.heap.size, 0, none⟩) 1 1 (lnCells [⟨ly, la, lm⟩]) (by simp [Act.eval, Act.put]) HRD.out (by simp [lnCells, Value.oneCell']) (by unfold maxLen; omega) (by omega) (by simp <;> omega) ?_; intro v7 w7 hown7 hgr7 hd7; obtain ⟨A7, c7, rfl⟩ := own_form hown7; have hth7 := own_kept_grow HTH.out HO.out (by decide) hgr7; have k0 : w7.cell? ⟨gt, ntl * 2 + 1, none⟩ = some (.slice LA ln lc) := (hth7.cellAt (ntl * 2 + 1) (by omega)).trans HCELL.out; have k1 := hth7.frozenAt (ntl * 2 + 1); have k2 := (HPB.out.grown hgr7 (own_blk_ne HO.out HPB.out (by decide)).symm).cell 1; have HO7 := Lib.hid hown7; have HG7 := Lib.hid hgr7; have HD7 := Lib.hid hd7; clear hown7 hgr7 hd7 hth7; (have HK9 := Lib.hid (HKA.out _ HG7.out)))
                refine hK.out _ _ ?_ (fun hHeld2 => ?_)
                · exact ⟨HK9.out.1.cell 1, HK9.out.2.cell 0, HK9.out.2.cell 1, HK9.out.2.cell 2⟩
                clear hK K hHeld
                have hHeld := hHeld2
                clear hHeld2
                (try simp only [Act.put, List.setIfInBounds_toArray, List.set_cons_zero, List.set_cons_succ])
                refine wpAnyH_take (i := 12) (oi := _) (v := ?v10) rfl (by kernel_rfl) (by kernel_rfl) (by kernel_rfl) (fun _ _ _ h => h) (Or.inl ⟨by rfl, ?hy10⟩) (by assumption) ?rest10
                case hy10 => ((intro W hSw); (try dsimp only at hSw); go_simp; (first | done | with_reducible rfl))
                (try simp only [Act.put, List.setIfInBounds_toArray, List.set_cons_zero, List.set_cons_succ])
                refine wpAnyH_take (i := 13) (oi := _) (v := ?v11) rfl (by kernel_rfl) (by kernel_rfl) (by kernel_rfl) (fun _ _ _ h => h) (Or.inl ⟨by rfl, ?hy11⟩) (by assumption) ?rest11
                case hy11 => ((intro W hSw); (try dsimp only at hSw); go_simp; (first | done | with_reducible rfl))
                (try simp only [Act.put, List.setIfInBounds_toArray, List.set_cons_zero, List.set_cons_succ])
                refine wpAnyH_ready (rs := [14]) (by kernel_rfl) (by simp) ?_
                refine AllReadyH.cons (o := _) rfl (fun K hK => ?_) ?_
                · go_simp
                  refine hK.out _ _ ?_ (fun hHeld2 => ?_)
                  · exact HKB.out _ _ HK9.out _ rfl
                  clear hK K hHeld
                  have hHeld := hHeld2
                  clear hHeld2
                  (try simp only [Act.put, List.setIfInBounds_toArray, List.set_cons_zero, List.set_cons_succ])
                  refine wpAnyH_done (by kernel_rfl) ?_ _
                  go_simp
                  go_wp2_with fail
                  go_roundw
                  case rel => exact ⟨at_ + (j + 1), k + 1, true, lv7, HAA.out.1, HAA.out.2.1, by go_num, by go_num, rfl, rfl, Lib.hid (HREL.out _ _ rfl (HPUT.out _ _ _ HO7.out HG7.out HD7.out))⟩
                  case measure =>
                    have := HAA.out.2.2
                    simp [intOf]; omega
                exact AllReadyH.nil
              exact AllReadyH.nil
            exact AllReadyH.nil
          refine AllReadyH.cons (o := _) rfl (fun K hK => ?_) ?_
          · go_simp
            refine hK.out _ _ ?_ (fun hHeld2 => ?_)
            · exact KS.out _ (HD1.out _)
            clear hK K hHeld
            have hHeld := hHeld2
            clear hHeld2
            (try simp only [Act.put, List.setIfInBounds_toArray, List.set_cons_zero, List.set_cons_succ])
            refine wpAnyH_ready (rs := [8]) (by kernel_rfl) (by simp) ?_
            refine AllReadyH.cons (o := _) rfl (fun K hK => ?_) ?_
            · go_simp
              refine hK.out _ _ ?_ (fun hHeld2 => ?_)
              · exact KS.out _ (HD1.out _)
              clear hK K hHeld
              have hHeld := hHeld2
              clear hHeld2
              (try simp only [Act.put, List.setIfInBounds_toArray, List.set_cons_zero, List.set_cons_succ])
              refine wpAnyH_ready (rs := [11]) (by kernel_rfl) (by simp) ?_
              refine AllReadyH.cons (o := _) rfl (fun K hK => ?_) ?_
              · (refine step_append_any _ rfl (.tmp 138) (.tmp 140) 43 rfl (w.heap.size + 2) 42 i0 _ 3 24 Tryz.underlying43 HI.out H0.out H1.out H2.out rfl (by decide) (.slice LA ln lc) ln (lnCells t.ls) (by simp [Act.eval, Act.put]) HO.out (W7.heap.size + 1) (some ⟨W7.heap.size, 0, none⟩) 1 1 (lnCells [⟨ly, la, lm⟩]) (by simp [Act.eval, Act.put]) HRD.out (by simp [lnCells, Value.oneCell']) (by unfold maxLen; omega) (by omega) (by simp <;> omega) ?_; intro v7 w7 hown7 hgr7 hd7; obtain ⟨A7, c7, rfl⟩ := own_form hown7; have hth7 := own_kept_grow HTH.out HO.out (by decide) hgr7; have k0 : w7.cell? ⟨gt, ntl * 2 + 1, none⟩ = some (.slice LA ln lc) := (hth7.cellAt (ntl * 2 + 1) (by omega)).trans HCELL.out; have k1 := hth7.frozenAt (ntl * 2 + 1); have k2 := (HPB.out.grown hgr7 (own_blk_ne HO.out HPB.out (by decide)).symm).cell 1; have HO7 := Lib.hid hown7; have HG7 := Lib.hid hgr7; have HD7 := Lib.hid hd7; clear hown7 hgr7 hd7 hth7; (have HK9 := Lib.hid (HKA.out _ HG7.out)))
                refine hK.out _ _ ?_ (fun hHeld2 => ?_)
                · exact ⟨HK9.out.1.cell 1, HK9.out.2.cell 0, HK9.out.2.cell 1, HK9.out.2.cell 2⟩
                clear hK K hHeld
                have hHeld := hHeld2
                clear hHeld2
                (try simp only [Act.put, List.setIfInBounds_toArray, List.set_cons_zero, List.set_cons_succ])
                refine wpAnyH_take (i := 12) (oi := _) (v := ?v12) rfl (by kernel_rfl) (by kernel_rfl) (by kernel_rfl) (fun _ _ _ h => h) (Or.inl ⟨by rfl, ?hy12⟩) (by assumption) ?rest12
                case hy12 => ((intro W hSw); (try dsimp only at hSw); go_simp; (first | done | with_reducible rfl))
                (try simp only [Act.put, List.setIfInBounds_toArray, List.set_cons_zero, List.set_cons_succ])
                refine wpAnyH_take (i := 13) (oi := _) (v := ?v13) rfl (by kernel_rfl) (by kernel_rfl) (by kernel_rfl) (fun _ _ _ h => h) (Or.inl ⟨by rfl, ?hy13⟩) (by assumption) ?rest13
                case hy13 => ((intro W hSw); (try dsimp only at hSw); go_simp; (first | done | with_reducible rfl))
                (try simp only [Act.put, List.setIfInBounds_toArray, List.set_cons_zero, List.set_cons_succ])
                refine wpAnyH_ready (rs := [14]) (by kernel_rfl) (by simp) ?_
                refine AllReadyH.cons (o := _) rfl (fun K hK => ?_) ?_
                · go_simp
                  refine hK.out _ _ ?_ (fun hHeld2 => ?_)
                  · exact HKB.out _ _ HK9.out _ rfl
                  clear hK K hHeld
                  have hHeld := hHeld2
                  clear hHeld2
                  (try simp only [Act.put, List.setIfInBounds_toArray, List.set_cons_zero, List.set_cons_succ])
                  refine wpAnyH_done (by kernel_rfl) ?_ _
                  go_simp
                  go_wp2_with fail
                  go_roundw
                  case rel => exact ⟨at_ + (j + 1), k + 1, true, lv7, HAA.out.1, HAA.out.2.1, by go_num, by go_num, rfl, rfl, Lib.hid (HREL.out _ _ rfl (HPUT.out _ _ _ HO7.out HG7.out HD7.out))⟩
                  case measure =>
                    have := HAA.out.2.2
                    simp [intOf]; omega
                exact AllReadyH.nil
              exact AllReadyH.nil
            exact AllReadyH.nil
          exact AllReadyH.nil
    · obtain rfl : at_ = s.size := by omega
      have hR : R0 = .inr (st, k) := by rw [← hrd, List.drop_of_length_le (by omega)]; rfl
      have HPF : Hid (PP = if st.ts.length = 0 ∨ st.op = true then .inl (k + 1) else finR st) := Lib.hid (by
        rw [HP0.out (fun st' n e => by rw [hR] at e; injection e with e; injection e with e1 e2; rw [← e1]; exact HSPK.out), hR]; rfl)
      have hts9 : st.ts.length ≤ 4096 := by have := HINV.out.ts; omega
      have hspl : sps.length ≤ 4096 := by
        rw [HSPS.out]
        have h1 := spT_length st.ts 0 st.ns
        have h2 := HINV.out.ns
        omega
      obtain ⟨TA, tc, htv⟩ : ∃ TA tc, tv = .slice TA st.ts.length tc := own_form HRS.out.tr.th
      subst htv
      obtain ⟨SA, sc, hlv⟩ : ∃ SA sc, lv = .slice SA sps.length sc := own_form HRS.out.sp
      subst hlv
      obtain ⟨n, hn⟩ : ∃ n, st.ts.length = n := ⟨_, rfl⟩
      obtain ⟨sn, hsn⟩ : ∃ n, sps.length = n := ⟨_, rfl⟩
      rw [hn] at hts9 HPF HRS
      rw [hsn] at hspl HRS ⊢
      have r0 := HRS.out.res.cell 0
      have r1 := HRS.out.res.cell 1
      have f0 := HRS.out.res.frozen 0
      have f1 := HRS.out.res.frozen 1
      have v0 := HRS.out.blk.cell 0
      have v1 := HRS.out.blk.cell 1
      have HN := Lib.hid hn
      have HSN := Lib.hid hsn
      clear hrd hR hn hsn
      rcases b with _ | _
      rotate_left
      · have HE : Hid (PP = .inl (k + 1)) := Lib.hid (by rw [HPF.out, if_pos (Or.inr HOP.out)])
        go_wp2_with fail
        refine bodyPost_ret (results_row_tmp2 (p := 2) (q := 3) (r := 4) (ty := 28) rfl _ _ w.heap.size _ _ _ rfl (run_loadVar_row _ _ 28 28 _ (0, 0) _ HRS.out.zero.1 Tryz.underlying28 rfl (by kernel_rfl)) rfl rfl) rfl ?_
        rw [HE.out]
        exact ⟨HRS.out.zero.2, rfl⟩
      by_cases h0 : n = 0
      · have HE : Hid (PP = .inl (k + 1)) := Lib.hid (by rw [HPF.out, if_pos (Or.inl h0)])
        have e1 : ((n : Int) == 0) = true := by simp; omega
        go_wp2_with fail
        refine bodyPost_ret (results_row_tmp2 (p := 2) (q := 3) (r := 4) (ty := 28) rfl _ _ w.heap.size _ _ _ rfl (run_loadVar_row _ _ 28 28 _ (0, 0) _ HRS.out.zero.1 Tryz.underlying28 rfl (by kernel_rfl)) rfl rfl) rfl ?_
        rw [HE.out]
        exact ⟨HRS.out.zero.2, rfl⟩
      have e1 : ((n : Int) == 0) = false := by simp; omega
      have HPF2 : Hid (PP = finR st) := Lib.hid (by rw [HPF.out, if_neg (by rw [HOP.out]; simp; exact h0)])
      have HRS0 : Hid (RsI w W { st with ts := (sps.take 0).foldl (setA st.ts) st.ts } (.slice TA n tc) (.slice SA sn sc) vs lim sps) := Lib.hid (HRS.out.st_ rfl rfl)
      have HSHP : Hid (∀ i, ((sps.take i).foldl (setA st.ts) st.ts).map shp = st.ts.map shp) := Lib.hid (fun i => fold_shape st.ts _ _)
      have HMEM : Hid (∀ i (h : i < sps.length), ∃ h : sps[i].t < st.ts.length, sps[i].l < st.ts[sps[i].t].ls.length) := Lib.hid (fun i h => spT_mem0 (ns := st.ns) (by rw [← HSPS.out]; exact List.getElem_mem h))
      have HSTEP : Hid (∀ i (h : i < sps.length), (sps.take (i + 1)).foldl (setA st.ts) st.ts = setA st.ts ((sps.take i).foldl (setA st.ts) st.ts) sps[i]) := Lib.hid (fun i h => by rw [List.take_succ_eq_append_getElem h, List.foldl_append]; rfl)
      clear HPF HR0 HP0 hsz hlt
      go_wp2_with fail
      clear r0 r1 f0 f1 v0 v1
      go_loopw [22] (fun s22 wr => ∃ i : Nat, i ≤ sn ∧ s22 = .int .i64 i ∧ Hid (RsI w wr { st with ts := (sps.take i).foldl (setA st.ts) st.ts } (.slice TA n tc) (.slice SA sn sc) vs lim sps)) (fun s22 _ => sn - (intOf s22).toNat)
      case atStart => exact ⟨0, by omega, rfl, HRS0⟩
      case round =>
        obtain ⟨W1, rfl⟩ : ∃ W1 : World, W1 = wr := ⟨_, rfl⟩
        obtain ⟨i, hi, rfl, HR⟩ := hrel
        obtain ⟨cur, hcur⟩ : ∃ cur, (sps.take i).foldl (setA st.ts) st.ts = cur := ⟨_, rfl⟩
        have hshp := HSHP.out i
        rw [hcur] at HR hshp
        have hcl : cur.length = n := by rw [shape_len hshp]; exact HN.out
        have v0 := HR.out.blk.cell 0
        have v1 := HR.out.blk.cell 1
        have hzp : w.heap.size + 1 < W1.heap.size := HR.out.blk.lt
        by_cases hil : i < sn
        · have hip : i < sps.length := by rw [HSN.out]; exact hil
          obtain ⟨hm1, hm2⟩ := HMEM.out i hip
          have hst := HSTEP.out i hip
          rw [hcur] at hst
          obtain ⟨gs, cs, es, hgs1, hgs2⟩ := (by have := HR.out.sp; rw [HSN.out] at this; exact this : W1.ownsRow (w.heap.size + 2) 102 3 (.slice SA sn sc) sn (spCells sps)).form (by omega)
          injection es with es1 _ es2
          subst es1
          subst es2
          obtain ⟨gt, ct, et, hgt1, hgt2⟩ := (by have := HR.out.tr.th; rw [hcl] at this; exact this : W1.ownsRow (w.heap.size + 2) 45 2 (.slice TA n tc) n (thCells cur vs)).form (by omega)
          injection et with et1 _ et2
          subst et1
          subst et2
          have hspo : W1.ownsRow (w.heap.size + 2) 102 3 (.slice (some ⟨gs, 0, none⟩) sn sc) sn (spCells sps) := by have := HR.out.sp; rw [HSN.out] at this; exact this
          have htho : W1.ownsRow (w.heap.size + 2) 45 2 (.slice (some ⟨gt, 0, none⟩) n tc) n (thCells cur vs) := by have := HR.out.tr.th; rw [hcl] at this; exact this
          obtain ⟨sc0, sc1, sc2⟩ := spCells_get sps i hip
          have c0 := (hspo.cellAt (i * 3) (by omega)).trans sc0
          have c1 := (hspo.cellAt (i * 3 + 1) (by omega)).trans sc1
          have c2 := (hspo.cellAt (i * 3 + 2) (by omega)).trans sc2
          have HTC : Hid (∀ m (h : m < cur.length), W1.cell? ⟨gt, m * 2, none⟩ = some (.string cur[m].nm)) := Lib.hid (fun m h => (htho.cellAt (m * 2) (by omega)).trans (thCells_get cur vs HR.out.tr.vl m h).1)
          generalize hsp : sps[i]'hip = sp at *
          obtain ⟨ti, li, nm⟩ := sp
          dsimp only at *
          obtain ⟨nmB, hnmB⟩ : ∃ b : ByteArray, b = ⟨nm.toArray⟩ := ⟨_, rfl⟩
          rw [← hnmB] at c2
          have HNB : Hid (nmB.data.toList = nm) := Lib.hid (by rw [hnmB])
          clear hnmB
          have htc : ti < cur.length := by rw [shape_len hshp]; exact hm1
          have hlc : li < cur[ti].ls.length := by rw [(shape_at hshp htc hm1).2]; exact hm2
          have htv : ti < vs.length := by rw [HR.out.tr.vl]; exact htc
          have hlno := HR.out.tr.ln ti htv htc
          obtain ⟨lb, lci, elb, hlb1, hlb2⟩ := hlno.form (by dsimp only; omega)
          rw [elb] at hlno
          obtain ⟨lnn, hlnn⟩ : ∃ m, cur[ti].ls.length = m := ⟨_, rfl⟩
          have hcth : W1.cell? ⟨gt, ti * 2 + 1, none⟩ = some (.slice (some ⟨lb, 0, none⟩) lnn lci) := by
            rw [(htho.cellAt (ti * 2 + 1) (by omega)).trans (thCells_get cur vs HR.out.tr.vl ti htc).2, elb, hlnn]
          have hcst : W1.cell? ⟨lb, li * 3 + 1, none⟩ = some (.int .i64 cur[ti].ls[li].a) := (hlno.cellAt (li * 3 + 1) (by dsimp only; omega)).trans (lnCells_get cur[ti].ls li hlc).2.1
          have hfst : W1.frozen? ⟨lb, li * 3 + 1, none⟩ = false := hlno.frozenAt (li * 3 + 1)
          obtain ⟨fn, hfn⟩ : ∃ fn, findN st.ts nm = fn := ⟨_, rfl⟩
          have HNX : Hid (∀ q, RsI w ((W1.drewN q).setCell ⟨lb, li * 3 + 1, none⟩ (.int .i64 (fn : Int))) { st with ts := (sps.take (i + 1)).foldl (setA st.ts) st.ts } (.slice (some ⟨gt, 0, none⟩) n tc) (.slice (some ⟨gs, 0, none⟩) sn sc) vs lim sps) := Lib.hid (fun q => by
            refine (HR.out.drewN q).lineA (i := ti) (j := li) htc htv hlc fn elb ?_ rfl
            show (sps.take (i + 1)).foldl (setA st.ts) st.ts = _
            rw [hst, setA_eq htc hlc]
            show _ = cur.set ti ⟨cur[ti].nm, cur[ti].ls.set li ⟨cur[ti].ls[li].k, (fn : Int), cur[ti].ls[li].n⟩⟩
            rw [← hfn]; rfl)
          have HFN1 : Hid (∀ m (h : m < cur.length), (∀ j, (h2 : j < m) → cur[j].nm.data.toList ≠ nm) → cur[m].nm.data.toList = nm → fn = m) := Lib.hid (fun m h hb he => by rw [← hfn, ← findN_names nm hshp]; exact findN_at h hb he)
          have HFN2 : Hid ((∀ j, (h2 : j < cur.length) → cur[j].nm.data.toList ≠ nm) → fn = n) := Lib.hid (fun hb => by rw [← hfn, ← findN_names nm hshp, findN_none hb]; exact hcl)
          have hlg1 : gs ≠ lb := fun e => own_own_ne hspo hlno (by decide) gs rfl (by rw [e]; rfl)
          have hlg2 : gt ≠ lb := fun e => own_own_ne htho hlno (by decide) gt rfl (by rw [e]; rfl)
          have htin : ti < n := by omega
          have hlin : li < lnn := by rw [← hlnn]; exact hlc
          have hgtW : gt < W1.heap.size := hgt2
          have hgsW : gs < W1.heap.size := hgs2
          generalize (cur[ti].ls[li]).a = a0 at *
          have HCL := Lib.hid hcl
          clear sc0 sc1 sc2 hst hsp hlno hlnn hfn hspo htho hcur elb hcl HR
          go_upto_block 4 with fail
          go_cut [23] from 160 to 180 (fun s23 wx => s23 = .int .i64 (fn : Int) ∧ ∃ q, wx = W1.drewN q)
          case first =>
            go_wp2_with fail
            go_loopw [23] (fun s23 wr => ∃ (m q : Nat), m ≤ n ∧ s23 = .int .i64 m ∧ Hid (wr = W1.drewN q ∧ ∀ j, j < m → ∀ (h2 : j < cur.length), cur[j].nm.data.toList ≠ nm)) (fun s23 _ => n - (intOf s23).toNat)
            case atStart => exact ⟨0, 0, by omega, rfl, Lib.hid ⟨rfl, fun j h => absurd h (by omega)⟩⟩
            case round =>
              obtain ⟨m, q, hm, rfl, HJ⟩ := hrel
              have hw := HJ.out.1
              subst hw
              by_cases hmn : m < n
              · have hmc : m < cur.length := by rw [HCL.out]; exact hmn
                have t0 := HTC.out m hmc
                have HNJ := Lib.hid HJ.out.2
                have HF1 := Lib.hid (HFN1.out m hmc)
                generalize hnm2 : (cur[m]'hmc).nm = nm2 at *
                have HNM2 := Lib.hid hnm2
                have m0 : (0 : Int) ≤ (m : Int) := by omega
                have m1 : (m : Int) < (n : Int) := by omega
                clear hnm2 HJ
                by_cases he : nm2.data.toList = nm
                · have e2 : (nm2.toList == nmB.toList) = true := by rw [str_eq_dec, HNB.out]; simpa using he
                  have e3 : (nm2.toList != nmB.toList) = false := by rw [bne, e2]; rfl
                  have HF := Lib.hid (HF1.out (fun j h => HNJ.out j h (by omega)) he)
                  clear he
                  go_wp2_with fail
                  go_quiet (fail)
                  go_wp2_with fail
                  go_meet
                  exact ⟨by rw [HF.out], _, World.drewN_drewN _ _ _⟩
                · have e2 : (nm2.toList == nmB.toList) = false := by rw [str_eq_dec, HNB.out]; simpa using he
                  have e3 : (nm2.toList != nmB.toList) = true := by rw [bne, e2]; rfl
                  have HF : Hid (∀ j, j < m + 1 → ∀ (h2 : j < cur.length), cur[j].nm.data.toList ≠ nm) := Lib.hid (fun j hj h2 => by
                    by_cases e : j = m
                    · subst e; rw [HNM2.out]; exact he
                    · exact HNJ.out j (by omega) h2)
                  clear he
                  go_wp2_with fail
                  go_quiet (fail)
                  go_wp2_with fail
                  go_roundw
                  case rel => exact ⟨m + 1, _, by omega, by go_num, Lib.hid ⟨rfl, HF.out⟩⟩
                  case measure => simp [intOf]; omega
              · obtain rfl : m = n := by omega
                have HF := Lib.hid (HFN2.out (fun j h2 => HJ.out.2 j (by rw [HCL.out] at h2; exact h2) h2))
                go_wp2_with fail
                go_quiet (fail)
                go_wp2_with fail
                go_meet
                exact ⟨by rw [HF.out], _, World.drewN_drewN _ _ _⟩
          case rest =>
            obtain ⟨rfl, q, rfl⟩ := hcut
            have KS : Hid (∀ W', Below W1.heap.size W1 W' → W'.cell? ⟨w.heap.size + 1, 1, none⟩ = some (.slice (some ⟨gt, 0, none⟩) n tc) ∧ W'.cell? ⟨gs, i * 3, none⟩ = some (.int .i64 (ti : Int)) ∧ W'.cell? ⟨gs, i * 3 + 1, none⟩ = some (.int .i64 (li : Int)) ∧ W'.cell? ⟨gt, ti * 2 + 1, none⟩ = some (.slice (some ⟨lb, 0, none⟩) lnn lci)) := Lib.hid (fun W' h => ⟨(h.cell (p := ⟨w.heap.size + 1, 1, none⟩) hzp).trans v1, (h.cell (p := ⟨gs, i * 3, none⟩) hgsW).trans c0, (h.cell (p := ⟨gs, i * 3 + 1, none⟩) hgsW).trans c1, (h.cell (p := ⟨gt, ti * 2 + 1, none⟩) hgtW).trans hcth⟩)
            have HSS : Hid (∀ q u W', W' = (W1.drewN q).setCell ⟨lb, li * 3 + 1, none⟩ u → W'.cell? ⟨w.heap.size + 1, 1, none⟩ = some (.slice (some ⟨gt, 0, none⟩) n tc) ∧ W'.cell? ⟨gs, i * 3, none⟩ = some (.int .i64 (ti : Int)) ∧ W'.cell? ⟨gs, i * 3 + 1, none⟩ = some (.int .i64 (li : Int)) ∧ W'.cell? ⟨gt, ti * 2 + 1, none⟩ = some (.slice (some ⟨lb, 0, none⟩) lnn lci)) := Lib.hid (fun q u W' e => by
              subst e
              have hne : ∀ p : Addr, p.block ≠ lb → ((W1.drewN q).setCell ⟨lb, li * 3 + 1, none⟩ u).cell? p = W1.cell? p := fun p hp => World.cell?_setCell_other (W1.drewN q) _ _ _ (by intro e; exact hp (congrArg Addr.block e).symm)
              exact ⟨(hne ⟨w.heap.size + 1, 1, none⟩ (by dsimp only; omega)).trans v1, (hne ⟨gs, i * 3, none⟩ hlg1).trans c0, (hne ⟨gs, i * 3 + 1, none⟩ hlg1).trans c1, (hne ⟨gt, ti * 2 + 1, none⟩ hlg2).trans hcth⟩)
            have HB0 : Hid (∀ q, Below W1.heap.size W1 (W1.drewN q)) := Lib.hid (fun q => below_drewN (Below.refl _ _) q)
            have i0 : (0 : Int) ≤ (i : Int) := by omega
            have i1 : (i : Int) < (sn : Int) := by omega
            have t0 : (0 : Int) ≤ (ti : Int) := by omega
            have t1 : (ti : Int) < (n : Int) := by omega
            have l0 : (0 : Int) ≤ (li : Int) := by omega
            have l1 : (li : Int) < (lnn : Int) := by omega
            go_upto_region 43 with fail
            go_region_held3 (fun W' => W'.cell? ⟨w.heap.size + 1, 1, none⟩ = some (.slice (some ⟨gt, 0, none⟩) n tc) ∧ W'.cell? ⟨gs, i * 3, none⟩ = some (.int .i64 (ti : Int)) ∧ W'.cell? ⟨gs, i * 3 + 1, none⟩ = some (.int .i64 (li : Int)) ∧ W'.cell? ⟨gt, ti * 2 + 1, none⟩ = some (.slice (some ⟨lb, 0, none⟩) lnn lci)) (first | (refine KS.out _ ?_; first | exact HB0.out _ | exact below_drewN (HB0.out _) 1) | exact HSS.out _ _ _ rfl) (fail)
            go_wp2_with fail
            go_roundw
            case rel => exact ⟨i + 1, by omega, by go_num, Lib.hid (HNX.out _)⟩
            case measure => simp [intOf]; omega
        · obtain rfl : i = sn := by omega
          have HFX : Hid (cur = fixTs st.ts st.ts st.ns) := Lib.hid (by
            rw [← hcur, List.take_of_length_le (by rw [HSN.out]; exact Nat.le_refl _), HSPS.out, sp_fold])
          have HFIN : Hid (PP = if checkP ⟨st.v, cur⟩ then .inr ⟨st.v, cur⟩ else .inl 0) := Lib.hid (by rw [HPF2.out, finR, HFX.out])
          have hths : ThsAt W1 W1.heap.size TA cur := HR.out.tr.ths hcl
          have hpok : PrgOk ⟨st.v, cur⟩ := by
            refine ⟨by show cur.length ≤ _; omega, fun t ht => ?_⟩
            obtain ⟨j, hj, rfl⟩ := List.getElem_of_mem ht
            have hj2 : j < st.ts.length := by rw [← shape_len hshp]; exact hj
            obtain ⟨h1, h2⟩ := shape_at hshp hj hj2
            have h3 := lensum_le st.ts _ (List.getElem_mem hj2)
            have h4 := HINV.out.sum
            have h5 := HINV.out.ns
            have h6 := HINV.out.nms _ (List.getElem_mem hj2)
            rw [h1, h2]
            exact ⟨by omega, by omega⟩
          obtain ⟨cb, hcb⟩ : ∃ cb, checkP ⟨st.v, cur⟩ = cb := ⟨_, rfl⟩
          have CK : Hid (Calls Tryz.prog 19 #[.agg #[.int .i64 st.v, .slice TA n tc]] W1 fun e w' => e = .returned (.int .i64 (chkR cb)) ∧ Below W1.heap.size W1 w') := Lib.hid (rcheck_any ⟨st.v, cur⟩ TA n tc W1 hths hcl hpok cb hcb)
          rw [hcb] at HFIN
          have HTHS := Lib.hid hths
          have HCL := Lib.hid hcl
          clear hths hpok hcb hshp
          rcases cb with _ | _
          · go_wp2_with (go_at_call 19; go_must (refine (CK.out).mono ?_; rintro e w5 ⟨rfl, hb5⟩; unfold chkR; (have HR5 := Lib.hid (HR.out.below hb5)); (have q0 := HR5.out.res.cell 0); (have q1 := HR5.out.res.cell 1); (have q2 := HR5.out.res.frozen 0); (have q3 := HR5.out.res.frozen 1); clear hb5))
            refine bodyPost_ret (results_row_tmp2 (p := 2) (q := 3) (r := 4) (ty := 28) rfl _ _ w.heap.size _ _ _ rfl (run_loadVar_row _ _ 28 28 _ (0, 0) _ HR5.out.zero.1 Tryz.underlying28 rfl (by kernel_rfl)) rfl rfl) rfl ?_
            rw [HFIN.out]
            exact ⟨HR5.out.zero.2, rfl⟩
          · go_wp2_with (go_at_call 19; go_must (refine (CK.out).mono ?_; rintro e w5 ⟨rfl, hb5⟩; unfold chkR; (have HR5 := Lib.hid (HR.out.below hb5)); (have q0 := HR5.out.res.cell 0); (have q1 := HR5.out.res.cell 1); (have q2 := HR5.out.res.frozen 0); (have q3 := HR5.out.res.frozen 1); (have q4 := HR5.out.blk.cell 0); (have q5 := HR5.out.blk.cell 1); clear hb5))
            have hbk : Blk ((w5.setCell ⟨w.heap.size, 0, none⟩ (.int .i64 st.v)).setCell ⟨w.heap.size, 1, none⟩ (.slice TA n tc)) w.heap.size 28 #[.int .i64 st.v, .slice TA n tc] := (HR5.out.res.set_ 0 _).set_ 1 _
            have hbe : Below w.heap.size w ((w5.setCell ⟨w.heap.size, 0, none⟩ (.int .i64 st.v)).setCell ⟨w.heap.size, 1, none⟩ (.slice TA n tc)) := (HR5.out.be.setCell (p := ⟨w.heap.size, 0, none⟩) (Nat.le_refl _) _).setCell (p := ⟨w.heap.size, 1, none⟩) (Nat.le_refl _) _
            have hsz5 : ((w5.setCell ⟨w.heap.size, 0, none⟩ (.int .i64 st.v)).setCell ⟨w.heap.size, 1, none⟩ (.slice TA n tc)).heap.size = w5.heap.size := by simp [World.setCell]
            have hth5 : ThsAt ((w5.setCell ⟨w.heap.size, 0, none⟩ (.int .i64 st.v)).setCell ⟨w.heap.size, 1, none⟩ (.slice TA n tc)) ((w5.setCell ⟨w.heap.size, 0, none⟩ (.int .i64 st.v)).setCell ⟨w.heap.size, 1, none⟩ (.slice TA n tc)).heap.size TA cur :=
              (((HR5.out.tr.set_ (p := ⟨w.heap.size, 0, none⟩) (by dsimp only; omega) (.int .i64 st.v)).set_ (p := ⟨w.heap.size, 1, none⟩) (by dsimp only; omega) (.slice TA n tc)).ths HCL.out)
            refine bodyPost_ret (results_row_tmp2 (p := 2) (q := 3) (r := 4) (ty := 28) rfl _ _ w.heap.size _ _ _ rfl (run_loadVar_row _ _ 28 28 _ (0, 0) _ hbk Tryz.underlying28 rfl (by kernel_rfl)) rfl rfl) rfl ?_
            rw [HFIN.out]
            refine ⟨hbe, TA, tc, ?_, hth5⟩
            show _ = Ending.returned (.tuple #[.agg #[.int .i64 st.v, .slice TA cur.length tc], .int .i64 0, .int .i64 0])
            rw [HCL.out]
            rfl
end Go.Proofs.YtpkefohcccpncaaGreatDoor
