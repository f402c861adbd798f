/- One line of a text is read. The place of a thread by its name: slices.IndexFunc over the threads. A line's A is written. -/
import Derived.Test.YtpkefohcccpncaaGreatDoorQAi
namespace Go.Proofs.YtpkefohcccpncaaGreatDoor
open Go.RowKit
set_option linter.unusedSimpArgs false
set_option linter.unusedVariables false

theorem cut32 : ∀ l : List UInt8, Lib.cut l [32] = cutL l
  | [] => by simp [Lib.cut, Lib.index, cutL]
  | b :: l => by
    have ih := cut32 l
    by_cases h : b.toNat = 32
    · have hb : b = 32 := UInt8.toNat_inj.1 h
      subst hb
      simp [Lib.cut, Lib.index, cutL, List.isPrefixOf]
    · have hb : ((32 : UInt8) == b) = false := by
        rw [beq_eq_false_iff_ne]; intro e; subst e; exact h rfl
      have hi : Lib.index (b :: l) [32] = if Lib.index l [32] == -1 then -1 else Lib.index l [32] + 1 := by rw [Lib.index]; simp [List.isPrefixOf, hb]
      have hge := Lib.index_ge l [32]
      have hc : cutL (b :: l) = (b :: (cutL l).1, (cutL l).2.1, (cutL l).2.2) := by simp [cutL, h]
      rw [hc, ← ih]
      unfold Lib.cut
      rw [hi]
      by_cases hm : Lib.index l [32] = -1
      · simp [hm]
      · obtain ⟨j, hj⟩ : ∃ j : Nat, Lib.index l [32] = j := ⟨(Lib.index l [32]).toNat, by omega⟩
        have h1 : ((j : Int) == -1) = false := by rw [beq_eq_false_iff_ne]; omega
        rw [hj, h1]
        have h2 : ((j : Int) + 1).toNat = j + 1 := by omega
        have h3 : (j : Int).toNat = j := by omega
        simp only [Bool.false_eq_true, if_false, if_pos (show (0 : Int) ≤ (j : Int) + 1 by omega), if_pos (show (0 : Int) ≤ (j : Int) by omega), h2, h3, List.take_succ_cons]
        rw [show j + 1 + [(32 : UInt8)].length = (j + 1) + 1 from rfl, List.drop_succ_cons]
        rfl
theorem suffix10 (l : List UInt8) : Lib.hasSuffix l [10] = decide (l.getLast? = some 10) := by
  unfold Lib.hasSuffix
  rcases List.eq_nil_or_concat l with rfl | ⟨a, b, rfl⟩
  · rfl
  · by_cases h : b = 10
    · subst h
      simp [List.isSuffixOf]
    · have : ((10 : UInt8) == b) = false := by rw [beq_eq_false_iff_ne]; exact fun e => h e.symm
      simp [List.isSuffixOf, List.isPrefixOf, this, h]
theorem trim10 {l : List UInt8} (h : l.getLast? = some 10) : Lib.trimSuffix l [10] = l.dropLast := by
  unfold Lib.trimSuffix
  rw [suffix10, h]
  simp [List.dropLast_eq_take]
theorem trim10n {l : List UInt8} (h : l.getLast? ≠ some 10) : Lib.trimSuffix l [10] = l := by
  unfold Lib.trimSuffix
  rw [suffix10]
  simp [h]
theorem cutL_le (l : List UInt8) : (cutL l).1.length ≤ l.length ∧ (cutL l).2.1.length ≤ l.length := by
  have h := cut_eq l
  rcases hm : (cutL l).2.2 with _ | _
  · have h1 := h.1 hm
    have : (cutL l).2.1.length ≤ l.length := by
      simp only [cutL, List.length_tail]
      have := (List.dropWhile_sublist (l := l) (fun c => decide (c.toNat ≠ 32))).length_le
      omega
    exact ⟨by rw [← h1]; exact Nat.le_refl _, this⟩
  · have h1 := congrArg List.length (h.2 hm)
    simp at h1
    omega
theorem infoThread : (Tryz.prog.info? 45).map (fun i => (i.zero, i.size, i.bytes)) = some (some (.agg #[.string ⟨#[]⟩, .slice none 0 0]), 2, 40) := by kernel_rfl

set_option maxRecDepth 100000 in
set_option maxHeartbeats 4000000 in
theorem read_any (B g : Nat) (st : PS) (tv nv : Value) (vs : List Value) (lim : Nat) (at_ : Nat) (x : ByteArray) (w : World) (hat : at_ ≤ 5000) (hxs : x.size ≤ 5000) (hg : GlobP w) (h : PsI w B g st tv nv vs lim) (hB : PsB st 5000) (hne : st.op = true → st.ts ≠ [])
    (r : Option PS) (hr : rd st at_ x.data.toList = r) :
    Calls Tryz.prog 54 #[.pointer (some ⟨g, 0, none⟩), .int .i64 at_, .string x] w (LinePost w B g r) := by
  obtain ⟨en, hen⟩ : ∃ en, decide (x.data.toList.getLast? = some 10) = en := ⟨_, rfl⟩
  obtain ⟨y, hy⟩ : ∃ y : ByteArray, (⟨(Lib.trimSuffix x.data.toList [10]).toArray⟩ : ByteArray) = y := ⟨_, rfl⟩
  have hyd : y.data.toList = Lib.trimSuffix x.data.toList [10] := by rw [← hy]
  have hys : y.size ≤ 5000 := by
    rw [← size_data, hyd]
    have h1 : x.data.toList.length ≤ 5000 := by rw [size_data]; exact hxs
    by_cases hl : x.data.toList.getLast? = some 10
    · rw [trim10 hl]; simp at h1 ⊢; omega
    · rw [trim10n hl]; exact h1
  have CS : Hid (Calls Tryz.prog 71 #[.string x, .string ⟨#[10]⟩] w fun e w' => e = .returned (.tuple #[.string y, .bool en]) ∧ w = w') := Lib.hid (by
    refine (Tryz.strings_CutSuffix x ⟨#[10]⟩ w (by omega)).mono ?_
    rintro e w' ⟨rfl, rfl⟩
    refine ⟨?_, rfl⟩
    rw [← hen, ← hy, ← suffix10])
  obtain ⟨key, hkey⟩ : ∃ key : ByteArray, (⟨(cutL y.data.toList).1.toArray⟩ : ByteArray) = key := ⟨_, rfl⟩
  obtain ⟨rest, hrest⟩ : ∃ rest : ByteArray, (⟨(cutL y.data.toList).2.1.toArray⟩ : ByteArray) = rest := ⟨_, rfl⟩
  obtain ⟨more, hmore⟩ : ∃ more, (cutL y.data.toList).2.2 = more := ⟨_, rfl⟩
  have hkd : (cutL y.data.toList).1 = key.data.toList := by rw [← hkey]
  have hrd : (cutL y.data.toList).2.1 = rest.data.toList := by rw [← hrest]
  have hle := cutL_le y.data.toList
  have hks : key.size ≤ 5000 := by rw [← size_data, ← hkd]; have := size_data y; omega
  have hrs : rest.size ≤ 5000 := by rw [← size_data, ← hrd]; have := size_data y; omega
  have CU : Hid (Calls Tryz.prog 72 #[.string y, .string ⟨#[32]⟩] w fun e w' => e = .returned (.tuple #[.string key, .string rest, .bool more]) ∧ ∃ n, w.drewN n = w') := Lib.hid (by
    obtain ⟨m, hm⟩ := hg.ml
    refine (Tryz.strings_Cut y ⟨#[32]⟩ m w (by omega) hm).mono ?_
    rintro e w' ⟨rfl, n, rfl⟩
    refine ⟨?_, n, rfl⟩
    have hc := cut32 y.data.toList
    have e1 : (⟨#[32]⟩ : ByteArray).data.toList = [32] := rfl
    rw [e1, hc, hkey, hrest, hmore])
  have HR : Hid (r = if en then rdText st at_ y.data.toList else none) := Lib.hid (by
    rw [← hr, rd]
    by_cases hl : x.data.toList.getLast? = some 10
    · rw [if_pos hl, ← hen, hl, hyd, trim10 hl]; rfl
    · rw [if_neg hl, ← hen, decide_eq_false hl]; rfl)
  have HK := Lib.hid hkd
  have HRS := Lib.hid hrd
  have HM := Lib.hid hmore
  have H := Lib.hid h
  have HG := Lib.hid hg
  have HNE := Lib.hid hne
  have HB := Lib.hid hB
  obtain ⟨q0, q1, q2, q3, f0, f1, f2, f3⟩ := h.cells
  clear hen hy hyd hkey hrest hmore hkd hrd hle h hg hne hB hr
  cases en
  · have HF : Hid (r = none) := Lib.hid HR.out
    go_enter Tryz.func54, Tryz.ntmps54
    go_wp2_with (first
      | (go_at_call 71; go_must (refine CS.out.mono ?_; rintro e w' ⟨rfl, rfl⟩))
      | (go_at_call 72; go_must (refine CU.out.mono ?_; rintro e w' ⟨rfl, n, rfl⟩)))
    go_ret
    exact ⟨ret_bool (by rw [HF.out]; rfl), (FrB.refl B g w).drewN _, fun st' e => by rw [HF.out] at e; cases e⟩
  by_cases a1 : at_ = 1
  · have e1 : ((at_ : Int) == 1) = true := by simp [a1]
    have HF : Hid (r = if key.data.toList = kwValues ∧ numL rest.data.toList = true then some { st with v := valD rest.data.toList } else none) := Lib.hid (by
      rw [HR.out, if_pos rfl, rdText, if_pos a1, HK.out, HRS.out])
    obtain ⟨b, hb⟩ : ∃ b, (key.data.toList == kwValues && numL rest.data.toList) = b := ⟨_, rfl⟩
    have FI : Hid (∀ n, Calls Tryz.prog 73 #[.pointer (some ⟨g, 0, none⟩), .string key, .string rest] (w.drewN n) (FirstPost (w.drewN n) B g st tv nv vs lim rest.data.toList b)) := Lib.hid (fun n => first_any B g st tv nv vs lim key rest _ (by omega) (HG.out.drewN n) (H.out.drewN n) b hb)
    have HBB : Hid (r = if b = true then some { st with v := valD rest.data.toList } else none) := Lib.hid (by
      rw [HF.out, ← hb]; simp)
    clear hb a1 HF HR
    go_enter Tryz.func54, Tryz.ntmps54
    go_wp2_with (first
      | (go_at_call 71; go_must (refine CS.out.mono ?_; rintro e w' ⟨rfl, rfl⟩))
      | (go_at_call 72; go_must (refine CU.out.mono ?_; rintro e w' ⟨rfl, n, rfl⟩))
      | (go_at_call 73; go_must (refine (FI.out _).mono ?_; rintro e w' ⟨rfl, hfr, hps⟩; (have HP := Lib.hid hps); (have HFR := Lib.hid hfr); clear hps hfr)))
    go_ret
    refine ⟨ret_bool (by rw [HBB.out]; cases b <;> rfl), ((FrB.refl B g w).drewN _).trans HFR.out, fun st' e => ?_⟩
    cases b
    · rw [HBB.out] at e; cases e
    · rw [HBB.out, if_pos rfl] at e; injection e with e; subst e
      exact ⟨_, _, _, _, HP.out rfl⟩
  have e1 : ((at_ : Int) == 1) = false := by simp; omega
  rcases hop : st.op with _ | _
  · rw [hop] at q2
    obtain ⟨kb, hkb⟩ : ∃ kb, (key.data.toList == kwThread) = kb := ⟨_, rfl⟩
    have c1 : (key.toList == (⟨#[116, 104, 114, 101, 97, 100]⟩ : ByteArray).toList) = kb := by rw [str_eq_dec]; exact hkb
    have c2 := c1
    rw [toList_data (⟨#[116, 104, 114, 101, 97, 100]⟩ : ByteArray)] at c2
    obtain ⟨nb, hnb⟩ : ∃ nb, namedL rest.data.toList = nb := ⟨_, rfl⟩
    have NM : Hid (∀ n, Calls Tryz.prog 44 #[.string rest] (w.drewN n) fun e w' => e = .returned (.bool nb) ∧ w.drewN n = w') := Lib.hid (fun n => named_any rest _ (by omega) (HG.out.drewN n) nb hnb)
    obtain ⟨b, hb⟩ : ∃ b, (kb && nb) = b := ⟨_, rfl⟩
    have HF : Hid (r = if b = true then some { st with ts := st.ts ++ [⟨rest, []⟩], op := true } else none) := Lib.hid (by
      rw [HR.out, if_pos rfl, rdText, if_neg a1, if_pos hop, HK.out, HRS.out, ← hb, ← hkb, ← hnb, show (⟨rest.data.toList.toArray⟩ : ByteArray) = rest from by simp]; simp)
    have hth := H.out.th
    obtain ⟨TA, tc, htv⟩ := own_form hth
    subst htv
    obtain ⟨i0, hi0, z1, z2, z3⟩ := info_parts infoThread
    have HI := Lib.hid hi0
    have hnt := HB.out.ts
    have hBw := H.out.Bw
    have hgw := H.out.blk.lt
    clear hop HR hkb hnb hth HRS HK HM
    have HN2 := Lib.hid hb
    cases kb <;> cases nb
    all_goals
      have HBB : Hid (b = _) := Lib.hid HN2.out.symm
      go_enter Tryz.func54, Tryz.ntmps54
      go_upto_region 9 with (first
        | (go_at_call 71; go_must (refine CS.out.mono ?_; rintro e w' ⟨rfl, rfl⟩))
        | (go_at_call 72; go_must (refine CU.out.mono ?_; rintro e w' ⟨rfl, n, rfl⟩))
        | (go_at_call 44; go_must (refine (NM.out _).mono ?_; rintro e w' ⟨rfl, rfl⟩)))
      refine wp_world (fun W => Hid (PsI W B g { st with op := b } (.slice TA st.ts.length tc) nv vs lim ∧ FrB B g w W)) (Lib.hid ⟨by rw [HBB.out]; exact (H.out.drewN _).set_ (i := 2) (st' := { st with op := _ }) rfl rfl rfl, ((FrB.refl B g w).drewN _).setCell (p := ⟨g, 2, none⟩) (.inl rfl) _⟩) ?_
      clear q0 q1 q2 q3 f0 f1 f2 f3 CS CU NM c1 c2
      intro W HW
      obtain ⟨hp, hfr⟩ := HW.out
      obtain ⟨q0, q1, q2, q3, f0, f1, f2, f3⟩ := hp.cells
      have HP := Lib.hid hp
      have HFR := Lib.hid hfr
      have hWB := hp.Bw
      have hWg := hp.blk.lt
      have HTH : Hid ((W.alloc (.cells #[.string rest, .slice none 0 0] 45)).ownsRow B 45 2 (.slice TA st.ts.length tc) st.ts.length (thCells st.ts vs)) := Lib.hid (hp.alloc _).th
      have HPA := Lib.hid (hp.alloc (.cells #[.string rest, .slice none 0 0] 45))
      clear hp hfr HW
      go_wp2_with (at_builtin; go_must (refine wpList_append_own _ rfl _ _ 26 rfl B 45 i0 _ 2 40 Tryz.underlying26 HI.out z1 z2 z3 rfl (by decide) (.slice TA st.ts.length tc) st.ts.length (thCells st.ts vs) rfl HTH.out ⟨W.heap.size, 0, none⟩ 1 1 [.string rest, .slice none 0 0] rfl rfl (cells_new_list W _ _) (by simp [Value.oneCell']) (by unfold maxLen; omega) (by omega) (by simp; omega) ?_; intro v9 w9 hown9 hgr9 _; obtain ⟨A9, c9, rfl⟩ := own_form hown9; (have hk9 : Blk w9 g 88 _ := HPA.out.blk.grown hgr9 (fun e => PsI.g_ne HTH.out HPA.out.gB e.symm)); (have k9 := hk9.cell 1); (have k8 := hk9.frozen 1); (have k7 := hk9.cell 2); (have HO9 := Lib.hid hown9); (have HG9 := Lib.hid hgr9); clear hown9 hgr9 hk9))
      go_ret
      have hp := PsI.thread HPA.out (x := rest) (by rw [List.length_append]; exact HO9.out) HG9.out
      refine ⟨ret_bool (by rw [HF.out, HBB.out]; rfl), HFR.out.trans (((FrB.refl B g W).alloc hWB _).trans hp.2), fun st' e => ?_⟩
      first
        | (exfalso; rw [HF.out, HBB.out] at e; cases e; done)
        | (have hb1 : b = true := HBB.out; rw [HF.out, hb1, if_pos rfl] at e; injection e with e; subst e; rw [hb1] at hp; exact ⟨_, _, _, _, hp.1⟩)
  · rw [hop] at q2
    have HF : Hid (r = if y.data.toList = kwEnd then some { st with op := false } else rdLine st at_ key.data.toList rest.data.toList more) := Lib.hid (by
      rw [HR.out, if_pos rfl, rdText, if_neg a1, if_neg (by rw [hop]; decide), HK.out, HRS.out, HM.out])
    by_cases hye : y.data.toList = kwEnd
    · have c1 : (y.toList == (⟨#[101, 110, 100]⟩ : ByteArray).toList) = true := by rw [str_eq_dec]; exact beq_iff_eq.2 hye
      have c2 := c1
      rw [toList_data (⟨#[101, 110, 100]⟩ : ByteArray)] at c2
      have HFF : Hid (r = some { st with op := false }) := Lib.hid (by rw [HF.out, if_pos hye])
      clear hye hop HF HR
      go_enter Tryz.func54, Tryz.ntmps54
      go_wp2_with (first
        | (go_at_call 71; go_must (refine CS.out.mono ?_; rintro e w' ⟨rfl, rfl⟩))
        | (go_at_call 72; go_must (refine CU.out.mono ?_; rintro e w' ⟨rfl, n, rfl⟩)))
      go_ret
      refine ⟨ret_bool (by rw [HFF.out]; rfl), ((FrB.refl B g w).drewN _).setCell (p := ⟨g, 2, none⟩) (.inl rfl) _, fun st' e => ?_⟩
      rw [HFF.out] at e; injection e with e; subst e
      exact ⟨_, _, _, _, (H.out.drewN _).set_ (i := 2) (st' := { st with op := false }) rfl rfl rfl⟩
    · have c1 : (y.toList == (⟨#[101, 110, 100]⟩ : ByteArray).toList) = false := by rw [str_eq_dec, beq_eq_false_iff_ne]; exact hye
      have c2 := c1
      rw [toList_data (⟨#[101, 110, 100]⟩ : ByteArray)] at c2
      have HLI : Hid (∀ n, Calls Tryz.prog 74 #[.pointer (some ⟨g, 0, none⟩), .int .i64 at_, .string key, .string rest, .bool more] (w.drewN n) (LinePost (w.drewN n) B g r)) := Lib.hid (fun n => line_any B g st tv nv vs lim at_ key rest more _ hat hks hrs (HG.out.drewN n) (H.out.drewN n) HB.out (HNE.out hop) r (by rw [HF.out, if_neg hye]))
      clear hye hop HF HR
      go_enter Tryz.func54, Tryz.ntmps54
      go_wp2_with (first
        | (go_at_call 71; go_must (refine CS.out.mono ?_; rintro e w' ⟨rfl, rfl⟩))
        | (go_at_call 72; go_must (refine CU.out.mono ?_; rintro e w' ⟨rfl, n, rfl⟩))
        | (go_at_call 74; go_must (refine (HLI.out _).mono ?_; rintro e w' ⟨rfl, hfr, hps⟩; (have HP := Lib.hid hps); (have HFR := Lib.hid hfr); clear hps hfr)))
      go_ret
      exact ⟨rfl, ((FrB.refl B g w).drewN _).trans HFR.out, HP.out⟩
end Go.Proofs.YtpkefohcccpncaaGreatDoor
namespace Go.Proofs.YtpkefohcccpncaaGreatDoor
open Go.RowKit
set_option linter.unusedSimpArgs false
set_option linter.unusedVariables false

/-- where a thread with a name stands; -1 if none -/
def thR (ts : List Th) (x : List UInt8) : Int := match findTh ts x with
  | none => -1
  | some k => (k : Int)
theorem res1_any (t key : ByteArray) (v : Value) (kb : Nat) (w : World) (hk : w.cell? ⟨kb, 0, none⟩ = some (.string key)) (hb : kb < w.heap.size) (b : Bool) (hbb : (t.data.toList == key.data.toList) = b) :
    Calls Tryz.prog 76 #[.agg #[.string t, v], .pointer (some ⟨kb, 0, none⟩)] w fun e w' => e = .returned (.bool b) ∧ Below w.heap.size w w' := by
  have c1 : (t.toList == key.toList) = b := by rw [str_eq_dec]; exact hbb
  clear hbb
  go_enter Tryz.func76, Tryz.ntmps76
  go_wp2
  go_ret
  exact ⟨rfl, (Below.refl _ _).alloc (Nat.le_refl _) _⟩
theorem findTh_at {ts : List Th} {x : List UInt8} {k : Nat} (hk : k < ts.length) (h : (ts[k].nm.data.toList == x) = true) (hno : ∀ j (hj : j < k) (h2 : j < ts.length), (ts[j].nm.data.toList == x) = false) : findTh ts x = some k := by
  unfold findTh
  rw [List.findIdx?_eq_some_iff_getElem]
  exact ⟨hk, h, fun j hj => by rw [hno j hj (by omega)]; decide⟩
theorem findTh_no {ts : List Th} {x : List UInt8} (hno : ∀ j (h2 : j < ts.length), (ts[j].nm.data.toList == x) = false) : findTh ts x = none := by
  unfold findTh
  rw [List.findIdx?_eq_none_iff]
  intro t ht
  obtain ⟨j, hj, rfl⟩ := List.getElem_of_mem ht
  exact hno j hj
set_option maxHeartbeats 1000000 in
theorem idxTh_any (ts : List Th) (vs : List Value) (gt c : Nat) (key : ByteArray) (kb : Nat) (w : World) (hn : ts.length ≤ 5000) (hgt : gt < w.heap.size)
    (hc : ∀ k (h : k < ts.length) (h' : k < vs.length), w.cell? ⟨gt, k * 2, none⟩ = some (.string ts[k].nm) ∧ w.cell? ⟨gt, k * 2 + 1, none⟩ = some vs[k]) (hl : vs.length = ts.length)
    (hk : w.cell? ⟨kb, 0, none⟩ = some (.string key)) (hb : kb < w.heap.size) :
    Calls Tryz.prog 75 #[.slice (some ⟨gt, 0, none⟩) ts.length c, .func (.func 76) #[] #[.pointer (some ⟨kb, 0, none⟩)]] w fun e w' => e = .returned (.int .i64 (thR ts key.data.toList)) ∧ Below w.heap.size w w' := by
  have HC := Lib.hid hc
  have HK := Lib.hid hk
  have HL := Lib.hid hl
  obtain ⟨n, hnn⟩ : ∃ n, ts.length = n := ⟨_, rfl⟩
  have HN := Lib.hid hnn
  rw [hnn] at hn ⊢
  clear hc hk hl hnn
  go_enter Tryz.func75, Tryz.ntmps75
  go_wp2
  go_loopw [8] (fun i wr => ∃ k : Nat, k ≤ n ∧ i = .int .i64 k ∧ Hid (Below w.heap.size w wr ∧ ∀ j (hj : j < k) (h2 : j < ts.length), (ts[j].nm.data.toList == key.data.toList) = false)) (fun i _ => n - (intOf i).toNat)
  case atStart => exact ⟨0, by omega, rfl, Lib.hid ⟨Below.refl _ _, fun j hj => absurd hj (by omega)⟩⟩
  case round =>
    obtain ⟨k, hkn, rfl, HR⟩ := hrel
    obtain ⟨hbw, hno⟩ := HR.out
    have hwl : w.heap.size ≤ wr.heap.size := hbw.size
    by_cases hlt : k < n
    · have hkt : k < ts.length := by rw [HN.out]; exact hlt
      have hkv : k < vs.length := by rw [HL.out]; exact hkt
      obtain ⟨q0', q1'⟩ := HC.out k hkt hkv
      have q0 := (hbw.cell (p := ⟨gt, k * 2, none⟩) hgt).trans q0'
      have q1 := (hbw.cell (p := ⟨gt, k * 2 + 1, none⟩) hgt).trans q1'
      clear q0' q1'
      obtain ⟨kw, hkw⟩ : ∃ kw, ts[k].nm = kw := ⟨_, rfl⟩
      obtain ⟨kv, hkv⟩ : ∃ kv, vs[k] = kv := ⟨_, rfl⟩
      rw [hkw] at q0
      rw [hkv] at q1
      obtain ⟨b, hbb⟩ : ∃ b, (kw.data.toList == key.data.toList) = b := ⟨_, rfl⟩
      have L1 : Hid (Calls Tryz.prog 76 #[.agg #[.string kw, kv], .pointer (some ⟨kb, 0, none⟩)] wr fun e w' => e = .returned (.bool b) ∧ Below wr.heap.size wr w') := Lib.hid (res1_any kw key kv kb wr ((hbw.cell (p := ⟨kb, 0, none⟩) hb).trans HK.out) (by omega) b hbb)
      have HBW := Lib.hid hbw
      have HNO := Lib.hid hno
      have HBB := Lib.hid hbb
      have HKT := Lib.hid hkt
      have HKW := Lib.hid hkw
      clear hbw hno hbb hkw hkv
      rcases b with _ | _
      · go_wp2_with (go_at_call 76; go_must (refine L1.out.mono ?_; rintro e w6 ⟨rfl, hb6⟩))
        go_roundw
        case rel =>
          refine ⟨k + 1, by omega, by go_num, Lib.hid ⟨HBW.out.trans (hb6.mono hwl), fun j hj h2 => ?_⟩⟩
          by_cases e : j = k
          · subst e; rw [HKW.out]; exact HBB.out
          · exact HNO.out j (by omega) h2
        case measure => simp [intOf]; omega
      · have HF : Hid (thR ts key.data.toList = k) := Lib.hid (by
          unfold thR
          rw [findTh_at HKT.out (by rw [HKW.out]; exact HBB.out) HNO.out])
        go_wp2_with (go_at_call 76; go_must (refine L1.out.mono ?_; rintro e w6 ⟨rfl, hb6⟩))
        go_ret
        exact ⟨ret_int HF.out.symm, HBW.out.trans (hb6.mono hwl)⟩
    · obtain rfl : k = n := by omega
      have HF : Hid (thR ts key.data.toList = -1) := Lib.hid (by
        unfold thR; rw [findTh_no (fun j h2 => hno j (by rw [← HN.out]; exact h2) h2)])
      have HBW := Lib.hid hbw
      clear hno hbw
      go_wp2
      go_ret
      exact ⟨ret_int HF.out.symm, HBW.out⟩
end Go.Proofs.YtpkefohcccpncaaGreatDoor
namespace Go.Proofs.YtpkefohcccpncaaGreatDoor
open Go.RowKit
set_option linter.unusedSimpArgs false
set_option linter.unusedVariables false

theorem lnCells_set : ∀ (ls : List Ln) (j : Nat) (hj : j < ls.length) (a : Int), lnCells (ls.set j ⟨ls[j].k, a, ls[j].n⟩) = (lnCells ls).set (j * 3 + 1) (.int .i64 a) := by
  intro ls
  induction ls with
  | nil => intro j hj; simp at hj
  | cons x xs ih =>
    intro j hj a
    cases j with
    | zero => rfl
    | succ j =>
      have := ih j (by simpa using hj) a
      have e : ∀ y ys, lnCells (y :: ys) = [.int .i64 y.k, .int .i64 y.a, .int .i64 y.n] ++ lnCells ys := fun _ _ => rfl
      simp only [List.set_cons_succ, List.getElem_cons_succ]
      rw [e, e, this, List.set_append_right _ _ (by simp; omega)]
      simp only [List.length_cons, List.length_nil]
      rw [show (j + 1) * 3 + 1 - (0 + 1 + 1 + 1) = j * 3 + 1 from by omega]
theorem thCells_names : ∀ (ts ts' : List Th) (vs : List Value), ts.map (·.nm) = ts'.map (·.nm) → thCells ts vs = thCells ts' vs := by
  intro ts
  induction ts with
  | nil => intro ts' vs h; have : ts' = [] := by simpa using h.symm
           subst this; rfl
  | cons t ts ih =>
    intro ts' vs h
    cases ts' with
    | nil => simp at h
    | cons t' ts' =>
      simp only [List.map_cons, List.cons.injEq] at h
      cases vs with
      | nil => rfl
      | cons v vs => simp only [thCells, h.1, ih ts' vs h.2]
theorem findTh_names : ∀ (ts ts' : List Th) (x : List UInt8), ts.map (·.nm) = ts'.map (·.nm) → findTh ts x = findTh ts' x := by
  intro ts
  unfold findTh
  induction ts with
  | nil => intro ts' x h; have : ts' = [] := by simpa using h.symm
           subst this; rfl
  | cons t ts ih =>
    intro ts' x h
    cases ts' with
    | nil => simp at h
    | cons t' ts' =>
      simp only [List.map_cons, List.cons.injEq] at h
      simp only [List.findIdx?_cons, h.1, ih ts' x h.2]
section
variable {W w' : World} {B g : Nat} {st : PS} {tv nv : Value} {vs : List Value} {lim : Nat}
theorem PsI.lineA (h : PsI W B g st tv nv vs lim) {i j : Nat} (hi : i < st.ts.length) (hi2 : i < vs.length) (hj : j < st.ts[i].ls.length) (a : Int) {lb lc : Nat} (hv : vs[i] = .slice (some ⟨lb, 0, none⟩) st.ts[i].ls.length lc)
    {ts' : List Th} (hts : ts' = st.ts.set i ⟨st.ts[i].nm, st.ts[i].ls.set j ⟨st.ts[i].ls[j].k, a, st.ts[i].ls[j].n⟩⟩) :
    PsI (W.setCell ⟨lb, j * 3 + 1, none⟩ (.int .i64 a)) B g { st with ts := ts' } tv nv vs lim ∧ FrB B g W (W.setCell ⟨lb, j * 3 + 1, none⟩ (.int .i64 a)) := by
  subst hts
  have hln := h.ln i hi2 hi
  rw [hv] at hln
  have hlb := (hln.lt lb rfl).1
  have hs : (W.setCell ⟨lb, j * 3 + 1, none⟩ (.int .i64 a)).heap.size = W.heap.size := by simp [World.setCell]
  refine ⟨⟨h.blk.far (p := ⟨lb, j * 3 + 1, none⟩) (by have := h.gB; simp only []; omega) _, h.gB, by rw [hs]; exact h.Bw, ?_, by simp [h.vl], ?_, ?_, by rw [hs]; exact h.limw, h.pre, h.last, h.dis⟩, (FrB.refl B g W).setCell (p := ⟨lb, j * 3 + 1, none⟩) (.inr hlb) _⟩
  · exact own_kept_set h.nm (fun e => own_own_ne h.nm hln (by decide) lb e rfl)
  · have e1 : (st.ts.set i ⟨st.ts[i].nm, st.ts[i].ls.set j ⟨st.ts[i].ls[j].k, a, st.ts[i].ls[j].n⟩⟩).map (·.nm) = st.ts.map (·.nm) := by
      apply List.ext_getElem
      · simp
      · intro k h1 h2
        simp only [List.getElem_map, List.getElem_set]
        split
        · rename_i e; subst e; rfl
        · rfl
    simp only [List.length_set]
    rw [thCells_names _ _ vs e1]
    exact own_kept_set h.th (fun e => own_own_ne h.th hln (by decide) lb e rfl)
  · intro k h1 h2
    have h2' : k < st.ts.length := by simpa using h2
    by_cases e : k = i
    · subst e
      have h3 := (hln.stored (j * 3 + 1) (.int .i64 a)).1
      rw [← lnCells_set _ _ hj] at h3
      simp only [List.getElem_set_self, List.length_set]
      rw [hv]; exact h3
    · simp only [List.getElem_set_ne (Ne.symm e)]
      refine own_kept_set (h.ln k h1 h2') (fun e2 => ?_)
      have e3 : (vs[i]).ownBlock = some lb := by rw [hv]; rfl
      rcases Nat.lt_or_gt_of_ne e with e4 | e4
      · exact h.dis k i h1 hi2 e4 lb e2 e3
      · exact h.dis i k hi2 h1 e4 lb e3 e2
end
end Go.Proofs.YtpkefohcccpncaaGreatDoor
