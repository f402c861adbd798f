/- Proved: for every []int l the call OrderBack(l) returns true, and the list reads as it did. Conditions: the five listed variables of the library (math/bits, internal/strconv, strconv) read as listed, which the given ties tie to the program text. Law 06: the text of a value is read as it. -/
import Derived.Test.YtlmnkcfnihhlgaaGreatDoorAwkA
import Derived.Deep.DeepCutAuto
import Derived.Test.YtlmnkcfnihhlgaaGreatDoorCrdA
import Derived.ChangeMaps5
namespace Go.Proofs.YtlmnkcfnihhlgaaGreatDoor
open Go.RowKit
set_option linter.unusedSimpArgs false
set_option linter.unusedVariables false

theorem plain_cases {c : UInt8} (h : plainB c = true) : (48 ≤ c.toNat ∧ c.toNat ≤ 57) ∨ c.toNat = 40 ∨ c.toNat = 41 ∨ c.toNat = 32 := by
  unfold plainB digitB at h
  simp only [Bool.or_eq_true, Bool.and_eq_true, decide_eq_true_eq, beq_iff_eq] at h
  rcases h with ((h | h) | h) | h
  · exact .inl h
  · subst h; exact .inr (.inl rfl)
  · subst h; exact .inr (.inr (.inl rfl))
  · subst h; exact .inr (.inr (.inr rfl))
set_option maxRecDepth 100000 in
set_option maxHeartbeats 8000000 in
theorem l6Back_any (A : Option Addr) (n c : Nat) (hn : n ≤ maxLen) (w : World) (h : IntsArg w A n) (hgl : GlobO w) : Calls Tryz.prog 7 #[.slice A n c] w (BoolPost w true) := by
  have hn63 : n ≤ 9223372036854775807 := by unfold maxLen at hn; omega
  have AW := Lib.hid (fun W (g : Bw w W) => awake6_any W (hgl.bw g))
  have FW := Lib.hid (fun W => few_any W A n c hn63)
  by_cases h4 : n ≤ 400
  rotate_left
  · have d4 : decide (n ≤ 400) = false := decide_eq_false h4
    rw [d4] at FW
    clear h hgl
    go_enter Tryz.func7, Tryz.ntmps7
    go_wp2_with (first
      | (go_at_call 9; (with_reducible refine (AW.out w (Bw.refl _)).mono ?_); rintro e w1 ⟨rfl, hg1⟩)
      | (go_at_call 10; (with_reducible refine (FW.out w1).mono ?_); rintro e w2 ⟨rfl, rfl⟩)
      | (go_at_call 9; (with_reducible refine (AW.out w1 hg1).mono ?_); rintro e w3 ⟨rfl, hg3⟩))
    go_ret
    exact ⟨rfl, hg1.trans hg3⟩
  have d4 : decide (n ≤ 400) = true := decide_eq_true h4
  rw [d4] at FW
  have CN := Lib.hid (fun W g => new_arg w W A n c h4 h g)
  have CD := Lib.hid (fun W b hd => dealt_any W b false hd)
  have CV := Lib.hid (fun W b t ht hs rv pv hd hT => dealt1_any W b t ht hs rv pv hd hT)
  unfold NewPost at CN
  unfold DealtT at CD
  unfold Dealt1 at CV
  have HGL := Lib.hid hgl
  clear h hgl
  go_enter Tryz.func7, Tryz.ntmps7
  go_upto_region 5 with (first
    | (go_at_call 9; (with_reducible refine (AW.out w (Bw.refl _)).mono ?_); rintro e w1 ⟨rfl, hg1⟩)
    | (go_at_call 10; (with_reducible refine (FW.out w1).mono ?_); rintro e w2 ⟨rfl, rfl⟩)
    | (go_at_call 13; (with_reducible refine (CN.out w1 hg1).mono ?_); rintro e w3 ⟨rfl, hd3, hg3⟩; have hs1 := hg1.size; generalize w1.heap.size = b at hd3 hg3 hs1 ⊢)
    | (go_at_call 14; (with_reducible refine (CD.out w3 b hd3).mono ?_); rintro e w4 ⟨t, A1, rn, c1, A2, pn, c2, rfl, ht, hls, hT, hg4⟩; have hd4 : DeckOk w4 b := hg4.2)
    | (go_at_call 15; go_must ((with_reducible refine (CV.out w4 b t ht hls _ _ hd4 hT).mono ?_); rintro e w5 ⟨v, A5, n5, c5, rfl, hv, hk5, hg5⟩)))
  have hw3 : Bw w w3 := Below.trans hg1 (Below.mono hg3 hs1)
  have H0 : Hid (Bw w (w5.alloc (.cells #[.int .i64 v.n, .slice A5 n5 c5] 28)) ∧ Blk (w5.alloc (.cells #[.int .i64 v.n, .slice A5 n5 c5] 28)) w5.heap.size 28 #[.int .i64 v.n, .slice A5 n5 c5] ∧ KB (w5.alloc (.cells #[.int .i64 v.n, .slice A5 n5 c5] 28)) (w5.alloc (.cells #[.int .i64 v.n, .slice A5 n5 c5] 28)).heap.size (.slice A5 n5 c5) v.ks) := Lib.hid ⟨(bw_row hw3 (hg4.trans hg5).1 (fun r e => by injection e with e; omega)).alloc _, Blk.new _ _ _, KAt.bw (KAt.kb_ hk5) ((Bw.refl _).alloc _)⟩
  refine wp_world (fun W => Hid (Bw w W ∧ Blk W w5.heap.size 28 #[.int .i64 v.n, .slice A5 n5 c5] ∧ KB W W.heap.size (.slice A5 n5 c5) v.ks)) H0 ?_
  intro W0 HW0
  have HV := Lib.hid hv
  clear H0 hw3 hg5 hk5 hd4 hg4 hT hls ht hg3 hd3 hg1 hs1 AW FW CN CD CV hn hn63 h4 d4 hv
  generalize w5.heap.size = g5 at *
  have hnv := valid_nat HV.out
  have hir := nat_i64V v hnv
  have h128 := (valid_parts HV.out).2.1
  have hts := text_short v hir
  have htl := text_long v
  obtain ⟨tx, htx⟩ : ∃ tx : ByteArray, tx = ⟨(textV v).toArray⟩ := ⟨_, rfl⟩
  have hxl : tx.data.toList = textV v := by rw [htx]
  have hxs : tx.size = (textV v).length := by rw [htx]; rfl
  have hpl := text_plain v hnv
  have HPB : Hid (∀ k (h : k < tx.size), plainB tx[k] = true) := Lib.hid (fun k h => by
    have h1 := byte_at h
    rw [hxl] at h1
    exact List.all_eq_true.1 hpl _ (List.mem_of_getElem? h1))
  have hpe : parseE tx.data.toList = (v, 0) := by
    unfold parseE
    rw [if_neg (by rw [hxl]; omega), hxl, parseP_of hir h128]
  have htp : txtP v = (tx, 0) := by unfold txtP; rw [if_pos h128, htx]
  have CTX : Hid (∀ W', Bw W0 W' → Calls Tryz.prog 33 #[.agg #[.int .i64 v.n, .slice A5 n5 c5]] W' (TxtPost W' (tx, 0))) := Lib.hid (fun W' g => oText_any v hir _ W' (HGL.out.bw (HW0.out.1.trans g)) (KAt.bw HW0.out.2.2 g) _ htp)
  have CPS : Hid (∀ W', Bw W0 W' → Calls Tryz.prog 36 #[.string tx] W' (SortedPost W' v 0)) := Lib.hid (fun W' g => oParse_any tx W' (HGL.out.bw (HW0.out.1.trans g)) (v, 0) hpe)
  have CSM : Hid (∀ W' s, Bw W0 W' → KB W' W'.heap.size s v.ks → Calls Tryz.prog 32 #[.agg #[.int .i64 v.n, s], .agg #[.int .i64 v.n, .slice A5 n5 c5]] W' (BoolPost W' true)) := Lib.hid (fun W' s g h => by
    have := r6same_any v v s (.slice A5 n5 c5) W' h (KAt.bw HW0.out.2.2 g)
    rw [decide_eq_true rfl] at this
    exact this)
  have hm : min (v.size : Int) 129 = v.size := by omega
  have CSZ : Hid (∀ W', Bw W0 W' → Calls Tryz.prog 26 #[.agg #[.int .i64 v.n, .slice A5 n5 c5]] W' (NumPost W' (v.size : Int))) := Lib.hid (fun W' g => by
    have := osize_any v _ W' (KAt.bw HW0.out.2.2 g)
    rw [hm] at this
    exact this)
  have hsz : (v.size : Int) ≤ (tx.size : Int) := by omega
  have hx4 : tx.size ≤ 4096 := by omega
  have KV : Hid (∀ W', Bw W0 W' → W'.cell? ⟨g5, 0, none⟩ = some (.int .i64 v.n) ∧ W'.cell? ⟨g5, 1, none⟩ = some (.slice A5 n5 c5)) := Lib.hid (fun W' g => by
    have h := HW0.out.2.1.below g.b HW0.out.2.1.lt
    exact ⟨h.cell 0, h.cell 1⟩)
  obtain ⟨q0, q1⟩ := KV.out W0 (Bw.refl _)
  have HBW := Lib.hid HW0.out.1
  clear HW0 HV hnv hir h128 hts htl htx hxl hxs hpl hpe htp hm HGL
  generalize (v.size : Int) = vz at *
  unfold TxtPost at CTX
  unfold SortedPost at CPS
  generalize v.n = x at *
  go_upto_region 7 with (first
    | (go_at_call 33; go_must (refine (CTX.out _ (Bw.refl _)).mono ?_; rintro e w6 ⟨rfl, hg6⟩; (have HX6 := Lib.hid hg6); clear hg6))
    | (go_at_call 36; go_must (refine (CPS.out _ HX6.out).mono ?_; rintro e w7 ⟨s7, rfl, hk7, hg7⟩; obtain ⟨A7, n7, c7, rfl, -, -, -⟩ := hk7.form; (have HX7 := Lib.hid (HX6.out.trans hg7)); (have HK7 := Lib.hid hk7); clear hk7 hg7)))
  have H8 : Hid (Bw W0 (w7.alloc (.cells #[.int .i64 x, .slice A7 n7 c7] 28)) ∧ Blk (w7.alloc (.cells #[.int .i64 x, .slice A7 n7 c7] 28)) w7.heap.size 28 #[.int .i64 x, .slice A7 n7 c7] ∧ KB (w7.alloc (.cells #[.int .i64 x, .slice A7 n7 c7] 28)) (w7.alloc (.cells #[.int .i64 x, .slice A7 n7 c7] 28)).heap.size (.slice A7 n7 c7) v.ks) := Lib.hid ⟨HX7.out.alloc _, Blk.new _ _ _, KAt.bw (HK7.out.keep (fun y hy => hy.2) (fun _ _ => rfl)) ((Bw.refl _).alloc _)⟩
  refine wp_world (fun W => Hid (Bw W0 W ∧ Blk W w7.heap.size 28 #[.int .i64 x, .slice A7 n7 c7] ∧ KB W W.heap.size (.slice A7 n7 c7) v.ks)) H8 ?_
  intro W8 HW8
  clear H8 HX7 HX6 HK7 q0 q1 CTX CPS
  generalize w7.heap.size = g7 at *
  have CSM2 : Hid (∀ W', Bw W8 W' → Calls Tryz.prog 32 #[.agg #[.int .i64 x, .slice A7 n7 c7], .agg #[.int .i64 x, .slice A5 n5 c5]] W' (BoolPost W' true)) := Lib.hid (fun W' g => CSM.out W' _ (HW8.out.1.trans g) (KAt.bw HW8.out.2.2 g))
  have KV8 : Hid (∀ W', Bw W8 W' → W'.cell? ⟨g5, 0, none⟩ = some (.int .i64 x) ∧ W'.cell? ⟨g5, 1, none⟩ = some (.slice A5 n5 c5) ∧ W'.cell? ⟨g7, 0, none⟩ = some (.int .i64 x) ∧ W'.cell? ⟨g7, 1, none⟩ = some (.slice A7 n7 c7)) := Lib.hid (fun W' g => by
    have h := HW8.out.2.1.below g.b HW8.out.2.1.lt
    exact ⟨(KV.out W' (HW8.out.1.trans g)).1, (KV.out W' (HW8.out.1.trans g)).2, h.cell 0, h.cell 1⟩)
  have CSZ2 : Hid (∀ W', Bw W8 W' → Calls Tryz.prog 26 #[.agg #[.int .i64 x, .slice A5 n5 c5]] W' (NumPost W' vz)) := Lib.hid (fun W' g => CSZ.out W' (HW8.out.1.trans g))
  obtain ⟨q0, q1, r0, r1⟩ := KV8.out W8 (Bw.refl _)
  have HB8 := Lib.hid (HBW.out.trans HW8.out.1)
  clear HW8 CSM CSZ KV HBW
  go_wp2_with fail
  go_loop [9] (fun i => ∃ k : Nat, k ≤ tx.size ∧ i = .int .i64 k) (fun i => tx.size - (intOf i).toNat)
  case atStart => exact ⟨0, Nat.zero_le _, rfl⟩
  case round =>
    obtain ⟨k, hk, rfl⟩ := hrel
    by_cases hlt : k < tx.size
    · rcases plain_cases (HPB.out k hlt) with ⟨h1, h2⟩ | h1 | h1 | h1
      · have e1 : decide ((48 : Int) ≤ (tx[k].toNat : Int)) = true := decide_eq_true (by omega)
        have e2 : decide ((tx[k].toNat : Int) ≤ 57) = true := decide_eq_true (by omega)
        go_wp2
        go_round
        case rel => exact ⟨k + 1, by omega, by go_num⟩
        case measure => simp [intOf]; omega
      all_goals
        go_wp2
        go_round
        case rel => exact ⟨k + 1, by omega, by go_num⟩
        case measure => simp [intOf]; omega
    · obtain rfl : tx.size = k := by omega
      go_wp2_with (first
        | (go_at_call 32; go_must (refine (CSM2.out _ (Bw.refl _)).mono ?_; rintro e w9 ⟨rfl, hg9⟩; (have HX9 := Lib.hid hg9); clear q0 q1 r0 r1; obtain ⟨q0, q1, r0, r1⟩ := KV8.out _ hg9; clear hg9))
        | (go_at_call 26; go_must (refine (CSZ2.out _ HX9.out).mono ?_; rintro e w10 ⟨rfl, hg10⟩; (have HX10 := Lib.hid (HX9.out.trans hg10)); clear hg10)))
      go_ret
      exact ⟨rfl, HB8.out.trans HX10.out⟩
end Go.Proofs.YtlmnkcfnihhlgaaGreatDoor
namespace Go.Proofs.YtlmnkcfnihhlgaaGreatDoor
open Go Go.ChangeShapes Go.WideShapes Go.ChangeAt Go.RowKit Go.Deep Go.ChangeMaps

set_option maxRecDepth 100000 in
theorem orderBack_lifted (os : Os) (started : os.Started) (H : Type) (enc : TypeId × Value → H) :
    ReturnsInHanded {} Tryz.checked os 7 .any (fun w args => (Rows.orderBackSpec.pre enc Tryz.prog Tryz.f7 [] false w args ∧ laidMetH Tryz.prog laidL w) ∧ sizedMet enc Tryz.prog Tryz.f7 (OpenSpec.ofChange Rows.orderBackSpec) false w args)
      (Rows.orderBackSpec.post enc Tryz.prog Tryz.f7 false true false false) := by
  refine returnsIn_laid_shaped (C := Tryz.checked) (laid := laidL) own started (by kernel_rfl) Tryz.func7
    (ChangeSpec.witness_shaped (enc := enc) (C := Tryz.checked) (os := os) (X := fun w _ => laidMetH Tryz.prog laidL w) false (World.laidAll Tryz.prog os laidL) #[.slice none 0 0] 8 rfl (World.shaped_of_ZipB (by kernel_rfl) (by kernel_rfl)) (by kernel_rfl) (by kernel_rfl) (by kernel_rfl) (witness_laid (enc := enc) os _)) ?_
  intro W base args ds gs before hval0 hW _ _ hL hsh
  have hval : ∀ (j : Nat) t v, Tryz.f7.params[j]? = some t → args[j]? = some v → Value.okWide Tryz.prog W .any base t v := hval0
  have hW' := hW
  obtain ⟨p, q, hA0, hV, rfl, hfz, hnd⟩ := hW
  have hA : DataW.TrodAll enc Tryz.prog W 0 (fun _ => true) true Tryz.f7.params.toList args.toList ds p := hA0
  have hlt := trodAll_lt hA
  rw [Tryz.params7] at hA hval
  obtain ⟨rfl, rfl⟩ := trodVars_none hV
  have hAll := hA
  obtain ⟨v0, r0, d0, s0, p0, q0, ea, rfl, rfl, h0, hA⟩ := trodAll_cons hA
  obtain ⟨rfl, rfl, rfl⟩ := trodAll_nil hA
  obtain ⟨args⟩ := args
  have ea' : args = [v0] := ea
  subst ea'
  obtain ⟨a0, len0, cap0, rfl⟩ := okWide_slice Tryz.underlying22 (hval 0 22 v0 rfl rfl)
  clear hA0 hval0
  refine (l6Back_any a0 len0 cap0 (intsArg_of h0).2 W (intsArg_of h0).1 (glob_of_laid hL)).mono fun e W' ⟨he, bel⟩ => ?_
  subst he
  exact ⟨_, rfl, _, _, _, [], _, [], hW', trodAll_mk1 (shut_bool Tryz.underlying4 _), trodAll_stays own_laid bel (by kernel_rfl) hAll hlt, rfl, bel.frame _, fun h => by cases h⟩

theorem orderBack_holds : Rows.OrderBackSaid :=
  OpenClaim.holds_of_wide 7 Tryz.f7 rfl rfl rfl rfl rfl rfl rfl ⟨rfl, rfl, rfl, rfl, rfl⟩ rfl rfl rfl rfl rfl (by kernel_rfl) Tryz.func7 (by kernel_rfl)
    (of_decide_eq_true (by kernel_rfl)) (by unfold Func.isWrapper; rw [if_neg (of_decide_eq_false (by kernel_rfl))]; exact ⟨rfl, rfl⟩)
    (fun os started H enc _ => orderBack_lifted os started H enc)

theorem orderBack_card : Rows.OrderBackCardSaid :=
  Claim7.holds_tied_plain_at .later [] [.data, .data, .data, .sentinel, .sentinel] true (true, "7738934b67018a2f4707d5218f624fe030c3ffec5cc10aff9b4468674a7de690") true
    orderBack_holds (fun _ h => by cases h) (by kernel_rfl) (fun _ h => by cases h) orderBack_row_tie rfl ⟨rfl, rfl⟩ (by kernel_rfl) rfl
    (fun f fn hf hfn => by
      obtain rfl : f = 7 := Option.some.inj ((show Tryz.prog.funcNamed "coverability/coverabilitylaw06.OrderBack" = some 7 by kernel_rfl).symm.trans hf) |>.symm
      obtain rfl : fn = Tryz.f7 := (Option.some.inj (Tryz.func7.symm.trans hfn)).symm
      exact ⟨by kernel_rfl, fun j t ht => by
        rw [Tryz.params7] at ht
        have hm : t ∈ [22] := by simpa using Array.mem_of_getElem? ht
        have hall : ([22].all fun u => !Tryz.prog.wantsStandIn u) = true := by kernel_rfl
        exact (show Tryz.prog.wantsStandIn t = false by simpa using List.all_eq_true.1 hall t hm)⟩)
    (by kernel_rfl)
#print axioms orderBack_card
end Go.Proofs.YtlmnkcfnihhlgaaGreatDoor
