/- Proved: for every []int l the call OrderTotal(l) returns true, and the list reads as it did. Conditions: the five listed variables of the library (math/bits, internal/strconv, strconv) read as listed, which the given ties tie to the program text. Law 06: Compare is a total order. -/
import Derived.Test.YtlmnkcfnihhlgaaGreatDoorAwkA
import Derived.Test.YtlmnkcfnihhlgaaGreatDoorLanA
import Derived.Test.YtlmnkcfnihhlgaaGreatDoorLeqA
import Derived.Test.YtlmnkcfnihhlgaaGreatDoorRefD
import Derived.Test.YtlmnkcfnihhlgaaGreatDoorPlnB
import Derived.Deep.DeepCutAuto
import Derived.Test.YtlmnkcfnihhlgaaGreatDoorCrdA
import Derived.ChangeMaps5
namespace Go.Proofs.YtlmnkcfnihhlgaaGreatDoor
open Go.RowKit
set_option linter.unusedSimpArgs false
set_option linter.unusedVariables false

set_option maxRecDepth 100000 in
set_option maxHeartbeats 8000000 in
theorem l6Total_any (A : Option Addr) (n c : Nat) (hn : n ≤ maxLen) (w : World) (h : IntsArg w A n) (hgl : GlobO w) : Calls Tryz.prog 6 #[.slice A n c] w (BoolPost w true) := by
  have hn63 : n ≤ 9223372036854775807 := by unfold maxLen at hn; omega
  have AW := Lib.hid (fun W (g : Bw w W) => awake6_any W (hgl.bw g))
  have FW := Lib.hid (fun W => few_any W A n c hn63)
  by_cases h4 : n ≤ 400
  rotate_left
  · have d4 : decide (n ≤ 400) = false := decide_eq_false h4
    rw [d4] at FW
    clear h hgl
    go_enter Tryz.func6, Tryz.ntmps6
    go_wp2_with (first
      | (go_at_call 9; (with_reducible refine (AW.out w (Bw.refl _)).mono ?_); rintro e w1 ⟨rfl, hg1⟩)
      | (go_at_call 10; (with_reducible refine (FW.out w1).mono ?_); rintro e w2 ⟨rfl, rfl⟩)
      | (go_at_call 9; (with_reducible refine (AW.out w1 hg1).mono ?_); rintro e w3 ⟨rfl, hg3⟩))
    go_ret
    exact ⟨rfl, hg1.trans hg3⟩
  have d4 : decide (n ≤ 400) = true := decide_eq_true h4
  rw [d4] at FW
  have CN := Lib.hid (fun W g => new_arg w W A n c h4 h g)
  have CD := Lib.hid (fun W b hd => dealt2_any W b false hd)
  unfold NewPost at CN
  unfold DealtT at CD
  clear h hgl
  go_enter Tryz.func6, Tryz.ntmps6
  go_upto_region 5 with (first
    | (go_at_call 9; (with_reducible refine (AW.out w (Bw.refl _)).mono ?_); rintro e w1 ⟨rfl, hg1⟩)
    | (go_at_call 10; (with_reducible refine (FW.out w1).mono ?_); rintro e w2 ⟨rfl, rfl⟩)
    | (go_at_call 13; (with_reducible refine (CN.out w1 hg1).mono ?_); rintro e w3 ⟨rfl, hd3, hg3⟩; have hs1 := hg1.size; generalize w1.heap.size = b at hd3 hg3 hs1 ⊢)
    | (go_at_call 14; (with_reducible refine (CD.out w3 b hd3).mono ?_); rintro e w4 ⟨t, A1, rn, c1, A2, pn, c2, rfl, ht, hls, hT, hg4⟩; have hd4 : DeckOk w4 b := hg4.2))
  have hw3 : Bw w w3 := Below.trans hg1 (Below.mono hg3 hs1)
  have hw4 : Bw w w4 := bw_row hw3 hg4.1 (fun r e => by injection e with e; omega)
  have hbl := hd4.lt
  have hgt : w4.heap.size ≠ b := by omega
  have hbw : Bw w4 (w4.alloc (.cells #[.int .i64 t.kind, .int .i64 t.size, .slice A1 rn c1, .slice A2 pn c2] 25)) := (Bw.refl w4).alloc _
  have H5 : Hid (DeckOk (w4.alloc (.cells #[.int .i64 t.kind, .int .i64 t.size, .slice A1 rn c1, .slice A2 pn c2] 25)) b ∧ Blk (w4.alloc (.cells #[.int .i64 t.kind, .int .i64 t.size, .slice A1 rn c1, .slice A2 pn c2] 25)) w4.heap.size 25 #[.int .i64 t.kind, .int .i64 t.size, .slice A1 rn c1, .slice A2 pn c2] ∧ Bw w (w4.alloc (.cells #[.int .i64 t.kind, .int .i64 t.size, .slice A1 rn c1, .slice A2 pn c2] 25)) ∧ TAt (w4.alloc (.cells #[.int .i64 t.kind, .int .i64 t.size, .slice A1 rn c1, .slice A2 pn c2] 25)) (TD b (w4.alloc (.cells #[.int .i64 t.kind, .int .i64 t.size, .slice A1 rn c1, .slice A2 pn c2] 25))) (.slice A1 rn c1) (.slice A2 pn c2) t) := Lib.hid ⟨hd4.below hbw.b hbl, Blk.new _ _ _, hw4.trans hbw, hT.keep (fun x hx => ⟨hx.1, Nat.lt_of_lt_of_le hx.2 hbw.size⟩) (fun q hq => hbw.b.cell hq.2)⟩
  have hsb : w.heap.size ≤ b := hs1
  refine wp_world (fun W => Hid (DeckOk W b ∧ Blk W w4.heap.size 25 #[.int .i64 t.kind, .int .i64 t.size, .slice A1 rn c1, .slice A2 pn c2] ∧ Bw w W ∧ TAt W (TD b W) (.slice A1 rn c1) (.slice A2 pn c2) t)) H5 ?_
  intro W5 HW5
  clear H5 hw3 hw4 hbw hd4 hg4 hT hg3 hd3 hg1 hs1 CN CD hn hn63 h4 d4 hbl AW FW
  generalize w4.heap.size = gt at *
  have HT := Lib.hid ht
  have HLS := Lib.hid hls
  clear ht hls
  go_cut [5, 6, 7] from 22 to 30 (fun s5 s6 s7 wx => ∃ (X : Nat → V) (Sl : Nat → Option Addr × Nat × Nat) (G : Nat → Nat), s5 = .pointer (some ⟨G 0, 0, none⟩) ∧ s6 = .pointer (some ⟨G 1, 0, none⟩) ∧ s7 = .pointer (some ⟨G 2, 0, none⟩) ∧ Hid (Bw w wx ∧ ∀ j, j < 3 → Blk wx (G j) 28 #[.int .i64 (X j).n, slOf (Sl j)] ∧ KB wx wx.heap.size (slOf (Sl j)) (X j).ks))
  case first =>
    refine deals_region (k := 3) (b0 := 5) (s0 := 22) (N := 78) (pd := 3) (pt := 4) (b := b) (gt := gt) (t := t) (r := .slice A1 rn c1) (p := .slice A2 pn c2) (lt3 ⟨_, _, _, rfl⟩ ⟨_, _, _, rfl⟩ ⟨_, _, _, rfl⟩) (lt3 ⟨_, _, _, rfl⟩ ⟨_, _, _, rfl⟩ ⟨_, _, _, rfl⟩) (lt3 ⟨_, _, _, rfl⟩ ⟨_, _, _, rfl⟩ ⟨_, _, _, rfl⟩) (lt3 ⟨_, _, _, rfl⟩ ⟨_, _, _, rfl⟩ ⟨_, _, _, rfl⟩) (lt3 ⟨_, _, _, rfl⟩ ⟨_, _, _, rfl⟩ ⟨_, _, _, rfl⟩) rfl
      (lt3 (by kernel_rfl) (by kernel_rfl) (by kernel_rfl)) (lt3 (by kernel_rfl) (by kernel_rfl) (by kernel_rfl)) (lt3 (by kernel_rfl) (by kernel_rfl) (by kernel_rfl)) (lt3 (by kernel_rfl) (by kernel_rfl) (by kernel_rfl)) (by kernel_rfl) (by omega) (by omega) (by omega) (by omega) rfl rfl rfl
      HW5.out.1 HW5.out.2.1 hgt rfl rfl HW5.out.2.2.2 HT.out HLS.out ?_
    intro L X Sl G a W hL h
    rw [h.act3 (fun i hi => hL i (by omega)) (by omega) (by omega) rfl]
    go_simp
    go_wp2_with fail
    go_meet
    refine ⟨X, Sl, G, rfl, rfl, rfl, Lib.hid ⟨bw_row (HW5.out.2.2.1.drew) h.gd.1 (fun r e => by injection e with e; omega), fun j hj => ⟨h.bf j hj (hL _ (by omega)), (h.cl j hj (hL _ (by omega))).2.2.keep (fun x hx => hx.2.1) (fun _ _ => rfl)⟩⟩⟩
  case rest =>
    obtain ⟨X, Sl, G, rfl, rfl, rfl, HX⟩ := hcut
    obtain ⟨hww, hj⟩ := HX.out
    obtain ⟨b0, k0⟩ := hj 0 (by omega)
    obtain ⟨b1, k1⟩ := hj 1 (by omega)
    obtain ⟨b2, k2⟩ := hj 2 (by omega)
    have HW := Lib.hid hww
    generalize slOf (Sl 0) = sa at *
    generalize slOf (Sl 1) = sb at *
    generalize slOf (Sl 2) = sc at *
    generalize G 0 = ga at *
    generalize G 1 = gb at *
    generalize G 2 = gc at *
    generalize X 0 = va at *
    generalize X 1 = vb at *
    generalize X 2 = vc at *
    have CAB : Hid (∀ W, Bw wc W → Calls Tryz.prog 24 #[.agg #[.int .i64 va.n, sa], .agg #[.int .i64 vb.n, sb]] W (NumPost W (cmpV va vb))) := Lib.hid (fun W g => (cmp_any va vb _ _ W (k0.bw g) (k1.bw g)).mono fun _ _ h => h.num)
    have CBA : Hid (∀ W, Bw wc W → Calls Tryz.prog 24 #[.agg #[.int .i64 vb.n, sb], .agg #[.int .i64 va.n, sa]] W (NumPost W (- cmpV va vb))) := Lib.hid (fun W g => by
      rw [← cmp_anti]
      exact (cmp_any vb va _ _ W (k1.bw g) (k0.bw g)).mono fun _ _ h => h.num)
    have CAA : Hid (∀ W, Bw wc W → Calls Tryz.prog 24 #[.agg #[.int .i64 va.n, sa], .agg #[.int .i64 va.n, sa]] W (NumPost W 0)) := Lib.hid (fun W g => by
      have e : cmpV va va = 0 := cmp_eq.2 rfl
      rw [← e]
      exact (cmp_any va va _ _ W (k0.bw g) (k0.bw g)).mono fun _ _ h => h.num)
    have CBC : Hid (∀ W, Bw wc W → Calls Tryz.prog 24 #[.agg #[.int .i64 vb.n, sb], .agg #[.int .i64 vc.n, sc]] W (NumPost W (cmpV vb vc))) := Lib.hid (fun W g => (cmp_any vb vc _ _ W (k1.bw g) (k2.bw g)).mono fun _ _ h => h.num)
    have CAC : Hid (∀ W, Bw wc W → Calls Tryz.prog 24 #[.agg #[.int .i64 va.n, sa], .agg #[.int .i64 vc.n, sc]] W (NumPost W (cmpV va vc))) := Lib.hid (fun W g => (cmp_any va vc _ _ W (k0.bw g) (k2.bw g)).mono fun _ _ h => h.num)
    have CSM : Hid (∀ W (x : Bool), Bw wc W → decide (cmpV va vb = 0) = x → Calls Tryz.prog 32 #[.agg #[.int .i64 va.n, sa], .agg #[.int .i64 vb.n, sb]] W (BoolPost W x)) := Lib.hid (fun W x g e => by
      have h := r6same_any va vb _ _ W (k0.bw g) (k1.bw g)
      have h2 : decide (va = vb) = x := by rw [← e]; exact decide_eq_decide.2 cmp_eq.symm
      rw [h2] at h
      exact h)
    have KV : Hid (∀ W, Bw wc W → W.cell? ⟨ga, 0, none⟩ = some (.int .i64 va.n) ∧ W.cell? ⟨ga, 1, none⟩ = some sa ∧ W.cell? ⟨gb, 0, none⟩ = some (.int .i64 vb.n) ∧ W.cell? ⟨gb, 1, none⟩ = some sb ∧ W.cell? ⟨gc, 0, none⟩ = some (.int .i64 vc.n) ∧ W.cell? ⟨gc, 1, none⟩ = some sc) := Lib.hid (fun W g => by
      have h0 := b0.below g.b b0.lt
      have h1 := b1.below g.b b1.lt
      have h2 := b2.below g.b b2.lt
      exact ⟨h0.cell 0, h0.cell 1, h1.cell 0, h1.cell 1, h2.cell 0, h2.cell 1⟩)
    have HR : Hid (cmpV va vb = -1 ∨ cmpV va vb = 0 ∨ cmpV va vb = 1) := Lib.hid (cmp_range va vb)
    have HT3 : Hid (cmpV va vb ≤ 0 → cmpV vb vc ≤ 0 → cmpV va vc ≤ 0) := Lib.hid cmp_le_trans
    clear b0 b1 b2 k0 k1 k2 hj HX hww HT HLS HW5 hgt hsb
    generalize cmpV va vb = x at *
    generalize cmpV vb vc = z at *
    generalize cmpV va vc = u at *
    generalize va.n = na at *
    generalize vb.n = nb at *
    generalize vc.n = nc at *
    clear X Sl G
    unfold NumPost at CAB CBA CAA CBC CAC
    unfold BoolPost at CSM
    have q0 : ∀ P : BwOf wc, P.val.cell? ⟨ga, 0, none⟩ = some (.int .i64 na) := fun P => (KV.out P.val P.bw).1
    have q1 : ∀ P : BwOf wc, P.val.cell? ⟨ga, 1, none⟩ = some sa := fun P => (KV.out P.val P.bw).2.1
    have q2 : ∀ P : BwOf wc, P.val.cell? ⟨gb, 0, none⟩ = some (.int .i64 nb) := fun P => (KV.out P.val P.bw).2.2.1
    have q3 : ∀ P : BwOf wc, P.val.cell? ⟨gb, 1, none⟩ = some sb := fun P => (KV.out P.val P.bw).2.2.2.1
    have D1 := Lib.hid (fun P : BwOf wc => CAB.out P.val P.bw)
    have D2 := Lib.hid (fun P : BwOf wc => CBA.out P.val P.bw)
    go_wp2_with fail
    refine wp_region_quiet_bw mixedO (by kernel_rfl) ?_
    repeat (go_big_quiet_step ((first | (go_at_call 24; with_reducible exact calls_bw _ (D1.out _)) | (go_at_call 24; with_reducible exact calls_bw _ (D2.out _)))))
    refine wpQuiet_nil ?_
    intro w6 hw'
    have hg6 : Bw wc w6 := by obtain ⟨p, e⟩ := hw'; rw [e]; exact p.bw
    clear hw'
    have HG6 := Lib.hid hg6
    clear q0 q1 q2 q3 D1 D2 CAB CBA
    obtain ⟨q0, q1, q2, q3, q4, q5⟩ := KV.out _ hg6
    clear hg6
    have CSM2 := Lib.hid (fun x e => CSM.out w6 x HG6.out e)
    clear CSM
    rcases HR.out with rfl | rfl | rfl
    rotate_right
    · clear HT3 CBC CAC
      have CS := Lib.hid (CSM2.out false rfl)
      clear CSM2
      go_wp2_with (first
        | (go_at_call 32; (with_reducible refine CS.out.mono ?_); rintro e w7 ⟨rfl, hg7⟩; (have HG7 := Lib.hid (HG6.out.trans hg7)); clear q0 q1 q2 q3 q4 q5; obtain ⟨q0, q1, q2, q3, q4, q5⟩ := KV.out _ HG7.out; clear hg7)
        | (go_at_call 24; (with_reducible refine (CAA.out _ HG7.out).mono ?_); rintro e w8 ⟨rfl, hg8⟩; (have HG8 := Lib.hid (HG7.out.trans hg8)); clear q0 q1 q2 q3 q4 q5; obtain ⟨q0, q1, q2, q3, q4, q5⟩ := KV.out _ HG8.out; clear hg8))
      go_ret
      exact ⟨rfl, HW.out.trans HG8.out⟩
    all_goals
      first | have CS := Lib.hid (CSM2.out false rfl) | have CS := Lib.hid (CSM2.out true rfl)
      clear CSM2
      by_cases hz : z ≤ 0
      · have dz : decide (z ≤ 0) = true := decide_eq_true hz
        have du : decide (u ≤ 0) = true := decide_eq_true (HT3.out (by omega) hz)
        clear HT3 hz
        go_wp2_with (first
          | (go_at_call 32; (with_reducible refine CS.out.mono ?_); rintro e w7 ⟨rfl, hg7⟩; (have HG7 := Lib.hid (HG6.out.trans hg7)); clear q0 q1 q2 q3 q4 q5; obtain ⟨q0, q1, q2, q3, q4, q5⟩ := KV.out _ HG7.out; clear hg7)
          | (go_at_call 24; (with_reducible refine (CAA.out _ HG7.out).mono ?_); rintro e w8 ⟨rfl, hg8⟩; (have HG8 := Lib.hid (HG7.out.trans hg8)); clear q0 q1 q2 q3 q4 q5; obtain ⟨q0, q1, q2, q3, q4, q5⟩ := KV.out _ HG8.out; clear hg8)
          | (go_at_call 24; (with_reducible refine (CBC.out _ HG8.out).mono ?_); rintro e w9 ⟨rfl, hg9⟩; (have HG9 := Lib.hid (HG8.out.trans hg9)); clear q0 q1 q2 q3 q4 q5; obtain ⟨q0, q1, q2, q3, q4, q5⟩ := KV.out _ HG9.out; clear hg9)
          | (go_at_call 24; (with_reducible refine (CAC.out _ HG9.out).mono ?_); rintro e w10 ⟨rfl, hg10⟩; (have HG10 := Lib.hid (HG9.out.trans hg10)); clear hg10))
        go_ret
        exact ⟨rfl, HW.out.trans HG10.out⟩
      · have dz : decide (z ≤ 0) = false := decide_eq_false hz
        clear HT3 hz CAC
        go_wp2_with (first
          | (go_at_call 32; (with_reducible refine CS.out.mono ?_); rintro e w7 ⟨rfl, hg7⟩; (have HG7 := Lib.hid (HG6.out.trans hg7)); clear q0 q1 q2 q3 q4 q5; obtain ⟨q0, q1, q2, q3, q4, q5⟩ := KV.out _ HG7.out; clear hg7)
          | (go_at_call 24; (with_reducible refine (CAA.out _ HG7.out).mono ?_); rintro e w8 ⟨rfl, hg8⟩; (have HG8 := Lib.hid (HG7.out.trans hg8)); clear q0 q1 q2 q3 q4 q5; obtain ⟨q0, q1, q2, q3, q4, q5⟩ := KV.out _ HG8.out; clear hg8)
          | (go_at_call 24; (with_reducible refine (CBC.out _ HG8.out).mono ?_); rintro e w9 ⟨rfl, hg9⟩; (have HG9 := Lib.hid (HG8.out.trans hg9)); clear hg9))
        go_ret
        exact ⟨rfl, HW.out.trans HG9.out⟩
end Go.Proofs.YtlmnkcfnihhlgaaGreatDoor
namespace Go.Proofs.YtlmnkcfnihhlgaaGreatDoor
open Go Go.ChangeShapes Go.WideShapes Go.ChangeAt Go.RowKit Go.Deep Go.ChangeMaps

set_option maxRecDepth 100000 in
theorem orderTotal_lifted (os : Os) (started : os.Started) (H : Type) (enc : TypeId × Value → H) :
    ReturnsInHanded {} Tryz.checked os 6 .any (fun w args => (Rows.orderTotalSpec.pre enc Tryz.prog Tryz.f6 [] false w args ∧ laidMetH Tryz.prog laidL w) ∧ sizedMet enc Tryz.prog Tryz.f6 (OpenSpec.ofChange Rows.orderTotalSpec) false w args)
      (Rows.orderTotalSpec.post enc Tryz.prog Tryz.f6 false true false false) := by
  refine returnsIn_laid_shaped (C := Tryz.checked) (laid := laidL) own started (by kernel_rfl) Tryz.func6
    (ChangeSpec.witness_shaped (enc := enc) (C := Tryz.checked) (os := os) (X := fun w _ => laidMetH Tryz.prog laidL w) false (World.laidAll Tryz.prog os laidL) #[.slice none 0 0] 8 rfl (World.shaped_of_ZipB (by kernel_rfl) (by kernel_rfl)) (by kernel_rfl) (by kernel_rfl) (by kernel_rfl) (witness_laid (enc := enc) os _)) ?_
  intro W base args ds gs before hval0 hW _ _ hL hsh
  have hval : ∀ (j : Nat) t v, Tryz.f6.params[j]? = some t → args[j]? = some v → Value.okWide Tryz.prog W .any base t v := hval0
  have hW' := hW
  obtain ⟨p, q, hA0, hV, rfl, hfz, hnd⟩ := hW
  have hA : DataW.TrodAll enc Tryz.prog W 0 (fun _ => true) true Tryz.f6.params.toList args.toList ds p := hA0
  have hlt := trodAll_lt hA
  rw [Tryz.params6] at hA hval
  obtain ⟨rfl, rfl⟩ := trodVars_none hV
  have hAll := hA
  obtain ⟨v0, r0, d0, s0, p0, q0, ea, rfl, rfl, h0, hA⟩ := trodAll_cons hA
  obtain ⟨rfl, rfl, rfl⟩ := trodAll_nil hA
  obtain ⟨args⟩ := args
  have ea' : args = [v0] := ea
  subst ea'
  obtain ⟨a0, len0, cap0, rfl⟩ := okWide_slice Tryz.underlying22 (hval 0 22 v0 rfl rfl)
  clear hA0 hval0
  refine (l6Total_any a0 len0 cap0 (intsArg_of h0).2 W (intsArg_of h0).1 (glob_of_laid hL)).mono fun e W' ⟨he, bel⟩ => ?_
  subst he
  exact ⟨_, rfl, _, _, _, [], _, [], hW', trodAll_mk1 (shut_bool Tryz.underlying4 _), trodAll_stays own_laid bel (by kernel_rfl) hAll hlt, rfl, bel.frame _, fun h => by cases h⟩

theorem orderTotal_holds : Rows.OrderTotalSaid :=
  OpenClaim.holds_of_wide 6 Tryz.f6 rfl rfl rfl rfl rfl rfl rfl ⟨rfl, rfl, rfl, rfl, rfl⟩ rfl rfl rfl rfl rfl (by kernel_rfl) Tryz.func6 (by kernel_rfl)
    (of_decide_eq_true (by kernel_rfl)) (by unfold Func.isWrapper; rw [if_neg (of_decide_eq_false (by kernel_rfl))]; exact ⟨rfl, rfl⟩)
    (fun os started H enc _ => orderTotal_lifted os started H enc)

theorem orderTotal_card : Rows.OrderTotalCardSaid :=
  Claim7.holds_tied_plain_at .later [] [.data, .data, .data, .sentinel, .sentinel] true (true, "7738934b67018a2f4707d5218f624fe030c3ffec5cc10aff9b4468674a7de690") true
    orderTotal_holds (fun _ h => by cases h) (by kernel_rfl) (fun _ h => by cases h) orderTotal_row_tie rfl ⟨rfl, rfl⟩ (by kernel_rfl) rfl
    (fun f fn hf hfn => by
      obtain rfl : f = 6 := Option.some.inj ((show Tryz.prog.funcNamed "coverability/coverabilitylaw06.OrderTotal" = some 6 by kernel_rfl).symm.trans hf) |>.symm
      obtain rfl : fn = Tryz.f6 := (Option.some.inj (Tryz.func6.symm.trans hfn)).symm
      exact ⟨by kernel_rfl, fun j t ht => by
        rw [Tryz.params6] at ht
        have hm : t ∈ [22] := by simpa using Array.mem_of_getElem? ht
        have hall : ([22].all fun u => !Tryz.prog.wantsStandIn u) = true := by kernel_rfl
        exact (show Tryz.prog.wantsStandIn t = false by simpa using List.all_eq_true.1 hall t hm)⟩)
    (by kernel_rfl)
#print axioms orderTotal_card
end Go.Proofs.YtlmnkcfnihhlgaaGreatDoor
