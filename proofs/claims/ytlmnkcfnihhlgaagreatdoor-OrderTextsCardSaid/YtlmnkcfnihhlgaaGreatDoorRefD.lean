/- Regions that draw their order, read, and call what makes memory of its own: one walk in the order of the text, in the worlds in which nothing old has turned. The reference's of = oneP at words and bags; at any type; Valid = validP. -/
import Derived.Test.YtlmnkcfnihhlgaaGreatDoorIdxA
import Derived.Deep.QuietTactic
import Derived.BigQuiet
import Derived.Test.YtlmnkcfnihhlgaaGreatDoorRefC
namespace Go.Proofs.YtlmnkcfnihhlgaaGreatDoor
open Go.RowKit
set_option linter.unusedSimpArgs false
set_option linter.unusedVariables false

/-- a world in which nothing of w has turned -/
structure BwOf (w : World) where
  val : World
  bw : Bw w val
instance (w : World) : Inhabited (BwOf w) := ⟨⟨w, Bw.refl w⟩⟩
theorem wp_region_quiet_bw {P : Program} {id : Nat} {Q : Exit → Act → World → Prop} {a : Act} {w : World} {l : List Oper} (hm : P.follows .mixedOrders = true) (hB : Region.lexB .any l.toArray = true)
    (h : wpQuiet P l.toArray (fun w' => ∃ p : BwOf w, w' = p.val) (fun a' => ∀ w', (∃ p : BwOf w, w' = p.val) → Q .normal a' w') l a) : (Code.region id l.toArray true).wp P Q a w :=
  wp_region_quiet (C := fun w' => ∃ p : BwOf w, w' = p.val) hm hB ⟨⟨w.drew, (Bw.refl w).drew⟩, rfl⟩ (by simpa using h)
theorem calls_bw {P : Program} {f : FuncId} {args : Array Value} {w : World} (p : BwOf w) {v : Value} (h : Calls P f args p.val fun e w' => e = .returned v ∧ Bw p.val w') : Calls P f args p.val fun e w'' => e = .returned v ∧ ∃ q : BwOf w, w'' = q.val :=
  h.mono fun _ w' ⟨he, hb⟩ => ⟨he, ⟨w', p.bw.trans hb⟩, rfl⟩
theorem mixedO : Tryz.prog.follows .mixedOrders = true := by kernel_rfl
end Go.Proofs.YtlmnkcfnihhlgaaGreatDoor
namespace Go.Proofs.YtlmnkcfnihhlgaaGreatDoor
open Go.RowKit
set_option linter.unusedSimpArgs false
set_option linter.unusedVariables false

set_option maxRecDepth 100000 in
set_option maxHeartbeats 8000000 in
theorem r6of_k45 (t p : T) (f : V → Bool) (bag : Bool) (hk : t.kind = if bag then 5 else 4) (hp : t.parts = [p]) (ih : OfSays p f) : OfSays t (fun v => v.n == 0 && decide (v.ks.length ≤ 12) && leftB bag f v.ks 0) := by
  intro v rv pv s w hT h
  obtain ⟨A, n, c, rfl, ln, bn, mn⟩ := h.form
  obtain ⟨A1, rn, c1, rfl, _, _⟩ := hT.1.form'
  obtain ⟨A2, pn, c2, rfl, _, _, _⟩ := hT.2.form
  unfold maxLen at mn
  have hp2 := hT.2
  rw [hp] at hp2
  obtain ⟨rfl, ad2, A3, n3, c3, A4, n4, c4, rfl, hb2, y0, y1, y2, y3, hT2⟩ := parts_one hp2
  have HIH := Lib.hid ih
  have HK := Lib.hid h
  have LN := Lib.hid ln
  have HT2 := Lib.hid hT2
  show Calls _ _ _ _ (BoolPost w (v.n == 0 && decide (v.ks.length ≤ 12) && leftB bag f v.ks 0))
  unfold aggT aggV
  rw [ln]
  have HPC : Hid (∀ W, Bw w W → W.cell? ad2 = some (.int .i64 p.kind) ∧ W.cell? ⟨ad2.block, ad2.off + 1, none⟩ = some (.int .i64 p.size) ∧ W.cell? ⟨ad2.block, ad2.off + 2, none⟩ = some (.slice A3 n3 c3) ∧ W.cell? ⟨ad2.block, ad2.off + 3, none⟩ = some (.slice A4 n4 c4)) := Lib.hid (fun W g => ⟨(g.b.cell (p := ad2) hb2).trans y0, (g.b.cell (p := ⟨ad2.block, ad2.off + 1, none⟩) hb2).trans y1, (g.b.cell (p := ⟨ad2.block, ad2.off + 2, none⟩) hb2).trans y2, (g.b.cell (p := ⟨ad2.block, ad2.off + 3, none⟩) hb2).trans y3⟩)
  have CM0 : Hid (∀ W (x : V) s', Bw w W → KB W W.heap.size s' x.ks → Calls Tryz.prog 45 #[.agg #[.int .i64 p.kind, .int .i64 p.size, .slice A3 n3 c3, .slice A4 n4 c4], .agg #[.int .i64 x.n, s']] W (BoolPost W (f x))) := Lib.hid (fun W x s' g hk => HIH.out x _ _ _ W (TAt.bw HT2.out g) hk)
  clear h hT ln hp2 hT2 ih y0 y1 y2 y3
  have HKD := Lib.hid hk
  generalize hkd : t.kind = kd at *
  clear hkd
  generalize t.size = z at *
  generalize p.kind = pk at *
  generalize p.size = pz at *
  have TX := Lib.hid (tvb (w := w) (kd := kd) (z := z) (x := v.n) (r := .slice A1 rn c1) (p := .slice (some ad2) 1 c2) (s := .slice A n c))
  generalize hal : leftB bag f v.ks 0 = al at *
  have HAL := Lib.hid hal
  clear hal
  generalize v.n = x at *
  have k1 : (kd == 1) = false := by rw [HKD.out]; cases bag <;> rfl
  have k2 : (kd == 2) = false := by rw [HKD.out]; cases bag <;> rfl
  have k6 : (kd == 6) = false := by rw [HKD.out]; cases bag <;> rfl
  have k3 : (kd == 3) = false := by rw [HKD.out]; cases bag <;> rfl
  have k7 : (kd == 7) = false := by rw [HKD.out]; cases bag <;> rfl
  have k5 : (kd == 5) = bag := by rw [HKD.out]; cases bag <;> rfl
  have K5 := Lib.hid k5
  clear k5 hk
  by_cases hx : x = 0
  rotate_left
  · have d0 : (x == 0) = false := by simpa using hx
    have d9 : (x != 0) = true := by simpa using hx
    have HF : Hid ((x == 0 && decide (n ≤ 12) && al) = false) := Lib.hid (by rw [d0]; rfl)
    go_enter Tryz.func45, Tryz.ntmps45
    go_wp2
    go_ret
    exact ⟨ret_bool (by first | rfl | exact HF.out.symm), TX.out.1⟩
  subst hx
  by_cases hn : n ≤ 12
  rotate_left
  · have HF : Hid (((0 : Int) == 0 && decide (n ≤ 12) && al) = false) := Lib.hid (by simp [hn])
    have d1 : decide ((12 : Int) < (n : Int)) = true := by simp; omega
    go_enter Tryz.func45, Tryz.ntmps45
    go_wp2
    go_ret
    exact ⟨ret_bool (by first | rfl | exact HF.out.symm), TX.out.1⟩
  have d1 : decide ((12 : Int) < (n : Int)) = false := by simp; omega
  have HF : Hid (((0 : Int) == 0 && decide (n ≤ 12) && al) = al) := Lib.hid (by simp [hn])
  rw [HF.out]
  clear HF
  go_enter Tryz.func45, Tryz.ntmps45
  go_wp2
  go_loopw [6] (fun i wr => ∃ k : Nat, k ≤ n ∧ i = .int .i64 k ∧ Hid (Bw ((w.alloc (.cells #[.int .i64 kd, .int .i64 z, .slice A1 rn c1, .slice (some ad2) 1 c2] 25)).alloc (.cells #[.int .i64 0, .slice A n c] 28)) wr ∧ al = leftB bag f v.ks k)) (fun i _ => n - (intOf i).toNat)
  case atStart => exact ⟨0, by omega, by go_num, Lib.hid ⟨Bw.refl _, HAL.out.symm⟩⟩
  case round =>
    obtain ⟨k, hk, rfl, HR⟩ := hrel
    obtain ⟨hg, hq⟩ := HR.out
    obtain ⟨z0, hgw, p0, p1, p2, p3, p4, p5⟩ := TX.out.2 wr hg
    have HW := Lib.hid hgw
    have HG := Lib.hid hg
    by_cases hlt : k < n
    · have e1 : k < v.ks.length := by rw [LN.out]; exact hlt
      obtain ⟨ad, sA, sn, sc, rfl, hb, q0, q1, sl, hs⟩ := (HK.out.bw hgw).at_ e1
      have CM : Hid (∀ P : BwOf wr, Calls Tryz.prog 45 #[.agg #[.int .i64 pk, .int .i64 pz, .slice A3 n3 c3, .slice A4 n4 c4], .agg #[.int .i64 v.ks[k].n, .slice sA sn sc]] P.val (BoolPost P.val (f v.ks[k]))) := Lib.hid (fun P => CM0.out P.val _ _ (hgw.trans P.bw) (hs.bw P.bw))
      have o0 : ∀ P : BwOf wr, P.val.cell? ⟨w.heap.size, 0, none⟩ = some (.int .i64 kd) := fun P => (TX.out.2 P.val (hg.trans P.bw)).2.2.1
      have o3 : ∀ P : BwOf wr, P.val.cell? ⟨w.heap.size, 3, none⟩ = some (.slice (some ad2) 1 c2) := fun P => (TX.out.2 P.val (hg.trans P.bw)).2.2.2.2.2.1
      have o5 : ∀ P : BwOf wr, P.val.cell? ⟨w.heap.size + 1, 1, none⟩ = some (.slice (some ad) n c) := fun P => (TX.out.2 P.val (hg.trans P.bw)).2.2.2.2.2.2.2
      have o6 : ∀ P : BwOf wr, P.val.cell? (ad.add (k * 2)) = some (.int .i64 v.ks[k].n) := fun P => (P.bw.b.cell (by rw [add_block]; exact hb)).trans q0
      have o7 : ∀ P : BwOf wr, P.val.cell? ⟨(ad.add (k * 2)).block, (ad.add (k * 2)).off + 1, none⟩ = some (.slice sA sn sc) := fun P => (P.bw.b.cell (by simp only [add_block]; exact hb)).trans q1
      have i0 : ∀ P : BwOf wr, P.val.cell? ad2 = some (.int .i64 pk) := fun P => (HPC.out P.val (hgw.trans P.bw)).1
      have i1 : ∀ P : BwOf wr, P.val.cell? ⟨ad2.block, ad2.off + 1, none⟩ = some (.int .i64 pz) := fun P => (HPC.out P.val (hgw.trans P.bw)).2.1
      have i2 : ∀ P : BwOf wr, P.val.cell? ⟨ad2.block, ad2.off + 2, none⟩ = some (.slice A3 n3 c3) := fun P => (HPC.out P.val (hgw.trans P.bw)).2.2.1
      have i3 : ∀ P : BwOf wr, P.val.cell? ⟨ad2.block, ad2.off + 3, none⟩ = some (.slice A4 n4 c4) := fun P => (HPC.out P.val (hgw.trans P.bw)).2.2.2
      have HQ := Lib.hid hq
      have HS := Lib.hid hs
      have dz : (0 : Int) ≤ (k : Int) := by omega
      have dz1 : (k : Int) < (n : Int) := by omega
      clear hs sl hq hg HR q0 q1 hgw
      cases hr : f v.ks[k] with
      | false =>
        rw [hr] at CM
        have HF2 : Hid (al = false) := Lib.hid (by
          rw [HQ.out]
          cases k with
          | zero => rw [leftB_first e1, hr]; rfl
          | succ m => rw [leftB_next e1, hr]; simp)
        clear hr
        generalize v.ks[k].n = x at *
        generalize w.heap.size = yy at *
        go_wp2_with fail
        refine wp_region_quiet_bw mixedO (by kernel_rfl) ?_
        repeat (go_big_quiet_step ((go_at_call 45; exact calls_bw _ (CM.out _))))
        refine wpQuiet_nil ?_
        intro _ hw'
        obtain ⟨⟨w6, hg6⟩, rfl⟩ := hw'
        have HG6 := Lib.hid hg6
        clear hg6
        go_wp2
        go_ret
        exact ⟨ret_bool HF2.out.symm, HW.out.trans HG6.out⟩
      | true =>
        rw [hr] at CM
        cases bag with
        | false =>
          have k5 : (kd == 5) = false := K5.out
          have HQ2 : Hid (al = leftB false f v.ks (k + 1)) := Lib.hid (by
            rw [HQ.out]
            cases k with
            | zero => rw [leftB_first e1, hr]; rfl
            | succ m => rw [leftB_next e1, hr]; rfl)
          clear hr
          generalize v.ks[k].n = x at *
          generalize w.heap.size = yy at *
          go_wp2_with fail
          refine wp_region_quiet_bw mixedO (by kernel_rfl) ?_
          repeat (go_big_quiet_step ((go_at_call 45; exact calls_bw _ (CM.out _))))
          refine wpQuiet_nil ?_
          intro _ hw'
          obtain ⟨⟨w6, hg6⟩, rfl⟩ := hw'
          have HG6 := Lib.hid hg6
          clear hg6
          go_wp2
          go_roundw
          case rel => exact ⟨k + 1, by omega, by go_num, Lib.hid ⟨HG.out.trans HG6.out, HQ2.out⟩⟩
          case measure => simp [intOf]; omega
        | true =>
          have k5 : (kd == 5) = true := K5.out
          cases k with
          | zero =>
            have HQ2 : Hid (al = leftB true f v.ks 1) := Lib.hid (by rw [HQ.out, leftB_first e1, hr]; rfl)
            have e0 : ad.add (0 * 2) = ad := by simp [Addr.add]
            rw [e0] at o6 o7
            have d5 : decide ((0 : Int) < 0) = false := by simp
            clear hr e0
            generalize v.ks[0].n = x at *
            generalize w.heap.size = yy at *
            go_wp2_with fail
            refine wp_region_quiet_bw mixedO (by kernel_rfl) ?_
            repeat (go_big_quiet_step ((go_at_call 45; exact calls_bw _ (CM.out _))))
            refine wpQuiet_nil ?_
            intro _ hw'
            obtain ⟨⟨w6, hg6⟩, rfl⟩ := hw'
            have HG6 := Lib.hid hg6
            clear hg6
            go_wp2
            go_roundw
            case rel => exact ⟨1, by omega, by go_num, Lib.hid ⟨HG.out.trans HG6.out, HQ2.out⟩⟩
            case measure => simp [intOf]; omega
          | succ m =>
            have e2 : m < v.ks.length := by omega
            obtain ⟨ad', tA, tn, tc, ea, hb', q2, q3, tl, ht⟩ := (HK.out.bw HW.out).at_ e2
            obtain rfl : ad = ad' := Option.some.inj ea
            have CC : Hid (∀ P : BwOf wr, Calls Tryz.prog 25 #[.agg #[.int .i64 v.ks[m].n, .slice tA tn tc], .agg #[.int .i64 v.ks[m + 1].n, .slice sA sn sc]] P.val (NumPost P.val (cmpV v.ks[m] v.ks[m + 1]))) := Lib.hid (fun P => r6cmp_any v.ks[m] v.ks[m + 1] _ _ P.val (ht.bw P.bw) (HS.out.bw P.bw))
            have o8 : ∀ P : BwOf wr, P.val.cell? (ad.add (m * 2)) = some (.int .i64 v.ks[m].n) := fun P => (P.bw.b.cell (by rw [add_block]; exact hb)).trans q2
            have o9 : ∀ P : BwOf wr, P.val.cell? ⟨(ad.add (m * 2)).block, (ad.add (m * 2)).off + 1, none⟩ = some (.slice tA tn tc) := fun P => (P.bw.b.cell (by simp only [add_block]; exact hb)).trans q3
            have HCM : Hid (al = (decide (0 ≤ cmpV v.ks[m + 1] v.ks[m]) && leftB true f v.ks (m + 2))) := Lib.hid (by rw [HQ.out, leftB_next e1, hr]; rfl)
            have HAN := Lib.hid (cmp_anti v.ks[m + 1] v.ks[m])
            clear hr ht q2 q3 tl ea hb'
            generalize hcr : cmpV v.ks[m] v.ks[m + 1] = r at *
            clear hcr
            generalize v.ks[m + 1].n = x at *
            generalize v.ks[m].n = y at *
            generalize w.heap.size = yy at *
            have dw : IntKind.i64.wrap ((m : Int) + 1 - 1) = m := by rw [show (m : Int) + 1 - 1 = m from by omega]; exact wI64 m (by omega) (by omega)
            have dw1 : (m : Int) + 1 - 1 = m := by omega
            have dz3 : (0 : Int) ≤ (m : Int) := by omega
            have dz4 : (m : Int) < (n : Int) := by omega
            have d5 : decide ((0 : Int) < (m : Int) + 1) = true := by rw [decide_eq_true_eq]; omega
            by_cases hr0 : 0 < r
            · have d6 : decide (0 < r) = true := by simpa using hr0
              have HF2 : Hid (al = false) := Lib.hid (by rw [HCM.out, decide_eq_false (by have := HAN.out; omega)]; rfl)
              go_wp2_with fail
              refine wp_region_quiet_bw mixedO (by kernel_rfl) ?_
              repeat (go_big_quiet_step ((first | (go_at_call 45; exact calls_bw _ (CM.out _)) | (go_at_call 25; exact calls_bw _ (CC.out _)))))
              refine wpQuiet_nil ?_
              intro _ hw'
              obtain ⟨⟨w6, hg6⟩, rfl⟩ := hw'
              have HG6 := Lib.hid hg6
              clear hg6
              go_wp2
              go_ret
              exact ⟨ret_bool HF2.out.symm, HW.out.trans HG6.out⟩
            · have d6 : decide (0 < r) = false := by simpa using hr0
              have HQ2 : Hid (al = leftB true f v.ks (m + 2)) := Lib.hid (by rw [HCM.out, decide_eq_true (by have := HAN.out; omega)]; rfl)
              go_wp2_with fail
              refine wp_region_quiet_bw mixedO (by kernel_rfl) ?_
              repeat (go_big_quiet_step ((first | (go_at_call 45; exact calls_bw _ (CM.out _)) | (go_at_call 25; exact calls_bw _ (CC.out _)))))
              refine wpQuiet_nil ?_
              intro _ hw'
              obtain ⟨⟨w6, hg6⟩, rfl⟩ := hw'
              have HG6 := Lib.hid hg6
              clear hg6
              clear dw dw1
              go_wp2
              go_roundw
              case rel => exact ⟨m + 2, by omega, by go_num, Lib.hid ⟨HG.out.trans HG6.out, HQ2.out⟩⟩
              case measure => simp [intOf]; omega
    · obtain rfl : k = n := by omega
      have HF2 : Hid (al = true) := Lib.hid (by rw [hq, leftB_end _ _ LN.out])
      clear hq hgw HR hg
      go_wp2
      go_ret
      exact ⟨ret_bool HF2.out.symm, HW.out⟩
theorem r6of_any (d : Nat) : ∀ t, rightP d t = true → OfSays t (oneP d t) := by
  induction d with
  | zero => intro t h; simp [rightP] at h
  | succ d ih =>
    intro t hr
    by_cases k1 : t.kind = 1
    · exact (r6of_k1 t k1).of_eq fun v => by simp only [oneP]; rw [if_pos k1]; rfl
    by_cases k2 : t.kind = 2
    · exact (r6of_k2 t k2).of_eq fun v => by simp only [oneP]; rw [if_neg k1, if_pos k2]
    by_cases k3 : t.kind = 3
    · exact (r6of_k3 t (oneP d) k3 (fun p hp => ih p (List.all_eq_true.1 (parts_right hr k3).1 p hp))).of_eq fun v => by simp only [oneP]; rw [if_neg k1, if_neg k2, if_pos k3]; rfl
    by_cases k4 : t.kind = 4
    · exact (r6of_k45 t t.p0 (oneP d t.p0) false (by rw [k4]; rfl) (p0_right hr (.inl k4)).2 (ih _ (p0_right hr (.inl k4)).1)).of_eq fun v => by
        simp only [oneP]; rw [if_neg k1, if_neg k2, if_neg k3, if_pos k4, leftB_zero]; simp
    by_cases k5 : t.kind = 5
    · exact (r6of_k45 t t.p0 (oneP d t.p0) true (by rw [k5]; rfl) (p0_right hr (.inr k5)).2 (ih _ (p0_right hr (.inr k5)).1)).of_eq fun v => by
        simp only [oneP]; rw [if_neg k1, if_neg k2, if_neg k3, if_neg k4, if_pos k5, leftB_zero]; simp [Bool.and_assoc]
    by_cases k6 : t.kind = 6
    · exact (r6of_k6 t k6).of_eq fun v => by simp only [oneP]; rw [if_neg k1, if_neg k2, if_neg k3, if_neg k4, if_neg k5, if_pos k6]; rfl
    have k7 : t.kind = 7 := by
      simp only [rightP, Bool.and_eq_true] at hr
      have hr := hr.2
      by_cases k7 : t.kind = 7
      · exact k7
      · rw [if_neg k1, if_neg (by omega), if_neg k7, if_neg k3, if_neg (by omega)] at hr; cases hr
    exact (r6of_k7 t k7).of_eq fun v => by simp only [oneP]; rw [if_neg k1, if_neg k2, if_neg k3, if_neg k4, if_neg k5, if_neg k6]; rfl
set_option maxRecDepth 100000 in
set_option maxHeartbeats 2000000 in
theorem r6Valid_any (t : T) (v : V) (rv pv s : Value) (w : World) (hT : TB w w.heap.size rv pv t) (h : KB w w.heap.size s v.ks) (b : Bool) (hb : validP t v = b) :
    Calls Tryz.prog 21 #[.agg #[.int .i64 t.kind, .int .i64 t.size, rv, pv], .agg #[.int .i64 v.n, s]] w (BoolPost w b) := by
  subst hb
  obtain ⟨A, n, c, rfl, ln, bn, mn⟩ := h.form
  obtain ⟨A1, rn, c1, rfl, _, _⟩ := hT.1.form'
  obtain ⟨A2, pn, c2, rfl, _, _, _⟩ := hT.2.form
  have CK : Hid (∀ W, Bw w W → Calls Tryz.prog 19 #[.agg #[.int .i64 t.kind, .int .i64 t.size, .slice A1 rn c1, .slice A2 pn c2]] W (NumPost W (if rightP 8 t then 0 else 6))) := Lib.hid (fun W g => r6check_any t _ _ W (TAt.bw hT g) _ rfl)
  have SZ : Hid (∀ W, Bw w W → Calls Tryz.prog 44 #[.agg #[.int .i64 v.n, .slice A n c], .int .i64 128] W (NumPost W (cntI v 128))) := Lib.hid (fun W g => r6sz_any v _ W 128 (by omega) (by omega) (h.bw g))
  have ON : Hid (rightP 8 t = true → ∀ W, Bw w W → Calls Tryz.prog 45 #[.agg #[.int .i64 t.kind, .int .i64 t.size, .slice A1 rn c1, .slice A2 pn c2], .agg #[.int .i64 v.n, .slice A n c]] W (BoolPost W (oneP 8 t v))) := Lib.hid (fun hr W g => r6of_any 8 t hr v _ _ _ W (TAt.bw hT g) (h.bw g))
  have TX := Lib.hid (tvb (w := w) (kd := t.kind) (z := t.size) (x := v.n) (r := .slice A1 rn c1) (p := .slice A2 pn c2) (s := .slice A n c))
  unfold validP
  clear h hT ln
  generalize hq : oneP 8 t v = q at *
  clear hq
  have hsz : decide (v.size ≤ 128) = decide (cntI v 128 ≤ 128) := by rw [Bool.eq_iff_iff]; unfold cntI; simp; omega
  rw [hsz]
  have hm1 : cntI v 128 ≤ 129 := by unfold cntI; omega
  generalize cntI v 128 = m at *
  clear hsz
  generalize v.n = x at *
  generalize t.kind = kd at *
  generalize t.size = z at *
  rcases hr : rightP 8 t with _ | _
  · rw [hr] at CK
    simp only [Bool.false_eq_true, if_false] at CK
    clear hr ON SZ
    go_enter Tryz.func21, Tryz.ntmps21
    go_wp2_with (go_at_call 19; go_must (refine (CK.out _ TX.out.1).mono ?_; rintro e w6 ⟨rfl, hg6⟩; (have HG6 := Lib.hid hg6); clear hg6))
    go_ret
    exact ⟨rfl, TX.out.1.trans HG6.out⟩
  · rw [hr] at CK ON
    simp only [if_true] at CK
    have ON2 := Lib.hid (ON.out rfl)
    clear hr ON
    by_cases h2 : m ≤ 128
    · have d2 : decide (m ≤ 128) = true := by simpa using h2
      have HF : Hid ((true && decide (m ≤ 128) && q) = q) := Lib.hid (by rw [d2]; rfl)
      go_enter Tryz.func21, Tryz.ntmps21
      go_wp2_with (first | (go_at_call 19; go_must (refine (CK.out _ TX.out.1).mono ?_; rintro e w6 ⟨rfl, hg6⟩; (have HG6 := Lib.hid hg6); (obtain ⟨y0, -, y1, y2, y3, y4, y5, y6⟩ := TX.out.2 _ hg6); clear hg6)) | (go_at_call 44; go_must (refine (SZ.out _ (TX.out.1.trans HG6.out)).mono ?_; rintro e w7 ⟨rfl, hg7⟩; (have HG7 := Lib.hid (HG6.out.trans hg7)); (obtain ⟨u0, -, u1, u2, u3, u4, u5, u6⟩ := TX.out.2 _ HG7.out); clear hg7)) | (go_at_call 45; go_must (refine (ON2.out _ (TX.out.1.trans HG7.out)).mono ?_; rintro e w8 ⟨rfl, hg8⟩; (have HG8 := Lib.hid hg8); clear hg8)))
      go_ret
      exact ⟨ret_bool (by first | rfl | exact HF.out.symm), TX.out.1.trans (HG7.out.trans HG8.out)⟩
    · have d2 : decide (m ≤ 128) = false := by simpa using h2
      have HF : Hid ((true && decide (m ≤ 128) && q) = false) := Lib.hid (by rw [d2]; rfl)
      go_enter Tryz.func21, Tryz.ntmps21
      go_wp2_with (first | (go_at_call 19; go_must (refine (CK.out _ TX.out.1).mono ?_; rintro e w6 ⟨rfl, hg6⟩; (have HG6 := Lib.hid hg6); (obtain ⟨y0, -, y1, y2, y3, y4, y5, y6⟩ := TX.out.2 _ hg6); clear hg6)) | (go_at_call 44; go_must (refine (SZ.out _ (TX.out.1.trans HG6.out)).mono ?_; rintro e w7 ⟨rfl, hg7⟩; (have HG7 := Lib.hid (HG6.out.trans hg7)); clear hg7)))
      go_ret
      exact ⟨ret_bool (by first | rfl | exact HF.out.symm), TX.out.1.trans HG7.out⟩
end Go.Proofs.YtlmnkcfnihhlgaaGreatDoor
