/- Part of a proof of orderExact_card. -/
import Derived.Test.YtlmnkcfnihhlgaaGreatDoorXIntBQ
import Derived.Deep.CutRange
set_option maxRecDepth 100000
set_option maxHeartbeats 16000000
namespace Go.Proofs.YtlmnkcfnihhlgaaGreatDoor
open Go.RowKit
set_option linter.unusedSimpArgs false
set_option linter.unusedVariables false
theorem rf_skip {r b : List Int} {x : Int} {a : List Int} {p : Nat} (hp : p < b.length) {q : Bool} (h : q = pleB (rankAt r) (x :: a) (b.drop p)) (hn : b[p] ≠ x) (hr : rankAt r b[p] ≤ rankAt r x) : q = pleB (rankAt r) (x :: a) (b.drop (p + 1)) := by
 rw [h, pleB_step hp, beq_eq_false_iff_ne.2 (Ne.symm hn), Bool.false_and, Bool.false_or, decide_eq_true hr, Bool.true_and]
theorem rf_stop {r b : List Int} {x : Int} {a : List Int} {p : Nat} (hp : p < b.length) {q : Bool} (h : q = pleB (rankAt r) (x :: a) (b.drop p)) (hn : b[p] ≠ x) (hr : ¬ rankAt r b[p] ≤ rankAt r x) : q = false := by
 rw [h, pleB_step hp, beq_eq_false_iff_ne.2 (Ne.symm hn), Bool.false_and, Bool.false_or, decide_eq_false hr, Bool.false_and]
theorem rf_rec {r b : List Int} {x : Int} {a : List Int} {p : Nat} (hp : p < b.length) {q : Bool} (h : q = pleB (rankAt r) (x :: a) (b.drop p)) (he : b[p] = x) (hn : pleB (rankAt r) a (b.drop (p + 1)) = false) : q = pleB (rankAt r) (x :: a) (b.drop (p + 1)) := by
 rw [h, pleB_step hp, hn, Bool.and_false, Bool.false_or, he, decide_eq_true (Int.le_refl _), Bool.true_and]
theorem rf_hit {r b : List Int} {x : Int} {a : List Int} {p : Nat} (hp : p < b.length) {q : Bool} (h : q = pleB (rankAt r) (x :: a) (b.drop p)) (he : b[p] = x) (hn : pleB (rankAt r) a (b.drop (p + 1)) = true) : q = true := by
 rw [h, pleB_step hp, hn, he]; simp
theorem r5find_step (r b : List Int) (x : Int) (a : List Int) (hb9 : b.length ≤ 1000) (ha9 : a.length ≤ 1000) (hlb : LettersOk r b) (hlx : 0 ≤ x ∧ x < r.length)
   (ih : ∀ (f : Nat) (sr sa sb : Value) (W : World), f ≤ b.length → IB W W.heap.size sr r → IB W W.heap.size sa a → IB W W.heap.size sb b → Calls Tryz.prog 141 #[sr, sa, sb, .int .i64 (f : Int)] W (EmbPost W (pleB (rankAt r) a (b.drop f)) a.length))
   (f : Nat) (sr sa sb : Value) (w : World) (hf : f ≤ b.length) (hr : IB w w.heap.size sr r) (ha : IB w w.heap.size sa (x :: a)) (hb : IB w w.heap.size sb b) :
   Calls Tryz.prog 141 #[sr, sa, sb, .int .i64 (f : Int)] w (EmbPost w (pleB (rankAt r) (x :: a) (b.drop f)) (x :: a).length) := by
 obtain ⟨RA, rn, rc, rfl, lr, mr⟩ := hr.form'
 obtain ⟨BA, bn, bc, rfl, lb, mb⟩ := hb.form'
 obtain ⟨AA, an, ac, e, la, a1, a2⟩ := ha.form
 subst e
 unfold maxLen at a2
 obtain ⟨ada, rfl, hba, qa⟩ := ha.at_ (k := 0) (by simp)
 have e0 : ada.add 0 = ada := by unfold Addr.add; simp
 rw [e0] at qa
 simp only [List.getElem_cons_zero] at qa
 have an1 : 1 ≤ an := by rw [← la]; simp
 obtain ⟨k1, hk1, rfl, ek1⟩ := rankAt_get hlx
 obtain ⟨adr, rfl, hbr, qr⟩ := hr.at_ hk1
 have hk1n : k1 < rn := by omega
 have hcut : ∀ W, (Instr.slice 22 (.slice (some ada) an ac) (some (.int .i64 1)) none none).run Tryz.prog W = .ok (sliced (some ada) 1 an ac 1) W := fun W => cutI_l (some ada) an ac 1 an1 W
 have hpt := IAt.part ha an1 (Nat.le_refl an)
 obtain ⟨A1, hA1⟩ := sliced_form (some ada) 1 an ac 1
 rw [hA1] at hpt
 simp only [hA1] at hcut
 rw [List.take_of_length_le (by omega)] at hpt
 change IAt w _ _ a at hpt
 have HIH := Lib.hid ih
 have HR := Lib.hid hr
 have HB := Lib.hid hb
 have HA := Lib.hid hpt
 have LB := Lib.hid lb
 have LR := Lib.hid lr
 have HLB := Lib.hid hlb
 have hal : ((k1 : Int) :: a).length = a.length + 1 := rfl
 obtain ⟨al, hal2⟩ : ∃ al, a.length = al := ⟨_, rfl⟩
 rw [hal, hal2]
 rw [hal2] at ha9
 rw [lb] at hb9 hf
 have HAL := Lib.hid hal2
 have an0 : ¬ an = 0 := by omega
 have an2 : 0 < an := by omega
 have anb : ((an : Int) == 0) = false := by simp; omega
 generalize hr1 : r[k1] = r1 at *
 have HR1 : Hid (rankAt r k1 = r1) := Lib.hid ek1
 clear ih hr hb hpt lb hlb ha la hal hal2 e0 hA1 lr ek1 hlx hr1 hk1
 generalize hq : pleB (rankAt r) ((k1 : Int) :: a) (b.drop f) = q at *
 have HQ := Lib.hid hq
 clear hq
 obtain ⟨i0, hi, hz0, hz1, hz2⟩ := info_parts infoInt
 go_enter Tryz.func141, Tryz.ntmps141
 go_wp2
 go_loopw [10] (fun i wr => ∃ p : Nat, p ≤ bn ∧ i = .int .i64 p ∧ Hid (Bw w wr ∧ q = pleB (rankAt r) ((k1 : Int) :: a) (b.drop p))) (fun i _ => bn - (intOf i).toNat)
 case atStart => exact ⟨f, by omega, rfl, Lib.hid ⟨Bw.refl _, HQ.out.symm⟩⟩
 case round =>
   obtain ⟨p, hp, rfl, HRL⟩ := hrel
   obtain ⟨hw, hqq⟩ := HRL.out
   have HW := Lib.hid hw
   have HQQ := Lib.hid hqq
   by_cases hlt : p < bn
   · have e1 : p < b.length := by rw [LB.out]; exact hlt
     obtain ⟨adb, rfl, hbb, qb⟩ := (HB.out.bw hw).at_ e1
     obtain ⟨k2, hk2, ek2, er2⟩ := rankAt_get (HLB.out _ (List.getElem_mem e1))
     obtain ⟨adr', e', _, q2⟩ := HR.out.at_ hk2
     obtain rfl : adr = adr' := Option.some.inj e'
     have hk2n : k2 < rn := by have := LR.out; omega
     have hr2 : rankAt r b[p] = r[k2] := er2
     rw [ek2] at qb
     generalize r[k2] = r2 at *
     have KS : Hid (∀ w', Bw wr w' → w'.cell? (adb.add p) = some (.int .i64 (k2 : Int)) ∧ w'.cell? ada = some (.int .i64 (k1 : Int)) ∧ w'.cell? (adr.add k1) = some (.int .i64 r1) ∧ w'.cell? (adr.add k2) = some (.int .i64 r2)) := Lib.hid (fun w' g => ⟨(g.b.cell (by rw [add_block]; exact hbb)).trans qb, ((HW.out.trans g).b.cell hba).trans qa, ((HW.out.trans g).b.cell (by rw [add_block]; exact hbr)).trans qr, ((HW.out.trans g).b.cell (by rw [add_block]; exact hbr)).trans q2⟩)
     by_cases hx : k2 = k1
     · subst hx
       have hxe : b[p] = (k2 : Int) := ek2
       have RC : Hid (∀ W, Bw wr W → Calls Tryz.prog 141 #[.slice (some adr) rn rc, .slice A1 (an - 1) (ac - 1), .slice (some adb) bn bc, .int .i64 ((p : Int) + 1)] W (EmbPost W (pleB (rankAt r) a (b.drop (p + 1))) al)) := Lib.hid (fun W g => by
         rw [← HAL.out]
         exact HIH.out (p + 1) _ _ _ W (by have := LB.out; omega) ((HR.out.bw HW.out).bw g) ((HA.out.bw HW.out).bw g) ((HB.out.bw HW.out).bw g))
       unfold EmbPost at RC
       have d1 : ((k2 : Int) == k2) = true := by simp
       have KS0 := Lib.hid (KS.out _ (Bw.refl wr))
       obtain ⟨s1, s2, s3, s4⟩ := KS0.out
       obtain rfl : r1 = r2 := by have := s3.symm.trans s4; injection this with this; injection this
       have r11 : ¬ r1 < r1 := by omega
       rcases hrec : pleB (rankAt r) a (b.drop (p + 1)) with _ | _
       · have HN : Hid (q = pleB (rankAt r) ((k2 : Int) :: a) (b.drop (p + 1))) := Lib.hid (rf_rec e1 hqq hxe hrec)
         rw [hrec] at RC
         clear hrec hqq hw HRL KS0 s3 s4 qb q2 qa qr ek2 er2 hr2 hxe
         go_wp2_with fail
         go_quiet (fail)
         go_wp2_with (go_at_call 141; go_must ((with_reducible refine (RC.out _ ?_).mono ?_); first | exact (Bw.refl _).drew | exact (Bw.refl _).drewN _ ; rintro e w7 ⟨rv, pl, rfl, hrv, hpl, hg7⟩; (have HG7 : Hid (Bw wr w7) := Lib.hid (Bw.trans (by first | exact (Bw.refl _).drew | exact (Bw.refl _).drewN _) hg7)); (have KS7 := Lib.hid (KS.out _ HG7.out)); obtain ⟨s1, s2, s3, s4⟩ := KS7.out; clear hg7 hrv hpl KS7))
         go_quiet (fail)
         go_wp2
         go_roundw
         case rel => exact ⟨p + 1, by omega, by go_num, Lib.hid ⟨HW.out.trans (HG7.out.trans ((Bw.refl _).drewN _)), HN.out⟩⟩
         case measure => simp [intOf]; omega
       · have HN : Hid (q = true) := Lib.hid (rf_hit e1 hqq hxe hrec)
         rw [hrec] at RC
         clear hrec hqq hw HRL KS0 s3 s4 qb q2 qa qr ek2 er2 hr2 hxe
         go_wp2_with fail
         go_quiet (fail)
         go_wp2_with (first
           | (go_at_call 141; go_must ((with_reducible refine (RC.out _ ?_).mono ?_); first | exact (Bw.refl _).drew | exact (Bw.refl _).drewN _ ; rintro e w7 ⟨rv, pl, rfl, hrv, hpl, hg7⟩; obtain ⟨V7, n7, c7, rfl, l7, m7⟩ := hrv.form'; (have HG7 : Hid (Bw wr w7) := Lib.hid (Bw.trans (by first | exact (Bw.refl _).drew | exact (Bw.refl _).drewN _) hg7)); (have HRV := Lib.hid hrv); (have HL7 := Lib.hid l7); (have n7b : n7 ≤ al := by omega); clear hg7 hrv l7 hpl))
           | (at_builtin; go_must (refine wpList_append_any _ rfl _ _ 22 rfl w7.heap.size 3 i0 _ 1 8 Tryz.underlying22 hi hz0 hz1 hz2 rfl (by decide) (.slice (some ⟨w7.heap.size, 0, none⟩) 1 1) 1 (intVs [(p : Int)]) rfl (own_new w7 _ _ _ rfl (by simp [intVs])) (w7.heap.size + 1) V7 n7 c7 (intVs pl) rfl (IAt.reads ((HRV.out.bw ((Bw.refl _).alloc (.cells #[.int .i64 (p : Int)] 3))).more (by simp))) (intVs_one _) (by unfold maxLen; omega) (by omega) (by simp) ?_; intro v8 w8 hown8 hgr8 hl8; obtain ⟨A8, c8, rfl⟩ := own_form hown8; (have HO8 := Lib.hid hown8); (have HG8 := Lib.hid hgr8); clear hown8 hgr8 hl8)))
         go_ret2
         refine ⟨_, (p : Int) :: pl, ?_, (own_IB (cs := (p : Int) :: pl) (by have := HO8.out; rwa [intVs_append] at this) (by have := HL7.out; simp; omega)).keep (fun b hb => hb.2) (fun _ _ => rfl), by have := HL7.out; simp; omega, ?_⟩
         · rw [HN.out]; rfl
         · exact Below.trans (HW.out.trans (HG7.out.alloc _)) ((below_own (B := w.heap.size) (Below.refl _ _) (own_base (own_new w7 3 #[.int .i64 (p : Int)] 1 (n := 1) (xs := intVs [(p : Int)]) rfl rfl) (by have := HW.out.size; have := HG7.out.size; omega)) HG8.out (by simp; have := HW.out.size; have := HG7.out.size; omega)))
     · have hxn : b[p] ≠ (k1 : Int) := by rw [ek2]; omega
       have d1 : ((k2 : Int) == k1) = false := by simp; omega
       obtain ⟨s1, s2, s3, s4⟩ := KS.out _ (Bw.refl wr)
       obtain ⟨z1, z2, z3, z4⟩ := KS.out _ (Bw.refl wr).drew
       by_cases hgt : r1 < r2
       · have HN : Hid (q = false) := Lib.hid (rf_stop e1 hqq hxn (by rw [hr2, HR1.out]; omega))
         clear hqq hw HRL qb q2 qa qr ek2 er2 hr2 hxn
         go_wp2_with fail
         go_quiet (fail)
         go_wp2_with fail
         go_quiet (fail)
         go_wp2
         go_ret2
         exact ⟨.slice none 0 0, [], by rw [HN.out]; rfl, IAt.nil 0 none (by unfold maxLen; omega), by simp, HW.out.trans (by first | exact (Bw.refl _).drewN _ | exact ((Bw.refl _).drewN _).drewN _)⟩
       · have HN : Hid (q = pleB (rankAt r) ((k1 : Int) :: a) (b.drop (p + 1))) := Lib.hid (rf_skip e1 hqq hxn (by rw [hr2, HR1.out]; omega))
         clear hqq hw HRL qb q2 qa qr ek2 er2 hr2 hxn
         go_wp2_with fail
         go_quiet (fail)
         go_wp2_with fail
         go_quiet (fail)
         go_wp2
         go_roundw
         case rel => exact ⟨p + 1, by omega, by go_num, Lib.hid ⟨HW.out.trans (by first | exact (Bw.refl _).drewN _ | exact ((Bw.refl _).drewN _).drewN _), HN.out⟩⟩
         case measure => simp [intOf]; omega
   · obtain rfl : p = bn := by omega
     have HN : Hid (q = false) := Lib.hid (by rw [hqq, List.drop_eq_nil_of_le (by rw [LB.out]; omega)]; simp [pleB])
     clear hqq hw HRL
     go_wp2
     go_ret2
     exact ⟨.slice none 0 0, [], by rw [HN.out]; rfl, IAt.nil 0 none (by unfold maxLen; omega), by simp, HW.out⟩
theorem r5find_any (r b : List Int) (hb9 : b.length ≤ 1000) (hlb : LettersOk r b) : ∀ (a : List Int), a.length ≤ 1000 → LettersOk r a → ∀ (f : Nat) (sr sa sb : Value) (w : World), f ≤ b.length → IB w w.heap.size sr r → IB w w.heap.size sa a → IB w w.heap.size sb b →
   Calls Tryz.prog 141 #[sr, sa, sb, .int .i64 (f : Int)] w (EmbPost w (pleB (rankAt r) a (b.drop f)) a.length)
 | x :: a, h, hla, f, sr, sa, sb, w, hf, hr, ha, hb => r5find_step r b x a hb9 (by simp at h; omega) hlb (hla x (by simp)) (fun f sr sa sb W h1 h2 h3 h4 => r5find_any r b hb9 hlb a (by simp at h; omega) (fun y hy => hla y (by simp [hy])) f sr sa sb W h1 h2 h3 h4) f sr sa sb w hf hr ha hb
 | [], _, _, f, sr, sa, sb, w, hf, hr, ha, hb => by
   obtain ⟨RA, rn, rc, rfl, _, _⟩ := hr.form'
   obtain ⟨BA, bn, bc, rfl, lb, mb⟩ := hb.form'
   obtain ⟨AA, an, ac, rfl, la, ma⟩ := ha.form'
   obtain rfl : an = 0 := by simpa using la.symm
   rw [lb] at hf
   have HF : Hid (pleB (rankAt r) [] (b.drop f) = decide (f = bn)) := Lib.hid (by
     rw [Bool.eq_iff_iff]; simp [pleB]; omega)
   clear hr hb ha la
   by_cases hfb : f = bn
   · subst hfb
     go_enter Tryz.func141, Tryz.ntmps141
     go_wp2
     go_ret2
     exact ⟨.slice none 0 0, [], by rw [HF.out]; simp, IAt.nil 0 none (by unfold maxLen; omega), by simp, Bw.refl _⟩
   · have d1 : ((f : Int) == (bn : Int)) = false := by simp; omega
     go_enter Tryz.func141, Tryz.ntmps141
     go_wp2
     go_ret2
     exact ⟨.slice none 0 0, [], by rw [HF.out]; simp [hfb], IAt.nil 0 none (by unfold maxLen; omega), by simp, Bw.refl _⟩
theorem r5Valid_any (r x : List Int) (hx9 : wordP r x = true) (s u : Value) (w : World) (h : IB w w.heap.size s r) (hx : IB w w.heap.size u x) : Calls Tryz.prog 120 #[s, u] w (BoolPost w true) := by
 obtain ⟨A, n, c, rfl, ln, hm⟩ := h.form'
 obtain ⟨A2, n2, c2, rfl, ln2, hm2⟩ := hx.form'
 have hl := wordP_letters hx9
 have hrk : rankedP r = true := by unfold wordP at hx9; simp only [Bool.and_eq_true] at hx9; exact hx9.1.1
 have RK : Hid (∀ W, Bw w W → Calls Tryz.prog 69 #[.slice A n c] W (BoolPost W true)) := Lib.hid (fun W g => by rw [← hrk]; exact r5Ranks_any r _ _ (h.bw g))
 have HX := Lib.hid hx
 have HL := Lib.hid hl.1
 have n29 : n2 ≤ 12 := by have := hl.2; omega
 have LN := Lib.hid ln
 have LN2 := Lib.hid ln2
 clear h hx hx9 hl hrk ln ln2
 go_enter Tryz.func120, Tryz.ntmps120
 go_wp2
 go_loopw [5] (fun i wr => ∃ k : Nat, k ≤ n2 ∧ i = .int .i64 k ∧ Hid (Bw w wr)) (fun i _ => n2 - (intOf i).toNat)
 case atStart => exact ⟨0, by omega, by go_num, Lib.hid (Bw.refl _)⟩
 case round =>
   obtain ⟨k, hk, rfl, HW⟩ := hrel
   by_cases hlt : k < n2
   · have e1 : k < x.length := by rw [LN2.out]; exact hlt
     obtain ⟨ad, rfl, hb, q0⟩ := (HX.out.bw HW.out).at_ e1
     obtain ⟨x0, x1⟩ := HL.out _ (List.getElem_mem e1)
     rw [LN.out] at x1
     generalize x[k] = y at *
     have y0 : ¬ y < 0 := by omega
     have y1 : ¬ (n : Int) ≤ y := by omega
     go_wp2_with fail
     first
       | (go_quiet (fail); go_wp2)
       | skip
     go_roundw
     case rel => exact ⟨k + 1, by omega, by go_num, Lib.hid (HW.out.trans (by first | exact Bw.refl _ | exact (Bw.refl _).drewN _))⟩
     case measure => simp [intOf]; omega
   · obtain rfl : k = n2 := by omega
     have RK2 := Lib.hid (RK.out wr HW.out)
     have d12 : decide ((k : Int) ≤ 12) = true := by simp; omega
     go_wp2_with (go_at_call 69; go_must (refine RK2.out.mono ?_; rintro e w7 ⟨rfl, hg7⟩; (have HG7 := Lib.hid hg7); clear hg7))
     go_ret
     exact ⟨rfl, HW.out.trans HG7.out⟩
theorem r5leq_any (r a b : List Int) (ha9 : wordP r a = true) (hb9 : wordP r b = true) (q : Bool) (hq : pleB (rankAt r) a b = q) (sr sa sb : Value) (w : World) (hr : IB w w.heap.size sr r) (ha : IB w w.heap.size sa a) (hb : IB w w.heap.size sb b) :
   Calls Tryz.prog 85 #[sr, sa, sb] w (BoolPost w q) := by
 obtain ⟨RA, rn, rc, rfl, _, _⟩ := hr.form'
 obtain ⟨BA, bn, bc, rfl, lb, mb⟩ := hb.form'
 obtain ⟨AA, an, ac, rfl, la, ma⟩ := ha.form'
 have V1 : Hid (∀ W, Bw w W → Calls Tryz.prog 120 #[.slice RA rn rc, .slice AA an ac] W (BoolPost W true)) := Lib.hid (fun W g => r5Valid_any r a ha9 _ _ W (hr.bw g) (ha.bw g))
 have V2 : Hid (∀ W, Bw w W → Calls Tryz.prog 120 #[.slice RA rn rc, .slice BA bn bc] W (BoolPost W true)) := Lib.hid (fun W g => r5Valid_any r b hb9 _ _ W (hr.bw g) (hb.bw g))
 have SE : Hid (∀ W, Bw w W → Calls Tryz.prog 141 #[.slice RA rn rc, .slice AA an ac, .slice BA bn bc, .int .i64 0] W (EmbPost W q a.length)) := Lib.hid (fun W g => by
   have := r5find_any r b (by have := (wordP_letters hb9).2; omega) (wordP_letters hb9).1 a (by have := (wordP_letters ha9).2; omega) (wordP_letters ha9).1 0 _ _ _ W (by omega) (hr.bw g) (ha.bw g) (hb.bw g)
   rw [List.drop_zero, hq] at this
   exact this)
 have EM : Hid (∀ W, Bw w W → Calls Tryz.prog 112 #[.slice RA rn rc, .slice AA an ac, .slice BA bn bc] W (EmbPost W q a.length)) := Lib.hid (fun W g => by
   clear hr ha hb ha9 hb9 hq la lb ma mb
   have HG := Lib.hid g
   clear g
   unfold EmbPost at SE
   go_enter Tryz.func112, Tryz.ntmps112
   go_wp2_with (first
     | (go_at_call 120; (with_reducible refine (V1.out _ HG.out).mono ?_); rintro e w6 ⟨rfl, hg6⟩; (have HG6 := Lib.hid hg6); clear hg6)
     | (go_at_call 120; go_must ((with_reducible refine (V2.out _ (HG.out.trans HG6.out)).mono ?_); rintro e w7 ⟨rfl, hg7⟩; (have HG7 := Lib.hid hg7); clear hg7))
     | (go_at_call 141; go_must (refine (SE.out _ (HG.out.trans (HG6.out.trans HG7.out))).mono ?_; rintro e w8 ⟨rv, pl, rfl, hrv, hpl, hg8⟩; obtain ⟨V8, n8, c8, rfl, l8, m8⟩ := hrv.form'; (have HRV := Lib.hid hrv); (have HPL := Lib.hid hpl); (have HG8 := Lib.hid hg8); clear hg8 hrv hpl l8)))
   go_ret2
   exact ⟨_, pl, rfl, HRV.out, HPL.out, HG6.out.trans (HG7.out.trans HG8.out)⟩)
 clear hr ha hb ha9 hb9 hq la lb V1 V2 SE
 have EM2 := Lib.hid (EM.out w (Bw.refl _))
 unfold EmbPost at EM2
 go_enter Tryz.func85, Tryz.ntmps85
 go_wp2_with (go_at_call 112; go_must (refine EM2.out.mono ?_; rintro e w8 ⟨rv, pl, rfl, hrv, hpl, hg8⟩; obtain ⟨V8, n8, c8, rfl, l8, m8⟩ := hrv.form'; (have HG8 := Lib.hid hg8); clear hg8 hrv hpl l8))
 go_ret
 exact ⟨rfl, HG8.out⟩
def SomeInt (w : World) (e : Ending) (w' : World) : Prop := ∃ c : Int, e = .returned (.int .i64 c) ∧ Bw w w'
def SomeBool (w : World) (e : Ending) (w' : World) : Prop := ∃ c : Bool, e = .returned (.bool c) ∧ Bw w w'
theorem r1cmp_any (a b : List Int) (s u : Value) (w : World) (ha : IB w w.heap.size s a) (hb : IB w w.heap.size u b) : Calls Tryz.prog 146 #[s, u] w (SomeInt w) := by
 obtain ⟨A, n, c, rfl, ln, mn⟩ := ha.form'
 obtain ⟨A2, n2, c2, rfl, ln2, mn2⟩ := hb.form'
 have HA := Lib.hid ha
 have HB := Lib.hid hb
 have LN := Lib.hid ln
 have LN2 := Lib.hid ln2
 have RO := Lib.hid (fun x y W => r1Order_any x y W)
 clear ha hb ln ln2
 unfold SomeInt
 by_cases hne : n = n2
 rotate_left
 · have d1 : ((n : Int) == (n2 : Int)) = false := by rw [beq_eq_false_iff_ne]; omega
   have d2 : ((n : Int) != (n2 : Int)) = true := by rw [bne, d1]; rfl
   go_enter Tryz.func146, Tryz.ntmps146
   go_wp2_with (go_at_call 51; go_must (refine (RO.out _ _ _).mono ?_; rintro e w2 ⟨rfl, rfl⟩))
   go_ret
   exact ⟨_, rfl, Bw.refl _⟩
 subst hne
 go_enter Tryz.func146, Tryz.ntmps146
 go_wp2_with fail
 go_loopw [5] (fun i wr => ∃ k : Nat, k ≤ n ∧ i = .int .i64 k ∧ Hid (Bw w wr)) (fun i _ => n - (intOf i).toNat)
 case atStart => exact ⟨0, by omega, rfl, Lib.hid (Bw.refl _)⟩
 case round =>
   obtain ⟨k, hk, rfl, HR⟩ := hrel
   by_cases hlt : k < n
   · obtain ⟨ad, rfl, hb1, q1⟩ := (HA.out.bw HR.out).at_ (k := k) (by rw [LN.out]; exact hlt)
     obtain ⟨ad2, rfl, hb2, q2⟩ := (HB.out.bw HR.out).at_ (k := k) (by rw [LN2.out]; exact hlt)
     generalize a[k]'(by rw [LN.out]; exact hlt) = x at *
     generalize b[k]'(by rw [LN2.out]; exact hlt) = y at *
     by_cases hxy : x = y
     · have d1 : (x == y) = true := by simp [hxy]
       have d2 : (x != y) = false := by rw [bne, d1]; rfl
       clear hxy hb1 hb2
       go_wp2_with fail
       go_quiet (fail)
       go_wp2
       go_roundw
       case rel => exact ⟨k + 1, by omega, by go_num, Lib.hid (HR.out.drewN _)⟩
       case measure => simp [intOf]; omega
     · have d1 : (x == y) = false := by simp [hxy]
       have d2 : (x != y) = true := by rw [bne, d1]; rfl
       clear hxy hb1 hb2
       go_wp2_with fail
       go_quiet (fail)
       go_wp2_with fail
       go_region_with (go_at_call 51; refine (RO.out _ _ _).mono ?_; rintro e w2 ⟨rfl, rfl⟩)
       all_goals
         go_wp2
         go_ret
         exact ⟨_, rfl, (HR.out.drewN _).drew⟩
   · obtain rfl : k = n := by omega
     go_wp2
     go_ret
     exact ⟨_, rfl, HR.out⟩
theorem r1same_any (a b : List Int) (s u : Value) (w : World) (ha : IB w w.heap.size s a) (hb : IB w w.heap.size u b) : Calls Tryz.prog 147 #[s, u] w (SomeBool w) := by
 have CM := Lib.hid (r1cmp_any a b s u w ha hb)
 obtain ⟨A, n, c, rfl, ln, mn⟩ := ha.form'
 obtain ⟨A2, n2, c2, rfl, ln2, mn2⟩ := hb.form'
 unfold SomeInt at CM
 unfold SomeBool
 clear ha hb
 go_enter Tryz.func147, Tryz.ntmps147
 go_wp2_with (go_at_call 146; go_must (refine CM.out.mono ?_; rintro e w2 ⟨c, rfl, hg⟩))
 go_ret
 exact ⟨_, rfl, hg⟩
theorem r1copy_any (a : List Int) (s : Value) (w : World) (ha : IB w w.heap.size s a) (h9 : a.length ≤ 1000000) : Calls Tryz.prog 148 #[s] w (IntsPost w a) := by
 obtain ⟨A, n, c, rfl, ln, mn⟩ := ha.form'
 obtain ⟨i0, hi, hz0, hz1, hz2⟩ := info_parts infoInt
 have HRD := Lib.hid (IAt.reads ha)
 have LN := Lib.hid ln
 have hn9 : n ≤ 1000000 := by omega
 unfold IntsPost
 clear ha ln h9
 go_enter Tryz.func148, Tryz.ntmps148
 go_wp2_with (at_builtin; go_must (refine wpList_append_any _ rfl _ _ 22 rfl w.heap.size 3 i0 _ 1 8 Tryz.underlying22 hi hz0 hz1 hz2 rfl (by decide) (.slice none 0 0) 0 [] rfl (World.ownsRow_nil _ _ _ _) w.heap.size A n c (intVs a) rfl HRD.out (by intro u hu; obtain ⟨x, -, rfl⟩ := List.mem_map.1 hu; rfl) (by unfold maxLen; omega) (by omega) (by omega) ?_; intro v7 w7 hown7 hgr7 hl7; obtain ⟨A7, c7, rfl, -, -⟩ := own_bounds hown7; (have HO7 := Lib.hid hown7); (have HG7 := Lib.hid hgr7); clear hown7 hgr7 hl7))
 go_ret
 refine ⟨_, rfl, ?_, Below.grown (Bw.refl w) HG7.out (Nat.le_refl _) (fun r e => by cases e)⟩
 have := HO7.out
 simp only [Nat.zero_add, List.nil_append] at this
 exact own_IB this LN.out
theorem reads_part {w : World} {B : Nat} {A : Option Addr} {n c : Nat} {xs : List Value} (h : Reads w B 1 A n xs) {k m : Nat} (hc : n ≤ c) (hk : k ≤ m) (hm : m ≤ n) : ∃ P, sliced A k m c 1 = .slice P (m - k) (c - k) ∧ Reads w B 1 P (m - k) ((xs.take m).drop k) := by
 refine ⟨_, rfl, by have := h.1; simp; omega, fun hn => ?_⟩
 obtain ⟨ad, rfl, hb, hcell⟩ := h.2 (by omega)
 rw [if_neg (by omega)]
 refine ⟨ad.add (k * 1), rfl, by rw [block_of_add]; exact hb, fun j u hu => ?_⟩
 rw [add_of_add, Nat.mul_one]
 refine hcell _ u ?_
 rw [List.getElem?_drop, List.getElem?_take] at hu
 split at hu
 · exact hu
 · cases hu
theorem intVs_take (l : List Int) (k : Nat) : (intVs l).take k = intVs (l.take k) := by unfold intVs; rw [List.map_take]
theorem intVs_drop (l : List Int) (k : Nat) : (intVs l).drop k = intVs (l.drop k) := by unfold intVs; rw [List.map_drop]
theorem r2without_any (x : List Int) (i : Nat) (hi : i < x.length) (h9 : x.length ≤ 1000) (s : Value) (w : World) (h : IB w w.heap.size s x) : Calls Tryz.prog 122 #[s, .int .i64 (i : Int)] w (IntsPost w (x.take i ++ x.drop (i + 1))) := by
 obtain ⟨A, n, c, rfl, ln, bn, mn⟩ := h.form
 have hr := IAt.reads h
 obtain ⟨i0, hi0, hz0, hz1, hz2⟩ := info_parts infoInt
 have hin : i < n := by omega
 have hn9 : n ≤ 1000 := by omega
 have hc1 := fun W => cutI_h A n c i (by omega) W
 have hc2 := fun W => cutI_l A n c (i + 1) (by omega) W
 obtain ⟨P1, e1, k1⟩ := reads_part hr (k := 0) (m := i) bn (Nat.zero_le _) (by omega)
 obtain ⟨P2, e2, k2⟩ := reads_part hr (k := i + 1) (m := n) bn (by omega) (Nat.le_refl _)
 rw [Nat.sub_zero, Nat.sub_zero] at e1
 rw [Nat.sub_zero, List.drop_zero, intVs_take] at k1
 rw [List.take_of_length_le (by rw [hr.1]; omega), intVs_drop] at k2
 rw [e1] at hc1
 rw [e2] at hc2
 push_cast at hc2
 have K1 := Lib.hid k1
 have K2 := Lib.hid k2
 have HL : Hid ((x.take i).length = i ∧ (x.drop (i + 1)).length = n - (i + 1)) := Lib.hid ⟨by simp; omega, by simp; omega⟩
 have w1 : IntKind.i64.wrap ((i : Int) + 1) = (i : Int) + 1 := by simp [IntKind.wrap, IntKind.bits, IntKind.signed]; omega
 have t0 : 0 ≤ (i : Int) + 1 := by omega
 have t1 : (i : Int) + 1 ≤ (n : Int) := by omega
 unfold IntsPost
 clear h hr k1 k2 e1 e2 ln
 generalize x.take i = y1 at *
 generalize x.drop (i + 1) = y2 at *
 generalize hm2 : n - (i + 1) = m2 at *
 generalize c - (i + 1) = q2 at *
 have hms : i + m2 ≤ 1000 := by omega
 clear hm2
 go_enter Tryz.func122, Tryz.ntmps122
 go_wp2_with fail
 go_region_law (first
   | (refine step_append_any _ rfl (.const (.slice none 0 0)) (.tmp 7) 22 rfl w.heap.size 3 i0 _ 1 8 Tryz.underlying22 hi0 hz0 hz1 hz2 rfl (by decide) (.slice none 0 0) 0 [] (by simp [Act.eval]) (World.ownsRow_nil _ _ _ _) w.heap.size P1 i c (intVs y1) (by simp [Act.eval, Act.put]) K1.out.drew (intVs_one _) (by unfold maxLen; omega) (by omega) (Nat.le_refl _) ?_; intro v7 w7 hown7 hgr7 hl7; simp only [Nat.zero_add, List.nil_append] at hown7; obtain ⟨A7, c7, rfl, -, -⟩ := own_bounds hown7; (have HO7 := Lib.hid hown7); (have HG7 : Hid (Bw w w7) := Lib.hid (Below.grown (Bw.refl w).drew hgr7 (Nat.le_refl _) (fun r e => by cases e))); clear hown7 hgr7 hl7)
   | (refine step_append_any _ rfl (.tmp 8) (.tmp 12) 22 rfl w.heap.size 3 i0 _ 1 8 Tryz.underlying22 hi0 hz0 hz1 hz2 rfl (by decide) (.slice A7 i c7) i (intVs y1) (by simp [Act.eval, Act.put]) HO7.out w.heap.size P2 m2 q2 (intVs y2) (by simp [Act.eval, Act.put]) (K2.out.below HG7.out) (intVs_one _) (by unfold maxLen; omega) (by omega) HG7.out.size ?_; intro v8 w8 hown8 hgr8 hl8; obtain ⟨A8, c8, rfl, -, -⟩ := own_bounds hown8; (have HO8 := Lib.hid hown8); (have HG8 : Hid (Bw w w8) := Lib.hid (Below.grown HG7.out hgr8 HG7.out.size (fun r e => (HO7.out.lt r e).1))); clear hown8 hgr8 hl8))
 all_goals
   go_wp2
   go_ret
   refine ⟨_, rfl, ?_, HG8.out⟩
   have h := HO8.out
   rw [intVs_append] at h
   exact own_IB h (by rw [List.length_append, HL.out.1, HL.out.2])
theorem IIAt.bw {w w' : World} {v : Value} {ls : List (List Int)} (h : IIAt w (· < w.heap.size) v ls) (g : Bw w w') : IIAt w' (· < w'.heap.size) v ls := h.keep (fun b hb => Nat.lt_of_lt_of_le hb g.size) (fun p hp => g.b.cell hp)
theorem IIAt.pairs {w : World} {B : Nat} {A : Option Addr} {n c : Nat} {ls : List (List Int)} (h : IIAt w (· < B) (.slice A n c) ls) : ∃ ps : List IS, ps.length = n ∧ ps.map (·.1) = ls ∧ Reads w B 1 A n (ps.map (·.2)) ∧ ∀ p ∈ ps, IAt w (· < B) p.2 p.1 := by
 obtain ⟨A', n', c', ss, e, h1, h2, h3, h4, h5, h6⟩ := h
 injection e with e1 e2 e3
 subst e1 e2 e3
 have e1 : (ls.zip ss).map (·.1) = ls := by
   apply List.ext_getElem
   · simp; omega
   · intro j a b; simp
 have e2 : (ls.zip ss).map (·.2) = ss := by
   apply List.ext_getElem
   · simp; omega
   · intro j a b; simp
 refine ⟨ls.zip ss, by simp; omega, e1, ?_, fun p hp => ?_⟩
 · rw [e2]
   refine ⟨by omega, fun hn => ?_⟩
   obtain ⟨ad, rfl, hb, hc⟩ := h5 hn
   refine ⟨ad, rfl, hb, fun j u hu => ?_⟩
   obtain ⟨hj, rfl⟩ := List.getElem?_eq_some_iff.1 hu
   exact hc j hj
 · obtain ⟨k, hk, rfl⟩ := List.getElem_of_mem hp
   simp only [List.length_zip] at hk
   have := h6 k (by omega) (by omega)
   simpa using this
theorem rows_one {w : World} {S : Nat → Prop} {ps : List IS} (h : ∀ p ∈ ps, IAt w S p.2 p.1) : ∀ u ∈ ps.map (·.2), u.oneCell' = true := by
 intro u hu
 obtain ⟨p, hp, rfl⟩ := List.mem_map.1 hu
 obtain ⟨A, n, c, e, _⟩ := (h p hp).form
 rw [e]; rfl
section
variable {w A W : World} {B : Nat} {v v' : Value} {ps qs : List IS}
theorem DRow.of_old (hown : W.ownsRow w.heap.size 22 1 v ps.length (ps.map (·.2))) (hg : Bw w W) (hk : ∀ p ∈ ps, IAt w (· < w.heap.size) p.2 p.1) : DRow W w.heap.size v ps :=
 ⟨hown, fun p hp => (hk p hp).keep (fun b hb => ⟨Nat.lt_of_lt_of_le hb hg.size, fun e => by have := (hown.lt b e).1; omega⟩) (fun q hq => hg.b.cell hq)⟩
theorem DRow.app (h : DRow A B v ps) (hs : ∀ p ∈ qs, IAt A (DS A v) p.2 p.1) (hown : W.ownsRow B 22 1 v' (ps.length + qs.length) (ps.map (·.2) ++ qs.map (·.2))) (hg : A.grownBy W v.ownBlock) (hv : v'.ownBlock = v.ownBlock ∨ v'.ownBlock = some A.heap.size) :
   DRow W B v' (ps ++ qs) := by
 have key : ∀ {s : Value} {x : List Int}, IAt A (DS A v) s x → IAt W (DS W v') s x := fun h => h.keep (fun b hb => ⟨Nat.lt_of_lt_of_le hb.1 hg.size, by
   rcases hv with e | e
   · rw [e]; exact hb.2
   · rw [e]; intro e2; injection e2 with e2; have := hb.1; omega⟩) (fun p hp => World.cell?_of_block (hg.block p.block hp.1 (fun e => hp.2 e.symm)))
 refine ⟨by simpa using hown, fun p hp => ?_⟩
 rcases List.mem_append.1 hp with hp | hp
 · exact key (h.kid p hp)
 · exact key (hs p hp)
theorem DRow.ii (h : DRow w B v ps) : IIAt w (· < w.heap.size) v (ps.map (·.1)) := by
 obtain ⟨A, c, rfl, b1, b2⟩ := own_bounds h.own
 have hr := Reads.of_own h.own
 refine ⟨A, _, c, ps.map (·.2), rfl, by simp, by simp, b1, b2, fun hn => ?_, fun k h1 h2 => ?_⟩
 · obtain ⟨ad, e, hb, hc⟩ := hr.2 hn
   exact ⟨ad, e, hb, fun j hj => hc j _ (List.getElem?_eq_getElem hj)⟩
 · have := h.kid _ (List.getElem_mem (show k < ps.length by simpa using h1))
   simp only [List.getElem_map]
   exact this.keep (fun b hb => hb.1) (fun _ _ => rfl)
end
theorem cutR_l (A : Option Addr) (n c k : Nat) (h : k ≤ n) (W : World) : (Instr.slice 106 (.slice A n c) (some (.int .i64 (k : Int))) none none).run Tryz.prog W = .ok (sliced A k n c 1) W := by
 rw [run_slice_l W 106 A n c (by kernel_rfl) .i64 (k : Int) (by omega) (by omega)]
 have : (sizeOf (Tryz.prog.elem 106)).run Tryz.prog W = .ok 1 W := by kernel_rfl
 rw [this]; simp [Result.andThen]
theorem cutR_h (A : Option Addr) (n c m : Nat) (h2 : m ≤ c) (W : World) : (Instr.slice 106 (.slice A n c) none (some (.int .i64 (m : Int))) none).run Tryz.prog W = .ok (sliced A 0 m c 1) W := by
 rw [run_slice_h W 106 A n c (by kernel_rfl) .i64 (m : Int) (by omega) (by omega)]
 have : (sizeOf (Tryz.prog.elem 106)).run Tryz.prog W = .ok 1 W := by kernel_rfl
 rw [this]; simp [Result.andThen]
theorem kid_old {W w8 : World} {v8 : Value} {ps qs : List IS} (h : DRow w8 W.heap.size v8 ps) (g : Bw W w8) (hk : ∀ p ∈ qs, IAt W (· < W.heap.size) p.2 p.1) : ∀ p ∈ qs, IAt w8 (DS w8 v8) p.2 p.1 :=
 fun p hp => (hk p hp).keep (fun b hb => ⟨Nat.lt_of_lt_of_le hb g.size, fun e => by have := (h.own.lt b e).1; omega⟩) (fun q hq => g.b.cell hq)
theorem kid_i {B : Nat} {w7 w9 : World} {v7 s9 : Value} {ps : List IS} {x : List Int} (h : DRow w7 B v7 ps) (hk : IAt w9 (fun b => w7.heap.size ≤ b ∧ b < w9.heap.size) s9 x) (o : Obj) : ∀ p ∈ [((x, s9) : IS)], IAt (w9.alloc o) (DS (w9.alloc o) v7) p.2 p.1 := by
 intro p hp
 obtain rfl := List.mem_singleton.1 hp
 exact hk.keep (fun b hb => ⟨by simp; omega, fun e => by have := (h.own.lt b e).2; omega⟩) (fun q hq => World.cell?_alloc_lt w9 o q hq.2)
theorem kid_ii {B : Nat} {w7 w9 : World} {v7 s9 : Value} {x : List Int} (hk : IAt w9 (fun b => B ≤ b ∧ b < w9.heap.size) s9 x) (hg : w9.grownBy w7 (Value.slice none 0 0).ownBlock) (hl : v7.ownBlock = (Value.slice none 0 0).ownBlock ∨ v7.ownBlock = some w9.heap.size) (o : Obj) :
   ∀ p ∈ [((x, s9) : IS)], IAt (w7.alloc o) (DS (w7.alloc o) v7) p.2 p.1 := by
 intro p hp
 obtain rfl := List.mem_singleton.1 hp
 refine hk.keep (fun b hb => ⟨by have := hg.size; simp; omega, fun e => ?_⟩) (fun q hq => ?_)
 · rcases hl with h | h
   · rw [h] at e; cases e
   · rw [h] at e; injection e with e; omega
 · rw [World.cell?_alloc_lt w7 o q (Nat.lt_of_lt_of_le hq.2 hg.size)]
   exact World.cell?_of_block (hg.block q.block hq.2 (fun e => by cases e))
theorem kid_iii {B : Nat} {w7 w9 : World} {o : Obj} {v7 s9 : Value} {x : List Int} (hk : IAt w9 (fun b => B ≤ b ∧ b < w9.heap.size) s9 x) (hg : (w9.alloc o).grownBy w7 (Value.slice none 0 0).ownBlock) (hl : v7.ownBlock = (Value.slice none 0 0).ownBlock ∨ v7.ownBlock = some (w9.alloc o).heap.size) :
   ∀ p ∈ [((x, s9) : IS)], IAt w7 (DS w7 v7) p.2 p.1 := by
 intro p hp
 obtain rfl := List.mem_singleton.1 hp
 have hs := hg.size
 simp at hs
 refine hk.keep (fun b hb => ⟨by omega, fun e => ?_⟩) (fun q hq => ?_)
 · rcases hl with h | h
   · rw [h] at e; cases e
   · rw [h] at e; injection e with e; simp at e; omega
 · rw [← World.cell?_alloc_lt w9 o q hq.2]
   exact World.cell?_of_block (hg.block q.block (by simp; omega) (fun e => by cases e))
def R1PutPost (w : World) (m : Nat) (e : Ending) (w' : World) : Prop := ∃ s, e = .returned s ∧ ∃ ls, IIAt w' (· < w'.heap.size) s ls ∧ 0 < ls.length ∧ ls.length ≤ m + 1 ∧ Bw w w'
theorem r1put_any (ls : List (List Int)) (x : List Int) (h9 : ls.length ≤ 1000) (hx9 : x.length ≤ 1000) (s u : Value) (w : World) (hl : IIAt w (· < w.heap.size) s ls) (hx : IB w w.heap.size u x) : Calls Tryz.prog 121 #[s, u] w (R1PutPost w ls.length) := by
 obtain ⟨A, n, c, rfl, ln, bn, mn⟩ := hl.form
 obtain ⟨A2, n2, c2, rfl, ln2, bn2, mn2⟩ := hx.form
 have hn9 : n ≤ 1000 := by omega
 have HL := Lib.hid hl
 have HX := Lib.hid hx
 have LN := Lib.hid ln
 have HX9 := Lib.hid hx9
 have CM : Hid (∀ (k : Nat) (hk : k < ls.length) (sk : Value) (W : World), Bw w W → IB W W.heap.size sk ls[k] → Calls Tryz.prog 146 #[sk, .slice A2 n2 c2] W (SomeInt W)) := Lib.hid (fun k hk sk W g h => r1cmp_any _ x _ _ W h (hx.bw g))
 have CS : Hid (∀ (k : Nat) (hk : k < ls.length) (sk : Value) (W : World), Bw w W → IB W W.heap.size sk ls[k] → Calls Tryz.prog 147 #[sk, .slice A2 n2 c2] W (SomeBool W)) := Lib.hid (fun k hk sk W g h => r1same_any _ x _ _ W h (hx.bw g))
 unfold SomeInt at CM
 unfold SomeBool at CS
 unfold R1PutPost
 clear hl hx ln h9 hx9
 go_enter Tryz.func121, Tryz.ntmps121
 go_upto_block 0 with fail
 go_cut [5] from 6 to 20 (fun s5 wx => ∃ k : Nat, k ≤ n ∧ s5 = .int .i64 k ∧ Hid (Bw w wx))
 case first =>
   go_wp2_with fail
   go_loopw [5] (fun i wr => ∃ k : Nat, k ≤ n ∧ i = .int .i64 k ∧ Hid (Bw w wr)) (fun i _ => n - (intOf i).toNat)
   case atStart => exact ⟨0, by omega, rfl, Lib.hid (Bw.refl _)⟩
   case round =>
     obtain ⟨k, hk, rfl, HR⟩ := hrel
     by_cases hlt : k < n
     · have e1 : k < ls.length := by rw [LN.out]; exact hlt
       obtain ⟨ad, sA, sn, sc, rfl, hb, q0, sl, hs⟩ := (HL.out.bw HR.out).at_ e1
       have CM2 := Lib.hid (CM.out k e1 _ wr HR.out hs)
       have HG := HR
       clear hs sl hb HR
       go_upto_if 18 with (go_at_call 146; go_must (refine CM2.out.mono ?_; rintro e w5 ⟨cc, rfl, hg5⟩; (have HG5 := Lib.hid (HG.out.trans hg5)); clear hg5))
       by_cases hc : cc < 0
       · go_wp2_with fail
         go_roundw
         case rel => exact ⟨k + 1, by omega, by go_num, HG5⟩
         case measure => simp [intOf]; omega
       · go_wp2_with fail
         go_meet
         exact ⟨k, hk, rfl, HG5⟩
     · have HG := HR
       go_wp2_with fail
       go_meet
       exact ⟨k, hk, rfl, HG⟩
 case rest =>
 obtain ⟨k, hk, rfl, HG⟩ := hcut
 go_upto_region 4 with fail
 go_cut [32] from 21 to 31 (fun s32 wx => ∃ b : Bool, s32 = .bool b ∧ (b = true → k < n) ∧ Hid (Bw w wx))
 case first =>
   by_cases hlt : k < n
   · have e1 : k < ls.length := by rw [LN.out]; exact hlt
     obtain ⟨ad, sA, sn, sc, rfl, hb, q0, sl, hs⟩ := (HL.out.bw HG.out).at_ e1
     have CS2 := Lib.hid (CS.out k e1 _ wc HG.out hs)
     clear hs sl hb
     go_wp2_with (go_at_call 147; go_must (refine CS2.out.mono ?_; rintro e w5 ⟨cc, rfl, hg5⟩; (have HG5 := Lib.hid (HG.out.trans hg5)); clear hg5))
     go_meet
     exact ⟨cc, rfl, fun _ => hlt, HG5⟩
   · go_wp2_with fail
     go_meet
     exact ⟨false, rfl, (fun h => by cases h), HG⟩
 case rest =>
 obtain ⟨b, rfl, hbk, HW⟩ := hcut
 rcases b with _ | _
 rotate_left
 · have hlt := hbk rfl
   go_wp2_with fail
   go_ret
   exact ⟨_, rfl, ls, HL.out.bw HW.out, by have := LN.out; omega, by omega, HW.out⟩
 clear hbk HG CS CM
 obtain ⟨W, hW⟩ : ∃ W, W = wc := ⟨_, rfl⟩
 rw [← hW] at HW ⊢
 clear hW
 have hlW := HL.out.bw HW.out
 have hxW := HX.out.bw HW.out
 have HLL := LN
 obtain ⟨ps, hpl, hpf, hpr, hpk⟩ := hlW.pairs
 obtain ⟨i0, hi, hz0, hz1, hz2⟩ := info_parts infoIntsI
 have hc1 := fun W => cutR_h A n c k (by omega) W
 have hc2 := fun W => cutR_l A n c k (by omega) W
 obtain ⟨P1, e1, k1⟩ := reads_part hpr (k := 0) (m := k) bn (Nat.zero_le _) hk
 obtain ⟨P2, e2, k2⟩ := reads_part hpr (k := k) (m := n) bn hk (Nat.le_refl _)
 rw [Nat.sub_zero, Nat.sub_zero] at e1
 rw [Nat.sub_zero, List.drop_zero, ← List.map_take] at k1
 rw [List.take_of_length_le (by simp; omega), ← List.map_drop] at k2
 rw [e1] at hc1
 rw [e2] at hc2
 have K1 := Lib.hid k1
 have K2 := Lib.hid k2
 have HP1 : Hid (∀ p ∈ ps.take k, IAt W (· < W.heap.size) p.2 p.1) := Lib.hid (fun p hp => hpk p (List.mem_of_mem_take hp))
 have HP2 : Hid (∀ p ∈ ps.drop k, IAt W (· < W.heap.size) p.2 p.1) := Lib.hid (fun p hp => hpk p (List.mem_of_mem_drop hp))
 have HPL : Hid ((ps.take k).length = k ∧ (ps.drop k).length = n - k) := Lib.hid ⟨by simp; omega, by simp; omega⟩
 have CP : Hid (∀ X, Bw W X → Calls Tryz.prog 148 #[.slice A2 n2 c2] X (IntsPost X x)) := Lib.hid (fun X g => r1copy_any x _ X (hxW.bw g) (by have := HX9.out; omega))
 have kk0 : (0 : Int) ≤ (k : Int) := by omega
 have kk1 : (k : Int) ≤ (n : Int) := by omega
 have kk2 : (k : Int) ≤ (c : Int) := by omega
 unfold IntsPost at CP
 clear hlW hxW hpk hpr k1 k2 e1 e2 hpf hpl HL HX HLL
 generalize ps.take k = ps1 at *
 generalize ps.drop k = ps2 at *
 generalize hm2 : n - k = m2 at *
 generalize c - k = q2 at *
 have hms : k + 1 + m2 ≤ 1001 := by omega
 have HPL2 : Hid (ps2.length = m2) := Lib.hid HPL.out.2
 have HM : Hid (k + m2 = n) := Lib.hid (by omega)
 clear hm2
 go_wp2_with fail
 go_region_law (first
   | (go_simp; go_at_call 148; refine (CP.out _ (by exact (Bw.refl W).drewN _)).mono ?_; rintro e w9 ⟨s9, rfl, hk9, hg9⟩; obtain ⟨A9, n9, c9, rfl, -, -, -⟩ := hk9.form; (have HK9 : Hid (IAt w9 (fun b => W.heap.size ≤ b ∧ b < w9.heap.size) (.slice A9 n9 c9) x) := Lib.hid (by exact hk9)); (have HG9 : Hid (Bw W w9) := Lib.hid (((Bw.refl W).drewN _).trans hg9)); clear hk9 hg9)
   | (go_simp; go_at_call 148; refine (CP.out _ HG7.out).mono ?_; rintro e w9 ⟨s9, rfl, hk9, hg9⟩; obtain ⟨A9, n9, c9, rfl, -, -, -⟩ := hk9.form; (have HK9 := Lib.hid hk9); (have HG79 := Lib.hid hg9); (have HG9 := Lib.hid (HG7.out.trans hg9)); clear hk9 hg9)
   | (refine step_append_any _ rfl (.const (.slice none 0 0)) (.tmp 36) 106 rfl W.heap.size 22 i0 _ 1 24 Tryz.underlying106 hi hz0 hz1 hz2 rfl (by decide) (.slice none 0 0) 0 [] (by simp [Act.eval]) (World.ownsRow_nil _ _ _ _) W.heap.size P1 k c (ps1.map (·.2)) (by simp [Act.eval, Act.put]) K1.out.drew (rows_one HP1.out) (by unfold maxLen; omega) (by omega) (Nat.le_refl _) ?_; intro v7 w7 hown7 hgr7 hl7; simp only [Nat.zero_add, List.nil_append] at hown7; obtain ⟨A7, c7, rfl, -, -⟩ := own_bounds hown7; (have HG7 : Hid (Bw W w7) := Lib.hid (Below.grown (Bw.refl W).drew hgr7 (Nat.le_refl _) (fun r e => by cases e))); (have HD7 : Hid (DRow w7 W.heap.size (.slice A7 k c7) ps1) := Lib.hid (DRow.of_old (by rw [HPL.out.1]; exact hown7) HG7.out HP1.out)); clear hown7 hgr7 hl7)
   | (refine step_append_any _ rfl (.const (.slice none 0 0)) (.tmp 36) 106 rfl W.heap.size 22 i0 _ 1 24 Tryz.underlying106 hi hz0 hz1 hz2 rfl (by decide) (.slice none 0 0) 0 [] (by simp [Act.eval]) (World.ownsRow_nil _ _ _ _) W.heap.size P1 k c (ps1.map (·.2)) (by simp [Act.eval, Act.put]) (K1.out.below HG9.out) (rows_one HP1.out) (by unfold maxLen; omega) (by omega) HG9.out.size ?_; intro v7 w7 hown7 hgr7 hl7; simp only [Nat.zero_add, List.nil_append] at hown7; obtain ⟨A7, c7, rfl, -, -⟩ := own_bounds hown7; (have HG7 : Hid (Bw W w7) := Lib.hid (Below.grown HG9.out hgr7 HG9.out.size (fun r e => by cases e))); (have HGA := Lib.hid hgr7); (have HLA := Lib.hid hl7); (have HD7 : Hid (DRow w7 W.heap.size (.slice A7 k c7) ps1) := Lib.hid (DRow.of_old (by rw [HPL.out.1]; exact hown7) HG7.out HP1.out)); clear hown7 hgr7 hl7)
   | (refine step_append_any _ rfl (.const (.slice none 0 0)) (.tmp 36) 106 rfl W.heap.size 22 i0 _ 1 24 Tryz.underlying106 hi hz0 hz1 hz2 rfl (by decide) (.slice none 0 0) 0 [] (by simp [Act.eval]) (World.ownsRow_nil _ _ _ _) W.heap.size P1 k c (ps1.map (·.2)) (by simp [Act.eval, Act.put]) (K1.out.below (HG9.out.alloc _)) (rows_one HP1.out) (by unfold maxLen; omega) (by omega) (HG9.out.alloc _).size ?_; intro v7 w7 hown7 hgr7 hl7; simp only [Nat.zero_add, List.nil_append] at hown7; obtain ⟨A7, c7, rfl, -, -⟩ := own_bounds hown7; (have HG7 : Hid (Bw W w7) := Lib.hid (Below.grown (HG9.out.alloc _) hgr7 (HG9.out.alloc _).size (fun r e => by cases e))); (have HGB := Lib.hid hgr7); (have HLB := Lib.hid hl7); (have HD7 : Hid (DRow w7 W.heap.size (.slice A7 k c7) ps1) := Lib.hid (DRow.of_old (by rw [HPL.out.1]; exact hown7) HG7.out HP1.out)); clear hown7 hgr7 hl7)
   | (refine step_append_any _ rfl (.tmp 37) (.tmp 40) 106 rfl W.heap.size 22 i0 _ 1 24 Tryz.underlying106 hi hz0 hz1 hz2 rfl (by decide) (.slice A7 k c7) k (ps1.map (·.2)) (by simp [Act.eval, Act.put]) (by have := (HD7.out.bw (HG79.out.alloc (.cells #[.slice A9 n9 c9] 22))).own; rwa [HPL.out.1] at this) (w9.heap.size + 1) (some ⟨w9.heap.size, 0, none⟩) 1 1 [.slice A9 n9 c9] (by simp [Act.eval, Act.put]) (reads_newv w9 _ _) (by simp [Value.oneCell']) (by unfold maxLen; omega) (by omega) (HG9.out.alloc _).size ?_; intro v8 w8 hown8 hgr8 hl8; obtain ⟨A8, c8, rfl, -, -⟩ := own_bounds hown8; (have HD8 : Hid (DRow w8 W.heap.size (.slice A8 (k + 1) c8) (ps1 ++ [(x, .slice A9 n9 c9)])) := Lib.hid ((HD7.out.bw (HG79.out.alloc (.cells #[.slice A9 n9 c9] 22))).app (qs := [(x, .slice A9 n9 c9)]) (kid_i HD7.out HK9.out _) (by rw [HPL.out.1]; exact hown8) hgr8 hl8)); (have HG8 : Hid (Bw W w8) := Lib.hid (Below.grown (HG9.out.alloc _) hgr8 (HG9.out.alloc _).size (fun r e => (HD7.out.own.lt r e).1))); clear hown8 hgr8 hl8)
   | (refine step_append_any _ rfl (.tmp 37) (.tmp 40) 106 rfl W.heap.size 22 i0 _ 1 24 Tryz.underlying106 hi hz0 hz1 hz2 rfl (by decide) (.slice A7 k c7) k (ps1.map (·.2)) (by simp [Act.eval, Act.put]) (by have := (HD7.out.bw ((Bw.refl w7).alloc (.cells #[.slice A9 n9 c9] 22))).own; rwa [HPL.out.1] at this) (w7.heap.size + 1) (some ⟨w7.heap.size, 0, none⟩) 1 1 [.slice A9 n9 c9] (by simp [Act.eval, Act.put]) (reads_newv w7 _ _) (by simp [Value.oneCell']) (by unfold maxLen; omega) (by omega) (HG7.out.alloc _).size ?_; intro v8 w8 hown8 hgr8 hl8; obtain ⟨A8, c8, rfl, -, -⟩ := own_bounds hown8; (have HD8 : Hid (DRow w8 W.heap.size (.slice A8 (k + 1) c8) (ps1 ++ [(x, .slice A9 n9 c9)])) := Lib.hid ((HD7.out.bw ((Bw.refl w7).alloc (.cells #[.slice A9 n9 c9] 22))).app (qs := [(x, .slice A9 n9 c9)]) (kid_ii HK9.out HGA.out HLA.out _) (by rw [HPL.out.1]; exact hown8) hgr8 hl8)); (have HG8 : Hid (Bw W w8) := Lib.hid (Below.grown (HG7.out.alloc _) hgr8 (HG7.out.alloc _).size (fun r e => (HD7.out.own.lt r e).1))); clear hown8 hgr8 hl8)
   | (refine step_append_any _ rfl (.tmp 37) (.tmp 40) 106 rfl W.heap.size 22 i0 _ 1 24 Tryz.underlying106 hi hz0 hz1 hz2 rfl (by decide) (.slice A7 k c7) k (ps1.map (·.2)) (by simp [Act.eval, Act.put]) (by have := HD7.out.own; rwa [HPL.out.1] at this) (w9.heap.size + 1) (some ⟨w9.heap.size, 0, none⟩) 1 1 [.slice A9 n9 c9] (by simp [Act.eval, Act.put]) ((reads_newv w9 _ _).grown HGB.out (by simp) (fun g e => by cases e)) (by simp [Value.oneCell']) (by unfold maxLen; omega) (by omega) HG7.out.size ?_; intro v8 w8 hown8 hgr8 hl8; obtain ⟨A8, c8, rfl, -, -⟩ := own_bounds hown8; (have HD8 : Hid (DRow w8 W.heap.size (.slice A8 (k + 1) c8) (ps1 ++ [(x, .slice A9 n9 c9)])) := Lib.hid (HD7.out.app (qs := [(x, .slice A9 n9 c9)]) (kid_iii HK9.out HGB.out HLB.out) (by rw [HPL.out.1]; exact hown8) hgr8 hl8)); (have HG8 : Hid (Bw W w8) := Lib.hid (Below.grown HG7.out hgr8 HG7.out.size (fun r e => (HD7.out.own.lt r e).1))); clear hown8 hgr8 hl8)
   | (refine step_append_any _ rfl (.tmp 41) (.tmp 44) 106 rfl W.heap.size 22 i0 _ 1 24 Tryz.underlying106 hi hz0 hz1 hz2 rfl (by decide) (.slice A8 (k + 1) c8) (k + 1) (List.map (fun p : IS => p.2) (ps1 ++ [(x, Value.slice A9 n9 c9)])) (by simp [Act.eval, Act.put]) (by have := HD8.out.own; rw [List.length_append, HPL.out.1] at this; exact this) W.heap.size P2 m2 q2 (ps2.map (·.2)) (by simp [Act.eval, Act.put]) (K2.out.below HG8.out) (rows_one HP2.out) (by unfold maxLen; omega) (by omega) HG8.out.size ?_; intro v10 w10 hown10 hgr10 hl10; obtain ⟨A10, c10, rfl, -, -⟩ := own_bounds hown10; (have HD10 : Hid (DRow w10 W.heap.size (.slice A10 (k + 1 + m2) c10) (ps1 ++ [(x, .slice A9 n9 c9)] ++ ps2)) := Lib.hid (HD8.out.app (qs := ps2) (kid_old HD8.out HG8.out HP2.out) (by rw [List.length_append, HPL.out.1, HPL2.out]; exact hown10) hgr10 hl10)); (have HG10 : Hid (Bw W w10) := Lib.hid (Below.grown HG8.out hgr10 HG8.out.size (fun r e => (HD8.out.own.lt r e).1))); clear hown10 hgr10 hl10))
 all_goals
   go_wp2
   go_ret
   refine ⟨_, rfl, _, HD10.out.ii, by simp; omega, ?_, HW.out.trans HG10.out⟩
   have h1 := HPL.out
   have h2 := HM.out
   have h3 := LN.out
   simp only [List.length_map, List.length_append, List.length_singleton]
   omega
theorem r5Drops_any (r x : List Int) (s u : Value) (w : World) (h : IB w w.heap.size s r) (hx : IB w w.heap.size u x) (hv : wordP r x = true) : Calls Tryz.prog 90 #[s, u] w (DropPost w (dropsB (rankAt r) x)) := by
 obtain ⟨RA, rn, rc, rfl, lr, mr⟩ := h.form'
 obtain ⟨XA, xn, xc, rfl, lx, mx⟩ := hx.form'
 have PV : Hid (∀ W, Bw w W → Calls Tryz.prog 120 #[.slice RA rn rc, .slice XA xn xc] W (BoolPost W true)) := Lib.hid (fun W g => r5Valid_any r x hv _ _ W (h.bw g) (hx.bw g))
 have HLO : Hid (LettersOk r x) := Lib.hid (by
   intro y hy
   unfold wordP at hv
   simp only [Bool.and_eq_true, Bool.not_eq_true', List.any_eq_false] at hv
   have := hv.2 y hy
   unfold badX at this
   simp only [Bool.or_eq_true, decide_eq_true_eq, not_or] at this
   omega)
 have H12 : xn ≤ 12 := by
   unfold wordP at hv
   simp only [Bool.and_eq_true, decide_eq_true_eq] at hv
   omega
 have HR := Lib.hid h
 have HX := Lib.hid hx
 have LX := Lib.hid lx
 have LR := Lib.hid lr
 unfold BoolPost at PV
 clear h hx hv lx lr
 go_enter Tryz.func90, Tryz.ntmps90
 go_wp2_with fail
 go_loopw [5, 6] (fun s5 s6 wr => ∃ i : Nat, i ≤ xn ∧ s6 = .int .i64 i ∧ Hid (∃ ls, IIAt wr (· < wr.heap.size) s5 ls ∧ ls.length ≤ i ∧ Bw w wr ∧ (ls.length = 0 → dropsB (rankAt r) x = dropsB (rankAt r) (x.drop i)) ∧ (0 < ls.length → dropsB (rankAt r) x = true))) (fun _ s6 _ => xn - (intOf s6).toNat)
 case atStart => exact ⟨0, by omega, rfl, Lib.hid ⟨[], ⟨none, 0, 0, [], rfl, rfl, rfl, Nat.le_refl _, Nat.zero_le _, fun h => absurd h (by omega), fun k h => absurd h (by simp)⟩, by simp, Bw.refl _, fun _ => by simp, fun h => by simp at h⟩⟩
 case round =>
   obtain ⟨i, hi, rfl, HI⟩ := hrel
   obtain ⟨ls, hls, hpl, hg, hz, hnz⟩ := HI.out
   obtain ⟨OA, on, oc, rfl, ol, -, -⟩ := hls.form
   by_cases hlt : i + 1 < xn
   rotate_left
   · have d1 : decide ((i : Int) + 1 < (xn : Int)) = false := decide_eq_false (by omega)
     have HQ : Hid (on = 0 ↔ dropsB (rankAt r) x = false) := Lib.hid (by
       rw [← ol]
       constructor
       · intro h0
         rw [hz h0]
         exact drops_end (by rw [LX.out]; omega)
       · intro h0
         rcases Nat.eq_zero_or_pos ls.length with h1 | h1
         · exact h1
         · rw [hnz h1] at h0; cases h0)
     have HG := Lib.hid hg
     clear hls hz hnz hg HI ol
     go_wp2_with (go_at_call 120; go_must (refine (PV.out _ HG.out).mono ?_; rintro e w7 ⟨rfl, hg7⟩; (have HG7 := Lib.hid (HG.out.trans hg7)); clear hg7))
     go_ret
     exact ⟨_, _, _, rfl, HQ.out, HG7.out⟩
   have i0 : i < xn := by omega
   have wi : IntKind.i64.wrap ((i : Int) + 1) = (i : Int) + 1 := by simp [IntKind.wrap, IntKind.bits, IntKind.signed]; omega
   have d1 : decide ((i : Int) + 1 < (xn : Int)) = true := decide_eq_true (by omega)
   have ti : ((i : Int) + 1).toNat = i + 1 := by omega
   have t0 : 0 ≤ (i : Int) + 1 := by omega
   have t1 : (i : Int) + 1 < (xn : Int) := by omega
   have HG0 := Lib.hid hg
   have HLS := Lib.hid hls
   have HI2 := Lib.hid (And.intro hz hnz)
   have HPL := Lib.hid hpl
   have HOL := Lib.hid ol
   clear hls hz hnz hg HI hpl ol
   go_upto_region 5 with (go_at_call 120; go_must (refine (PV.out _ HG0.out).mono ?_; rintro e w7 ⟨rfl, hg7⟩; (have HLS7 := Lib.hid (HLS.out.bw hg7)); (have HG7 := Lib.hid (HG0.out.trans hg7)); clear hg7))
   have e0 : i < x.length := by rw [LX.out]; omega
   have e1 : i + 1 < x.length := by rw [LX.out]; omega
   obtain ⟨k0, hk0, y0, z0⟩ := rankAt_get (HLO.out _ (List.getElem_mem e0))
   obtain ⟨k1, hk1, y1, z1⟩ := rankAt_get (HLO.out _ (List.getElem_mem e1))
   have HXW := HX.out.bw HG7.out
   have HRW := HR.out.bw HG7.out
   obtain ⟨xd, rfl, hxb, q0⟩ := HXW.at_ e0
   obtain ⟨xd', ex', _, q1⟩ := HXW.at_ e1
   obtain rfl : xd = xd' := Option.some.inj ex'
   obtain ⟨rd, rfl, hrb, q2⟩ := HRW.at_ hk0
   obtain ⟨rd', er', _, q3⟩ := HRW.at_ hk1
   obtain rfl : rd = rd' := Option.some.inj er'
   rw [y0] at q0
   rw [y1] at q1
   have q1b : w7.cell? ⟨xd.block, xd.off + (i + 1), none⟩ = some (.int .i64 (k1 : Int)) := by simpa [Addr.add] using q1
   have HD : Hid (dropsB (rankAt r) (x.drop i) = (decide (r[k0] ≤ r[k1]) || dropsB (rankAt r) (x.drop (i + 1)))) := Lib.hid (by rw [drops_step e1, z0, z1])
   have r0 : k0 < rn := by rw [LR.out] at hk0; exact hk0
   have r1 : k1 < rn := by rw [LR.out] at hk1; exact hk1
   clear ex' er' y0 y1 z0 z1 HXW HRW
   generalize r[k0] = a0 at *
   generalize r[k1] = a1 at *
   by_cases hle : a0 ≤ a1
   rotate_left
   · have d1 : decide (a0 ≤ a1) = false := decide_eq_false hle
     have HF : Hid (dropsB (rankAt r) (x.drop i) = dropsB (rankAt r) (x.drop (i + 1))) := Lib.hid (by rw [HD.out, d1]; rfl)
     clear HD hle
     go_quiet (fail)
     go_wp2
     go_roundw
     case rel =>
       obtain ⟨h2, h3⟩ := HI2.out
       exact ⟨i + 1, by omega, by go_num, Lib.hid ⟨ls, HLS7.out.bw ((Bw.refl _).drewN _), by have := HPL.out; omega, HG7.out.drewN _, fun h => by rw [h2 h, HF.out], h3⟩⟩
     case measure => simp [intOf]; omega
   · have d1 : decide (a0 ≤ a1) = true := decide_eq_true hle
     have HF : Hid (dropsB (rankAt r) x = true) := Lib.hid (by
       rcases Nat.eq_zero_or_pos ls.length with h | h
       · rw [HI2.out.1 h, HD.out, d1]; rfl
       · exact HI2.out.2 h)
     have CW : Hid (∀ W, Bw w W → Calls Tryz.prog 122 #[.slice (some xd) xn xc, .int .i64 (i : Int)] W (IntsPost W (x.take i ++ x.drop (i + 1)))) := Lib.hid (fun W g => r2without_any x i e0 (by rw [LX.out]; omega) _ W (HX.out.bw g))
     have CPT : Hid (∀ (y : List Int) (sy : Value) W, y.length ≤ 1000 → Bw w7 W → IB W W.heap.size sy y → Calls Tryz.prog 121 #[.slice OA on oc, sy] W (R1PutPost W ls.length)) := Lib.hid (fun y sy W hy g k => r1put_any ls y (by have := HPL.out; omega) hy _ sy W (HLS7.out.bw g) k)
     have HYL : Hid ((x.take i ++ x.drop (i + 1)).length ≤ 1000) := Lib.hid (by have := LX.out; simp; omega)
     unfold IntsPost at CW
     unfold R1PutPost at CPT
     generalize x.take i ++ x.drop (i + 1) = y at *
     clear HD hle
     go_quiet (fail)
     go_wp2_with (first
       | (go_at_call 122; go_must (refine (CW.out _ (by exact HG7.out.drewN _)).mono ?_; rintro e w8 ⟨s8, rfl, hk8, hg8⟩; obtain ⟨A8, n8, c8, rfl, -, -, -⟩ := hk8.form; (have HK8 : Hid (IB w8 w8.heap.size (.slice A8 n8 c8) y) := Lib.hid (hk8.keep (fun b hb => hb.2) (fun _ _ => rfl))); (have HG8 : Hid (Bw w7 w8) := Lib.hid (((Bw.refl w7).drewN _).trans hg8)); clear hk8 hg8))
       | (go_at_call 121; go_must (refine (CPT.out y _ _ HYL.out HG8.out HK8.out).mono ?_; rintro e w9 ⟨s9, rfl, ls9, hl9, hp9, hm9, hg9⟩; (have HL9 := Lib.hid (And.intro hl9 (And.intro hp9 hm9))); (have HG9 := Lib.hid ((HG7.out.trans HG8.out).trans hg9)); clear hl9 hp9 hm9 hg9)))
     go_roundw
     case rel =>
       obtain ⟨l1, l2, l3⟩ := HL9.out
       exact ⟨i + 1, by omega, by go_num, Lib.hid ⟨ls9, l1, by have := HPL.out; omega, HG9.out, fun h => by omega, fun _ => HF.out⟩⟩
     case measure => simp [intOf]; omega
end Go.Proofs.YtlmnkcfnihhlgaaGreatDoor
