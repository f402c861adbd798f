/- Part of a proof of basisSets_holds. -/
import Derived.Test.YtbmheekaclmibaaGreatXAppAQ
set_option maxRecDepth 100000
set_option maxHeartbeats 16000000
namespace Go.Proofs.YtbmheekaclmibaaGreat
open Go.RowKit
set_option linter.unusedSimpArgs false
set_option linter.unusedVariables false
def LettersOk (r x : List Int) : Prop := ∀ y ∈ x, 0 ≤ y ∧ y < r.length
theorem rankAt_get {r : List Int} {y : Int} (h : 0 ≤ y ∧ y < r.length) : ∃ (k : Nat) (hk : k < r.length), y = k ∧ rankAt r y = r[k] := by
 obtain ⟨k, rfl⟩ := Int.eq_ofNat_of_zero_le h.1
 have hk : k < r.length := by have := h.2; omega
 refine ⟨k, hk, rfl, ?_⟩
 unfold rankAt
 simp [hk]
theorem pcovered1_any (r b : List Int) (x : Int) (at_ : Nat) (g1 g2 g3 : Nat) (sr sb : Value) (w : World) (hr : IB w w.heap.size sr r) (hb : IB w w.heap.size sb b) (hat : at_ < b.length) (hx : 0 ≤ x ∧ x < r.length) (hl : LettersOk r b)
   (h1 : w.cell? ⟨g1, 0, none⟩ = some sr) (h2 : w.cell? ⟨g2, 0, none⟩ = some sb) (h3 : w.cell? ⟨g3, 0, none⟩ = some (.int .i64 (at_ : Int))) :
   Calls Tryz.prog 195 (#[.int .i64 x] ++ #[.pointer (some ⟨g1, 0, none⟩), .pointer (some ⟨g2, 0, none⟩), .pointer (some ⟨g3, 0, none⟩)]) w (BoolPost w (decide (rankAt r b[at_] < rankAt r x))) := by
 obtain ⟨RA, rn, rc, rfl, lr, mr⟩ := hr.form'
 obtain ⟨BA, bn, bc, rfl, lb, mb⟩ := hb.form'
 obtain ⟨k1, hk1, rfl, e1⟩ := rankAt_get hx
 obtain ⟨k2, hk2, e2', e2⟩ := rankAt_get (hl _ (List.getElem_mem hat))
 obtain ⟨ad, rfl, _, q1⟩ := hr.at_ hk1
 obtain ⟨ad', e', _, q2⟩ := hr.at_ hk2
 obtain rfl : ad = ad' := Option.some.inj e'
 obtain ⟨ad2, rfl, _, q3⟩ := hb.at_ hat
 rw [e1, e2]
 rw [e2'] at q3
 have d1 : k1 < rn := by omega
 have d2 : k2 < rn := by omega
 have d3 : at_ < bn := by omega
 clear hr hb hl e' e1 e2 hx e2'
 generalize r[k1] = y1 at *
 generalize r[k2] = y2 at *
 go_enter Tryz.func195, Tryz.ntmps195
 go_wp2_with fail
 go_quiet (fail)
 go_wp2
 go_ret
 exact ⟨rfl, (Bw.refl _).drewN _⟩
def covP (r b : List Int) (from_ at_ : Nat) : Bool := ((b.take at_).drop from_).all fun x => decide (rankAt r x ≤ rankAt r (b.getD at_ 0))
theorem pcovered_any (r b : List Int) (from_ at_ : Nat) (sr sb : Value) (w : World) (hr : IB w w.heap.size sr r) (hb : IB w w.heap.size sb b) (hf : from_ ≤ at_) (hat : at_ < b.length) (hl : LettersOk r b) :
   Calls Tryz.prog 189 #[sr, sb, .int .i64 (from_ : Int), .int .i64 (at_ : Int)] w (BoolPost w (covP r b from_ at_)) := by
 obtain ⟨RA, rn, rc, rfl, lr, mr⟩ := hr.form'
 obtain ⟨BA, bn, bc, e, lb, b1, m1⟩ := hb.form
 subst e
 unfold maxLen at m1
 have HB : Hid (Bw w (((w.alloc (.cells #[.slice RA rn rc] 22)).alloc (.cells #[.slice BA bn bc] 22)).alloc (.cells #[.int .i64 (at_ : Int)] 3)) ∧ Blk (((w.alloc (.cells #[.slice RA rn rc] 22)).alloc (.cells #[.slice BA bn bc] 22)).alloc (.cells #[.int .i64 (at_ : Int)] 3)) w.heap.size 22 #[.slice RA rn rc] ∧
     Blk (((w.alloc (.cells #[.slice RA rn rc] 22)).alloc (.cells #[.slice BA bn bc] 22)).alloc (.cells #[.int .i64 (at_ : Int)] 3)) (w.heap.size + 1) 22 #[.slice BA bn bc] ∧ Blk (((w.alloc (.cells #[.slice RA rn rc] 22)).alloc (.cells #[.slice BA bn bc] 22)).alloc (.cells #[.int .i64 (at_ : Int)] 3)) (w.heap.size + 1 + 1) 3 #[.int .i64 (at_ : Int)]) := Lib.hid
   ⟨(((Bw.refl _).alloc _).alloc _).alloc _, ((Blk.new _ _ _).alloc _).alloc _, by have := (Blk.new (w.alloc (.cells #[.slice RA rn rc] 22)) 22 #[.slice BA bn bc]).alloc (.cells #[.int .i64 (at_ : Int)] 3); simpa only [World.size_alloc] using this, by have := Blk.new ((w.alloc (.cells #[.slice RA rn rc] 22)).alloc (.cells #[.slice BA bn bc] 22)) 3 #[.int .i64 (at_ : Int)]; simpa only [World.size_alloc] using this⟩
 have hcut := cutI_lh BA bn bc from_ at_ hf (by omega)
 have hpt := IAt.part hb hf (show at_ ≤ bn by omega)
 obtain ⟨A1, hA1⟩ := sliced_form BA from_ at_ bc 1
 rw [hA1] at hpt
 simp only [hA1] at hcut
 clear hA1
 have CF : Hid (Calls Tryz.prog 131 #[.slice A1 (at_ - from_) (bc - from_), .func (.func 195) #[] #[.pointer (some ⟨w.heap.size, 0, none⟩), .pointer (some ⟨w.heap.size + 1, 0, none⟩), .pointer (some ⟨w.heap.size + 1 + 1, 0, none⟩)]] (((w.alloc (.cells #[.slice RA rn rc] 22)).alloc (.cells #[.slice BA bn bc] 22)).alloc (.cells #[.int .i64 (at_ : Int)] 3))
     (BoolPost (((w.alloc (.cells #[.slice RA rn rc] 22)).alloc (.cells #[.slice BA bn bc] 22)).alloc (.cells #[.int .i64 (at_ : Int)] 3)) (((b.take at_).drop from_).any fun x => decide (rankAt r b[at_] < rankAt r x)))) := Lib.hid (by
   obtain ⟨h0, h1, h2, h3⟩ := HB.out
   exact contInt_any _ (fun x => decide (rankAt r b[at_] < rankAt r x)) 195 _ (enters_of Tryz.func195 (by kernel_rfl) rfl) _ _ (hpt.bw h0) (fun v hv _ W hg _ => pcovered1_any r b v at_ _ _ _ _ _ W ((hr.bw h0).bw hg) ((hb.bw h0).bw hg) hat (hl v (List.mem_of_mem_take (List.mem_of_mem_drop hv))) hl ((h1.below hg.b h1.lt).cell 0) ((h2.below hg.b h2.lt).cell 0) ((h3.below hg.b h3.lt).cell 0)))
 have hq : covP r b from_ at_ = !(((b.take at_).drop from_).any fun x => decide (rankAt r b[at_] < rankAt r x)) := by
   unfold covP
   rw [List.all_eq_not_any_not]
   congr 2
   funext x
   have : b.getD at_ 0 = b[at_] := by simp [hat]
   rw [this, Bool.eq_iff_iff]; simp
 rw [hq]
 have HBW := Lib.hid HB.out.1
 clear hr hb hl hpt hq HB
 generalize (((b.take at_).drop from_).any fun x => decide (rankAt r b[at_] < rankAt r x)) = q at *
 clear hat lb
 go_enter Tryz.func189, Tryz.ntmps189
 go_wp2_with (go_at_call 131; go_must (refine CF.out.mono ?_; rintro e w6 ⟨rfl, hg6⟩; (have HG6 := Lib.hid hg6); clear hg6))
 go_ret
 exact ⟨rfl, HBW.out.trans HG6.out⟩
def EmbPost (w : World) (b : Bool) (m : Nat) (e : Ending) (w' : World) : Prop := ∃ rv pl, e = .returned (.tuple #[rv, .bool b]) ∧ IB w' w'.heap.size rv pl ∧ pl.length ≤ m ∧ Bw w w'
def allLe (r b : List Int) (x : Int) (f p : Nat) : Bool := ((b.take p).drop f).all fun z => decide (rankAt r z ≤ rankAt r x)
theorem allLe_succ {r b : List Int} {x : Int} {f p : Nat} (hf : f ≤ p) (hp : p < b.length) : allLe r b x f (p + 1) = (allLe r b x f p && decide (rankAt r b[p] ≤ rankAt r x)) := by
 unfold allLe
 rw [List.take_succ_eq_append_getElem hp, List.drop_append_of_le_length (by simp; omega), List.all_append]
 simp
theorem pleB_step {r b : List Int} {x : Int} {a : List Int} {p : Nat} (hp : p < b.length) : pleB (rankAt r) (x :: a) (b.drop p) = ((x == b[p] && pleB (rankAt r) a (b.drop (p + 1))) || (decide (rankAt r b[p] ≤ rankAt r x) && pleB (rankAt r) (x :: a) (b.drop (p + 1)))) := by
 rw [List.drop_eq_getElem_cons hp]; rfl
theorem pl_ne {r b : List Int} {x : Int} {a : List Int} {f p : Nat} (hf : f ≤ p) (hp : p < b.length) {q : Bool} (h : q = (allLe r b x f p && pleB (rankAt r) (x :: a) (b.drop p))) (hn : b[p] ≠ x) : q = (allLe r b x f (p + 1) && pleB (rankAt r) (x :: a) (b.drop (p + 1))) := by
 rw [h, allLe_succ hf hp, pleB_step hp, beq_eq_false_iff_ne.2 (Ne.symm hn), Bool.false_and, Bool.false_or, Bool.and_assoc]
theorem pl_unc {r b : List Int} {x : Int} {a : List Int} {f p : Nat} (hf : f ≤ p) (hp : p < b.length) {q : Bool} (h : q = (allLe r b x f p && pleB (rankAt r) (x :: a) (b.drop p))) (hn : allLe r b x f p = false) : q = (allLe r b x f (p + 1) && pleB (rankAt r) (x :: a) (b.drop (p + 1))) := by
 rw [h, allLe_succ hf hp, hn]; rfl
theorem pl_rec {r b : List Int} {x : Int} {a : List Int} {f p : Nat} (hf : f ≤ p) (hp : p < b.length) {q : Bool} (h : q = (allLe r b x f p && pleB (rankAt r) (x :: a) (b.drop p))) (hn : pleB (rankAt r) a (b.drop (p + 1)) = false) : q = (allLe r b x f (p + 1) && pleB (rankAt r) (x :: a) (b.drop (p + 1))) := by
 rw [h, allLe_succ hf hp, pleB_step hp, hn, Bool.and_false, Bool.false_or, Bool.and_assoc]
theorem pl_hit {r b : List Int} {x : Int} {a : List Int} {f p : Nat} (hf : f ≤ p) (hp : p < b.length) {q : Bool} (h : q = (allLe r b x f p && pleB (rankAt r) (x :: a) (b.drop p))) (he : b[p] = x) (hc : allLe r b x f p = true) (hn : pleB (rankAt r) a (b.drop (p + 1)) = true) : q = true := by
 rw [h, hc, pleB_step hp, hn, he]; simp
theorem cov_all {r b : List Int} {x : Int} {f p : Nat} (hp : p < b.length) (he : b[p] = x) : covP r b f p = allLe r b x f p := by
 unfold covP allLe
 have : b.getD p 0 = x := by simp [hp, he]
 rw [this]
theorem psearch_step (r b : List Int) (x : Int) (a : List Int) (hb9 : b.length ≤ 1000) (ha9 : a.length ≤ 1000) (hlb : LettersOk r b)
   (ih : ∀ (f : Nat) (sr sa sb : Value) (W : World), f ≤ b.length → IB W W.heap.size sr r → IB W W.heap.size sa a → IB W W.heap.size sb b → Calls Tryz.prog 178 #[sr, sa, sb, .int .i64 (f : Int)] W (EmbPost W (pleB (rankAt r) a (b.drop f)) a.length))
   (f : Nat) (sr sa sb : Value) (w : World) (hf : f ≤ b.length) (hr : IB w w.heap.size sr r) (ha : IB w w.heap.size sa (x :: a)) (hb : IB w w.heap.size sb b) :
   Calls Tryz.prog 178 #[sr, sa, sb, .int .i64 (f : Int)] w (EmbPost w (pleB (rankAt r) (x :: a) (b.drop f)) (x :: a).length) := by
 obtain ⟨RA, rn, rc, rfl, lr, mr⟩ := hr.form'
 obtain ⟨BA, bn, bc, rfl, lb, mb⟩ := hb.form'
 obtain ⟨AA, an, ac, e, la, a1, a2⟩ := ha.form
 subst e
 unfold maxLen at a2
 obtain ⟨ada, rfl, hba, qa⟩ := ha.at_ (k := 0) (by simp)
 have e0 : ada.add 0 = ada := by unfold Addr.add; simp
 rw [e0] at qa
 simp only [List.getElem_cons_zero] at qa
 have an1 : 1 ≤ an := by rw [← la]; simp
 have hcut : ∀ W, (Instr.slice 22 (.slice (some ada) an ac) (some (.int .i64 1)) none none).run Tryz.prog W = .ok (sliced (some ada) 1 an ac 1) W := fun W => cutI_l (some ada) an ac 1 an1 W
 have hpt := IAt.part ha an1 (Nat.le_refl an)
 obtain ⟨A1, hA1⟩ := sliced_form (some ada) 1 an ac 1
 rw [hA1] at hpt
 simp only [hA1] at hcut
 rw [List.take_of_length_le (by omega)] at hpt
 change IAt w _ _ a at hpt
 have HIH := Lib.hid ih
 have HR := Lib.hid hr
 have HB := Lib.hid hb
 have HA := Lib.hid hpt
 have LB := Lib.hid lb
 have HLB := Lib.hid hlb
 have HI0 : Hid (pleB (rankAt r) (x :: a) (b.drop f) = (allLe r b x f f && pleB (rankAt r) (x :: a) (b.drop f))) := Lib.hid (by
   have : allLe r b x f f = true := by unfold allLe; rw [List.drop_eq_nil_of_le (by simp; omega)]; rfl
   rw [this]; rfl)
 have hal : (x :: a).length = a.length + 1 := rfl
 obtain ⟨al, hal2⟩ : ∃ al, a.length = al := ⟨_, rfl⟩
 rw [hal, hal2]
 rw [hal2] at ha9
 rw [lb] at hb9 hf
 have HAL := Lib.hid hal2
 have an0 : ¬ an = 0 := by omega
 have an2 : 0 < an := by omega
 have anb : ((an : Int) == 0) = false := by simp; omega
 clear ih hr hb hpt lb hlb ha la hal hal2 e0 hA1 lr
 generalize hq : pleB (rankAt r) (x :: a) (b.drop f) = q at *
 have HQ := Lib.hid hq
 clear hq
 obtain ⟨i0, hi, hz0, hz1, hz2⟩ := info_parts infoInt
 go_enter Tryz.func178, Tryz.ntmps178
 go_wp2
 go_loopw [10] (fun i wr => ∃ p : Nat, f ≤ p ∧ p ≤ bn ∧ i = .int .i64 p ∧ Hid (Bw w wr ∧ q = (allLe r b x f p && pleB (rankAt r) (x :: a) (b.drop p)))) (fun i _ => bn - (intOf i).toNat)
 case atStart => exact ⟨f, by omega, by omega, rfl, Lib.hid ⟨Bw.refl _, by rw [HQ.out]; exact HI0.out⟩⟩
 case round =>
   obtain ⟨p, hfp, hp, rfl, HRL⟩ := hrel
   obtain ⟨hw, hqq⟩ := HRL.out
   have HW := Lib.hid hw
   have HQQ := Lib.hid hqq
   by_cases hlt : p < bn
   · have e1 : p < b.length := by rw [LB.out]; exact hlt
     obtain ⟨adb, rfl, hbb, qb⟩ := (HB.out.bw hw).at_ e1
     have qa' : wr.cell? ada = some (.int .i64 x) := (hw.b.cell hba).trans qa
     have hba' : ada.block < wr.heap.size := Nat.lt_of_lt_of_le hba hw.size
     by_cases hx : b[p] = x
     rotate_left
     · have HN : Hid (q = (allLe r b x f (p + 1) && pleB (rankAt r) (x :: a) (b.drop (p + 1)))) := Lib.hid (pl_ne hfp e1 hqq hx)
       clear hqq hw HRL
       generalize b[p] = y at *
       have d1 : (y == x) = false := by simpa using hx
       have d2 : (!(y == x)) = true := by rw [d1]; rfl
       go_wp2_with fail
       go_quiet (fail)
       go_wp2
       go_roundw
       case rel => exact ⟨p + 1, by omega, by omega, by go_num, Lib.hid ⟨HW.out.drewN _, HN.out⟩⟩
       case measure => simp [intOf]; omega
     · rw [hx] at qb
       have HX := Lib.hid hx
       have CV : Hid (∀ W, Bw wr W → Calls Tryz.prog 189 #[.slice RA rn rc, .slice (some adb) bn bc, .int .i64 (f : Int), .int .i64 (p : Int)] W (BoolPost W (allLe r b x f p))) := Lib.hid (fun W g => by
         rw [← cov_all (f := f) e1 HX.out]
         exact pcovered_any r b f p _ _ W ((HR.out.bw HW.out).bw g) ((HB.out.bw HW.out).bw g) hfp e1 HLB.out)
       clear hqq hw HRL hx
       have d1 : (x == x) = true := by simp
       have d2 : (!(x == x)) = false := by simp
       have KS : Hid (∀ w', Bw wr w' → w'.cell? (adb.add p) = some (.int .i64 x) ∧ w'.cell? ada = some (.int .i64 x) ∧ Bw wr w') := Lib.hid (fun w' g => ⟨(g.b.cell (by rw [add_block]; exact hbb)).trans qb, (g.b.cell hba').trans qa', g⟩)
       have RC : Hid (∀ W, Bw wr W → Calls Tryz.prog 178 #[.slice RA rn rc, .slice A1 (an - 1) (ac - 1), .slice (some adb) bn bc, .int .i64 ((p : Int) + 1)] W (EmbPost W (pleB (rankAt r) a (b.drop (p + 1))) al)) := Lib.hid (fun W g => by
         rw [← HAL.out]
         exact HIH.out (p + 1) _ _ _ W (by have := LB.out; omega) ((HR.out.bw HW.out).bw g) ((HA.out.bw HW.out).bw g) ((HB.out.bw HW.out).bw g))
       unfold EmbPost at RC
       rcases hc : allLe r b x f p with _ | _
       · have HN : Hid (q = (allLe r b x f (p + 1) && pleB (rankAt r) (x :: a) (b.drop (p + 1)))) := Lib.hid (pl_unc hfp e1 HQQ.out hc)
         rw [hc] at CV
         clear hc RC
         go_wp2_with fail
         go_region_held3 (fun w' => w'.cell? (adb.add p) = some (.int .i64 x) ∧ w'.cell? ada = some (.int .i64 x) ∧ Bw wr w') (first | (refine KS.out _ ?_; first | exact (Bw.refl _).drew | exact (Bw.refl _).drew.trans hg6)) (first | (go_at_call 189; (with_reducible refine (CV.out _ (Bw.refl _).drew).mono ?_); rintro e w' ⟨rfl, hg6⟩))
         have HG6 : Hid (Bw wr w') := Lib.hid ((Bw.refl _).drew.trans hg6)
         clear hg6
         go_wp2
         go_roundw
         case rel => exact ⟨p + 1, by omega, by omega, by go_num, Lib.hid ⟨HW.out.trans HG6.out, HN.out⟩⟩
         case measure => simp [intOf]; omega
       · rw [hc] at CV
         have HC := Lib.hid hc
         clear hc
         go_wp2_with fail
         go_region_held3 (fun w' => w'.cell? (adb.add p) = some (.int .i64 x) ∧ w'.cell? ada = some (.int .i64 x) ∧ Bw wr w') (first | (refine KS.out _ ?_; first | exact (Bw.refl _).drew | exact (Bw.refl _).drew.trans hg6)) (first | (go_at_call 189; (with_reducible refine (CV.out _ (Bw.refl _).drew).mono ?_); rintro e w' ⟨rfl, hg6⟩))
         have HG6 : Hid (Bw wr w') := Lib.hid ((Bw.refl _).drew.trans hg6)
         clear hg6
         have RC2 := Lib.hid (RC.out w' HG6.out)
         clear RC
         rcases hrec : pleB (rankAt r) a (b.drop (p + 1)) with _ | _
         · have HN : Hid (q = (allLe r b x f (p + 1) && pleB (rankAt r) (x :: a) (b.drop (p + 1)))) := Lib.hid (pl_rec hfp e1 HQQ.out hrec)
           rw [hrec] at RC2
           clear hrec
           go_wp2_with (go_at_call 178; go_must (refine RC2.out.mono ?_; rintro e w7 ⟨rv, pl, rfl, hrv, hpl, hg7⟩; (have HG7 := Lib.hid hg7); clear hg7 hrv hpl))
           go_roundw
           case rel => exact ⟨p + 1, by omega, by omega, by go_num, Lib.hid ⟨HW.out.trans (HG6.out.trans HG7.out), HN.out⟩⟩
           case measure => simp [intOf]; omega
         · have HN : Hid (q = true) := Lib.hid (pl_hit hfp e1 HQQ.out HX.out HC.out hrec)
           rw [hrec] at RC2
           clear hrec
           go_wp2_with (first
             | (go_at_call 178; go_must (refine RC2.out.mono ?_; rintro e w7 ⟨rv, pl, rfl, hrv, hpl, hg7⟩; obtain ⟨V7, n7, c7, rfl, l7, m7⟩ := hrv.form'; (have HG7 := Lib.hid hg7); (have HRV := Lib.hid hrv); (have HL7 := Lib.hid l7); (have n7b : n7 ≤ al := by omega); clear hg7 hrv l7 hpl))
             | (at_builtin; go_must (refine wpList_append_any _ rfl _ _ 22 rfl w7.heap.size 3 i0 _ 1 8 Tryz.underlying22 hi hz0 hz1 hz2 rfl (by decide) (.slice (some ⟨w7.heap.size, 0, none⟩) 1 1) 1 (intVs [(p : Int)]) rfl (own_new w7 _ _ _ rfl (by simp [intVs])) (w7.heap.size + 1) V7 n7 c7 (intVs pl) rfl (IAt.reads ((HRV.out.bw ((Bw.refl _).alloc (.cells #[.int .i64 (p : Int)] 3))).more (by simp))) (intVs_one _) (by unfold maxLen; omega) (by omega) (by simp) ?_; intro v8 w8 hown8 hgr8 hl8; obtain ⟨A8, c8, rfl⟩ := own_form hown8; (have HO8 := Lib.hid hown8); (have HG8 := Lib.hid hgr8); clear hown8 hgr8 hl8)))
           go_ret2
           refine ⟨_, (p : Int) :: pl, ?_, (own_IB (cs := (p : Int) :: pl) (by have := HO8.out; rwa [intVs_append] at this) (by have := HL7.out; simp; omega)).keep (fun b hb => hb.2) (fun _ _ => rfl), by have := HL7.out; simp; omega, ?_⟩
           · rw [HN.out]; rfl
           · exact Below.trans (HW.out.trans (HG6.out.trans (HG7.out.alloc _))) ((below_own (B := w.heap.size) (Below.refl _ _) (own_base (own_new w7 3 #[.int .i64 (p : Int)] 1 (n := 1) (xs := intVs [(p : Int)]) rfl rfl) (by have := HW.out.size; have := HG6.out.size; have := HG7.out.size; omega)) HG8.out (by simp; have := HW.out.size; have := HG6.out.size; have := HG7.out.size; omega)))
   · obtain rfl : p = bn := by omega
     have HN : Hid (q = false) := Lib.hid (by rw [hqq, List.drop_eq_nil_of_le (by rw [LB.out]; omega)]; simp [pleB])
     clear hqq hw HRL
     go_wp2
     go_ret2
     exact ⟨.slice none 0 0, [], by rw [HN.out]; rfl, IAt.nil 0 none (by unfold maxLen; omega), by simp, HW.out⟩

theorem psearch_any (r b : List Int) (hb9 : b.length ≤ 1000) (hlb : LettersOk r b) : ∀ (a : List Int), a.length ≤ 1000 → ∀ (f : Nat) (sr sa sb : Value) (w : World), f ≤ b.length → IB w w.heap.size sr r → IB w w.heap.size sa a → IB w w.heap.size sb b →
   Calls Tryz.prog 178 #[sr, sa, sb, .int .i64 (f : Int)] w (EmbPost w (pleB (rankAt r) a (b.drop f)) a.length)
 | x :: a, h, f, sr, sa, sb, w, hf, hr, ha, hb => psearch_step r b x a hb9 (by simp at h; omega) hlb (fun f sr sa sb W h1 h2 h3 h4 => psearch_any r b hb9 hlb a (by simp at h; omega) f sr sa sb W h1 h2 h3 h4) f sr sa sb w hf hr ha hb
 | [], _, f, sr, sa, sb, w, hf, hr, ha, hb => by
   obtain ⟨RA, rn, rc, rfl, _, _⟩ := hr.form'
   obtain ⟨BA, bn, bc, rfl, lb, mb⟩ := hb.form'
   obtain ⟨AA, an, ac, rfl, la, ma⟩ := ha.form'
   obtain rfl : an = 0 := by simpa using la.symm
   rw [lb] at hf
   have HF : Hid (pleB (rankAt r) [] (b.drop f) = decide (f = bn)) := Lib.hid (by
     rw [Bool.eq_iff_iff]; simp [pleB]; omega)
   clear hr hb ha la
   by_cases hfb : f = bn
   · subst hfb
     go_enter Tryz.func178, Tryz.ntmps178
     go_wp2
     go_ret2
     exact ⟨.slice none 0 0, [], by rw [HF.out]; simp, IAt.nil 0 none (by unfold maxLen; omega), by simp, Bw.refl _⟩
   · have d1 : ((f : Int) == (bn : Int)) = false := by simp; omega
     go_enter Tryz.func178, Tryz.ntmps178
     go_wp2
     go_ret2
     exact ⟨.slice none 0 0, [], by rw [HF.out]; simp [hfb], IAt.nil 0 none (by unfold maxLen; omega), by simp, Bw.refl _⟩
theorem wordP_letters {r x : List Int} (h : wordP r x = true) : LettersOk r x ∧ x.length ≤ 12 := by
 simp only [wordP, Bool.and_eq_true, Bool.not_eq_true', decide_eq_true_eq] at h
 refine ⟨fun y hy => ?_, h.1.2⟩
 have := List.any_eq_false.1 h.2 y hy
 simp [badX] at this
 exact this
theorem pleq_any (r a b : List Int) (ha9 : wordP r a = true) (hb9 : wordP r b = true) (q : Bool) (hq : pleB (rankAt r) a b = q) (sr sa sb : Value) (w : World) (hr : IB w w.heap.size sr r) (ha : IB w w.heap.size sa a) (hb : IB w w.heap.size sb b) :
   Calls Tryz.prog 137 #[sr, sa, sb] w (BoolPost w q) := by
 obtain ⟨RA, rn, rc, rfl, _, _⟩ := hr.form'
 obtain ⟨BA, bn, bc, rfl, lb, mb⟩ := hb.form'
 obtain ⟨AA, an, ac, rfl, la, ma⟩ := ha.form'
 have V1 : Hid (∀ W, Bw w W → Calls Tryz.prog 104 #[.slice RA rn rc, .slice AA an ac] W (BoolPost W true)) := Lib.hid (fun W g => by rw [← ha9]; exact pValid_any r a _ _ W (hr.bw g) (ha.bw g))
 have V2 : Hid (∀ W, Bw w W → Calls Tryz.prog 104 #[.slice RA rn rc, .slice BA bn bc] W (BoolPost W true)) := Lib.hid (fun W g => by rw [← hb9]; exact pValid_any r b _ _ W (hr.bw g) (hb.bw g))
 have SE : Hid (∀ W, Bw w W → Calls Tryz.prog 178 #[.slice RA rn rc, .slice AA an ac, .slice BA bn bc, .int .i64 0] W (EmbPost W q a.length)) := Lib.hid (fun W g => by
   have := psearch_any r b (by have := (wordP_letters hb9).2; omega) (wordP_letters hb9).1 a (by have := (wordP_letters ha9).2; omega) 0 _ _ _ W (by omega) (hr.bw g) (ha.bw g) (hb.bw g)
   rw [List.drop_zero, hq] at this
   exact this)
 have EM : Hid (∀ W, Bw w W → Calls Tryz.prog 162 #[.slice RA rn rc, .slice AA an ac, .slice BA bn bc] W (EmbPost W q a.length)) := Lib.hid (fun W g => by
   clear hr ha hb ha9 hb9 hq la lb ma mb
   have HG := Lib.hid g
   clear g
   unfold EmbPost at SE
   go_enter Tryz.func162, Tryz.ntmps162
   go_wp2_with (first
     | (go_at_call 104; (with_reducible refine (V1.out _ HG.out).mono ?_); rintro e w6 ⟨rfl, hg6⟩; (have HG6 := Lib.hid hg6); clear hg6)
     | (go_at_call 104; go_must ((with_reducible refine (V2.out _ (HG.out.trans HG6.out)).mono ?_); rintro e w7 ⟨rfl, hg7⟩; (have HG7 := Lib.hid hg7); clear hg7))
     | (go_at_call 178; go_must (refine (SE.out _ (HG.out.trans (HG6.out.trans HG7.out))).mono ?_; rintro e w8 ⟨rv, pl, rfl, hrv, hpl, hg8⟩; obtain ⟨V8, n8, c8, rfl, l8, m8⟩ := hrv.form'; (have HRV := Lib.hid hrv); (have HPL := Lib.hid hpl); (have HG8 := Lib.hid hg8); clear hg8 hrv hpl l8)))
   go_ret2
   exact ⟨_, pl, rfl, HRV.out, HPL.out, HG6.out.trans (HG7.out.trans HG8.out)⟩)
 clear hr ha hb ha9 hb9 hq la lb V1 V2 SE
 have EM2 := Lib.hid (EM.out w (Bw.refl _))
 unfold EmbPost at EM2
 go_enter Tryz.func137, Tryz.ntmps137
 go_wp2_with (go_at_call 162; go_must (refine EM2.out.mono ?_; rintro e w8 ⟨rv, pl, rfl, hrv, hpl, hg8⟩; obtain ⟨V8, n8, c8, rfl, l8, m8⟩ := hrv.form'; (have HG8 := Lib.hid hg8); clear hg8 hrv hpl l8))
 go_ret
 exact ⟨rfl, HG8.out⟩
abbrev DV (w : World) (v : Value) : Nat → Prop := fun b => b < w.heap.size ∧ v.ownBlock ≠ some b
structure PRow (w : World) (B : Nat) (v : Value) (ps : List VS) : Prop where
 own : w.ownsRow B 39 2 v ps.length (pCells ps)
 kid : ∀ p ∈ ps, KAt w (DV w v) p.2 p.1.ks
section
variable {w A W : World} {B : Nat} {v v' : Value} {ps qs : List VS}
theorem PRow.nil (w : World) (B : Nat) : PRow w B (.slice none 0 0) [] := ⟨World.ownsRow_nil _ _ _ _, fun p h => absurd h (by simp)⟩
theorem PRow.bw (h : PRow A B v ps) (hg : Bw A W) : PRow W B v ps :=
 ⟨h.own.kept hg.gr (by rcases hv : v.ownBlock with _ | k <;> simp), fun p hp => (h.kid p hp).keep (fun b hb => ⟨Nat.lt_of_lt_of_le hb.1 hg.size, hb.2⟩) (fun q hq => hg.b.cell hq.1)⟩
theorem PRow.kb (h : PRow w B v ps) : KB w w.heap.size v (ps.map (·.1)) :=
 (own_KAt (ss := ps.map (·.2)) (n := ps.length) (by rw [vCells_pairs]; exact h.own) (by simp) (by simp) (fun k h1 h2 => by
   have := h.kid (ps[k]'(by simpa using h1)) (List.getElem_mem _)
   simpa using this)).keep (fun b hb => by
   rcases hb with hb | hb
   · exact hb.1
   · exact (h.own.lt b hb).2) (fun _ _ => rfl)
theorem PRow.form (h : PRow w B v ps) : ∃ A c, v = .slice A ps.length c ∧ ps.length ≤ c ∧ c ≤ maxLen := own_bounds h.own
theorem PRow.app (h : PRow A B v ps) (hs : ∀ p ∈ qs, KAt A (DV A v) p.2 p.1.ks) (hown : W.ownsRow B 39 2 v' (ps.length + qs.length) (pCells ps ++ pCells qs)) (hg : A.grownBy W v.ownBlock) (hv : v'.ownBlock = v.ownBlock ∨ v'.ownBlock = some A.heap.size) :
   PRow W B v' (ps ++ qs) := by
 have key : ∀ {s : Value} {x : List V}, KAt A (DV A v) s x → KAt W (DV W v') s x := fun h => h.keep (fun b hb => ⟨Nat.lt_of_lt_of_le hb.1 hg.size, by
   rcases hv with e | e
   · rw [e]; exact hb.2
   · rw [e]; intro e2; injection e2 with e2; have := hb.1; omega⟩) (fun p hp => World.cell?_of_block (hg.block p.block hp.1 (fun e => hp.2 e.symm)))
 refine ⟨by rw [pCells_append]; simpa using hown, fun p hp => ?_⟩
 rcases List.mem_append.1 hp with hp | hp
 · exact key (h.kid p hp)
 · exact key (hs p hp)
end
end Go.Proofs.YtbmheekaclmibaaGreat
