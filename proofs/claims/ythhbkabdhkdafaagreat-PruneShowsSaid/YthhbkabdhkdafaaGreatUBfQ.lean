/- Part of a proof of pruneShows_holds. -/
import Derived.Test.YthhbkabdhkdafaaGreatUAyQ
import Derived.Test.YthhbkabdhkdafaaGreatUBeQ
import Derived.Lib.Strings
set_option linter.unusedSimpArgs false
set_option linter.unusedVariables false
set_option maxRecDepth 100000
set_option maxHeartbeats 16000000
namespace Go.Proofs.YthhbkabdhkdafaaGreat
section
open Go.RowKit
def gcdL (v : List Int) : Nat := v.foldl (fun g x => Nat.gcd g x.natAbs) 0
theorem gcdL_snoc (l : List Int) (x : Int) : gcdL (l ++ [x]) = Nat.gcd (gcdL l) x.natAbs := by simp [gcdL]
theorem prm_list (v : List Int) (f : Int → Int) (k : Nat) (h : k < v.length) : ((v.take k).map f ++ v.drop k)[k]? = some v[k] ∧ ((v.take k).map f ++ v.drop k).set k (f v[k]) = (v.take (k + 1)).map f ++ v.drop (k + 1) := by
 have hl : ((v.take k).map f).length = k := by simp; omega
 refine ⟨?_, ?_⟩
 · rw [List.getElem?_append_right (by omega), hl, Nat.sub_self, List.getElem?_drop]; simp [h]
 · rw [List.take_succ_eq_append_getElem h, List.drop_eq_getElem_cons h, List.map_append, List.set_append_right _ _ (by omega), hl, Nat.sub_self, List.set_cons_zero]; simp
theorem div_bd {x : Int} {G : Nat} (hg : 0 < G) (hd : ((G : Nat) : Int) ∣ x) (hx : -1000000 ≤ x ∧ x ≤ 1000000) : -1000000 ≤ x / (G : Int) ∧ x / (G : Int) ≤ 1000000 := by
 obtain ⟨q, rfl⟩ := hd
 rw [Int.mul_ediv_cancel_left _ (by omega)]
 have h1 := Nat.le_mul_of_pos_left q.natAbs hg
 have h2 : ((G : Int) * q).natAbs = G * q.natAbs := by rw [Int.natAbs_mul]; rfl
 omega
theorem mxPrim_any (v : List Int) (h0 : 0 < v.length) (h9 : v.length ≤ 6) (hb : ∀ x ∈ v, -1000000 ≤ x ∧ x ≤ 1000000) (hg : 0 < gcdL v) (hdv : ∀ x ∈ v, ((gcdL v : Nat) : Int) ∣ x) (hgb : ∀ k, gcdL (v.take k) ≤ 1000000) (s : Value) (w : World) (h : IB w w.heap.size s v) : Calls Tryz.prog 276 #[s] w (ColPost w (primP v)) := by
 obtain ⟨A, n, c, rfl, ln, bn, mn⟩ := h.form
 subst ln
 have AM : Hid (∀ x ∈ v, ∀ W, Calls Tryz.prog 275 #[.int .i64 x] W (NumPost W (x.natAbs : Int))) := Lib.hid (fun x hx W => mxAmount_any x (by have := hb x hx; omega) W)
 have DV : Hid (∀ (a b : Nat), a ≤ 1000000 → b ≤ 1000000 → ∀ W, Calls Tryz.prog 340 #[.int .i64 (a : Int), .int .i64 (b : Int)] W (NumPost W (Nat.gcd a b : Int))) := Lib.hid (fun a b h1 h2 W => mxDivisor_any a b (by omega) (by omega) W)
 have HI := Lib.hid h
 have HB := Lib.hid (And.intro hb (And.intro hg (And.intro hdv hgb)))
 clear h hb hdv hgb
 go_enter Tryz.func276, Tryz.ntmps276
 go_upto_region 3 with fail
 go_loopw [3, 10] (fun s3 i wr => ∃ k : Nat, k ≤ v.length ∧ i = .int .i64 (k : Int) ∧ s3 = .int .i64 ((gcdL (v.take k) : Nat) : Int) ∧ Hid (Bw w wr)) (fun _ i _ => v.length - (intOf i).toNat)
 case atStart => exact ⟨0, by omega, rfl, rfl, Lib.hid (Bw.refl _)⟩
 case round =>
   obtain ⟨wo, hwo⟩ : ∃ wo, wo = wr := ⟨_, rfl⟩
   subst hwo
   obtain ⟨k, hk, rfl, rfl, HW⟩ := hrel
   by_cases hlt : k < v.length
   · have hlt' : (k : Int) < (v.length : Int) := by omega
     obtain ⟨ad, rfl, hb1, z1⟩ := (HI.out.bw HW.out).at_ hlt
     have hx := HB.out.1 _ (List.getElem_mem hlt)
     have C1 := Lib.hid (AM.out _ (List.getElem_mem hlt))
     have C2 := Lib.hid (DV.out (gcdL (v.take k)) v[k].natAbs (HB.out.2.2.2 k) (by omega))
     have HS : Hid (gcdL (v.take (k + 1)) = Nat.gcd (gcdL (v.take k)) v[k].natAbs) := Lib.hid (by rw [List.take_succ_eq_append_getElem hlt, gcdL_snoc])
     generalize v[k] = x at *
     generalize gcdL (v.take k) = g0 at *
     clear AM DV
     go_wp2_with (first
       | (go_at_call 275; go_must (refine (C1.out _).mono ?_; rintro e w1 ⟨rfl, hg1⟩; (have HG1 := Lib.hid hg1); clear hg1))
       | (go_at_call 340; go_must (refine (C2.out _).mono ?_; rintro e w2 ⟨rfl, hg2⟩; (have HG2 := Lib.hid (HG1.out.trans hg2)); clear hg2)))
     go_roundw
     case rel => exact ⟨k + 1, by omega, by go_num, by rw [HS.out], Lib.hid (HW.out.trans HG2.out)⟩
     case measure => simp [intOf]; omega
   · obtain rfl : k = v.length := by omega
     rw [List.take_of_length_le (Nat.le_refl _)] at *
     have CL := Lib.hid (clone_any A v.length c v wo (by unfold IsAt; exact (HI.out.bw HW.out).reads) rfl h0 (by omega))
     have hG := hg
     clear AM DV
     go_upto_region 9 with (go_at_call 29; go_must (refine CL.out.mono ?_; rintro e w1 ⟨g, cap, rfl, ho, hb1⟩; (have HO := Lib.hid (And.intro ho hb1)); clear ho hb1))
     generalize hGG : gcdL v = G at *
     go_loopw [23] (fun i wr => ∃ k : Nat, k ≤ v.length ∧ i = .int .i64 (k : Int) ∧ Hid (wr.ownsRow wo.heap.size 3 1 (.slice (some ⟨g, 0, none⟩) v.length cap) v.length (intVs ((v.take k).map (fun x => x / ((G : Nat) : Int)) ++ v.drop k)) ∧ Below wo.heap.size wo wr)) (fun i _ => v.length - (intOf i).toNat)
     case atStart => exact ⟨0, by omega, rfl, Lib.hid ⟨by simpa using HO.out.1, HO.out.2⟩⟩
     case round =>
       obtain ⟨wp, hwp⟩ : ∃ wp, wp = wr := ⟨_, rfl⟩
       subst hwp
       obtain ⟨k, hk, rfl, HR⟩ := hrel
       by_cases hlt : k < v.length
       · have hlt' : (k : Int) < (v.length : Int) := by omega
         have hx := HB.out.1 _ (List.getElem_mem hlt)
         have hd := HB.out.2.2.1 _ (List.getElem_mem hlt)
         have z1 : wp.cell? ⟨g, k, none⟩ = some (.int .i64 v[k]) := (HR.out.1.cellAt k (by omega)).trans (by
           rw [intVs, List.getElem?_map, (prm_list v (fun x => x / ((G : Nat) : Int)) k hlt).1]; rfl)
         have z2 := HR.out.1.frozenAt k
         have z3 := (HR.out.1.lt g rfl).2
         have HST : Hid ((intVs ((v.take k).map (fun x => x / ((G : Nat) : Int)) ++ v.drop k)).set k (.int .i64 (v[k] / ((G : Nat) : Int))) = intVs ((v.take (k + 1)).map (fun x => x / ((G : Nat) : Int)) ++ v.drop (k + 1))) := Lib.hid (by
           rw [← (prm_list v (fun x => x / ((G : Nat) : Int)) k hlt).2, intVs, intVs, List.map_set])
         have hq : (v[k]).tdiv ((G : Nat) : Int) = v[k] / ((G : Nat) : Int) := Int.tdiv_eq_ediv_of_dvd hd
         have hbq := div_bd hg hd hx
         generalize v[k] = x at *
         have w9 : IntKind.i64.wrap (x / (G : Int)) = x / (G : Int) := IntWalk.i64_in _ (by omega)
         have hgz : ((G : Int) == 0) = false := by simp; omega
         have hgz2 : ¬ ((G : Int) = 0) := by omega
         go_wp2_with fail
         have hst := HR.out.1.stored k (.int .i64 (x / (G : Int)))
         rw [HST.out] at hst
         exact ⟨⟨k + 1, by omega, by simp, Lib.hid ⟨hst.1, HR.out.2.setCell (p := ⟨g, k, none⟩) (HR.out.1.lt g rfl).1 _⟩⟩, by simp [intOf]; omega⟩
       · obtain rfl : k = v.length := by omega
         go_wp2_with fail
         go_ret
         have h1 := HR.out.1
         rw [List.take_of_length_le (Nat.le_refl _), List.drop_length, List.append_nil] at h1
         have hp : primP v = v.map (fun x => x / ((G : Nat) : Int)) := by unfold primP; rw [← hGG]; rfl
         have hl : (primP v).length = v.length := by rw [hp, List.length_map]
         unfold ColPost
         rw [hl, hp]
         exact ⟨_, _, rfl, own_base h1 HW.out.size, HW.out.trans HR.out.2⟩
theorem sfWeights1_any (x : Int) (h : 0 ≤ x ∧ x ≤ 1048576) (W : World) : Calls Tryz.prog 150 #[.int .i64 x] W (BoolPost W false) := by
 have d1 : decide (x < 0) = false := by simp; omega
 have d2 : decide ((1099511627776 : Int) < x) = false := by simp; omega
 go_enter Tryz.func150, Tryz.ntmps150
 go_wp2_with fail
 go_ret
 exact ⟨rfl, Bw.refl _⟩
theorem sfNumbers1_any (x : Int) (h : 0 ≤ x ∧ x ≤ 1048576) (W : World) : Calls Tryz.prog 151 #[.int .i64 x] W (BoolPost W false) := by
 have d1 : decide (x < 0) = false := by simp; omega
 have d2 : decide ((1048576 : Int) < x) = false := by simp; omega
 go_enter Tryz.func151, Tryz.ntmps151
 go_wp2_with fail
 go_ret
 exact ⟨rfl, Bw.refl _⟩
theorem sfWeights_any (l : List Int) (hl : ∀ x ∈ l, 0 ≤ x ∧ x ≤ 1048576) (s : Value) (w : World) (h : IB w w.heap.size s l) : Calls Tryz.prog 90 #[s] w (BoolPost w true) := by
 have CF := Lib.hid (contInt_any l (fun _ => false) 150 #[] (enters_of Tryz.func150 (by kernel_rfl) rfl) s w h (fun x hx _ W' _ _ => sfWeights1_any x (hl x hx) W'))
 rw [show l.any (fun _ => false) = false by simp] at CF
 obtain ⟨A, n, c, rfl, -, -, -⟩ := h.form
 clear h
 go_enter Tryz.func90, Tryz.ntmps90
 go_wp2_with (go_at_call 149; go_must (refine CF.out.mono ?_; rintro e w6 ⟨rfl, hg6⟩))
 go_ret
 exact ⟨rfl, hg6⟩
theorem sfNumbers_any (l : List Int) (hl : ∀ x ∈ l, 0 ≤ x ∧ x ≤ 1048576) (s : Value) (w : World) (h : IB w w.heap.size s l) : Calls Tryz.prog 91 #[s] w (BoolPost w true) := by
 have CF := Lib.hid (contInt_any l (fun _ => false) 151 #[] (enters_of Tryz.func151 (by kernel_rfl) rfl) s w h (fun x hx _ W' _ _ => sfNumbers1_any x (hl x hx) W'))
 rw [show l.any (fun _ => false) = false by simp] at CF
 obtain ⟨A, n, c, rfl, -, -, -⟩ := h.form
 clear h
 go_enter Tryz.func91, Tryz.ntmps91
 go_wp2_with (go_at_call 149; go_must (refine CF.out.mono ?_; rintro e w6 ⟨rfl, hg6⟩))
 go_ret
 exact ⟨rfl, hg6⟩
def dotS (y v : List Int) (i : Nat) : Int := ((List.range i).map fun i => y.getD i 0 * v.getD i 0).sum
theorem dotS_succ (y v : List Int) (i : Nat) : dotS y v (i + 1) = dotS y v i + y.getD i 0 * v.getD i 0 := by simp [dotS, List.range_succ]
theorem sfDot_any (y v : List Int) (hl : y.length = v.length) (h6 : y.length ≤ 6) (hy : ∀ x ∈ y, 0 ≤ x ∧ x ≤ 1048576) (hv : ∀ x ∈ v, 0 ≤ x ∧ x ≤ 1048576) (s1 s2 : Value) (w : World) (h1 : IB w w.heap.size s1 y) (h2 : IB w w.heap.size s2 v) : Calls Tryz.prog 92 #[s1, s2] w (NumPost w (dotI y v)) := by
 have HE := Lib.hid (dot_getD y v hl)
 have HT : Hid (∀ i, i < y.length → 0 ≤ y.getD i 0 * v.getD i 0 ∧ y.getD i 0 * v.getD i 0 ≤ 1099511627776) := Lib.hid (fun i hi => by
   have a := bd_getD hy hi
   have b := bd_getD hv (j := i) (by omega)
   exact ⟨Int.mul_nonneg a.1 b.1, by
     have := Int.mul_le_mul a.2 b.2 b.1 (by omega)
     simpa using this⟩)
 have HB : Hid (∀ i, i ≤ y.length → 0 ≤ dotS y v i ∧ dotS y v i ≤ i * 1099511627776) := Lib.hid (fun i => by
   induction i with
   | zero => intro _; simp [dotS]
   | succ i ih =>
     intro hi
     have a := ih (by omega)
     have b := HT.out i (by omega)
     rw [dotS_succ]
     omega)
 obtain ⟨A1, n1, c1, rfl, l1, -, -⟩ := h1.form
 obtain ⟨A2, n2, c2, rfl, l2, -, -⟩ := h2.form
 subst l1 l2
 have HI := Lib.hid (And.intro h1 h2)
 have HL := Lib.hid hl
 clear h1 h2 hl hy hv
 go_enter Tryz.func92, Tryz.ntmps92
 go_wp2_with fail
 go_loopw [5, 10] (fun s5 i wr => ∃ k : Nat, k ≤ y.length ∧ i = .int .i64 (k : Int) ∧ s5 = .int .i64 (dotS y v k) ∧ Hid (Bw w wr)) (fun _ i _ => y.length - (intOf i).toNat)
 case atStart => exact ⟨0, by omega, rfl, rfl, Lib.hid (Bw.refl _)⟩
 case round =>
   obtain ⟨wo, hwo⟩ : ∃ wo, wo = wr := ⟨_, rfl⟩
   subst hwo
   obtain ⟨k, hk, rfl, rfl, HW⟩ := hrel
   by_cases hlt : k < y.length
   · have hlt' : (k : Int) < (y.length : Int) := by omega
     have hkv : k < v.length := by have := HL.out; omega
     have hkv' : (k : Int) < (v.length : Int) := by omega
     obtain ⟨ad, rfl, hb, z1⟩ := (HI.out.1.bw HW.out).at_ hlt
     obtain ⟨ad2, rfl, hb2, z2⟩ := (HI.out.2.bw HW.out).at_ hkv
     have t := HT.out k hlt
     have b := HB.out k hk
     have HS := Lib.hid (dotS_succ y v k)
     have e1 : y.getD k 0 = y[k] := by simp [List.getD, hlt]
     have e2 : v.getD k 0 = v[k] := by simp [List.getD, hkv]
     rw [e1, e2] at t HS
     clear e1 e2
     generalize y[k] = p at *
     generalize v[k] = q at *
     generalize hS0 : dotS y v k = S0 at *
     clear hS0
     have w1 : IntKind.i64.wrap (p * q) = p * q := IntWalk.i64_in _ (by omega)
     have w2 : IntKind.i64.wrap (S0 + p * q) = S0 + p * q := IntWalk.i64_in _ (by omega)
     go_wp2_with fail
     go_roundw
     case rel => exact ⟨k + 1, by omega, by go_num, by rw [HS.out], HW⟩
     case measure => simp [intOf]; omega
   · obtain rfl : k = y.length := by omega
     go_wp2_with fail
     go_ret
     exact ⟨by rw [HE.out]; rfl, HW.out⟩
theorem sfValue_any (y v : List Int) (hl : y.length = v.length) (h6 : y.length ≤ 6) (hy : ∀ x ∈ y, 0 ≤ x ∧ x ≤ 1048576) (hv : ∀ x ∈ v, 0 ≤ x ∧ x ≤ 1048576) (s1 s2 : Value) (w : World) (h1 : IB w w.heap.size s1 y) (h2 : IB w w.heap.size s2 v) : Calls Tryz.prog 51 #[s1, s2] w (fun e w' => e = .returned (.tuple #[.int .i64 (dotI y v), .int .i64 0]) ∧ Bw w w') := by
 have CW : Hid (∀ W, Bw w W → Calls Tryz.prog 90 #[s1] W (BoolPost W true)) := Lib.hid (fun W g => sfWeights_any y hy s1 W (h1.bw g))
 have CN : Hid (∀ W, Bw w W → Calls Tryz.prog 91 #[s2] W (BoolPost W true)) := Lib.hid (fun W g => sfNumbers_any v hv s2 W (h2.bw g))
 have CD : Hid (∀ W, Bw w W → Calls Tryz.prog 92 #[s1, s2] W (NumPost W (dotI y v))) := Lib.hid (fun W g => sfDot_any y v hl h6 hy hv s1 s2 W (h1.bw g) (h2.bw g))
 obtain ⟨A1, n1, c1, rfl, l1, -, -⟩ := h1.form
 obtain ⟨A2, n2, c2, rfl, l2, -, -⟩ := h2.form
 obtain rfl : n1 = n2 := by omega
 have hn6 : ¬ ((6 : Int) < (n1 : Int)) := by omega
 have hn7 : ((n1 : Int) != (n1 : Int)) = false := by simp
 generalize dotI y v = r at *
 clear h1 h2 hl hy hv l1 l2
 go_enter Tryz.func51, Tryz.ntmps51
 go_wp2_with (first
   | (go_at_call 90; go_must (refine (CW.out _ (Bw.refl _)).mono ?_; rintro e w1 ⟨rfl, hg1⟩; (have HG1 := Lib.hid hg1); clear hg1))
   | (go_at_call 91; go_must (refine (CN.out _ HG1.out).mono ?_; rintro e w2 ⟨rfl, hg2⟩; (have HG2 := Lib.hid (HG1.out.trans hg2)); clear hg2))
   | (go_at_call 92; go_must (refine (CD.out _ HG2.out).mono ?_; rintro e w3 ⟨rfl, hg3⟩; (have HG3 := Lib.hid (HG2.out.trans hg3)); clear hg3)))
 go_ret2
 exact ⟨rfl, HG3.out⟩
theorem sfCheck_any (rs : List (List Int)) (n k : Nat) (ho : MxOk rs n k) (v : Value) (w : World) (h : MxAt w (· < w.heap.size) v rs) : Calls Tryz.prog 88 #[v] w (NumPost w 0) := by
 have CK := Lib.hid (mxCheck_any rs n k ho v w h)
 obtain ⟨A, c, rfl, -, -⟩ := h.form
 have n6 := ho.n1
 have hl := ho.ln
 have hn : ¬ ((6 : Int) < (rs.length : Int)) := by omega
 clear h hl
 go_enter Tryz.func88, Tryz.ntmps88
 go_wp2_with (go_at_call 145; go_must (refine CK.out.mono ?_; rintro e w1 ⟨rfl, hg1⟩))
 go_ret
 exact ⟨rfl, hg1⟩
theorem rletter_any (c : UInt8) (w : World) : Calls Tryz.prog 176 #[.int .u8 (c.toNat : Int)] w fun e w' => e = .returned (.bool (partB c)) ∧ w = w' := by
 go_enter Tryz.func176, Tryz.ntmps176
 go_wp2
 all_goals (go_ret; exact ⟨ret_bool (by rw [Bool.eq_iff_iff]; simp [partB, letterB, digitB]; omega), rfl⟩)

theorem wordL_false {s : ByteArray} (h : runL partB s.data.toList ≠ s.size) : wordL s.data.toList = false := by
 rw [wordL_eq]; simp [h]

theorem rword_any (s : ByteArray) (w : World) (hs : s.size ≤ 9223372036854775807) :
   Calls Tryz.prog 108 #[.string s] w fun e w' => e = .returned (.bool (wordL s.data.toList)) ∧ w = w' := by
 have hle := runL_le partB s.data.toList
 have hsz : s.data.toList.length = s.size := by simp
 go_enter Tryz.func108, Tryz.ntmps108
 go_wp2
 go_loop [3] (fun i => ∃ k : Nat, k ≤ runL partB s.data.toList ∧ i = .int .i64 k) (fun i => s.size - (intOf i).toNat)
 case atStart => exact ⟨0, Nat.zero_le _, rfl⟩
 case round =>
   obtain ⟨k, hk, rfl⟩ := hrel
   by_cases hlt : k < s.size
   · rcases hp : partB s.data.toList[k] with _ | _
     all_goals
       have HP := Lib.hid hp
       clear hp
     · go_wp2_with (go_at_call 176; go_must (refine (rletter_any s[k] _).mono ?_; rintro e w' ⟨rfl, rfl⟩; rw [show partB s[k] = false from HP.out]))
       go_ret
       exact ⟨ret_bool (wordL_false (by rw [runL_eq hk (by omega) HP.out]; omega)).symm, rfl⟩
     · go_wp2_with (go_at_call 176; refine (rletter_any s[k] _).mono ?_; rintro e w' ⟨rfl, rfl⟩; rw [show partB s[k] = true from HP.out])
       go_round
       case rel => exact ⟨k + 1, runL_lt hk (by omega) HP.out, by go_num⟩
       case measure => simp [intOf]; omega
   · have hr : runL partB s.data.toList = s.size := by omega
     have HR := Lib.hid hr
     clear hr
     by_cases h0 : 1 ≤ s.size
     · have hpos : 0 < s.size := by omega
       have hd : s.data.toList.headD 0 = s[0] := by
         rw [List.headD_eq_head?_getD, List.head?_eq_getElem?, List.getElem?_eq_getElem (by omega)]; rfl
       have HF : Hid (wordL s.data.toList = (decide (s.size ≤ 12) && letterB s[0])) := Lib.hid (by rw [wordL_eq, hd, HR.out, decide_eq_true (p := s.size ≠ 0) (by omega), decide_eq_true (p := s.size = s.size) rfl]; simp)
       clear hd
       go_wp2
       all_goals (go_ret; exact ⟨ret_bool (by rw [HF.out, Bool.eq_iff_iff]; simp [letterB]; omega), rfl⟩)
     · have HF : Hid (wordL s.data.toList = false) := Lib.hid (by rw [wordL_eq, show s.size = 0 from by omega]; simp)
       go_wp2
       go_ret
       exact ⟨ret_bool HF.out.symm, rfl⟩
end
end Go.Proofs.YthhbkabdhkdafaaGreat
