/- Part of a proof of pruneKeeps_holds. -/
import Derived.Test.YthhbkabdhkdafaaGreatVBfP
import Derived.Test.YthhbkabdhkdafaaGreatVAyP
import Derived.Test.YthhbkabdhkdafaaGreatVBgP
set_option linter.unusedSimpArgs false
set_option linter.unusedVariables false
set_option maxRecDepth 100000
set_option maxHeartbeats 16000000
namespace Go.Proofs.YthhbkabdhkdafaaGreat
section
open Go.RowKit
theorem sfWeights1_any (x : Int) (h : 0 ≤ x ∧ x ≤ 1048576) (W : World) : Calls Tryz.prog 150 #[.int .i64 x] W (BoolPost W false) := by
 have d1 : decide (x < 0) = false := by simp; omega
 have d2 : decide ((1099511627776 : Int) < x) = false := by simp; omega
 go_enter Tryz.func150, Tryz.ntmps150
 go_wp2_with fail
 go_ret
 exact ⟨rfl, Bw.refl _⟩
theorem sfNumbers1_any (x : Int) (h : 0 ≤ x ∧ x ≤ 1048576) (W : World) : Calls Tryz.prog 151 #[.int .i64 x] W (BoolPost W false) := by
 have d1 : decide (x < 0) = false := by simp; omega
 have d2 : decide ((1048576 : Int) < x) = false := by simp; omega
 go_enter Tryz.func151, Tryz.ntmps151
 go_wp2_with fail
 go_ret
 exact ⟨rfl, Bw.refl _⟩
theorem sfWeights_any (l : List Int) (hl : ∀ x ∈ l, 0 ≤ x ∧ x ≤ 1048576) (s : Value) (w : World) (h : IB w w.heap.size s l) : Calls Tryz.prog 90 #[s] w (BoolPost w true) := by
 have CF := Lib.hid (contInt_any l (fun _ => false) 150 #[] (enters_of Tryz.func150 (by kernel_rfl) rfl) s w h (fun x hx _ W' _ _ => sfWeights1_any x (hl x hx) W'))
 rw [show l.any (fun _ => false) = false by simp] at CF
 obtain ⟨A, n, c, rfl, -, -, -⟩ := h.form
 clear h
 go_enter Tryz.func90, Tryz.ntmps90
 go_wp2_with (go_at_call 149; go_must (refine CF.out.mono ?_; rintro e w6 ⟨rfl, hg6⟩))
 go_ret
 exact ⟨rfl, hg6⟩
theorem sfNumbers_any (l : List Int) (hl : ∀ x ∈ l, 0 ≤ x ∧ x ≤ 1048576) (s : Value) (w : World) (h : IB w w.heap.size s l) : Calls Tryz.prog 91 #[s] w (BoolPost w true) := by
 have CF := Lib.hid (contInt_any l (fun _ => false) 151 #[] (enters_of Tryz.func151 (by kernel_rfl) rfl) s w h (fun x hx _ W' _ _ => sfNumbers1_any x (hl x hx) W'))
 rw [show l.any (fun _ => false) = false by simp] at CF
 obtain ⟨A, n, c, rfl, -, -, -⟩ := h.form
 clear h
 go_enter Tryz.func91, Tryz.ntmps91
 go_wp2_with (go_at_call 149; go_must (refine CF.out.mono ?_; rintro e w6 ⟨rfl, hg6⟩))
 go_ret
 exact ⟨rfl, hg6⟩
def dotS (y v : List Int) (i : Nat) : Int := ((List.range i).map fun i => y.getD i 0 * v.getD i 0).sum
theorem dotS_succ (y v : List Int) (i : Nat) : dotS y v (i + 1) = dotS y v i + y.getD i 0 * v.getD i 0 := by simp [dotS, List.range_succ]
theorem sfDot_any (y v : List Int) (hl : y.length = v.length) (h6 : y.length ≤ 6) (hy : ∀ x ∈ y, 0 ≤ x ∧ x ≤ 1048576) (hv : ∀ x ∈ v, 0 ≤ x ∧ x ≤ 1048576) (s1 s2 : Value) (w : World) (h1 : IB w w.heap.size s1 y) (h2 : IB w w.heap.size s2 v) : Calls Tryz.prog 92 #[s1, s2] w (NumPost w (dotI y v)) := by
 have HE := Lib.hid (dot_getD y v hl)
 have HT : Hid (∀ i, i < y.length → 0 ≤ y.getD i 0 * v.getD i 0 ∧ y.getD i 0 * v.getD i 0 ≤ 1099511627776) := Lib.hid (fun i hi => by
   have a := bd_getD hy hi
   have b := bd_getD hv (j := i) (by omega)
   exact ⟨Int.mul_nonneg a.1 b.1, by
     have := Int.mul_le_mul a.2 b.2 b.1 (by omega)
     simpa using this⟩)
 have HB : Hid (∀ i, i ≤ y.length → 0 ≤ dotS y v i ∧ dotS y v i ≤ i * 1099511627776) := Lib.hid (fun i => by
   induction i with
   | zero => intro _; simp [dotS]
   | succ i ih =>
     intro hi
     have a := ih (by omega)
     have b := HT.out i (by omega)
     rw [dotS_succ]
     omega)
 obtain ⟨A1, n1, c1, rfl, l1, -, -⟩ := h1.form
 obtain ⟨A2, n2, c2, rfl, l2, -, -⟩ := h2.form
 subst l1 l2
 have HI := Lib.hid (And.intro h1 h2)
 have HL := Lib.hid hl
 clear h1 h2 hl hy hv
 go_enter Tryz.func92, Tryz.ntmps92
 go_wp2_with fail
 go_loopw [5, 10] (fun s5 i wr => ∃ k : Nat, k ≤ y.length ∧ i = .int .i64 (k : Int) ∧ s5 = .int .i64 (dotS y v k) ∧ Hid (Bw w wr)) (fun _ i _ => y.length - (intOf i).toNat)
 case atStart => exact ⟨0, by omega, rfl, rfl, Lib.hid (Bw.refl _)⟩
 case round =>
   obtain ⟨wo, hwo⟩ : ∃ wo, wo = wr := ⟨_, rfl⟩
   subst hwo
   obtain ⟨k, hk, rfl, rfl, HW⟩ := hrel
   by_cases hlt : k < y.length
   · have hlt' : (k : Int) < (y.length : Int) := by omega
     have hkv : k < v.length := by have := HL.out; omega
     have hkv' : (k : Int) < (v.length : Int) := by omega
     obtain ⟨ad, rfl, hb, z1⟩ := (HI.out.1.bw HW.out).at_ hlt
     obtain ⟨ad2, rfl, hb2, z2⟩ := (HI.out.2.bw HW.out).at_ hkv
     have t := HT.out k hlt
     have b := HB.out k hk
     have HS := Lib.hid (dotS_succ y v k)
     have e1 : y.getD k 0 = y[k] := by simp [List.getD, hlt]
     have e2 : v.getD k 0 = v[k] := by simp [List.getD, hkv]
     rw [e1, e2] at t HS
     clear e1 e2
     generalize y[k] = p at *
     generalize v[k] = q at *
     generalize hS0 : dotS y v k = S0 at *
     clear hS0
     have w1 : IntKind.i64.wrap (p * q) = p * q := IntWalk.i64_in _ (by omega)
     have w2 : IntKind.i64.wrap (S0 + p * q) = S0 + p * q := IntWalk.i64_in _ (by omega)
     go_wp2_with fail
     go_roundw
     case rel => exact ⟨k + 1, by omega, by go_num, by rw [HS.out], HW⟩
     case measure => simp [intOf]; omega
   · obtain rfl : k = y.length := by omega
     go_wp2_with fail
     go_ret
     exact ⟨by rw [HE.out]; rfl, HW.out⟩
theorem sfValue_any (y v : List Int) (hl : y.length = v.length) (h6 : y.length ≤ 6) (hy : ∀ x ∈ y, 0 ≤ x ∧ x ≤ 1048576) (hv : ∀ x ∈ v, 0 ≤ x ∧ x ≤ 1048576) (s1 s2 : Value) (w : World) (h1 : IB w w.heap.size s1 y) (h2 : IB w w.heap.size s2 v) : Calls Tryz.prog 51 #[s1, s2] w (fun e w' => e = .returned (.tuple #[.int .i64 (dotI y v), .int .i64 0]) ∧ Bw w w') := by
 have CW : Hid (∀ W, Bw w W → Calls Tryz.prog 90 #[s1] W (BoolPost W true)) := Lib.hid (fun W g => sfWeights_any y hy s1 W (h1.bw g))
 have CN : Hid (∀ W, Bw w W → Calls Tryz.prog 91 #[s2] W (BoolPost W true)) := Lib.hid (fun W g => sfNumbers_any v hv s2 W (h2.bw g))
 have CD : Hid (∀ W, Bw w W → Calls Tryz.prog 92 #[s1, s2] W (NumPost W (dotI y v))) := Lib.hid (fun W g => sfDot_any y v hl h6 hy hv s1 s2 W (h1.bw g) (h2.bw g))
 obtain ⟨A1, n1, c1, rfl, l1, -, -⟩ := h1.form
 obtain ⟨A2, n2, c2, rfl, l2, -, -⟩ := h2.form
 obtain rfl : n1 = n2 := by omega
 have hn6 : ¬ ((6 : Int) < (n1 : Int)) := by omega
 have hn7 : ((n1 : Int) != (n1 : Int)) = false := by simp
 generalize dotI y v = r at *
 clear h1 h2 hl hy hv l1 l2
 go_enter Tryz.func51, Tryz.ntmps51
 go_wp2_with (first
   | (go_at_call 90; go_must (refine (CW.out _ (Bw.refl _)).mono ?_; rintro e w1 ⟨rfl, hg1⟩; (have HG1 := Lib.hid hg1); clear hg1))
   | (go_at_call 91; go_must (refine (CN.out _ HG1.out).mono ?_; rintro e w2 ⟨rfl, hg2⟩; (have HG2 := Lib.hid (HG1.out.trans hg2)); clear hg2))
   | (go_at_call 92; go_must (refine (CD.out _ HG2.out).mono ?_; rintro e w3 ⟨rfl, hg3⟩; (have HG3 := Lib.hid (HG2.out.trans hg3)); clear hg3)))
 go_ret2
 exact ⟨rfl, HG3.out⟩
theorem sfCheck_any (rs : List (List Int)) (n k : Nat) (ho : MxOk rs n k) (v : Value) (w : World) (h : MxAt w (· < w.heap.size) v rs) : Calls Tryz.prog 88 #[v] w (NumPost w 0) := by
 have CK := Lib.hid (mxCheck_any rs n k ho v w h)
 obtain ⟨A, c, rfl, -, -⟩ := h.form
 have n6 := ho.n1
 have hl := ho.ln
 have hn : ¬ ((6 : Int) < (rs.length : Int)) := by omega
 clear h hl
 go_enter Tryz.func88, Tryz.ntmps88
 go_wp2_with (go_at_call 145; go_must (refine CK.out.mono ?_; rintro e w1 ⟨rfl, hg1⟩))
 go_ret
 exact ⟨rfl, hg1⟩
theorem r6Valid_of (t : T) (hof : rightP 8 t = true → OfSays t (oneP 8 t)) (v : V) (rv pv s : Value) (w : World) (hT : TB w w.heap.size rv pv t) (h : KB w w.heap.size s v.ks) (b : Bool) (hb : validP t v = b) :
   Calls Tryz.prog 42 #[.agg #[.int .i64 t.kind, .int .i64 t.size, rv, pv], .agg #[.int .i64 v.n, s]] w (BoolPost w b) := by
 subst hb
 obtain ⟨A, n, c, rfl, ln, bn, mn⟩ := h.form
 obtain ⟨A1, rn, c1, rfl, _, _⟩ := hT.1.form'
 obtain ⟨A2, pn, c2, rfl, _, _, _⟩ := hT.2.form
 have CK : Hid (∀ W, Bw w W → Calls Tryz.prog 73 #[.agg #[.int .i64 t.kind, .int .i64 t.size, .slice A1 rn c1, .slice A2 pn c2]] W (NumPost W (if rightP 8 t then 0 else 6))) := Lib.hid (fun W g => r6check_any t _ _ W (TAt.bw hT g) _ rfl)
 have SZ : Hid (∀ W, Bw w W → Calls Tryz.prog 74 #[.agg #[.int .i64 v.n, .slice A n c], .int .i64 128] W (NumPost W (cntI v 128))) := Lib.hid (fun W g => r6sz_any v _ W 128 (by omega) (by omega) (h.bw g))
 have ON : Hid (rightP 8 t = true → ∀ W, Bw w W → Calls Tryz.prog 75 #[.agg #[.int .i64 t.kind, .int .i64 t.size, .slice A1 rn c1, .slice A2 pn c2], .agg #[.int .i64 v.n, .slice A n c]] W (BoolPost W (oneP 8 t v))) := Lib.hid (fun hr W g => hof hr v _ _ _ W (TAt.bw hT g) (h.bw g))
 have TX := Lib.hid (tvb (w := w) (kd := t.kind) (z := t.size) (x := v.n) (r := .slice A1 rn c1) (p := .slice A2 pn c2) (s := .slice A n c))
 unfold validP
 clear h hT ln hof
 generalize hq : oneP 8 t v = q at *
 clear hq
 have hsz : decide (v.size ≤ 128) = decide (cntI v 128 ≤ 128) := by rw [Bool.eq_iff_iff]; unfold cntI; simp; omega
 rw [hsz]
 have hm1 : cntI v 128 ≤ 129 := by unfold cntI; omega
 generalize cntI v 128 = m at *
 clear hsz
 generalize v.n = x at *
 generalize t.kind = kd at *
 generalize t.size = z at *
 rcases hr : rightP 8 t with _ | _
 · rw [hr] at CK
   simp only [Bool.false_eq_true, if_false] at CK
   clear hr ON SZ
   go_enter Tryz.func42, Tryz.ntmps42
   go_wp2_with (go_at_call 73; go_must (refine (CK.out _ TX.out.1).mono ?_; rintro e w6 ⟨rfl, hg6⟩; (have HG6 := Lib.hid hg6); clear hg6))
   go_ret
   exact ⟨rfl, TX.out.1.trans HG6.out⟩
 · rw [hr] at CK ON
   simp only [if_true] at CK
   have ON2 := Lib.hid (ON.out rfl)
   clear hr ON
   by_cases h2 : m ≤ 128
   · have d2 : decide (m ≤ 128) = true := by simpa using h2
     have HF : Hid ((true && decide (m ≤ 128) && q) = q) := Lib.hid (by rw [d2]; rfl)
     go_enter Tryz.func42, Tryz.ntmps42
     go_wp2_with (first | (go_at_call 73; go_must (refine (CK.out _ TX.out.1).mono ?_; rintro e w6 ⟨rfl, hg6⟩; (have HG6 := Lib.hid hg6); (obtain ⟨y0, -, y1, y2, y3, y4, y5, y6⟩ := TX.out.2 _ hg6); clear hg6)) | (go_at_call 74; go_must (refine (SZ.out _ (TX.out.1.trans HG6.out)).mono ?_; rintro e w7 ⟨rfl, hg7⟩; (have HG7 := Lib.hid (HG6.out.trans hg7)); (obtain ⟨u0, -, u1, u2, u3, u4, u5, u6⟩ := TX.out.2 _ HG7.out); clear hg7)) | (go_at_call 75; go_must (refine (ON2.out _ (TX.out.1.trans HG7.out)).mono ?_; rintro e w8 ⟨rfl, hg8⟩; (have HG8 := Lib.hid hg8); clear hg8)))
     go_ret
     exact ⟨ret_bool (by first | rfl | exact HF.out.symm), TX.out.1.trans (HG7.out.trans HG8.out)⟩
   · have d2 : decide (m ≤ 128) = false := by simpa using h2
     have HF : Hid ((true && decide (m ≤ 128) && q) = false) := Lib.hid (by rw [d2]; rfl)
     go_enter Tryz.func42, Tryz.ntmps42
     go_wp2_with (first | (go_at_call 73; go_must (refine (CK.out _ TX.out.1).mono ?_; rintro e w6 ⟨rfl, hg6⟩; (have HG6 := Lib.hid hg6); (obtain ⟨y0, -, y1, y2, y3, y4, y5, y6⟩ := TX.out.2 _ hg6); clear hg6)) | (go_at_call 74; go_must (refine (SZ.out _ (TX.out.1.trans HG6.out)).mono ?_; rintro e w7 ⟨rfl, hg7⟩; (have HG7 := Lib.hid (HG6.out.trans hg7)); clear hg7)))
     go_ret
     exact ⟨ret_bool (by first | rfl | exact HF.out.symm), TX.out.1.trans HG7.out⟩
theorem typF_parts {n k : Nat} {p : T} (h : p ∈ (typF n k).parts) : p = labT n ∨ p = natT := by
 rw [typF, T.parts_mk] at h
 rcases List.mem_cons.1 h with h | h
 · exact .inl h
 · exact .inr (List.eq_of_mem_replicate h)
theorem r6of_flat (n k : Nat) : OfSays (typF n k) (oneP 8 (typF n k)) := by
 refine (r6of_k3 (typF n k) (oneP 7) rfl fun p hp => ?_).of_eq fun v => by
   rw [oneP.eq_2 (d := 7)]
   simp only [typF, T.kind_mk, T.parts_mk, show ¬ ((3 : Int) = 1) by decide, show ¬ ((3 : Int) = 2) by decide, if_false, if_true]
   rfl
 rcases typF_parts hp with rfl | rfl
 · exact (r6of_k2 (labT n) rfl).of_eq fun v => rfl
 · exact (r6of_k1 natT rfl).of_eq fun v => rfl
theorem r6ValidM (m : Mdl) (v : V) (rv pv s : Value) (w : World) (hT : TB w w.heap.size rv pv m.t) (h : KB w w.heap.size s v.ks) (b : Bool) (hb : validP m.t v = b) :
   Calls Tryz.prog 42 #[.agg #[.int .i64 m.t.kind, .int .i64 m.t.size, rv, pv], .agg #[.int .i64 v.n, s]] w (BoolPost w b) := r6Valid_of m.t (fun _ => r6of_flat _ _) v rv pv s w hT h b hb
end
end Go.Proofs.YthhbkabdhkdafaaGreat
