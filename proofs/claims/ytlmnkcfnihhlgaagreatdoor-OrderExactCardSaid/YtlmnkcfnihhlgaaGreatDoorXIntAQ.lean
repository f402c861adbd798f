/- Part of a proof of orderExact_card. -/
import Derived.Test.YtlmnkcfnihhlgaaGreatDoorXAppAQ
import Derived.Lib.AppendZerosOnto
import Derived.Lib.RowBridge
set_option maxRecDepth 100000
set_option maxHeartbeats 16000000
namespace Go.Proofs.YtlmnkcfnihhlgaaGreatDoor
open Go.RowKit
set_option linter.unusedSimpArgs false
set_option linter.unusedVariables false
def lvs (l : List Int) : List V := l.map fun n => .mk n []
def wdV (l : List Int) : V := .mk 0 (lvs l)
theorem lvs_len (l : List Int) : (lvs l).length = l.length := by simp [lvs]
theorem leaf_cmp (x y : Int) : cmpV (.mk x []) (.mk y []) = Lib.compareInt x y := by
 unfold Lib.compareInt
 simp only [cmpV, List.length_nil, Nat.lt_irrefl, if_false, cmpL]
theorem lvs_get {l : List Int} {k : Nat} (h : k < (lvs l).length) : (lvs l)[k] = .mk (l[k]'(by rwa [lvs_len] at h)) [] := by simp [lvs]
theorem cmpI_step {a b : List Int} {k : Nat} (h1 : k < a.length) (h2 : k < b.length) : cmpL ((lvs a).drop k) ((lvs b).drop k) = if Lib.compareInt a[k] b[k] = 0 then cmpL ((lvs a).drop (k + 1)) ((lvs b).drop (k + 1)) else Lib.compareInt a[k] b[k] := by
 have := cmpL_step (ks := lvs a) (js := lvs b) (k := k) (by rwa [lvs_len]) (by rwa [lvs_len])
 rw [this, lvs_get, lvs_get, leaf_cmp]
theorem cmpInts_any (a b : List Int) (s1 s2 : Value) (w : World) (h1 : IB w w.heap.size s1 a) (h2 : IB w w.heap.size s2 b) :
   Calls Tryz.prog 145 #[s1, s2] w fun e w' => e = .returned (.int .i64 (cmpL (lvs a) (lvs b))) ∧ w = w' := by
 obtain ⟨A1, n1, c1, rfl, l1, b1, m1, f1⟩ := h1
 obtain ⟨A2, n2, c2, rfl, l2, b2, m2, f2⟩ := h2
 unfold maxLen at m1 m2
 have F1 := Lib.hid f1
 have F2 := Lib.hid f2
 have L1 := Lib.hid l1
 have L2 := Lib.hid l2
 clear f1 f2 l1 l2
 have C1 : Hid (∀ x y : Int, ∀ W, Calls Tryz.prog 49 #[.int .i64 x, .int .i64 y] W fun e w' => e = .returned (.int .i64 (Lib.compareInt x y)) ∧ W = w') := Lib.hid (fun x y W => (Tryz.cmp_Compare_int x y W).mono fun _ _ h => ⟨h.1, h.2.symm⟩)
 go_enter Tryz.func145, Tryz.ntmps145
 go_wp2
 go_loop [11] (fun i => ∃ k : Nat, k ≤ n1 ∧ k ≤ n2 ∧ i = .int .i64 k ∧ Hid (cmpL (lvs a) (lvs b) = cmpL ((lvs a).drop k) ((lvs b).drop k))) (fun i => n1 - (intOf i).toNat)
 case atStart => exact ⟨0, by omega, by omega, rfl, Lib.hid rfl⟩
 case round =>
   obtain ⟨k, hk1, hk2, rfl, HR⟩ := hrel
   by_cases hlt : k < n1
   · have e1 : k < a.length := by rw [L1.out]; exact hlt
     obtain ⟨ad, rfl, hb, hq⟩ := F1.out (by omega)
     have q0 := hq k e1
     clear hq hb
     by_cases hlt2 : k < n2
     · have e2 : k < b.length := by rw [L2.out]; exact hlt2
       obtain ⟨ad2, rfl, hb', hq'⟩ := F2.out (by omega)
       have q1 := hq' k e2
       clear hq' hb'
       have d1 : decide (n2 ≤ k) = false := by simp; omega
       have HCC : Hid (cmpL (lvs a) (lvs b) = if Lib.compareInt a[k] b[k] = 0 then cmpL ((lvs a).drop (k + 1)) ((lvs b).drop (k + 1)) else Lib.compareInt a[k] b[k]) := Lib.hid (by rw [HR.out]; exact cmpI_step e1 e2)
       have CI := Lib.hid (C1.out a[k] b[k])
       clear HR
       generalize a[k] = x at *
       generalize b[k] = y at *
       generalize hr : Lib.compareInt x y = r at *
       clear hr
       by_cases hr0 : r = 0
       · have d2 : (r == 0) = true := by simpa using hr0
         have d3 : (!(r == 0)) = false := by simp [d2]
         have HC2 : Hid (cmpL (lvs a) (lvs b) = cmpL ((lvs a).drop (k + 1)) ((lvs b).drop (k + 1))) := Lib.hid (by have := HCC.out; rwa [if_pos hr0] at this)
         clear hr0 HCC
         go_wp2_with (go_at_call 49; go_must (refine (CI.out _).mono ?_; rintro e w6 ⟨rfl, rfl⟩))
         go_round
         case rel => exact ⟨k + 1, by omega, by omega, by go_num, HC2⟩
         case measure => simp [intOf]; omega
       · have d2 : (r == 0) = false := by simpa using hr0
         have d3 : (!(r == 0)) = true := by simp [d2]
         have HC2 : Hid (cmpL (lvs a) (lvs b) = r) := Lib.hid (by have := HCC.out; rwa [if_neg hr0] at this)
         clear hr0 HCC
         go_wp2_with (go_at_call 49; go_must (refine (CI.out _).mono ?_; rintro e w6 ⟨rfl, rfl⟩))
         go_ret
         exact ⟨ret_int HC2.out.symm, rfl⟩
     · have d1 : decide (n2 ≤ k) = true := by simp; omega
       have HC2 : Hid (cmpL (lvs a) (lvs b) = 1) := Lib.hid (by rw [HR.out]; exact cmpL_over (by rw [lvs_len]; exact e1) (by rw [lvs_len]; have := L2.out; omega))
       clear HR
       generalize a[k] = x at *
       go_wp2
       go_ret
       exact ⟨ret_int HC2.out.symm, rfl⟩
   · obtain rfl : k = n1 := by omega
     have HC2 : Hid (cmpL (lvs a) (lvs b) = if k < n2 then -1 else 0) := Lib.hid (by rw [HR.out, cmpL_end (by rw [lvs_len]; exact L1.out), lvs_len, lvs_len, L1.out, L2.out])
     clear HR
     by_cases hlt2 : k < n2
     · have d1 : decide (k < n2) = true := by simp; omega
       go_wp2
       go_ret
       exact ⟨ret_int (by rw [HC2.out, if_pos hlt2]), rfl⟩
     · have d1 : decide (k < n2) = false := by simp; omega
       go_wp2
       go_ret
       exact ⟨ret_int (by rw [HC2.out, if_neg hlt2]), rfl⟩
def or2 (a b : Int) : Int := if a = 0 then b else a
theorem wd_cmp (a b : List Int) : cmpV (wdV a) (wdV b) = or2 (Lib.compareInt a.length b.length) (cmpL (lvs a) (lvs b)) := by
 rw [cmpV_or]
 unfold or3 or2 wdV
 simp only [V.n_mk, V.ks_mk, lvs_len]
 rw [if_pos (by unfold Lib.compareInt; simp)]
theorem or2_any (a b : Int) (g : Nat) (w : World) (hg : Blk w g 3 #[.int .i64 a, .int .i64 b]) :
   Calls Tryz.prog 48 #[.slice (some ⟨g, 0, none⟩) 2 2] w fun e w' => e = .returned (.int .i64 (or2 a b)) ∧ w = w' := by
 have q0 := hg.cell 0
 have q1 := hg.cell 1
 clear hg
 go_enter Tryz.func48, Tryz.ntmps48
 go_wp2
 go_loop [8] (fun i => ∃ k : Nat, k ≤ 2 ∧ i = .int .i64 k ∧ Hid ((0 < k → a = 0) ∧ (1 < k → b = 0))) (fun i => 2 - (intOf i).toNat)
 case atStart => exact ⟨0, by omega, rfl, Lib.hid ⟨by omega, by omega⟩⟩
 case round =>
   obtain ⟨k, hk, rfl, HR⟩ := hrel
   by_cases hlt : k < 2
   · obtain ⟨x, hx, hxe⟩ : ∃ x, w.cell? ⟨g, k, none⟩ = some (.int .i64 x) ∧ ((k = 0 ∧ x = a) ∨ (k = 1 ∧ x = b)) := by
       have : k = 0 ∨ k = 1 := by omega
       rcases this with rfl | rfl
       · exact ⟨a, q0, .inl ⟨rfl, rfl⟩⟩
       · exact ⟨b, q1, .inr ⟨rfl, rfl⟩⟩
     have HX := Lib.hid hxe
     clear hxe q0 q1
     by_cases hx0 : x = 0
     · have d1 : (x == 0) = true := by simpa using hx0
       have HX0 := Lib.hid hx0
       clear hx0
       go_wp2
       go_round
       case rel =>
         have := HR.out; have := HX.out; have := HX0.out
         exact ⟨k + 1, by omega, by go_num, Lib.hid ⟨by omega, by omega⟩⟩
       case measure => simp [intOf]; omega
     · have d1 : (x == 0) = false := by simpa using hx0
       have HX0 := Lib.hid hx0
       clear hx0
       go_wp2
       go_ret
       refine ⟨ret_int ?_, rfl⟩
       have h1 := HR.out; have h2 := HX.out; have h3 := HX0.out
       unfold or2
       rcases h2 with ⟨rfl, rfl⟩ | ⟨rfl, rfl⟩
       · rw [if_neg h3]
       · rw [if_pos (h1.1 (by omega))]
   · obtain rfl : k = 2 := by omega
     go_wp2
     go_ret
     refine ⟨ret_int ?_, rfl⟩
     have h1 := HR.out
     unfold or2
     rw [if_pos (h1.1 (by omega)), h1.2 (by omega)]
theorem wCompare_any (a b : List Int) (s1 s2 : Value) (w : World) (h1 : IB w w.heap.size s1 a) (h2 : IB w w.heap.size s2 b) :
   Calls Tryz.prog 117 #[s1, s2] w (IntPost w (cmpV (wdV a) (wdV b))) := by
 rw [wd_cmp]
 obtain ⟨A1, n1, c1, rfl, l1, b1, m1⟩ := h1.form
 obtain ⟨A2, n2, c2, rfl, l2, b2, m2⟩ := h2.form
 unfold maxLen at m1 m2
 have CF : Hid (∀ W, Gr w W → Calls Tryz.prog 145 #[.slice A1 n1 c1, .slice A2 n2 c2] W fun e w' => e = .returned (.int .i64 (cmpL (lvs a) (lvs b))) ∧ W = w') := Lib.hid (fun W hg => cmpInts_any _ _ _ _ _ (h1.gr hg) (h2.gr hg))
 rw [l1, l2]
 clear h1 h2 l1 l2
 generalize cmpL (lvs a) (lvs b) = r at *
 have C2 : Hid (∀ W, Calls Tryz.prog 49 #[.int .i64 (n1 : Int), .int .i64 (n2 : Int)] W fun e w' => e = .returned (.int .i64 (Lib.compareInt n1 n2)) ∧ W = w') := Lib.hid (fun W => (Tryz.cmp_Compare_int n1 n2 W).mono fun _ _ h => ⟨h.1, h.2.symm⟩)
 generalize Lib.compareInt (n1 : Int) n2 = q at *
 go_enter Tryz.func117, Tryz.ntmps117
 go_wp2_with (first
   | (go_at_call 49; go_must (refine (C2.out _).mono ?_; rintro e w6 ⟨rfl, rfl⟩))
   | (go_at_call 145; go_must (refine (CF.out _ (by first | exact Gr.refl _ | exact (Gr.refl _).drew)).mono ?_; rintro e w6 ⟨rfl, rfl⟩))
   | (go_at_call 48; go_must (refine (or2_any _ _ _ _ (Blk.new _ _ _)).mono ?_; rintro e w6 ⟨rfl, rfl⟩)))
 go_ret
 exact ⟨rfl, by first | exact (Gr.refl _).alloc _ | exact (Gr.refl _).drew.alloc _⟩
theorem eqInts_any (a b : List Int) (s1 s2 : Value) (w : World) (h1 : IB w w.heap.size s1 a) (h2 : IB w w.heap.size s2 b) :
   Calls Tryz.prog 119 #[s1, s2] w (BoolPost w (decide (a = b))) := by
 obtain ⟨A1, n1, c1, rfl, l1, b1, m1, f1⟩ := h1
 obtain ⟨A2, n2, c2, rfl, l2, b2, m2, f2⟩ := h2
 unfold maxLen at m1 m2
 have F1 := Lib.hid f1
 have F2 := Lib.hid f2
 have L1 := Lib.hid l1
 have L2 := Lib.hid l2
 clear f1 f2 l1 l2
 generalize hq : decide (a = b) = q
 have HQ := Lib.hid hq
 clear hq
 by_cases hn : n1 = n2
 rotate_left
 · have d0 : ((n1 : Int) == (n2 : Int)) = false := by simp; omega
   have d1 : (!((n1 : Int) == (n2 : Int))) = true := by simp [d0]
   have HF : Hid (q = false) := Lib.hid (by rw [← HQ.out]; refine decide_eq_false fun e => hn ?_; rw [← L1.out, ← L2.out, e])
   go_enter Tryz.func119, Tryz.ntmps119
   go_wp2
   go_ret
   exact ⟨ret_bool HF.out.symm, Bw.refl _⟩
 subst hn
 go_enter Tryz.func119, Tryz.ntmps119
 go_wp2
 go_loopw [13] (fun i wr => ∃ k : Nat, k ≤ n1 ∧ i = .int .i64 k ∧ Hid (Bw w wr ∧ a.take k = b.take k)) (fun i _ => n1 - (intOf i).toNat)
 case atStart => exact ⟨0, by omega, rfl, Lib.hid ⟨Bw.refl _, by simp⟩⟩
 case round =>
   obtain ⟨k, hk1, rfl, HR⟩ := hrel
   by_cases hlt : k < n1
   · have e1 : k < a.length := by rw [L1.out]; exact hlt
     have e2 : k < b.length := by rw [L2.out]; exact hlt
     obtain ⟨ad, rfl, hb, hq⟩ := F1.out (by omega)
     have q0 := (HR.out.1.b.cell (p := ad.add k) (by rw [add_block]; exact hb)).trans (hq k e1)
     obtain ⟨ad2, rfl, hb2, hq2⟩ := F2.out (by omega)
     have q1 := (HR.out.1.b.cell (p := ad2.add k) (by rw [add_block]; exact hb2)).trans (hq2 k e2)
     clear hq hb hq2 hb2
     by_cases hxy : a[k] = b[k]
     · have d0 : (a[k] == b[k]) = true := by simpa using hxy
       have d1 : (!(a[k] == b[k])) = false := by simp [d0]
       have HT : Hid (a.take (k + 1) = b.take (k + 1)) := Lib.hid (by rw [List.take_succ_eq_append_getElem e1, List.take_succ_eq_append_getElem e2, HR.out.2, hxy])
       clear hxy
       generalize a[k] = x at *
       generalize b[k] = y at *
       go_wp2_with fail
       go_quiet (fail)
       go_wp2
       go_roundw
       case rel => exact ⟨k + 1, by omega, by go_num, Lib.hid ⟨HR.out.1.drewN _, HT.out⟩⟩
       case measure => simp [intOf]; omega
     · have d0 : (a[k] == b[k]) = false := by simpa using hxy
       have d1 : (!(a[k] == b[k])) = true := by simp [d0]
       have HF : Hid (q = false) := Lib.hid (by rw [← HQ.out]; refine decide_eq_false fun e => hxy ?_; subst e; rfl)
       clear hxy
       generalize a[k] = x at *
       generalize b[k] = y at *
       go_wp2_with fail
       go_quiet (fail)
       go_wp2
       go_ret
       exact ⟨ret_bool HF.out.symm, HR.out.1.drewN _⟩
   · obtain rfl : k = n1 := by omega
     have HF : Hid (q = true) := Lib.hid (by
       rw [← HQ.out]
       have h := HR.out.2
       rw [List.take_of_length_le (by rw [L1.out]; omega), List.take_of_length_le (by rw [L2.out]; omega)] at h
       exact decide_eq_true h)
     go_wp2
     go_ret
     exact ⟨ret_bool HF.out.symm, HR.out.1⟩
theorem growI_any (n : Nat) (hn : n ≤ 1000000) (w : World) : Calls Tryz.prog 143 #[.slice none 0 0, .int .i64 n] w (fun e w' => ∃ s, e = .returned s ∧ w'.ownsRow w.heap.size 3 1 s 0 [] ∧ Bw w w') := by
 by_cases h0 : n = 0
 · subst h0
   go_enter Tryz.func143, Tryz.ntmps143
   go_wp2
   go_ret
   exact ⟨_, rfl, World.ownsRow_nil _ _ _ _, Bw.refl _⟩
 · obtain ⟨i0, hi, hz0, hz1, hz2⟩ := info_parts infoInt
   have hrz : ∀ ty, (Builtin.append_ #[22, 3] ty #[.slice none 0 0, .int .i64 (n : Int)]).run Tryz.prog w = _ := fun ty =>
     Lib.run_append_grow_zeros w 22 3 ty 3 i0 _ .i64 .i64 Tryz.underlying22 Tryz.underlying3 hi hz0 none 0 0 [] (run_firstCells_none w.drew i0.size 0 0 0) n (by omega) (by omega) (by omega) (by omega) (by rw [hz2]; omega) (growslice_fits (by omega) (by rw [hz2]; omega))
   have hGn : 0 + n ≤ grownCap w (0 + n) 0 3 := grownCap_ge w _ _ _
   have hG63 : grownCap w (0 + n) 0 3 ≤ maxLen := grownCap_le_maxLen w (0 + n) 0 3 (by unfold maxLen; omega)
   generalize grownCap w (0 + n) 0 3 = G at *
   have hsz : ((#[] : Array Value) ++ Builtin.zeroCells (Value.int .i64 0).cells n ++ Builtin.zeroCells (Value.int .i64 0).cells (G - n)).size = G := by
     simp [size_zeroCells, Value.cells]; omega
   simp only [Nat.zero_add] at hrz
   have HSZ := Lib.hid hsz
   clear hsz
   have hG := hG63
   unfold maxLen at hG63
   have hn0 : 0 < n := by omega
   go_enter Tryz.func143, Tryz.ntmps143
   go_wp2_with (at_builtin; refine Lib.wpList_append_run _ rfl _ _ _ _ rfl _ _ rfl rfl _ _ (hrz _) ?_)
   go_ret
   refine ⟨_, rfl, ⟨by simp, .inr ⟨w.heap.size, G, _, rfl, Nat.le_refl _, heap_alloc_new w.drew _, Nat.zero_le _, hG, by have := HSZ.out; simpa [Value.cells] using this, by simp⟩⟩, (Bw.refl _).drew.alloc _⟩
def IIAt (w : World) (S : Nat → Prop) (v : Value) (ls : List (List Int)) : Prop := ∃ (A : Option Addr) (n c : Nat) (ss : List Value), v = .slice A n c ∧ ls.length = n ∧ ss.length = n ∧ n ≤ c ∧ c ≤ maxLen ∧ (0 < n → ∃ ad, A = some ad ∧ S ad.block ∧ ∀ k (h : k < ss.length), w.cell? (ad.add k) = some ss[k]) ∧
 ∀ k (h : k < ls.length) (h' : k < ss.length), IAt w S ss[k] ls[k]
theorem IIAt.form {w : World} {S : Nat → Prop} {v : Value} {ls : List (List Int)} (h : IIAt w S v ls) : ∃ A n c, v = .slice A n c ∧ ls.length = n ∧ n ≤ c ∧ c ≤ maxLen := by
 obtain ⟨A, n, c, ss, e, h1, _, h3, h4, _⟩ := h
 exact ⟨A, n, c, e, h1, h3, h4⟩
theorem IIAt.at_ {w : World} {S : Nat → Prop} {A : Option Addr} {n c : Nat} {ls : List (List Int)} (h : IIAt w S (.slice A n c) ls) {k : Nat} (hk : k < ls.length) : ∃ ad sA sn sc, A = some ad ∧ S ad.block ∧ w.cell? (ad.add k) = some (.slice sA sn sc) ∧ ls[k].length = sn ∧ IAt w S (.slice sA sn sc) ls[k] := by
 obtain ⟨A', n', c', ss, e, h1, h2, h3, h4, h5, h6⟩ := h
 injection e with e1 e2 e3
 subst e1 e2 e3
 obtain ⟨ad, rfl, hb, hc⟩ := h5 (by omega)
 have hi := h6 k hk (by omega)
 obtain ⟨sA, sn, sc, e, hl, _⟩ := hi.form
 refine ⟨ad, sA, sn, sc, rfl, hb, ?_, hl, ?_⟩
 · rw [hc k (by omega), e]
 · rw [← e]; exact hi
theorem IIAt.keep {w w' : World} {S S' : Nat → Prop} {v : Value} {ls : List (List Int)} (h : IIAt w S v ls) (hS : ∀ b, S b → S' b) (hk : ∀ p : Addr, S p.block → w'.cell? p = w.cell? p) : IIAt w' S' v ls := by
 obtain ⟨A, n, c, ss, e, h1, h2, h3, h4, h5, h6⟩ := h
 refine ⟨A, n, c, ss, e, h1, h2, h3, h4, fun hn => ?_, fun k a b => (h6 k a b).keep hS hk⟩
 obtain ⟨ad, e2, hb, hc⟩ := h5 hn
 exact ⟨ad, e2, hS _ hb, fun k hk2 => (hk _ (by rw [add_block]; exact hb)).trans (hc k hk2)⟩
theorem flatI_take {ls : List (List Int)} {k : Nat} (h : k < ls.length) : (ls.take (k + 1)).flatten = (ls.take k).flatten ++ ls[k] := by
 rw [List.take_succ_eq_append_getElem h, List.flatten_append]; simp
theorem flatI_le (ls : List (List Int)) (k : Nat) : (ls.take k).flatten.length ≤ ls.flatten.length := by
 have := congrArg List.flatten (List.take_append_drop k ls)
 rw [List.flatten_append] at this
 rw [← this]; simp
theorem concatI_any (ls : List (List Int)) (hn : ls.flatten.length ≤ 1000000) (s : Value) (w : World) (h : IIAt w (· < w.heap.size) s ls) : Calls Tryz.prog 115 #[s] w (IntsPost w ls.flatten) := by
 obtain ⟨A, n, c, rfl, ln, bn, mn⟩ := h.form
 unfold maxLen at mn
 have H := Lib.hid h
 have LN := Lib.hid ln
 have HN := Lib.hid hn
 unfold IntsPost
 clear h ln hn
 obtain ⟨i0, hi, hz0, hz1, hz2⟩ := info_parts infoInt
 go_enter Tryz.func115, Tryz.ntmps115
 go_wp2_with fail
 go_loopw [3, 5, 11] (fun s3 _ i wr => ∃ k m : Nat, k ≤ n ∧ i = .int .i64 k ∧ s3 = .int .i64 m ∧ m ≤ 1000000 ∧ Hid (m = (ls.take k).flatten.length ∧ w = wr)) (fun _ _ i _ => n - (intOf i).toNat)
 case atStart => exact ⟨0, 0, by omega, rfl, rfl, by omega, Lib.hid ⟨by simp, rfl⟩⟩
 case round =>
   obtain ⟨k, m, hk, rfl, rfl, hm, HR⟩ := hrel
   obtain ⟨hm2, rfl⟩ := HR.out
   have HM := Lib.hid hm2
   clear hm2 HR
   by_cases hlt : k < n
   · have e1 : k < ls.length := by rw [LN.out]; exact hlt
     obtain ⟨ad, sA, sn, sc, rfl, hb, q0, sl, hs⟩ := H.out.at_ e1
     have hms : m + sn ≤ 1000000 := by
       have h1 := flatI_le ls (k + 1)
       rw [flatI_take e1, List.length_append, ← HM.out, sl] at h1
       have := HN.out; omega
     have HM2 : Hid (m + sn = (ls.take (k + 1)).flatten.length) := Lib.hid (by rw [flatI_take e1, List.length_append, ← HM.out, sl])
     have h00 : ¬ ((m : Int) + (sn : Int) < 0) := by omega
     clear hs sl hb
     go_wp2
     go_roundw
     case rel => exact ⟨k + 1, m + sn, by omega, by go_num, by go_num, hms, Lib.hid ⟨HM2.out, trivial⟩⟩
     case measure => simp [intOf]; omega
   · obtain rfl : n = k := by omega
     have CG := Lib.hid (growI_any m hm w)
     go_wp2_with (go_at_call 143; go_must (refine CG.out.mono ?_; rintro e w6 ⟨s6, rfl, hr6, hg6⟩; obtain ⟨A6, c6, rfl, -, -⟩ := own_bounds hr6; (have HR6 := Lib.hid hr6); (have HG6 := Lib.hid hg6); clear hr6 hg6))
     have HB6 : Hid (w.heap.size ≤ w6.heap.size) := Lib.hid HG6.out.size
     go_loopw [6, 8, 27] (fun s6 _ i wr => ∃ k : Nat, k ≤ n ∧ i = .int .i64 k ∧ Hid (wr.ownsRow w.heap.size 3 1 s6 (ls.take k).flatten.length (intVs (ls.take k).flatten) ∧ Bw w wr)) (fun _ _ i _ => n - (intOf i).toNat)
     case atStart => exact ⟨0, by omega, rfl, Lib.hid ⟨by simpa [intVs] using HR6.out, HG6.out⟩⟩
     case round =>
       obtain ⟨k, hk, rfl, HR⟩ := hrel
       obtain ⟨hq, hg⟩ := HR.out
       obtain ⟨VA, vc, rfl, vb1, vb2⟩ := own_bounds hq
       have HQ := Lib.hid hq
       have HG := Lib.hid hg
       by_cases hlt : k < n
       · have e1 : k < ls.length := by rw [LN.out]; exact hlt
         obtain ⟨ad, sA, sn, sc, rfl, hb, q0, sl, hs⟩ := H.out.at_ e1
         have q1 := (hg.b.cell (p := ad.add k) (by rw [add_block]; exact hb)).trans q0
         have hql : (ls.take k).flatten.length + sn ≤ 1000000 := by
           have h1 := flatI_le ls (k + 1)
           rw [flatI_take e1, List.length_append, sl] at h1
           have := HN.out; omega
         have HPS : Hid ((ls.take (k + 1)).flatten = (ls.take k).flatten ++ ls[k]) := Lib.hid (flatI_take e1)
         have HSL := Lib.hid sl
         have HRD := Lib.hid (IAt.reads (IAt.bw hs hg))
         have hsz := hg.size
         clear hs sl hb q0 hq hg HR
         generalize hfl : (ls.take k).flatten = fl at *
         clear hfl
         go_wp2_with (at_builtin; go_must (refine wpList_append_any _ rfl _ _ 22 rfl w.heap.size 3 i0 _ 1 8 Tryz.underlying22 hi hz0 hz1 hz2 rfl (by decide) (.slice VA fl.length vc) fl.length (intVs fl) rfl HQ.out wr.heap.size sA sn sc (intVs ls[k]) rfl HRD.out (by intro u hu; obtain ⟨x, -, rfl⟩ := List.mem_map.1 hu; rfl) (by unfold maxLen; omega) (by omega) (by omega) ?_; intro v7 w7 hown7 hgr7 hl7; obtain ⟨A7, c7, rfl, -, -⟩ := own_bounds hown7; (have HO7 := Lib.hid hown7); (have HG7 := Lib.hid hgr7); clear hown7 hgr7 hl7))
         go_roundw
         case rel =>
           refine ⟨k + 1, by omega, by go_num, Lib.hid ⟨?_, Below.grown HG.out HG7.out HG.out.size (fun r e => (HQ.out.lt r e).1)⟩⟩
           rw [HPS.out, List.length_append, HSL.out, ← intVs_append]; exact HO7.out
         case measure => simp [intOf]; omega
       · obtain rfl : k = n := by omega
         have HF : Hid ((ls.take k).flatten = ls.flatten) := Lib.hid (by rw [List.take_of_length_le (by rw [LN.out]; omega)])
         clear hq hg HR
         go_wp2
         go_ret
         refine ⟨_, rfl, ?_, HG.out⟩
         rw [← HF.out]
         exact own_IB HQ.out rfl
end Go.Proofs.YtlmnkcfnihhlgaaGreatDoor
namespace Go.Proofs.YtlmnkcfnihhlgaaGreatDoor
open Go.RowKit Go.Sort
set_option linter.unusedSimpArgs false
set_option linter.unusedVariables false
abbrev IS := List Int × Value
structure IRow (w : World) (B : Nat) (S : Nat → Prop) (v : Value) (ps : List IS) : Prop where
 own : w.ownsRow B 22 1 v ps.length (ps.map (·.2))
 kid : ∀ p ∈ ps, IAt w S p.2 p.1
theorem infoIntsI : (Tryz.prog.info? 22).map (fun i => (i.zero, i.size, i.bytes)) = some (some (.slice none 0 0), 1, 24) := by kernel_rfl
theorem setCells_own1 {L g n c : Nat} {e : TypeId} : ∀ (vs : List Value) (o : Nat) (W : World) (xs : List Value), W.ownsRow L e 1 (.slice (some ⟨g, 0, none⟩) n c) n xs → o + vs.length = n → (W.setCells g o vs).ownsRow L e 1 (.slice (some ⟨g, 0, none⟩) n c) n (xs.take o ++ vs)
 | [], o, W, xs, h, hl => by
   have h1 := h.1
   rw [List.append_nil, List.take_of_length_le (by simp at hl; omega)]; exact h
 | v :: r, o, W, xs, h, hl => by
   have h2 := setCells_own1 r (o + 1) _ _ (h.stored o v).1 (by simp at hl; omega)
   have h1 := h.1
   have e : (xs.set o v).take (o + 1) ++ r = xs.take o ++ v :: r := by
     rw [List.take_succ_eq_append_getElem (by simp at hl ⊢; omega), List.take_set_of_le (Nat.le_refl _)]
     simp
   rw [e] at h2
   exact h2
theorem setCells_gb1 {g : Nat} {w : World} : ∀ (vs : List Value) (o : Nat) (W : World), w.grownBy W (some g) → w.grownBy (W.setCells g o vs) (some g)
 | [], _, _, h => h
 | v :: r, o, W, h => setCells_gb1 r (o + 1) _ (grownBy_setCell (p := ⟨g, o, none⟩) h (.inl rfl) v)
theorem gb_grow1 (w : World) (os : Array Obj) (row : Option Nat) : w.grownBy (grow w os) row :=
 ⟨rfl, rfl, rfl, by simp, fun k hk _ => heap_grow_old w os hk⟩
theorem bw_gr1 {a b : World} (h : Bw a b) (row : Option Nat) : a.grownBy b row := ⟨h.os, h.tape, h.output, h.size, fun k hk _ => h.block k hk⟩
section
variable {w W : World} {B : Nat} {S : Nat → Prop} {v : Value} {ps : List IS}
theorem IRow.bw (h : IRow w B S v ps) (hS : ∀ b, S b → b < w.heap.size) (hg : Bw w W) : IRow W B S v ps :=
 ⟨h.own.kept (bw_gr1 hg none) (by rcases hv : v.ownBlock with _ | k <;> simp), fun p hp => (h.kid p hp).keep (fun _ hb => hb) (fun q hq => hg.b.cell (hS _ hq))⟩
theorem IRow.at_ {g n c : Nat} (h : IRow w B S (.slice (some ⟨g, 0, none⟩) n c) ps) (hn : ps.length = n) {k : Nat} (hk : k < n) :
   ∃ sA sn sc, w.cell? ⟨g, k, none⟩ = some (.slice sA sn sc) ∧ w.frozen? ⟨g, k, none⟩ = false ∧ g < w.heap.size ∧ B ≤ g ∧ IAt w S (.slice sA sn sc) (ps[k]'(by omega)).1 ∧ (ps[k]'(by omega)).2 = .slice sA sn sc := by
 subst hn
 have h1 := h.own.cellAt k (by omega)
 have h2 := h.kid _ (List.getElem_mem hk)
 obtain ⟨sA, sn, sc, e, _⟩ := h2.form
 rw [List.getElem?_map, List.getElem?_eq_getElem hk] at h1
 have h3 := h.own.lt g rfl
 refine ⟨sA, sn, sc, ?_, h.own.frozenAt _, h3.2, h3.1, ?_, e⟩
 · rw [h1, ← e]; rfl
 · rw [← e]; exact h2
theorem IRow.put {g n c : Nat} (h : IRow w B S (.slice (some ⟨g, 0, none⟩) n c) ps) (hn : ps.length = n) (hS : ∀ b, S b → b ≠ g) (k : Nat) {p : IS} (hp : IAt w S p.2 p.1) :
   IRow (w.setCell ⟨g, k, none⟩ p.2) B S (.slice (some ⟨g, 0, none⟩) n c) (ps.set k p) := by
 subst hn
 have h0 := h.own
 refine ⟨?_, fun q hq => ?_⟩
 · have := (h0.stored k p.2).1
   rw [List.length_set, List.map_set]; exact this
 · have key : IAt w S q.2 q.1 := by
     rcases List.mem_or_eq_of_mem_set hq with h1 | rfl
     · exact h.kid q h1
     · exact hp
   exact key.keep (fun _ hb => hb) (fun r hr => World.cell?_setCell_other _ _ _ _ (fun e => hS _ hr (by rw [← e])))
end
theorem zcells1 (v : Value) (n : Nat) : (Builtin.zeroCells #[v] n).toList = List.replicate n v := by
 apply List.ext_getElem
 · simp [size_zeroCells]
 · intro i h1 h2
   simp [Builtin.zeroCells, Nat.mod_one]
theorem own_clearI {w : World} {B g i n c : Nat} {S : Nat → Prop} {ps : List IS} (h : IRow w B S (.slice (some ⟨g, 0, none⟩) n c) ps) (hn : ps.length = n) (hi : i < n) (ty : TypeId) :
   (Builtin.clear_ #[106] ty #[.slice (some ⟨g, i, none⟩) (n - i) (c - i)]).run Tryz.prog w = .ok (.tuple #[]) (w.setCells g i (List.replicate (n - i) (.slice none 0 0))) ∧
   w.grownBy (w.setCells g i (List.replicate (n - i) (.slice none 0 0))) (some g) := by
 have h1 : ∀ v ∈ List.replicate (n - i) (Value.slice none 0 0), v.oneCell' = true := by
   intro v hv
   obtain rfl := (List.mem_replicate.1 hv).2
   rfl
 have hst := run_storeCells_cells (P := Tryz.prog) g i (List.replicate (n - i) (Value.slice none 0 0)) 0 w (fun j hj => by
   rw [List.length_replicate] at hj
   obtain ⟨sA, sn, sc, e, -⟩ := h.at_ hn (k := i + j) (by omega)
   rw [Nat.add_zero, e]; rfl) (fun j hj => by subst hn; exact h.own.frozenAt _) h1
 rw [Nat.add_zero] at hst
 refine ⟨?_, setCells_gb1 _ _ _ (World.grownBy.refl _ _)⟩
 obtain ⟨m, hm⟩ : ∃ m, n - i = m + 1 := ⟨n - i - 1, by omega⟩
 rw [hm] at hst ⊢
 have hu : Tryz.prog.underlying 106 = some (.slice 22) := Tryz.underlying106
 obtain ⟨i0, hi0, hz0, hz1, hz2⟩ := info_parts infoIntsI
 have zv : ∀ W, (zeroValue 22).run Tryz.prog W = .ok (.slice none 0 0) W := Tryz.zeroValue22
 simp [Builtin.clear_, run_underlying hu, zv, Value.cells, zcells1, hst]
end Go.Proofs.YtlmnkcfnihhlgaaGreatDoor
