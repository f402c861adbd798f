/- Part of a proof of pruneKeeps_holds. -/
import Derived.Test.YthhbkabdhkdafaaGreatVBcP
set_option linter.unusedSimpArgs false
set_option linter.unusedVariables false
set_option maxRecDepth 100000
set_option maxHeartbeats 16000000
namespace Go.Proofs.YthhbkabdhkdafaaGreat
section
open Go.RowKit
def IxPost (w : World) (l : List Int) (x : Int) (e : Ending) (w' : World) : Prop := ∃ r : Int, e = .returned (.int .i64 r) ∧ (0 ≤ r ↔ x ∈ l) ∧ Bw w w'
theorem idxI9_any (l : List Int) (x : Int) (s : Value) (w : World) (h : IB w w.heap.size s l) : Calls Tryz.prog 314 #[s, .int .i64 x] w (IxPost w l x) := by
 obtain ⟨A, n, c, rfl, ln, bn, mn⟩ := h.form
 unfold maxLen at mn
 have HI := Lib.hid h
 have HL := Lib.hid ln
 clear h ln
 go_enter Tryz.func314, Tryz.ntmps314
 go_wp2_with fail
 go_loopw [8] (fun i wr => ∃ k : Nat, k ≤ n ∧ i = .int .i64 (k : Int) ∧ Hid (Bw w wr ∧ x ∉ l.take k)) (fun i _ => n - (intOf i).toNat)
 case atStart => exact ⟨0, by omega, rfl, Lib.hid ⟨Bw.refl _, by simp⟩⟩
 case round =>
   obtain ⟨wo, hwo⟩ : ∃ wo, wo = wr := ⟨_, rfl⟩
   subst hwo
   obtain ⟨k, hk, rfl, HB⟩ := hrel
   by_cases hlt : k < n
   · have hlt' : (k : Int) < (n : Int) := by omega
     have hkl : k < l.length := by rw [HL.out]; exact hlt
     obtain ⟨ad, rfl, hb, z⟩ := (HI.out.bw HB.out.1).at_ hkl
     have HT : Hid (l.take (k + 1) = l.take k ++ [l[k]]) := Lib.hid (List.take_succ_eq_append_getElem hkl)
     have HM : Hid (l[k] ∈ l) := Lib.hid (List.getElem_mem hkl)
     generalize l[k] = y at *
     by_cases he : x = y
     · subst he
       go_wp2_with fail
       go_ret
       exact ⟨(k : Int), rfl, ⟨fun _ => HM.out, fun _ => by omega⟩, HB.out.1⟩
     · have he' : (x == y) = false := by simpa using he
       have HNE := Lib.hid he
       go_wp2_with fail
       go_roundw
       case rel => exact ⟨k + 1, by omega, by go_num, Lib.hid ⟨HB.out.1, by rw [HT.out, List.mem_append, List.mem_singleton]; exact fun h => h.elim HB.out.2 HNE.out⟩⟩
       case measure => simp [intOf]; omega
   · obtain rfl : k = n := by omega
     go_wp2_with fail
     go_ret
     have h2 := HB.out.2
     rw [List.take_of_length_le (by rw [HL.out]; exact Nat.le_refl _)] at h2
     exact ⟨-1, rfl, ⟨fun h => by omega, fun h => absurd h h2⟩, HB.out.1⟩
theorem contI9_any (l : List Int) (x : Int) (s : Value) (w : World) (h : IB w w.heap.size s l) : Calls Tryz.prog 255 #[s, .int .i64 x] w (BoolPost w (decide (x ∈ l))) := by
 have CI := Lib.hid (idxI9_any l x s w h)
 obtain ⟨A, n, c, rfl, -, -, -⟩ := h.form
 clear h
 go_enter Tryz.func255, Tryz.ntmps255
 go_wp2_with (go_at_call 314; go_must (refine CI.out.mono ?_; rintro e w1 ⟨r, rfl, hr, hg⟩; (have HR := Lib.hid hr); clear hr))
 go_ret
 exact ⟨by
   show Ending.returned (.bool (decide (0 ≤ r))) = _
   rw [decide_eq_decide.2 HR.out], hg⟩
theorem clipI_any (A : Option Addr) (n c : Nat) (hn : n ≤ c) (hc : c ≤ maxLen) (w : World) : Calls Tryz.prog 338 #[.slice A n c] w (fun e w' => e = .returned (.slice A n n) ∧ Bw w w') := by
 unfold maxLen at hc
 go_enter Tryz.func338, Tryz.ntmps338
 go_wp2_with fail
 go_ret
 exact ⟨rfl, Bw.refl _⟩
def encO : Enc (Ori × Value × Value) := ⟨5, fun p => [.int .i64 p.1.v.n, p.2.1, .int .i64 p.1.r, .int .i64 p.1.nx.n, p.2.2], fun _ => rfl, fun p => [(p.2.1, p.1.v.ks), (p.2.2, p.1.nx.ks)]⟩
def AllPost (w : World) (l : List V) (e : Ending) (w' : World) : Prop := ∃ s ss, e = .returned s ∧ VRow w' 31 w.heap.size w.heap.size s l ss ∧ Bw w w'
theorem sall_any (l : List V) (hz : ∀ v ∈ l, v.size ≤ 1000000) (s : Value) (w : World) (h : KB w w.heap.size s l) (h9 : l.length ≤ 1000000) :
   Calls Tryz.prog 67 #[s] w (AllPost w l) := by
 obtain ⟨A, n, c, rfl, ln, bn, mn⟩ := h.form
 unfold maxLen at mn
 rw [ln] at h9
 have HK := Lib.hid h
 have LN := Lib.hid ln
 have HZ := Lib.hid hz
 clear h ln hz
 obtain ⟨i0, hi, hz0, hz1, hz2⟩ := info_parts infoVal
 have hb9 : i0.bytes * n ≤ 281474976710656 := by rw [hz2]; omega
 have hm9 : n ≤ maxLen := by unfold maxLen; omega
 go_enter Tryz.func67, Tryz.ntmps67
 go_wp2_with (at_make; go_must (refine wpList_make_own _ rfl _ _ 29 rfl w.heap.size 31 i0 (.agg #[.int .i64 0, .slice none 0 0]) 2 Tryz.underlying29 hi hz0 hz1 .i64 .i64 n n rfl rfl rfl hb9 hm9 (Nat.le_refl _) ?_; intro w3 hown3 hgr3; (have HO3 := Lib.hid hown3); (have HG3 := Lib.hid hgr3); clear hown3 hgr3))
 have HG4 : Hid (Bw w w3) := Lib.hid (Bw.grown HG3.out)
 go_loopw [3, 11] (fun s3 i wr => ∃ k : Nat, k ≤ n ∧ i = .int .i64 k ∧ Hid (∃ ss, VRow wr 31 w.heap.size w.heap.size s3 (l.take k) ss ∧ Bw w wr)) (fun _ i _ => n - (intOf i).toNat)
 case atStart => exact ⟨0, by omega, rfl, Lib.hid ⟨[], ⟨HO3.out, rfl, fun k h => absurd h (by simp)⟩, HG4.out⟩⟩
 case round =>
   clear HO3 HG3 HG4
   obtain ⟨k, hk, rfl, HR⟩ := hrel
   obtain ⟨ss, hv, hw⟩ := HR.out
   by_cases hlt : k < n
   · have e1 : k < l.length := by rw [LN.out]; exact hlt
     obtain ⟨ad, sA, sn, sc, rfl, hb, q0, q1, sl, hs⟩ := (HK.out.bw hw).at_ e1
     obtain ⟨VA, vc, rfl, _, _⟩ := hv.form
     have hlk : (l.take k).length = k := by simp; omega
     rw [hlk] at hv ⊢
     have CP : Hid (∀ o, Calls Tryz.prog 68 #[.agg #[.int .i64 l[k].n, .slice sA sn sc]] (wr.alloc o) (ValPost (wr.alloc o) l[k])) := Lib.hid (fun o => sown_any _ (HZ.out _ (List.getElem_mem e1)) _ _ (hs.bw ((Bw.refl _).alloc _)))
     have HV := Lib.hid hv
     have HW := Lib.hid hw
     have hsw := hw.size
     have HT : Hid (l.take (k + 1) = l.take k ++ [l[k]]) := Lib.hid (List.take_succ_eq_append_getElem e1)
     clear hs sl hv hw HR hlk
     generalize hx : l[k] = x at *
     clear hx
     obtain ⟨xn, hxn⟩ : ∃ xn, x.n = xn := ⟨_, rfl⟩
     unfold ValPost at CP
     rw [hxn] at CP q0
     have HXN := Lib.hid hxn
     clear hxn
     go_wp2_with (first
       | (go_at_call 68; go_must (refine (CP.out _).mono ?_; rintro e w6 ⟨s6, rfl, hk6, hg6⟩; obtain ⟨A6, n6, c6, rfl, ln6, _, _⟩ := hk6.form; (have HK6 := Lib.hid hk6); (have HG6 : Hid (Bw wr w6) := Lib.hid (((Bw.refl _).alloc _).trans hg6)); (have hs6 : wr.heap.size < w6.heap.size := by have := hg6.size; simp at this; omega); (have HV6 := Lib.hid (HV.out.bw HG6.out)); clear hk6 hg6 ln6))
       | (at_builtin; go_must (refine wpList_append_any _ rfl _ _ 29 rfl w.heap.size 31 i0 _ 2 32 Tryz.underlying29 hi hz0 hz1 hz2 rfl (by decide) (.slice VA k vc) k (vCells (l.take k) ss) rfl (by have := (HV6.out.own.alloc (.cells #[.int .i64 xn, .slice A6 n6 c6] 31)); rwa [show (l.take k).length = k by simp; omega] at this) (w6.heap.size + 1) (some ⟨w6.heap.size, 0, none⟩) 1 1 [.int .i64 xn, .slice A6 n6 c6] rfl (reads_new2 w6 _ _ _) (one2 _ _ _ _) (by unfold maxLen; omega) (by omega) (by simp; omega) ?_; intro v7 w7 hown7 hgr7 hl7; obtain ⟨A7, c7, rfl⟩ := own_form hown7; (have HO7 := Lib.hid hown7); (have HG7 := Lib.hid hgr7); (have HL7 := Lib.hid hl7); clear hown7 hgr7 hl7)))
     go_roundw
     case rel =>
       have hlk : (l.take k).length = k := by simp; omega
       have hv6 := HV6.out
       have hk6 := HK6.out
       have hs7 := HG7.out.size
       refine ⟨k + 1, by omega, by go_num, Lib.hid ⟨ss ++ [.slice A6 n6 c6], ?_, ?_⟩⟩
       · rw [HT.out]
         refine (hv6.bw (((Bw.refl w6).alloc _))).push (x := x) (s := .slice A6 n6 c6) ?_ ?_ HG7.out HL7.out
         · refine KAt.keep (S := fun b => wr.heap.size < b ∧ b < w6.heap.size) ?_ (fun b hb => ⟨by omega, by simp; omega, fun e => ?_⟩) (fun p hp => World.cell?_alloc_lt w6 _ p hp.2)
           · exact hk6.keep (fun b hb => ⟨by have := hb.1; simp at this; omega, hb.2⟩) (fun _ _ => rfl)
           · have := (HV.out.own.lt b (by rw [hlk] at *; exact e)).2; omega
         · rw [hlk, HXN.out]; exact HO7.out
       · exact Below.trans (HW.out.trans (HG6.out.alloc _)) (below_own (Below.refl w.heap.size _) ((hv6.own.alloc _)) HG7.out (by simp; omega))
     case measure => simp [intOf]; omega
   · obtain rfl : k = n := by omega
     obtain ⟨VA, vc, rfl, _, _⟩ := hv.form
     have HV := Lib.hid hv
     have HW := Lib.hid hw
     clear hv hw HR
     go_wp2
     go_ret
     refine ⟨_, ss, rfl, ?_, HW.out⟩
     have := HV.out
     rwa [List.take_of_length_le (by rw [LN.out]; omega)] at this ⊢
end
end Go.Proofs.YthhbkabdhkdafaaGreat
