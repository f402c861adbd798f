/- Part of a proof of pruneShows_holds. -/
import Derived.Test.YthhbkabdhkdafaaGreatUAwQ
import Derived.Test.YthhbkabdhkdafaaGreatUAsQ
import Derived.WalkSmall
import Derived.Lib.LaidTab
set_option linter.unusedSimpArgs false
set_option linter.unusedVariables false
set_option maxRecDepth 100000
set_option maxHeartbeats 16000000
namespace Go.Proofs.YthhbkabdhkdafaaGreat
section
open Go.RowKit
def IdxPost (w : World) (zs : List ByteArray) (x : ByteArray) (e : Ending) (w' : World) : Prop := ∃ r : Int, e = .returned (.int .i64 r) ∧ decide (0 ≤ r) = zs.any (fun z => z.data.toList == x.data.toList) ∧ r ≤ 100000 ∧ -1 ≤ r ∧ w = w'
theorem toList_data (s : ByteArray) : s.toList = s.data.toList := by
 have : ∀ (n i : Nat) (r : List UInt8), s.size - i ≤ n → ByteArray.toList.loop s i r = r.reverse ++ s.data.toList.drop i := by
   intro n
   induction n with
   | zero =>
     intro i r h
     rw [ByteArray.toList.loop, if_neg (by omega)]
     rw [List.drop_of_length_le (show s.data.toList.length ≤ i from by show s.size ≤ i; omega)]
     simp
   | succ n ih =>
     intro i r h
     rw [ByteArray.toList.loop]
     by_cases hi : i < s.size
     · rw [if_pos hi, ih (i + 1) _ (by omega), List.drop_eq_getElem_cons (show i < s.data.toList.length from hi)]
       simp [ByteArray.get!]
       rw [getElem!_pos s.data i hi]
     · rw [if_neg hi, List.drop_of_length_le (show s.data.toList.length ≤ i from by show s.size ≤ i; omega)]
       simp
 have h := this s.size 0 [] (by omega)
 rw [ByteArray.toList, h]; simp
theorem str_eq_dec (a b : ByteArray) : (a.toList == b.toList) = (a.data.toList == b.data.toList) := by rw [toList_data, toList_data]
theorem idxStr_any (A : Option Addr) (n c : Nat) (zs : List ByteArray) (x : ByteArray) (w : World) (B : Nat) (hz : zs.length = n) (hn : n ≤ 100000) (h : Reads w B 1 A n (zs.map Value.string)) :
   Calls Tryz.prog 289 #[.slice A n c, .string x] w (IdxPost w zs x) := by
 have H := Lib.hid h
 have HZ := Lib.hid hz
 clear h hz
 go_enter Tryz.func289, Tryz.ntmps289
 go_wp2
 go_loop [8] (fun i => ∃ k : Nat, k ≤ n ∧ i = .int .i64 k ∧ (zs.take k).any (fun z => z.data.toList == x.data.toList) = false) (fun i => n - (intOf i).toNat)
 case atStart => exact ⟨0, by omega, rfl, rfl⟩
 case round =>
   obtain ⟨k, hk, rfl, hno⟩ := hrel
   have HNO := Lib.hid hno
   clear hno
   by_cases hlt : k < n
   · obtain ⟨ad, u, rfl, hb, hu, hc⟩ := H.out.at_ hlt
     have hkz : k < zs.length := by rw [HZ.out]; exact hlt
     obtain rfl : u = .string (zs[k]'hkz) := by
       rw [List.getElem?_map, List.getElem?_eq_getElem hkz] at hu
       injection hu with hu; exact hu.symm
     have HT : Hid (zs.take (k + 1) = zs.take k ++ [zs[k]'hkz]) := Lib.hid (List.take_succ_eq_append_getElem hkz)
     have HM : Hid (zs[k]'hkz ∈ zs) := Lib.hid (List.getElem_mem hkz)
     clear hu
     generalize zs[k]'hkz = z at *
     by_cases he : x.data.toList = z.data.toList
     · have c1 : (x.toList == z.toList) = true := by rw [str_eq_dec]; simpa using he
       have HE := Lib.hid he
       clear he
       go_wp2
       go_ret
       refine ⟨k, rfl, ?_, by omega, by omega, rfl⟩
       rw [decide_eq_true (by omega)]
       symm
       rw [List.any_eq_true]
       exact ⟨z, HM.out, by simp [HE.out]⟩
     · have c1 : (x.toList == z.toList) = false := by rw [str_eq_dec]; simpa using he
       have HE := Lib.hid he
       clear he
       go_wp2
       go_round
       case rel =>
         refine ⟨k + 1, by omega, by go_num, ?_⟩
         rw [HT.out, List.any_append, HNO.out]
         simp only [List.any_cons, List.any_nil, Bool.or_false, Bool.false_or, beq_eq_false_iff_ne, ne_eq]
         exact fun e => HE.out e.symm
       case measure => simp [intOf]; omega
   · obtain rfl : k = n := by omega
     go_wp2
     go_ret
     refine ⟨-1, rfl, ?_, by omega, by omega, rfl⟩
     have := HNO.out
     rw [List.take_of_length_le (by rw [HZ.out]; exact Nat.le_refl _)] at this
     rw [this]; decide
theorem contStr_any (A : Option Addr) (n c : Nat) (zs : List ByteArray) (x : ByteArray) (w : World) (B : Nat) (hz : zs.length = n) (hn : n ≤ 100000) (h : Reads w B 1 A n (zs.map Value.string)) (b : Bool) (hb : zs.any (fun z => z.data.toList == x.data.toList) = b) :
   Calls Tryz.prog 225 #[.slice A n c, .string x] w fun e w' => e = .returned (.bool b) ∧ w = w' := by
 have HI := Lib.hid (idxStr_any A n c zs x w B hz hn h)
 have HB := Lib.hid hb
 clear h hz hb
 go_enter Tryz.func225, Tryz.ntmps225
 go_wp2_with (go_at_call 289; go_must (refine HI.out.mono ?_; rintro e w' ⟨r, rfl, hr, _, _, rfl⟩; (have HR := Lib.hid hr); clear hr))
 go_ret
 exact ⟨ret_bool (by rw [← HB.out, ← HR.out]), rfl⟩
def before (l : List V) : Nat → Option V
 | 0 => none
 | k + 1 => l[k]?
def AllPost (w : World) (l : List V) (e : Ending) (w' : World) : Prop := ∃ s ss, e = .returned s ∧ VRow w' 31 w.heap.size w.heap.size s l ss ∧ Bw w w'
theorem sall_any (l : List V) (hz : ∀ v ∈ l, v.size ≤ 1000000) (s : Value) (w : World) (h : KB w w.heap.size s l) (h9 : l.length ≤ 1000000) :
   Calls Tryz.prog 67 #[s] w (AllPost w l) := by
 obtain ⟨A, n, c, rfl, ln, bn, mn⟩ := h.form
 unfold maxLen at mn
 rw [ln] at h9
 have HK := Lib.hid h
 have LN := Lib.hid ln
 have HZ := Lib.hid hz
 clear h ln hz
 obtain ⟨i0, hi, hz0, hz1, hz2⟩ := info_parts infoVal
 have hb9 : i0.bytes * n ≤ 281474976710656 := by rw [hz2]; omega
 have hm9 : n ≤ maxLen := by unfold maxLen; omega
 go_enter Tryz.func67, Tryz.ntmps67
 go_wp2_with (at_make; go_must (refine wpList_make_own _ rfl _ _ 29 rfl w.heap.size 31 i0 (.agg #[.int .i64 0, .slice none 0 0]) 2 Tryz.underlying29 hi hz0 hz1 .i64 .i64 n n rfl rfl rfl hb9 hm9 (Nat.le_refl _) ?_; intro w3 hown3 hgr3; (have HO3 := Lib.hid hown3); (have HG3 := Lib.hid hgr3); clear hown3 hgr3))
 have HG4 : Hid (Bw w w3) := Lib.hid (Bw.grown HG3.out)
 go_loopw [3, 11] (fun s3 i wr => ∃ k : Nat, k ≤ n ∧ i = .int .i64 k ∧ Hid (∃ ss, VRow wr 31 w.heap.size w.heap.size s3 (l.take k) ss ∧ Bw w wr)) (fun _ i _ => n - (intOf i).toNat)
 case atStart => exact ⟨0, by omega, rfl, Lib.hid ⟨[], ⟨HO3.out, rfl, fun k h => absurd h (by simp)⟩, HG4.out⟩⟩
 case round =>
   clear HO3 HG3 HG4
   obtain ⟨k, hk, rfl, HR⟩ := hrel
   obtain ⟨ss, hv, hw⟩ := HR.out
   by_cases hlt : k < n
   · have e1 : k < l.length := by rw [LN.out]; exact hlt
     obtain ⟨ad, sA, sn, sc, rfl, hb, q0, q1, sl, hs⟩ := (HK.out.bw hw).at_ e1
     obtain ⟨VA, vc, rfl, _, _⟩ := hv.form
     have hlk : (l.take k).length = k := by simp; omega
     rw [hlk] at hv ⊢
     have CP : Hid (∀ o, Calls Tryz.prog 68 #[.agg #[.int .i64 l[k].n, .slice sA sn sc]] (wr.alloc o) (ValPost (wr.alloc o) l[k])) := Lib.hid (fun o => sown_any _ (HZ.out _ (List.getElem_mem e1)) _ _ (hs.bw ((Bw.refl _).alloc _)))
     have HV := Lib.hid hv
     have HW := Lib.hid hw
     have hsw := hw.size
     have HT : Hid (l.take (k + 1) = l.take k ++ [l[k]]) := Lib.hid (List.take_succ_eq_append_getElem e1)
     clear hs sl hv hw HR hlk
     generalize hx : l[k] = x at *
     clear hx
     obtain ⟨xn, hxn⟩ : ∃ xn, x.n = xn := ⟨_, rfl⟩
     unfold ValPost at CP
     rw [hxn] at CP q0
     have HXN := Lib.hid hxn
     clear hxn
     go_wp2_with (first
       | (go_at_call 68; go_must (refine (CP.out _).mono ?_; rintro e w6 ⟨s6, rfl, hk6, hg6⟩; obtain ⟨A6, n6, c6, rfl, ln6, _, _⟩ := hk6.form; (have HK6 := Lib.hid hk6); (have HG6 : Hid (Bw wr w6) := Lib.hid (((Bw.refl _).alloc _).trans hg6)); (have hs6 : wr.heap.size < w6.heap.size := by have := hg6.size; simp at this; omega); (have HV6 := Lib.hid (HV.out.bw HG6.out)); clear hk6 hg6 ln6))
       | (at_builtin; go_must (refine wpList_append_any _ rfl _ _ 29 rfl w.heap.size 31 i0 _ 2 32 Tryz.underlying29 hi hz0 hz1 hz2 rfl (by decide) (.slice VA k vc) k (vCells (l.take k) ss) rfl (by have := (HV6.out.own.alloc (.cells #[.int .i64 xn, .slice A6 n6 c6] 31)); rwa [show (l.take k).length = k by simp; omega] at this) (w6.heap.size + 1) (some ⟨w6.heap.size, 0, none⟩) 1 1 [.int .i64 xn, .slice A6 n6 c6] rfl (reads_new2 w6 _ _ _) (one2 _ _ _ _) (by unfold maxLen; omega) (by omega) (by simp; omega) ?_; intro v7 w7 hown7 hgr7 hl7; obtain ⟨A7, c7, rfl⟩ := own_form hown7; (have HO7 := Lib.hid hown7); (have HG7 := Lib.hid hgr7); (have HL7 := Lib.hid hl7); clear hown7 hgr7 hl7)))
     go_roundw
     case rel =>
       have hlk : (l.take k).length = k := by simp; omega
       have hv6 := HV6.out
       have hk6 := HK6.out
       have hs7 := HG7.out.size
       refine ⟨k + 1, by omega, by go_num, Lib.hid ⟨ss ++ [.slice A6 n6 c6], ?_, ?_⟩⟩
       · rw [HT.out]
         refine (hv6.bw (((Bw.refl w6).alloc _))).push (x := x) (s := .slice A6 n6 c6) ?_ ?_ HG7.out HL7.out
         · refine KAt.keep (S := fun b => wr.heap.size < b ∧ b < w6.heap.size) ?_ (fun b hb => ⟨by omega, by simp; omega, fun e => ?_⟩) (fun p hp => World.cell?_alloc_lt w6 _ p hp.2)
           · exact hk6.keep (fun b hb => ⟨by have := hb.1; simp at this; omega, hb.2⟩) (fun _ _ => rfl)
           · have := (HV.out.own.lt b (by rw [hlk] at *; exact e)).2; omega
         · rw [hlk, HXN.out]; exact HO7.out
       · exact Below.trans (HW.out.trans (HG6.out.alloc _)) (below_own (Below.refl w.heap.size _) ((hv6.own.alloc _)) HG7.out (by simp; omega))
     case measure => simp [intOf]; omega
   · obtain rfl : k = n := by omega
     obtain ⟨VA, vc, rfl, _, _⟩ := hv.form
     have HV := Lib.hid hv
     have HW := Lib.hid hw
     clear hv hw HR
     go_wp2
     go_ret
     refine ⟨_, ss, rfl, ?_, HW.out⟩
     have := HV.out
     rwa [List.take_of_length_le (by rw [LN.out]; omega)] at this ⊢
end
end Go.Proofs.YthhbkabdhkdafaaGreat
