/- The reference's reading of a line of a thread. What reading keeps: bounds and counts; reading a beginning of a text. What stands in memory while a text is read. -/
import Derived.Test.YtpkefohcccpncaaGreatDoorQAm
import Derived.Test.YtpkefohcccpncaaGreatDoorQAk
import Derived.Test.YtpkefohcccpncaaGreatDoorQAf
namespace Go.Proofs.YtpkefohcccpncaaGreatDoor
open Go.RowKit
set_option linter.unusedSimpArgs false
set_option linter.unusedVariables false

theorem results_row_tmp2 {fn : Func} {p q r : Tmp} {ty : TypeId} (h : fn.results = #[.cell p ty, .tmp q, .tmp r]) (tmps : Array Value) (w : World) (g : Nat) (cs : Array Value) (u v : Value)
    (hp : tmps.getD p undef = .pointer (some ⟨g, 0, none⟩)) (hl : (loadVar ty ⟨g, 0, none⟩).run Tryz.prog w = .ok (.agg cs) w)
    (hq : tmps.getD q undef = u) (hr : tmps.getD r undef = v) :
    (results fn tmps).run Tryz.prog w = .ok (.tuple #[.agg cs, u, v]) w := by
  have hp' : tmps[p]?.getD undef = .pointer (some ⟨g, 0, none⟩) := by simpa using hp
  have hq' : tmps[q]?.getD undef = u := by simpa using hq
  have hr' : tmps[r]?.getD undef = v := by simpa using hr
  simp [results, h, hp', hq', hr', asAddr, hl]
theorem blk_set3 {w : World} {g : Nat} {t : TypeId} {a b c : Value} (h : Blk w g t #[a, b, c]) (x y z : Value) : Blk (((w.setCell ⟨g, 0, none⟩ x).setCell ⟨g, 1, none⟩ y).setCell ⟨g, 2, none⟩ z) g t #[x, y, z] :=
  ((h.set_ 0 x).set_ 1 y).set_ 2 z
theorem rdR_at {x r : List UInt8} {i at_ : Nat} (hi : i < 4) (h : ∀ j, j < i → twoL x (kwOf (j + 1)) = none) (hr : twoL x (kwOf (i + 1)) = some r) :
    rdR x at_ = if numL r then some (⟨((i + 1 : Nat) : Int), valD r, at_⟩, []) else none := by
  have : i = 0 ∨ i = 1 ∨ i = 2 ∨ i = 3 := by omega
  rcases this with rfl | rfl | rfl | rfl
  · unfold rdR; rw [hr]; rfl
  · unfold rdR; rw [h 0 (by omega), hr]; rfl
  · unfold rdR; rw [h 0 (by omega), h 1 (by omega), hr]; rfl
  · unfold rdR; rw [h 0 (by omega), h 1 (by omega), h 2 (by omega), hr]; rfl
theorem rdR_5 {x r : List UInt8} {at_ : Nat} (h : ∀ j, j < 4 → twoL x (kwOf (j + 1)) = none) (hr : twoL x (kwOf 5) = some r) :
    rdR x at_ = if namedL r then some (⟨5, 0, at_⟩, r) else none := by
  unfold rdR; rw [h 0 (by omega), h 1 (by omega), h 2 (by omega), h 3 (by omega), hr]
theorem rdR_67 {x : List UInt8} {at_ : Nat} (h : ∀ j, j < 4 → twoL x (kwOf (j + 1)) = none) (hr : twoL x (kwOf 5) = none) :
    rdR x at_ = if x = kwOf 6 then some (⟨6, 0, at_⟩, []) else if x = kwOf 7 then some (⟨7, 0, at_⟩, []) else none := by
  unfold rdR; rw [h 0 (by omega), h 1 (by omega), h 2 (by omega), h 3 (by omega), hr]
def kwB (k : Nat) : ByteArray := ⟨(kwOf k).toArray⟩
def RdPost (w : World) (x : List UInt8) (at_ : Nat) (e : Ending) (w' : World) : Prop := ∃ (l : Ln) (wd : ByteArray), e = .returned (.tuple #[.agg #[.int .i64 l.k, .int .i64 l.a, .int .i64 l.n], .string wd, .bool (rdR x at_).isSome]) ∧
  (∀ y, rdR x at_ = some y → y.1 = l ∧ wd.data.toList = y.2) ∧ Below w.heap.size w w'
set_option maxRecDepth 100000 in
set_option maxHeartbeats 8000000 in
theorem rread_any (s : ByteArray) (at_ : Nat) (w : World) (hs : s.size ≤ 100000) (hat : at_ ≤ 100000) : Calls Tryz.prog 59 #[.string s, .int .i64 at_] w (RdPost w s.data.toList at_) := by
  have TW : Hid (∀ (W : World) (k : Nat), Calls Tryz.prog 57 #[.string s, .string (kwB k)] W (TwoPost W s.data.toList (kwOf k))) := Lib.hid (fun W k => by
    refine rtwo_any s (kwB k) W hs ?_
    show (kwOf k).length ≤ 100
    unfold kwOf
    repeat (first | split | simp))
  have DG : Hid (∀ (W : World) (r : ByteArray), r.size ≤ 9223372036854775807 → Calls Tryz.prog 58 #[.string r] W fun e w' => e = .returned (.tuple #[.int .i64 (digV r.data.toList), .bool (numL r.data.toList)]) ∧ W = w') := Lib.hid (fun W r h => rdigits_any r W h)
  have NM : Hid (∀ (W : World) (r : ByteArray), r.size ≤ 9223372036854775807 → Calls Tryz.prog 46 #[.string r] W fun e w' => e = .returned (.bool (namedL r.data.toList)) ∧ W = w') := Lib.hid (fun W r h => rname_any r W h _ rfl)
  have HTL : Hid (∀ f r, twoL s.data.toList f = some r → r.length ≤ s.size) := Lib.hid (fun f r h => by
    unfold twoL at h
    split at h
    · injection h with h; rw [← h, List.length_drop]; simp
    · cases h)
  unfold TwoPost at TW
  go_enter Tryz.func59, Tryz.ntmps59
  go_upto_block 0 with fail
  obtain ⟨ad, had⟩ : ∃ ad : Addr, ad = ⟨w.heap.size + 1, 0, none⟩ := ⟨_, rfl⟩
  rw [← had]
  refine wp_world (fun W => Hid (Blk W w.heap.size 42 #[.int .i64 0, .int .i64 0, .int .i64 0] ∧ Below w.heap.size w W ∧ ∀ i, i < 4 → W.cell? (ad.add i) = some (.string (kwB (i + 1))))) (Lib.hid ⟨(Blk.new w _ _).alloc _, ((Below.refl _ _).alloc (Nat.le_refl _) _).alloc (by simp) _, ?_⟩) ?_
  · intro i hi
    have h := cells_new_list (w.alloc (.cells #[.int .i64 0, .int .i64 0, .int .i64 0] 42)) 9 [.string (kwB 1), .string (kwB 2), .string (kwB 3), .string (kwB 4)] i (.string (kwB (i + 1)))
    rw [World.size_alloc] at h
    rw [had]
    have hi4 : i = 0 ∨ i = 1 ∨ i = 2 ∨ i = 3 := by omega
    rcases hi4 with rfl | rfl | rfl | rfl <;> exact h rfl
  intro W0 HW0
  clear had
  have hres := HW0.out.1
  have hz : w.heap.size < W0.heap.size := hres.lt
  have r0 := hres.cell 0
  have r1 := hres.cell 1
  have r2 := hres.cell 2
  have f0 := hres.frozen 0
  have f1 := hres.frozen 1
  have f2 := hres.frozen 2
  have HEND : Hid (∀ (x y z : Int), Blk (((W0.setCell ⟨w.heap.size, 0, none⟩ (.int .i64 x)).setCell ⟨w.heap.size, 1, none⟩ (.int .i64 y)).setCell ⟨w.heap.size, 2, none⟩ (.int .i64 z)) w.heap.size 42 #[.int .i64 x, .int .i64 y, .int .i64 z] ∧ Below w.heap.size w (((W0.setCell ⟨w.heap.size, 0, none⟩ (.int .i64 x)).setCell ⟨w.heap.size, 1, none⟩ (.int .i64 y)).setCell ⟨w.heap.size, 2, none⟩ (.int .i64 z))) := Lib.hid (fun x y z =>
    ⟨blk_set3 hres _ _ _, ((HW0.out.2.1.setCell (p := ⟨w.heap.size, 0, none⟩) (Nat.le_refl _) _).setCell (p := ⟨w.heap.size, 1, none⟩) (Nat.le_refl _) _).setCell (p := ⟨w.heap.size, 2, none⟩) (Nat.le_refl _) _⟩)
  have hs6 : s.data.toList = kwOf 6 ∨ s.data.toList ≠ kwOf 6 := by by_cases h : s.data.toList = kwOf 6; exact .inl h; exact .inr h
  clear hres
  go_wp2_with fail
  go_loop [8] (fun s8 => ∃ i : Nat, i ≤ 4 ∧ s8 = .int .i64 i ∧ Hid (∀ j, j < i → twoL s.data.toList (kwOf (j + 1)) = none)) (fun s8 => 4 - (intOf s8).toNat)
  case atStart => exact ⟨0, by omega, rfl, Lib.hid (fun j h => absurd h (by omega))⟩
  case round =>
    obtain ⟨i, hi, rfl, HN⟩ := hrel
    by_cases hlt : i < 4
    · have c0 := HW0.out.2.2 i hlt
      have i0 : (0 : Int) ≤ (i : Int) := by omega
      have i1 : (i : Int) < 4 := by omega
      have TW2 := Lib.hid (fun W => TW.out W (i + 1))
      rcases htw : twoL s.data.toList (kwOf (i + 1)) with _ | r
      · have HT : Hid (twoL s.data.toList (kwOf (i + 1)) = none) := Lib.hid htw
        rw [htw] at TW2
        clear htw
        go_wp2_with (go_at_call 57; go_must (refine (TW2.out _).mono ?_; rintro e w' ⟨rr, rfl, _, rfl⟩))
        go_round
        case rel => exact ⟨i + 1, by omega, by go_num, Lib.hid (fun j hj => by
          by_cases e : j = i
          · rw [e]; exact HT.out
          · exact HN.out j (by omega))⟩
        case measure => simp [intOf]; omega
      · have HR := Lib.hid (rdR_at (at_ := at_) hlt HN.out htw)
        have hrl := HTL.out _ _ htw
        rw [htw] at TW2
        clear htw
        go_wp2_with (first
          | (go_at_call 57; go_must (refine (TW2.out _).mono ?_; rintro e w' ⟨rr, rfl, hrr, rfl⟩; (have hrs : rr.size ≤ 9223372036854775807 := by (rw [sz_of hrr]; simp; omega)); (have HRR : Hid (rr.data.toList = r) := Lib.hid hrr); clear hrr))
          | (go_at_call 58; go_must (refine (DG.out _ rr hrs).mono ?_; rintro e w' ⟨rfl, rfl⟩; (rw [HRR.out]))))
        refine bodyPost_ret (results_row_tmp2 (p := 4) (q := 5) (r := 6) (ty := 42) rfl _ _ w.heap.size _ _ _ rfl (run_loadVar_row _ _ 42 42 _ (0, 0) _ (HEND.out _ _ _).1 Tryz.underlying42 rfl (by kernel_rfl)) rfl rfl) rfl ?_
        have hsome : (rdR s.data.toList at_).isSome = numL r := by rw [HR.out]; rcases numL r with _ | _ <;> rfl
        unfold RdPost
        rw [hsome]
        refine ⟨⟨_, _, _⟩, _, rfl, ?_, (HEND.out _ _ _).2⟩
        · intro y hy
          rw [HR.out] at hy
          rcases hn : numL r with _ | _
          · rw [hn] at hy; cases hy
          · rw [hn] at hy; injection hy with hy
            rw [← hy]
            refine ⟨?_, rfl⟩
            show (⟨((i + 1 : Nat) : Int), valD r, at_⟩ : Ln) = ⟨1 + (i : Int), valD r, at_⟩
            congr 1; omega
    · obtain rfl : i = 4 := by omega
      have TW2 := Lib.hid (fun W => TW.out W 5)
      have HN4 := Lib.hid HN.out
      rcases htw : twoL s.data.toList (kwOf 5) with _ | r
      rotate_left
      · have HR := Lib.hid (rdR_5 (at_ := at_) HN.out htw)
        have hrl := HTL.out _ _ htw
        rw [htw] at TW2
        clear htw
        go_wp2_with (first
          | (go_at_call 57; go_must (refine (TW2.out _).mono ?_; rintro e w' ⟨rr, rfl, hrr, rfl⟩; (have hrs : rr.size ≤ 9223372036854775807 := by (rw [sz_of hrr]; simp; omega)); (have HRR : Hid (rr.data.toList = r) := Lib.hid hrr); clear hrr))
          | (go_at_call 46; go_must (refine (NM.out _ rr hrs).mono ?_; rintro e w' ⟨rfl, rfl⟩; (rw [HRR.out]))))
        refine bodyPost_ret (results_row_tmp2 (p := 4) (q := 5) (r := 6) (ty := 42) rfl _ _ w.heap.size _ _ _ rfl (run_loadVar_row _ _ 42 42 _ (0, 0) _ (HEND.out _ _ _).1 Tryz.underlying42 rfl (by kernel_rfl)) rfl rfl) rfl ?_
        have hsome : (rdR s.data.toList at_).isSome = namedL r := by rw [HR.out]; rcases namedL r with _ | _ <;> rfl
        unfold RdPost
        rw [hsome]
        refine ⟨⟨_, _, _⟩, _, rfl, ?_, (HEND.out _ _ _).2⟩
        · intro y hy
          rw [HR.out] at hy
          rcases hn : namedL r with _ | _
          · rw [hn] at hy; cases hy
          · rw [hn] at hy; injection hy with hy
            rw [← hy]
            exact ⟨rfl, HRR.out⟩
      have HR := Lib.hid (rdR_67 (at_ := at_) HN.out htw)
      rw [htw] at TW2
      clear htw
      rcases hs6 with h6 | h6
      · have c6 : (s.toList == [115, 116, 111, 112]) = true := by rw [toList_data, h6]; rfl
        have HR2 : Hid (rdR s.data.toList at_ = some (⟨6, 0, at_⟩, [])) := Lib.hid (by rw [HR.out, if_pos h6])
        clear h6
        go_wp2_with (go_at_call 57; go_must (refine (TW2.out _).mono ?_; rintro e w' ⟨rr, rfl, _, rfl⟩))
        refine bodyPost_ret (results_row_tmp2 (p := 4) (q := 5) (r := 6) (ty := 42) rfl _ _ w.heap.size _ _ _ rfl (run_loadVar_row _ _ 42 42 _ (0, 0) _ (HEND.out _ _ _).1 Tryz.underlying42 rfl (by kernel_rfl)) rfl rfl) rfl ?_
        unfold RdPost
        rw [HR2.out]
        refine ⟨⟨_, _, _⟩, _, rfl, ?_, (HEND.out _ _ _).2⟩
        intro y hy
        injection hy with hy
        rw [← hy]; exact ⟨rfl, rfl⟩
      have c6 : (s.toList == [115, 116, 111, 112]) = false := by rw [toList_data]; exact beq_eq_false_iff_ne.2 h6
      by_cases h7 : s.data.toList = kwOf 7
      · have c7 : (s.toList == [102, 97, 105, 108]) = true := by rw [toList_data, h7]; rfl
        have HR2 : Hid (rdR s.data.toList at_ = some (⟨7, 0, at_⟩, [])) := Lib.hid (by rw [HR.out, if_neg h6, if_pos h7])
        clear h6 h7
        go_wp2_with (go_at_call 57; go_must (refine (TW2.out _).mono ?_; rintro e w' ⟨rr, rfl, _, rfl⟩))
        refine bodyPost_ret (results_row_tmp2 (p := 4) (q := 5) (r := 6) (ty := 42) rfl _ _ w.heap.size _ _ _ rfl (run_loadVar_row _ _ 42 42 _ (0, 0) _ (HEND.out _ _ _).1 Tryz.underlying42 rfl (by kernel_rfl)) rfl rfl) rfl ?_
        unfold RdPost
        rw [HR2.out]
        refine ⟨⟨_, _, _⟩, _, rfl, ?_, (HEND.out _ _ _).2⟩
        intro y hy
        injection hy with hy
        rw [← hy]; exact ⟨rfl, rfl⟩
      · have c7 : (s.toList == [102, 97, 105, 108]) = false := by rw [toList_data]; exact beq_eq_false_iff_ne.2 h7
        have HR2 : Hid (rdR s.data.toList at_ = none) := Lib.hid (by rw [HR.out, if_neg h6, if_neg h7])
        clear h6 h7
        go_wp2_with (go_at_call 57; go_must (refine (TW2.out _).mono ?_; rintro e w' ⟨rr, rfl, _, rfl⟩))
        refine bodyPost_ret (results_row_tmp2 (p := 4) (q := 5) (r := 6) (ty := 42) rfl _ _ w.heap.size _ _ _ rfl (run_loadVar_row _ _ 42 42 _ (0, 0) _ (HEND.out _ _ _).1 Tryz.underlying42 rfl (by kernel_rfl)) rfl rfl) rfl ?_
        unfold RdPost
        rw [HR2.out]
        refine ⟨⟨_, _, _⟩, _, rfl, ?_, (HEND.out _ _ _).2⟩
        intro y hy
        cases hy
end Go.Proofs.YtpkefohcccpncaaGreatDoor
namespace Go.Proofs.YtpkefohcccpncaaGreatDoor
open Go.RowKit
set_option linter.unusedSimpArgs false
set_option linter.unusedVariables false

structure RInv (st : PS) (n : Nat) : Prop where
  ts : st.ts.length ≤ n
  ns : st.ns.length ≤ n
  sum : lensum st.ts = st.ns.length
  op : st.op = true → st.ts ≠ []
  nms : ∀ t ∈ st.ts, t.nm.size ≤ 5000
theorem lensum_append (a b : List Th) : lensum (a ++ b) = lensum a + lensum b := by
  induction a with
  | nil => simp [lensum]
  | cons x xs ih => simp only [List.cons_append, lensum, ih]; omega
theorem lensum_le : ∀ (ts : List Th) (t : Th), t ∈ ts → t.ls.length ≤ lensum ts := by
  intro ts
  induction ts with
  | nil => intro t h; cases h
  | cons x xs ih =>
    intro t h
    rw [lensum]
    rcases List.mem_cons.1 h with rfl | h
    · omega
    · have := ih t h; omega
theorem RInv.bounds {st : PS} {n N : Nat} (h : RInv st n) (hn : n ≤ N) : PsB st N :=
  ⟨by have := h.ts; omega, by have := h.ns; omega, fun t ht => by have := lensum_le _ t ht; have := h.sum; have := h.ns; omega⟩
theorem RInv.more {st : PS} {n m : Nat} (h : RInv st n) (hn : n ≤ m) : RInv st m := ⟨by have := h.ts; omega, by have := h.ns; omega, h.sum, h.op, h.nms⟩
theorem putLn_inv {ts : List Th} (hne : ts ≠ []) (l : Ln) : (putLn ts l).length = ts.length ∧ lensum (putLn ts l) = lensum ts + 1 ∧ putLn ts l ≠ [] ∧ ∀ t' ∈ putLn ts l, ∃ t ∈ ts, t'.nm = t.nm := by
  obtain ⟨pre, t, rfl⟩ : ∃ pre t, ts = pre ++ [t] := ⟨_, _, (List.dropLast_concat_getLast hne).symm⟩
  rw [putLn_snoc]
  refine ⟨by simp, ?_, by simp, ?_⟩
  · rw [lensum_append, lensum_append]
    simp [lensum]
    omega
  · intro t' ht'
    rcases List.mem_append.1 ht' with h | h
    · exact ⟨t', List.mem_append_left _ h, rfl⟩
    · have : t' = ⟨t.nm, t.ls ++ [l]⟩ := by simpa using h
      subst this
      exact ⟨t, List.mem_append_right _ (by simp), rfl⟩
theorem rdLine_inv {st st' : PS} {n at_ : Nat} {key rest : List UInt8} {more : Bool} (h : RInv st n) (hop : st.op = true) (hr : rdLine st at_ key rest more = some st') : RInv st' (n + 1) := by
  have hput : ∀ (l : Ln) (y : List UInt8), RInv { st with ts := putLn st.ts l, ns := st.ns ++ [y] } (n + 1) := by
    intro l y
    obtain ⟨h1, h2, h3, h4⟩ := putLn_inv (h.op hop) l
    refine ⟨?_, ?_, ?_, fun _ => h3, fun t' ht' => by obtain ⟨t, ht, e⟩ := h4 t' ht'; rw [e]; exact h.nms t ht⟩
    · show (putLn st.ts l).length ≤ n + 1
      rw [h1]; have := h.ts; omega
    · simp; exact h.ns
    · show lensum (putLn st.ts l) = (st.ns ++ [y]).length
      rw [h2, h.sum]; simp
  unfold rdLine at hr
  split at hr
  · cases hr
  · split at hr
    · split at hr
      · cases hr
      · injection hr with hr; subst hr; exact hput _ _
    · split at hr
      · split at hr
        · injection hr with hr; subst hr; exact hput _ _
        · cases hr
      · split at hr
        · injection hr with hr; subst hr; exact hput _ _
        · cases hr
theorem rd_inv {st st' : PS} {n at_ : Nat} {x : List UInt8} (h : RInv st n) (hr : rd st at_ x = some st') : RInv st' (n + 1) := by
  unfold rd at hr
  split at hr
  · unfold rdText at hr
    split at hr
    · split at hr
      · injection hr with hr; subst hr; exact ⟨by have := h.ts; show st.ts.length ≤ _; omega, by have := h.ns; show st.ns.length ≤ _; omega, h.sum, h.op, h.nms⟩
      · cases hr
    · split at hr
      · split at hr
        · injection hr with hr; subst hr
          refine ⟨by have := h.ts; simp; omega, by have := h.ns; show st.ns.length ≤ _; omega, ?_, fun _ => by simp, ?_⟩
          · show lensum (st.ts ++ [_]) = st.ns.length
            rw [lensum_append, ← h.sum]; simp [lensum]
          · intro t ht
            rcases List.mem_append.1 ht with h2 | h2
            · exact h.nms t h2
            · rename_i hc
              have : t = ⟨⟨(cutL x.dropLast).2.1.toArray⟩, []⟩ := by simpa using h2
              subst this
              have := named_len hc.2
              have e := size_data (⟨(cutL x.dropLast).2.1.toArray⟩ : ByteArray)
              rw [← e]
              show (cutL x.dropLast).2.1.length ≤ 5000
              omega
        · cases hr
      · rename_i hop
        split at hr
        · injection hr with hr; subst hr; exact ⟨by have := h.ts; show st.ts.length ≤ _; omega, by have := h.ns; show st.ns.length ≤ _; omega, h.sum, (fun e => by cases e), h.nms⟩
        · exact rdLine_inv h (by simpa using hop) hr
  · cases hr
/-- reading a beginning of a text -/
def rdF : PS → Nat → List (List UInt8) → Option PS
  | st, _, [] => some st
  | st, n, x :: xs => match rd st (n + 1) x with
    | none => none
    | some st' => rdF st' (n + 1) xs
theorem rdF_snoc : ∀ (p : List (List UInt8)) (st : PS) (n : Nat) (x : List UInt8) (st' : PS), rdF st n p = some st' → rdF st n (p ++ [x]) = rd st' (n + p.length + 1) x := by
  intro p
  induction p with
  | nil => intro st n x st' h; injection h with h; subst h; simp only [List.nil_append, rdF, List.length_nil, Nat.add_zero]; cases rd st (n + 1) x <;> rfl
  | cons y p ih =>
    intro st n x st' h
    simp only [List.cons_append, rdF] at h ⊢
    rcases hy : rd st (n + 1) y with _ | s1
    · rw [hy] at h; cases h
    · rw [hy] at h
      simp only at h ⊢
      rw [ih s1 (n + 1) x st' h]
      simp only [List.length_cons]
      rw [show n + 1 + p.length + 1 = n + (p.length + 1) + 1 from by omega]
theorem rdAll_done : ∀ (p : List (List UInt8)) (st : PS) (n : Nat) (st' : PS), rdF st n p = some st' → rdAll st n p = .inr (st', n + p.length) := by
  intro p
  induction p with
  | nil => intro st n st' h; injection h with h; subst h; rfl
  | cons y p ih =>
    intro st n st' h
    simp only [rdF, rdAll] at h ⊢
    rcases hy : rd st (n + 1) y with _ | s1
    · rw [hy] at h; cases h
    · rw [hy] at h
      simp only at h ⊢
      rw [ih s1 (n + 1) st' h]
      simp only [List.length_cons]
      rw [show n + 1 + p.length = n + (p.length + 1) from by omega]
theorem rdAll_stop : ∀ (p : List (List UInt8)) (st : PS) (n : Nat) (st' : PS) (x : List UInt8) (r : List (List UInt8)), rdF st n p = some st' → rd st' (n + p.length + 1) x = none → rdAll st n (p ++ x :: r) = .inl (n + p.length + 1) := by
  intro p
  induction p with
  | nil => intro st n st' x r h hx; injection h with h; subst h; simp only [List.nil_append, rdAll]; rw [show n + ([] : List (List UInt8)).length + 1 = n + 1 from rfl] at hx ⊢; rw [hx]
  | cons y p ih =>
    intro st n st' x r h hx
    simp only [List.cons_append, rdF, rdAll] at h ⊢
    rcases hy : rd st (n + 1) y with _ | s1
    · rw [hy] at h; cases h
    · rw [hy] at h
      simp only at h ⊢
      simp only [List.length_cons] at hx ⊢
      rw [ih s1 (n + 1) st' x r h (by rw [show n + 1 + p.length + 1 = n + (p.length + 1) + 1 from by omega]; exact hx)]
      rw [show n + 1 + p.length + 1 = n + (p.length + 1) + 1 from by omega]

theorem resLines_len : ∀ (all : List Th) (ls ls' : List Ln) (ns : List (List UInt8)), resLines all ls ns = some ls' → ls'.length = ls.length := by
  intro all ls
  induction ls with
  | nil => intro ls' ns h; injection h with h; subst h; rfl
  | cons l r ih =>
    intro ls' ns h
    rw [resLines] at h
    rcases h1 : fixLn all l (ns.headD []) with _ | a
    · rw [h1] at h; cases h
    · rcases h2 : resLines all r ns.tail with _ | b
      · rw [h1, h2] at h; cases h
      · rw [h1, h2] at h; injection h with h; subst h; simp [ih b _ h2]
theorem resThs_keep : ∀ (all ts ts' : List Th) (ns : List (List UInt8)), resThs all ts ns = some ts' → ts'.length = ts.length ∧ ∀ t' ∈ ts', ∃ t ∈ ts, t'.nm = t.nm ∧ t'.ls.length = t.ls.length := by
  intro all ts
  induction ts with
  | nil => intro ts' ns h; injection h with h; subst h; exact ⟨rfl, fun t h => by cases h⟩
  | cons t r ih =>
    intro ts' ns h
    rw [resThs] at h
    rcases h1 : resLines all t.ls ns with _ | a
    · rw [h1] at h; cases h
    · rcases h2 : resThs all r (ns.drop t.ls.length) with _ | b
      · rw [h1, h2] at h; cases h
      · rw [h1, h2] at h; injection h with h; subst h
        obtain ⟨i1, i2⟩ := ih b _ h2
        refine ⟨by simp [i1], fun t' ht' => ?_⟩
        rcases List.mem_cons.1 ht' with rfl | h3
        · exact ⟨t, by simp, rfl, resLines_len _ _ _ _ h1⟩
        · obtain ⟨u, hu, e⟩ := i2 t' h3
          exact ⟨u, by simp [hu], e⟩
end Go.Proofs.YtpkefohcccpncaaGreatDoor
namespace Go.Proofs.YtpkefohcccpncaaGreatDoor
open Go.RowKit
set_option linter.unusedSimpArgs false
set_option linter.unusedVariables false

theorem own_keep {A W : World} {row : Option Nat} {B e size n : Nat} {v : Value} {xs : List Value} (h : A.ownsRow B e size v n xs) (hg : A.grownBy W row) (hr : ∀ r, row = some r → r < B ∨ ∀ c T fz, A.heap[r]? ≠ some (.cells c T fz)) : W.ownsRow B e size v n xs := by
  refine h.kept hg ?_
  rcases ho : v.ownBlock with _ | k
  · exact .inl rfl
  · right; intro e
    obtain ⟨c, fz, hc⟩ := own_kindP h k ho
    rcases hr k e.symm with h2 | h2
    · have := (h.lt k ho).1; omega
    · exact h2 _ _ _ hc
theorem PsI.keep {A W : World} {row : Option Nat} {B g : Nat} {st : PS} {tv nv : Value} {vs : List Value} {lim : Nat} (h : PsI A B g st tv nv vs lim) (hg : A.grownBy W row) (hr : ∀ r, row = some r → r ≠ g ∧ (r < B ∨ ∀ c T fz, A.heap[r]? ≠ some (.cells c T fz))) : PsI W B g st tv nv vs lim :=
  ⟨h.blk.grown hg (fun e => (hr g e.symm).1 rfl), h.gB, Nat.le_trans h.Bw hg.size, own_keep h.nm hg (fun r e => (hr r e).2), h.vl, own_keep h.th hg (fun r e => (hr r e).2), fun k h1 h2 => own_keep (h.ln k h1 h2) hg (fun r e => (hr r e).2), Nat.le_trans h.limw hg.size, h.pre, h.last, h.dis⟩
theorem own_reads {w : World} {B e size n : Nat} {v : Value} {xs : List Value} (h : w.ownsRow B e size v n xs) {A : Option Addr} {c : Nat} (hv : v = .slice A n c) (hl : xs.length = n * size) : Reads w w.heap.size size A n xs := by
  refine ⟨hl, fun hn => ?_⟩
  obtain ⟨g, cap, e1, hb, hlt⟩ := h.form hn
  rw [hv] at e1
  injection e1 with e1 _ e2
  subst e1
  refine ⟨⟨g, 0, none⟩, rfl, hlt, fun j u hu => ?_⟩
  have hj : j < n * size := by rw [← hl]; exact (List.getElem?_eq_some_iff.1 hu).1
  rw [hv] at h
  have := h.cellAt j hj
  rw [hu] at this
  have e3 : (⟨g, 0, none⟩ : Addr).add j = ⟨g, j, none⟩ := by
    unfold Addr.add
    split
    · rename_i h0; subst h0; rfl
    · simp
  rw [e3]; exact this
theorem PsI.ths {w : World} {B g : Nat} {st : PS} {A : Option Addr} {c : Nat} {nv : Value} {vs : List Value} {lim : Nat} (h : PsI w B g st (.slice A st.ts.length c) nv vs lim) : ThsAt w w.heap.size A st.ts := by
  refine ⟨vs, h.vl, own_reads h.th rfl (thCells_length _ _ h.vl), fun k h1 h2 => ?_⟩
  have hl := h.ln k h2 h1
  obtain ⟨LA, lc, hv⟩ := own_form hl
  exact ⟨LA, lc, hv, own_reads hl hv (lnCells_length _)⟩
theorem grown_heapP {A B : World} {row : Option Nat} {k : Nat} {o : Obj} (hg : A.grownBy B row) (ho : A.heap[k]? = some o) (hk : ∀ r, row = some r → k ≠ r) : B.heap[k]? = some o :=
  (hg.block k (Array.getElem?_eq_some_iff.1 ho).1 (fun e => hk k e.symm rfl)).trans ho

structure PaR (w W : World) (v0 v1 v2 : Value) (v0' : Value) : Prop where
  r0 : W.heap[w.heap.size]? = some (.cells #[v0, v0'] 28 (0, 0))
  r1 : W.heap[w.heap.size + 1]? = some (.cells #[v1] 3 (0, 0))
  r2 : W.heap[w.heap.size + 1 + 1]? = some (.cells #[v2] 31 (0, 0))
  be : Below w.heap.size w W
structure PaI (w : World) (st : PS) (n : Nat) (W : World) : Prop where
  ps : ∃ tv nv vs lim, PsI W (w.heap.size + 1 + 1 + 1 + 1 + 1 + 1 + 1) (w.heap.size + 1 + 1 + 1) st tv nv vs lim
  rs : PaR w W (.int .i64 0) (.int .i64 0) (.int .i64 0) (.slice none 0 0)
  rp : W.heap[w.heap.size + 1 + 1 + 1 + 1]? = some (.cells #[.pointer (some ⟨w.heap.size + 1 + 1 + 1, 0, none⟩)] 86 (0, 0))
  at_ : W.heap[w.heap.size + 1 + 1 + 1 + 1 + 1]? = some (.cells #[.int .i64 n] 3 (0, 0))
  bx : ∃ c, W.heap[w.heap.size + 1 + 1 + 1 + 1 + 1 + 1]? = some (.cells c 9 (0, 0))
/-- a change of the iterator's box, or of a block behind that holds no cells -/
theorem PaR.keep {w A W : World} {v0 v1 v2 v3 : Value} {row : Option Nat} (h : PaR w A v0 v1 v2 v3) (hg : A.grownBy W row) (hr : ∀ r, row = some r → w.heap.size + 1 + 1 < r) : PaR w W v0 v1 v2 v3 :=
  have hne : ∀ k, k ≤ w.heap.size + 1 + 1 → ∀ r, row = some r → k ≠ r := fun k hk r e => by have := hr r e; omega
  ⟨grown_heapP hg h.r0 (hne _ (by omega)), grown_heapP hg h.r1 (hne _ (by omega)), grown_heapP hg h.r2 (hne _ (by omega)), h.be.grown hg h.be.size (fun k hk => by have := hr k hk; omega)⟩
theorem PaI.keep {w A W : World} {st : PS} {n : Nat} {row : Option Nat} (h : PaI w st n A) (hg : A.grownBy W row)
    (hr : ∀ r, row = some r → (w.heap.size + 1 + 1 + 1 + 1 + 1 + 1 < r ∧ ∀ c T fz, A.heap[r]? ≠ some (.cells c T fz)) ∨ (r = w.heap.size + 1 + 1 + 1 + 1 + 1 + 1 ∧ ∃ c, W.heap[r]? = some (.cells c 9 (0, 0)))) : PaI w st n W := by
  have hlt : ∀ r, row = some r → w.heap.size + 1 + 1 + 1 + 1 + 1 < r := fun r e => by rcases hr r e with h | h <;> omega
  obtain ⟨tv, nv, vs, lim, hp⟩ := h.ps
  obtain ⟨c, hc⟩ := h.bx
  refine ⟨⟨tv, nv, vs, lim, hp.keep hg (fun r e => ⟨by have := hlt r e; omega, ?_⟩)⟩, h.rs.keep hg (fun r e => by have := hlt r e; omega), grown_heapP hg h.rp (fun r e => by have := hlt r e; omega), grown_heapP hg h.at_ (fun r e => by have := hlt r e; omega), ?_⟩
  · rcases hr r e with h | h
    · exact .inr h.2
    · exact .inl (by omega)
  · by_cases e : row = some (w.heap.size + 1 + 1 + 1 + 1 + 1 + 1)
    · rcases hr _ e with h | ⟨_, hb⟩
      · omega
      · exact hb
    · exact ⟨c, grown_heapP hg hc (fun r he => by rintro rfl; exact e he)⟩
/-- one line read -/
theorem PaI.next {w W W2 : World} {st : PS} {n : Nat} (h : PaI w st n W) {m : Nat} (hf : FrB (w.heap.size + 1 + 1 + 1 + 1 + 1 + 1 + 1) (w.heap.size + 1 + 1 + 1) (W.setCell ⟨w.heap.size + 1 + 1 + 1 + 1 + 1, 0, none⟩ (.int .i64 m)) W2) :
    PaR w W2 (.int .i64 0) (.int .i64 0) (.int .i64 0) (.slice none 0 0) ∧ W2.heap[w.heap.size + 1 + 1 + 1 + 1]? = some (.cells #[.pointer (some ⟨w.heap.size + 1 + 1 + 1, 0, none⟩)] 86 (0, 0)) ∧
    W2.heap[w.heap.size + 1 + 1 + 1 + 1 + 1]? = some (.cells #[.int .i64 m] 3 (0, 0)) ∧ ∃ c, W2.heap[w.heap.size + 1 + 1 + 1 + 1 + 1 + 1]? = some (.cells c 9 (0, 0)) := by
  obtain ⟨c, hc⟩ := h.bx
  have hfar : ∀ k o, k < w.heap.size + 1 + 1 + 1 + 1 + 1 + 1 + 1 → k ≠ w.heap.size + 1 + 1 + 1 → k ≠ w.heap.size + 1 + 1 + 1 + 1 + 1 → W.heap[k]? = some o → W2.heap[k]? = some o := fun k o h1 h2 h3 ho =>
    (hf.block k h1 h2).trans ((Below.heap_setCell W _ _ k h3).trans ho)
  have hb : Below w.heap.size w W2 := by
    have h1 := h.rs.be.setCell (p := ⟨w.heap.size + 1 + 1 + 1 + 1 + 1, 0, none⟩) (by simp <;> omega) (.int .i64 m)
    exact ⟨hf.os.trans h1.os, hf.tape.trans h1.tape, hf.output.trans h1.output, Nat.le_trans h1.size hf.size, fun k hk => (hf.block k (by omega) (by omega)).trans (h1.block k hk)⟩
  refine ⟨⟨hfar _ _ (by omega) (by omega) (by omega) h.rs.r0, hfar _ _ (by omega) (by omega) (by omega) h.rs.r1, hfar _ _ (by omega) (by omega) (by omega) h.rs.r2, hb⟩, hfar _ _ (by omega) (by omega) (by omega) h.rp, ?_, c, hfar _ _ (by omega) (by omega) (by omega) hc⟩
  exact (hf.block _ (by omega) (by omega)).trans (blk_set (i := 0) (.int .i64 m) h.at_)

theorem PaR.set_ {w W : World} {v0 v1 v2 v3 : Value} (h : PaR w W v0 v1 v2 v3) (a0 a1 a2 a3 : Value) :
    PaR w ((((W.setCell ⟨w.heap.size, 0, none⟩ a0).setCell ⟨w.heap.size, 1, none⟩ a3).setCell ⟨w.heap.size + 1, 0, none⟩ a1).setCell ⟨w.heap.size + 1 + 1, 0, none⟩ a2) a0 a1 a2 a3 := by
  have k0 := blk_set (i := 1) a3 (blk_set (i := 0) a0 h.r0)
  have k1 := blk_set (i := 0) a1 ((Below.heap_setCell _ ⟨w.heap.size, 1, none⟩ a3 _ (by dsimp only; omega)).trans ((Below.heap_setCell _ ⟨w.heap.size, 0, none⟩ a0 _ (by dsimp only; omega)).trans h.r1))
  have k2 := blk_set (i := 0) a2 ((Below.heap_setCell _ ⟨w.heap.size + 1, 0, none⟩ a1 _ (by dsimp only; omega)).trans ((Below.heap_setCell _ ⟨w.heap.size, 1, none⟩ a3 _ (by dsimp only; omega)).trans ((Below.heap_setCell _ ⟨w.heap.size, 0, none⟩ a0 _ (by dsimp only; omega)).trans h.r2)))
  refine ⟨?_, ?_, k2, ?_⟩
  · exact (Below.heap_setCell _ _ _ _ (by dsimp only; omega)).trans ((Below.heap_setCell _ _ _ _ (by dsimp only; omega)).trans k0)
  · exact (Below.heap_setCell _ _ _ _ (by dsimp only; omega)).trans k1
  · exact (((h.be.setCell (p := ⟨w.heap.size, 0, none⟩) (by simp) a0).setCell (p := ⟨w.heap.size, 1, none⟩) (by simp) a3).setCell (p := ⟨w.heap.size + 1, 0, none⟩) (by simp) a1).setCell (p := ⟨w.heap.size + 1 + 1, 0, none⟩) (by simp <;> omega) a2
theorem PaR.drewN {w W : World} {v0 v1 v2 v3 : Value} (h : PaR w W v0 v1 v2 v3) (n : Nat) : PaR w (W.drewN n) v0 v1 v2 v3 := ⟨h.r0, h.r1, h.r2, below_drewN h.be n⟩
theorem PaR.cells {w W : World} {v0 v1 v2 v3 : Value} (h : PaR w W v0 v1 v2 v3) : W.cell? ⟨w.heap.size, 0, none⟩ = some v0 ∧ W.cell? ⟨w.heap.size, 1, none⟩ = some v3 ∧ W.cell? ⟨w.heap.size + 1, 0, none⟩ = some v1 ∧ W.cell? ⟨w.heap.size + 1 + 1, 0, none⟩ = some v2 ∧
    W.frozen? ⟨w.heap.size, 0, none⟩ = false ∧ W.frozen? ⟨w.heap.size, 1, none⟩ = false ∧ W.frozen? ⟨w.heap.size + 1, 0, none⟩ = false ∧ W.frozen? ⟨w.heap.size + 1 + 1, 0, none⟩ = false := by
  have h0 : Blk W _ _ _ := h.r0
  have h1 : Blk W _ _ _ := h.r1
  have h2 : Blk W _ _ _ := h.r2
  exact ⟨h0.cell 0, h0.cell 1, h1.cell 0, h2.cell 0, h0.frozen 0, h0.frozen 1, h1.frozen 0, h2.frozen 0⟩
theorem PaI.frame {w W W2 : World} {st : PS} {n : Nat} (h : PaI w st n W) (hf : FrB (w.heap.size + 1 + 1 + 1 + 1 + 1 + 1 + 1) (w.heap.size + 1 + 1 + 1) W W2) :
    PaR w W2 (.int .i64 0) (.int .i64 0) (.int .i64 0) (.slice none 0 0) ∧ W2.heap[w.heap.size + 1 + 1 + 1 + 1]? = some (.cells #[.pointer (some ⟨w.heap.size + 1 + 1 + 1, 0, none⟩)] 86 (0, 0)) := by
  have hfar : ∀ k o, k < w.heap.size + 1 + 1 + 1 + 1 + 1 + 1 + 1 → k ≠ w.heap.size + 1 + 1 + 1 → W.heap[k]? = some o → W2.heap[k]? = some o := fun k o h1 h2 ho => (hf.block k h1 h2).trans ho
  have hb : Below w.heap.size w W2 := by
    have h1 := h.rs.be
    exact ⟨hf.os.trans h1.os, hf.tape.trans h1.tape, hf.output.trans h1.output, Nat.le_trans h1.size hf.size, fun k hk => (hf.block k (by omega) (by omega)).trans (h1.block k hk)⟩
  exact ⟨⟨hfar _ _ (by omega) (by omega) h.rs.r0, hfar _ _ (by omega) (by omega) h.rs.r1, hfar _ _ (by omega) (by omega) h.rs.r2, hb⟩, hfar _ _ (by omega) (by omega) h.rp⟩
theorem PaR.below {w W W3 : World} {v0 v1 v2 v3 : Value} (h : PaR w W v0 v1 v2 v3) (hb : Below W.heap.size W W3) : PaR w W3 v0 v1 v2 v3 :=
  have k : ∀ j o, W.heap[j]? = some o → W3.heap[j]? = some o := fun j o ho => (hb.block j (Array.getElem?_eq_some_iff.1 ho).1).trans ho
  ⟨k _ _ h.r0, k _ _ h.r1, k _ _ h.r2, h.be.trans (hb.mono h.be.size)⟩
theorem PsI.set1 {w W : World} {st : PS} {tv nv : Value} {vs : List Value} {lim : Nat} (h : PsI W (w.heap.size + 1 + 1 + 1 + 1 + 1 + 1 + 1) (w.heap.size + 1 + 1 + 1) st tv nv vs lim) {p : Addr} (hp : p.block < w.heap.size + 1 + 1 + 1) (u : Value) :
    PsI (W.setCell p u) (w.heap.size + 1 + 1 + 1 + 1 + 1 + 1 + 1) (w.heap.size + 1 + 1 + 1) st tv nv vs lim :=
  h.keep (grownBy_setCell (p := p) (World.grownBy.refl _ _) (.inl rfl) _) (fun r e => by cases e; exact ⟨by omega, .inl (by omega)⟩)
theorem PsI.out_ {w W : World} {st : PS} {tv nv : Value} {vs : List Value} {lim : Nat} (h : PsI W (w.heap.size + 1 + 1 + 1 + 1 + 1 + 1 + 1) (w.heap.size + 1 + 1 + 1) st tv nv vs lim) (a0 a1 a2 a3 : Value) :
    PsI ((((W.setCell ⟨w.heap.size, 0, none⟩ a0).setCell ⟨w.heap.size, 1, none⟩ a3).setCell ⟨w.heap.size + 1, 0, none⟩ a1).setCell ⟨w.heap.size + 1 + 1, 0, none⟩ a2) (w.heap.size + 1 + 1 + 1 + 1 + 1 + 1 + 1) (w.heap.size + 1 + 1 + 1) st tv nv vs lim :=
  (((h.set1 (p := ⟨w.heap.size, 0, none⟩) (by dsimp only; omega) a0).set1 (p := ⟨w.heap.size, 1, none⟩) (by dsimp only; omega) a3).set1 (p := ⟨w.heap.size + 1, 0, none⟩) (by dsimp only; omega) a1).set1 (p := ⟨w.heap.size + 1 + 1, 0, none⟩) (by dsimp only; omega) a2
theorem splitLs_len2 : ∀ l : List UInt8, (splitLs l).length ≤ l.length
  | [] => by simp [splitLs]
  | c :: r => by
    have ih := splitLs_len2 r
    rw [splitLs]
    split
    · simp; omega
    · split
      · simp
      · rename_i h; rw [h] at ih; simp at ih ⊢; omega
theorem belowPut {w W : World} (h : Below w.heap.size w W) {D : Nat} (hD : w.heap.size ≤ D) (o : Obj) : Below w.heap.size w (W.putObj D o) :=
  ⟨h.os, h.tape, h.output, by simpa [World.putObj] using h.size, fun k hk => (World.putObj_heap_other (by omega)).trans (h.block k hk)⟩
end Go.Proofs.YtpkefohcccpncaaGreatDoor
