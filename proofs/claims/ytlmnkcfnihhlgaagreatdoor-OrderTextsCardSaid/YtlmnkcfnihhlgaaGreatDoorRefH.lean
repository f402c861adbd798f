/- The reference's Sorted = sortedP. Plain: what the generator makes: loose values; sorted they are valid. -/
import Derived.Test.YtlmnkcfnihhlgaaGreatDoorRefG
import Derived.Test.YtlmnkcfnihhlgaaGreatDoorGenB
namespace Go.Proofs.YtlmnkcfnihhlgaaGreatDoor
open Go.RowKit
set_option linter.unusedSimpArgs false
set_option linter.unusedVariables false

theorem results_row_tmp {fn : Func} {p q : Tmp} {ty : TypeId} (h : fn.results = #[.cell p ty, .tmp q]) (tmps : Array Value) (w : World) (g : Nat) (cs : Array Value) (u : Value)
    (hp : tmps.getD p undef = .pointer (some ⟨g, 0, none⟩)) (hl : (loadVar ty ⟨g, 0, none⟩).run Tryz.prog w = .ok (.agg cs) w)
    (hq : tmps.getD q undef = u) :
    (results fn tmps).run Tryz.prog w = .ok (.tuple #[.agg cs, u]) w := by
  have hp' : tmps[p]?.getD undef = .pointer (some ⟨g, 0, none⟩) := by simpa using hp
  have hq' : tmps[q]?.getD undef = u := by simpa using hq
  simp [results, h, hp', hq', asAddr, hl]

/-- three boxes: a type, a value, a result -/
theorem tvz {w : World} {kd z x : Int} {r p s : Value} : Bw w (((w.alloc (.cells #[.int .i64 kd, .int .i64 z, r, p] 25)).alloc (.cells #[.int .i64 x, s] 28)).alloc (.cells #[.int .i64 0, .slice none 0 0] 28)) ∧
    ∀ W, Bw (((w.alloc (.cells #[.int .i64 kd, .int .i64 z, r, p] 25)).alloc (.cells #[.int .i64 x, s] 28)).alloc (.cells #[.int .i64 0, .slice none 0 0] 28)) W →
    w.heap.size + 3 ≤ W.heap.size ∧ Bw w W ∧ W.cell? ⟨w.heap.size, 0, none⟩ = some (.int .i64 kd) ∧ W.cell? ⟨w.heap.size, 1, none⟩ = some (.int .i64 z) ∧ W.cell? ⟨w.heap.size, 2, none⟩ = some r ∧ W.cell? ⟨w.heap.size, 3, none⟩ = some p ∧ W.cell? ⟨w.heap.size + 1, 0, none⟩ = some (.int .i64 x) ∧ W.cell? ⟨w.heap.size + 1, 1, none⟩ = some s ∧ Blk W (w.heap.size + 1 + 1) 28 #[.int .i64 0, .slice none 0 0] := by
  obtain ⟨a0, a1⟩ := tvb (w := w) (kd := kd) (z := z) (x := x) (r := r) (p := p) (s := s)
  refine ⟨a0.alloc _, fun W g => ?_⟩
  obtain ⟨b0, b1, b2, b3, b4, b5, b6, b7⟩ := a1 W (((Bw.refl _).alloc _).trans g)
  have hb := Blk.new ((w.alloc (.cells #[.int .i64 kd, .int .i64 z, r, p] 25)).alloc (.cells #[.int .i64 x, s] 28)) 28 #[.int .i64 0, .slice none 0 0]
  have e2 : ((w.alloc (.cells #[.int .i64 kd, .int .i64 z, r, p] 25)).alloc (.cells #[.int .i64 x, s] 28)).heap.size = w.heap.size + 1 + 1 := by simp
  rw [e2] at hb
  have h9 := hb.below g.b hb.lt
  exact ⟨by have := h9.lt; omega, b1, b2, b3, b4, b5, b6, b7, h9⟩
theorem out2 {w W : World} {x : Int} {sv : Value} {l : List V} (hb : Bw w W) (hk : KAt W (fun b => w.heap.size + 3 ≤ b ∧ b < W.heap.size) sv l) :
    KAt ((W.setCell ⟨w.heap.size + 1 + 1, 0, none⟩ (.int .i64 x)).setCell ⟨w.heap.size + 1 + 1, 1, none⟩ sv) (fun b => w.heap.size ≤ b ∧ b < ((W.setCell ⟨w.heap.size + 1 + 1, 0, none⟩ (.int .i64 x)).setCell ⟨w.heap.size + 1 + 1, 1, none⟩ sv).heap.size) sv l ∧
    Bw w ((W.setCell ⟨w.heap.size + 1 + 1, 0, none⟩ (.int .i64 x)).setCell ⟨w.heap.size + 1 + 1, 1, none⟩ sv) :=
  ⟨hk.keep (fun b hb => ⟨by have := hb.1; omega, by have := hb.2; simp [World.setCell]; exact this⟩) (fun p hp => by
    have hp1 := hp.1
    rw [World.cell?_setCell_other _ _ _ _ (by intro e; subst e; simp at hp1; omega), World.cell?_setCell_other _ _ _ _ (by intro e; subst e; simp at hp1; omega)]),
   (hb.setCell (p := ⟨w.heap.size + 1 + 1, 0, none⟩) (by dsimp only; omega) _).setCell (p := ⟨w.heap.size + 1 + 1, 1, none⟩) (by dsimp only; omega) _⟩

set_option maxRecDepth 100000 in
set_option maxHeartbeats 4000000 in
theorem r6Sorted_any (t : T) (v : V) (rv pv s : Value) (w : World) (hT : TB w w.heap.size rv pv t) (h : KB w w.heap.size s v.ks) (sp : V × Int) (hsp : sortedP t v = sp) :
    Calls Tryz.prog 31 #[.agg #[.int .i64 t.kind, .int .i64 t.size, rv, pv], .agg #[.int .i64 v.n, s]] w (SortedPost w sp.1 sp.2) := by
  subst hsp
  obtain ⟨A, n, c, rfl, ln, bn, mn⟩ := h.form
  obtain ⟨A1, rn, c1, rfl, _, _⟩ := hT.1.form'
  obtain ⟨A2, pn, c2, rfl, _, _, _⟩ := hT.2.form
  have CK : Hid (∀ W, Bw w W → Calls Tryz.prog 19 #[.agg #[.int .i64 t.kind, .int .i64 t.size, .slice A1 rn c1, .slice A2 pn c2]] W (NumPost W (if rightP 8 t then 0 else 6))) := Lib.hid (fun W g => r6check_any t _ _ W (TAt.bw hT g) _ rfl)
  have SZ : Hid (∀ W, Bw w W → Calls Tryz.prog 44 #[.agg #[.int .i64 v.n, .slice A n c], .int .i64 128] W (NumPost W (cntI v 128))) := Lib.hid (fun W g => r6sz_any v _ W 128 (by omega) (by omega) (h.bw g))
  have SO : Hid (rightP 8 t = true → v.size ≤ 128 → ∀ W, Bw w W → Calls Tryz.prog 56 #[.agg #[.int .i64 t.kind, .int .i64 t.size, .slice A1 rn c1, .slice A2 pn c2], .agg #[.int .i64 v.n, .slice A n c]] W (ValPost W (srtP 8 t v))) := Lib.hid (fun hr h8 W g => r6sorted_any 8 t hr v _ _ _ W (by omega) (TAt.bw hT g) (h.bw g))
  have VA : Hid (∀ u s' W, Bw w W → KB W W.heap.size s' u.ks → Calls Tryz.prog 21 #[.agg #[.int .i64 t.kind, .int .i64 t.size, .slice A1 rn c1, .slice A2 pn c2], .agg #[.int .i64 u.n, s']] W (BoolPost W (validP t u))) := Lib.hid (fun u s' W g hk => r6Valid_any t u _ _ _ W (TAt.bw hT g) hk _ rfl)
  have TX := Lib.hid (tvz (w := w) (kd := t.kind) (z := t.size) (x := v.n) (r := .slice A1 rn c1) (p := .slice A2 pn c2) (s := .slice A n c))
  have HZ : Hid (∀ W, w.heap.size + 3 ≤ W.heap.size → KAt W (fun b => w.heap.size + 3 ≤ b ∧ b < W.heap.size) (.slice none 0 0) []) := Lib.hid (fun W _ => KAt.nil 0 none (by unfold maxLen; omega))
  clear h hT ln
  have hsz : (v.size ≤ 128) ↔ (cntI v 128 ≤ 128) := by unfold cntI; omega
  have hm1 : cntI v 128 ≤ 129 := by unfold cntI; omega
  rcases hr : rightP 8 t with _ | _
  · have e1 : sortedP t v = (zeroV, 6) := by unfold sortedP; rw [hr]; rfl
    rw [e1]
    rw [hr] at CK
    simp only [Bool.false_eq_true, if_false] at CK
    clear hr SO SZ VA e1 hsz hm1
    show Calls _ _ _ _ (SortedPost w zeroV 6)
    generalize v.n = x at *
    generalize t.kind = kd at *
    generalize t.size = z at *
    generalize hres : SortedPost w zeroV 6 = R
    go_enter Tryz.func31, Tryz.ntmps31
    go_wp2_with (go_at_call 19; go_must (refine (CK.out _ TX.out.1).mono ?_; rintro e w6 ⟨rfl, hg6⟩; (have HG6 := Lib.hid hg6); (obtain ⟨y9, -, y1, y2, y3, y4, y5, y6, yb⟩ := TX.out.2 _ hg6); have e2 := yb.cell 0; have e3 := yb.cell 1; have f2 := yb.frozen 0; have f3 := yb.frozen 1; (have HBB := Lib.hid (blk_set (i := 1) (.slice none 0 0) (blk_set (i := 0) (.int .i64 0) yb))); clear hg6 yb))
    refine bodyPost_ret (results_row_tmp (p := 4) (q := 5) (ty := 28) rfl _ _ (w.heap.size + 1 + 1) _ _ rfl (run_loadVar_row _ _ 28 28 _ (0, 0) _ HBB.out Tryz.underlying28 rfl (by kernel_rfl)) rfl) rfl ?_
    subst hres
    have := out2 (x := 0) (TX.out.1.trans HG6.out) (HZ.out _ y9)
    exact ⟨_, rfl, this.1, this.2⟩
  · rw [hr] at CK
    simp only [if_true] at CK
    have SO2 := Lib.hid (SO.out hr)
    clear SO
    by_cases h2 : cntI v 128 ≤ 128
    · have h8 := hsz.2 h2
      have SO3 := Lib.hid (SO2.out h8)
      clear SO2
      rcases hv : validP t (srtP 8 t v) with _ | _
      · have e1 : sortedP t v = (zeroV, 5) := by unfold sortedP; rw [hr, hv, if_pos rfl, if_pos h8]; rfl
        rw [e1]
        show Calls _ _ _ _ (SortedPost w zeroV 5)
        have VA2 := Lib.hid (VA.out (srtP 8 t v))
        rw [hv] at VA2
        clear VA hv hr e1 hsz h8
        unfold ValPost at SO3
        generalize srtP 8 t v = sv at *
        generalize cntI v 128 = m at *
        generalize v.n = x at *
        generalize t.kind = kd at *
        generalize t.size = z at *
        have d2 : decide (m ≤ 128) = true := by simpa using h2
        have d3 : ¬ (128 : Int) < m := by omega
        generalize hres : SortedPost w zeroV 5 = R
        go_enter Tryz.func31, Tryz.ntmps31
        go_wp2_with (first | (go_at_call 19; go_must (refine (CK.out _ TX.out.1).mono ?_; rintro e w6 ⟨rfl, hg6⟩; (have HG6 := Lib.hid (TX.out.1.trans hg6)); (have HX6 := Lib.hid hg6); (obtain ⟨-, -, y1, y2, y3, y4, y5, y6, -⟩ := TX.out.2 _ hg6); clear hg6)) | (go_at_call 44; go_must (refine (SZ.out _ HG6.out).mono ?_; rintro e w7 ⟨rfl, hg7⟩; (have HG7 := Lib.hid (HG6.out.trans hg7)); (have HX7 := Lib.hid (HX6.out.trans hg7)); (obtain ⟨u9, -, u1, u2, u3, u4, u5, u6, yb⟩ := TX.out.2 _ HX7.out);  clear hg7 yb)) | (go_at_call 56; go_must (refine (SO3.out _ HG7.out).mono ?_; rintro e w8 ⟨s8, rfl, hk8, hg8⟩; obtain ⟨A8, n8, c8, rfl, -, -, -⟩ := hk8.form; (have HK8 := Lib.hid (KAt.keep (S' := fun b => w.heap.size + 3 ≤ b ∧ b < w8.heap.size) hk8 (fun b hb => ⟨Nat.le_trans u9 hb.1, hb.2⟩) (fun _ _ => rfl))); (have HX8 := Lib.hid (HX7.out.trans hg8)); (have HB8 := Lib.hid (Bw.alloc HX8.out (.cells #[.int .i64 sv.n, .slice A8 n8 c8] 28))); (obtain ⟨-, -, t1, t2, t3, t4, t5, t6, -⟩ := TX.out.2 _ HB8.out); (have b7 := Blk.new w8 28 #[.int .i64 sv.n, .slice A8 n8 c8]); have i7 := b7.cell 0; have i8 := b7.cell 1; (have HB7 := Lib.hid b7); (have HKB := Lib.hid (KAt.bw (hk8.keep (S' := fun b => b < w8.heap.size) (fun b hb => hb.2) (fun _ _ => rfl)) (Bw.alloc (Bw.refl w8) (.cells #[.int .i64 sv.n, .slice A8 n8 c8] 28)))); clear hk8 hg8 b7)) | (go_at_call 21; go_must (refine (VA2.out _ _ (TX.out.1.trans HB8.out) HKB.out).mono ?_; rintro e w9 ⟨rfl, hg9⟩; (have HX9 := Lib.hid (HB8.out.trans hg9)); (obtain ⟨u9', -, -, -, -, -, -, -, yb⟩ := TX.out.2 _ HX9.out); have e2 := yb.cell 0; have e3 := yb.cell 1; have f2 := yb.frozen 0; have f3 := yb.frozen 1; (have HBB := Lib.hid (blk_set (i := 1) (.slice none 0 0) (blk_set (i := 0) (.int .i64 0) yb))); clear hg9 yb)))
        refine bodyPost_ret (results_row_tmp (p := 4) (q := 5) (ty := 28) rfl _ _ (w.heap.size + 1 + 1) _ _ rfl (run_loadVar_row _ _ 28 28 _ (0, 0) _ HBB.out Tryz.underlying28 rfl (by kernel_rfl)) rfl) rfl ?_
        subst hres
        have := out2 (x := 0) (TX.out.1.trans HX9.out) (HZ.out _ u9')
        exact ⟨_, rfl, this.1, this.2⟩
      · have e1 : sortedP t v = (srtP 8 t v, 0) := by unfold sortedP; rw [hr, hv, if_pos rfl, if_pos h8, if_pos rfl]
        rw [e1]
        show Calls _ _ _ _ (SortedPost w (srtP 8 t v) 0)
        have VA2 := Lib.hid (VA.out (srtP 8 t v))
        rw [hv] at VA2
        clear VA hv hr e1 hsz h8
        unfold ValPost at SO3
        generalize srtP 8 t v = sv at *
        generalize cntI v 128 = m at *
        generalize v.n = x at *
        generalize t.kind = kd at *
        generalize t.size = z at *
        have d2 : decide (m ≤ 128) = true := by simpa using h2
        have d3 : ¬ (128 : Int) < m := by omega
        generalize hres : SortedPost w sv 0 = R
        go_enter Tryz.func31, Tryz.ntmps31
        go_wp2_with (first | (go_at_call 19; go_must (refine (CK.out _ TX.out.1).mono ?_; rintro e w6 ⟨rfl, hg6⟩; (have HG6 := Lib.hid (TX.out.1.trans hg6)); (have HX6 := Lib.hid hg6); (obtain ⟨-, -, y1, y2, y3, y4, y5, y6, -⟩ := TX.out.2 _ hg6); clear hg6)) | (go_at_call 44; go_must (refine (SZ.out _ HG6.out).mono ?_; rintro e w7 ⟨rfl, hg7⟩; (have HG7 := Lib.hid (HG6.out.trans hg7)); (have HX7 := Lib.hid (HX6.out.trans hg7)); (obtain ⟨u9, -, u1, u2, u3, u4, u5, u6, yb⟩ := TX.out.2 _ HX7.out);  clear hg7 yb)) | (go_at_call 56; go_must (refine (SO3.out _ HG7.out).mono ?_; rintro e w8 ⟨s8, rfl, hk8, hg8⟩; obtain ⟨A8, n8, c8, rfl, -, -, -⟩ := hk8.form; (have HK8 := Lib.hid (KAt.keep (S' := fun b => w.heap.size + 3 ≤ b ∧ b < w8.heap.size) hk8 (fun b hb => ⟨Nat.le_trans u9 hb.1, hb.2⟩) (fun _ _ => rfl))); (have HX8 := Lib.hid (HX7.out.trans hg8)); (have HB8 := Lib.hid (Bw.alloc HX8.out (.cells #[.int .i64 sv.n, .slice A8 n8 c8] 28))); (obtain ⟨-, -, t1, t2, t3, t4, t5, t6, -⟩ := TX.out.2 _ HB8.out); (have b7 := Blk.new w8 28 #[.int .i64 sv.n, .slice A8 n8 c8]); have i7 := b7.cell 0; have i8 := b7.cell 1; (have HB7 := Lib.hid b7); (have HKB := Lib.hid (KAt.bw (hk8.keep (S' := fun b => b < w8.heap.size) (fun b hb => hb.2) (fun _ _ => rfl)) (Bw.alloc (Bw.refl w8) (.cells #[.int .i64 sv.n, .slice A8 n8 c8] 28)))); clear hk8 hg8 b7)) | (go_at_call 21; go_must (refine (VA2.out _ _ (TX.out.1.trans HB8.out) HKB.out).mono ?_; rintro e w9 ⟨rfl, hg9⟩; (have HX9 := Lib.hid (HB8.out.trans hg9)); (obtain ⟨u9', -, -, -, -, -, -, -, yb⟩ := TX.out.2 _ HX9.out); have e2 := yb.cell 0; have e3 := yb.cell 1; have f2 := yb.frozen 0; have f3 := yb.frozen 1; have b9 := HB7.out.below hg9.b HB7.out.lt; have i9 := b9.cell 0; have i10 := b9.cell 1; (have HK9 := Lib.hid (HK8.out.keep (S' := fun b => w.heap.size + 3 ≤ b ∧ b < w9.heap.size) (fun b hb => ⟨hb.1, Nat.lt_of_lt_of_le hb.2 ((Bw.alloc (Bw.refl w8) _).trans hg9).size⟩) (fun p hp => ((Bw.alloc (Bw.refl w8) _).trans hg9).b.cell hp.2))); (have HBB := Lib.hid (blk_set (i := 1) (.slice A8 n8 c8) (blk_set (i := 0) (.int .i64 sv.n) yb))); clear hg9 yb b9)))
        refine bodyPost_ret (results_row_tmp (p := 4) (q := 5) (ty := 28) rfl _ _ (w.heap.size + 1 + 1) _ _ rfl (run_loadVar_row _ _ 28 28 _ (0, 0) _ HBB.out Tryz.underlying28 rfl (by kernel_rfl)) rfl) rfl ?_
        subst hres
        have := out2 (x := sv.n) (TX.out.1.trans HX9.out) HK9.out
        exact ⟨_, rfl, this.1, this.2⟩
    · have h8 : ¬ v.size ≤ 128 := fun h => h2 (hsz.1 h)
      have e1 : sortedP t v = (zeroV, 5) := by unfold sortedP; rw [hr, if_pos rfl, if_neg h8]
      rw [e1]
      show Calls _ _ _ _ (SortedPost w zeroV 5)
      clear SO2 VA hr e1 hsz h8
      generalize cntI v 128 = m at *
      generalize v.n = x at *
      generalize t.kind = kd at *
      generalize t.size = z at *
      have d2 : decide (m > 128) = true := by simp; omega
      have d3 : (128 : Int) < m := by omega
      generalize hres : SortedPost w zeroV 5 = R
      go_enter Tryz.func31, Tryz.ntmps31
      go_wp2_with (first | (go_at_call 19; go_must (refine (CK.out _ TX.out.1).mono ?_; rintro e w6 ⟨rfl, hg6⟩; (have HG6 := Lib.hid (TX.out.1.trans hg6)); (have HX6 := Lib.hid hg6); (obtain ⟨-, -, y1, y2, y3, y4, y5, y6, -⟩ := TX.out.2 _ hg6); clear hg6)) | (go_at_call 44; go_must (refine (SZ.out _ HG6.out).mono ?_; rintro e w7 ⟨rfl, hg7⟩; (have HG7 := Lib.hid (HG6.out.trans hg7)); (have HX7 := Lib.hid (HX6.out.trans hg7)); (obtain ⟨u9, -, u1, u2, u3, u4, u5, u6, yb⟩ := TX.out.2 _ HX7.out); have e2 := yb.cell 0; have e3 := yb.cell 1; have f2 := yb.frozen 0; have f3 := yb.frozen 1; (have HBB := Lib.hid (blk_set (i := 1) (.slice none 0 0) (blk_set (i := 0) (.int .i64 0) yb))); clear hg7 yb)))
      refine bodyPost_ret (results_row_tmp (p := 4) (q := 5) (ty := 28) rfl _ _ (w.heap.size + 1 + 1) _ _ rfl (run_loadVar_row _ _ 28 28 _ (0, 0) _ HBB.out Tryz.underlying28 rfl (by kernel_rfl)) rfl) rfl ?_
      subst hres
      have := out2 (x := 0) HG7.out (HZ.out _ u9)
      exact ⟨_, rfl, this.1, this.2⟩
end Go.Proofs.YtlmnkcfnihhlgaaGreatDoor
namespace Go.Proofs.YtlmnkcfnihhlgaaGreatDoor
set_option linter.unusedSimpArgs false
set_option linter.unusedVariables false

theorem sizeL_bound {l : List V} {b : Nat} (h : ∀ v ∈ l, v.size ≤ b) : sizeL l ≤ l.length * b := by
  induction l with
  | nil => simp [sizeL]
  | cons x r ih =>
    have h1 := h x (by simp)
    have h2 := ih (fun v hv => h v (by simp [hv]))
    simp only [sizeL, List.length_cons, Nat.add_mul, Nat.one_mul]
    omega
theorem sizeL_leaves {l : List V} {s : Int} (h : l.all (labelP s) = true) : sizeL l ≤ l.length := by
  have := sizeL_bound (l := l) (b := 1) (fun v hv => by
    have := List.all_eq_true.1 h v hv
    simp only [labelP, Bool.and_eq_true, List.isEmpty_iff] at this
    rw [v.size_eq, this.2]; simp [sizeL])
  omega
theorem looseZ_size {f : T → V → Bool} {g : T → Nat} (h : ∀ t v, f t v = true → v.size ≤ g t) : ∀ (ps : List T) (vs : List V), oneZ f ps vs = true → sizeL vs ≤ (ps.map g).sum
  | [], [], _ => by simp [sizeL]
  | p :: ps, v :: vs, e => by
    simp only [oneZ, Bool.and_eq_true] at e
    have h1 := h p v e.1
    have h2 := looseZ_size h ps vs e.2
    simp only [sizeL, List.map_cons, List.sum_cons]; omega
  | [], _ :: _, e => by simp [oneZ] at e
  | _ :: _, [], e => by simp [oneZ] at e
theorem loose_size (d : Nat) : ∀ (m : Nat) (t : T) (v : V), loosP d m t v = true → v.size ≤ lsz d m t := by
  induction d with
  | zero => intro m t v h; simp [loosP] at h
  | succ d ih =>
    intro m t v h
    rw [v.size_eq]
    simp only [loosP] at h
    simp only [lsz]
    by_cases k1 : t.kind = 1
    · rw [if_pos k1] at h ⊢
      simp only [Bool.and_eq_true, List.isEmpty_iff] at h
      rw [h.2]; simp [sizeL]
    rw [if_neg k1] at h ⊢
    by_cases k2 : t.kind = 2
    · rw [if_pos k2] at h ⊢
      simp only [labelP, Bool.and_eq_true, List.isEmpty_iff] at h
      rw [h.2]; simp [sizeL]
    rw [if_neg k2] at h ⊢
    by_cases k6 : t.kind = 6
    · rw [if_pos k6] at h ⊢
      simp only [Bool.and_eq_true, decide_eq_true_eq, v.size_eq] at h
      exact h.2
    rw [if_neg k6] at h ⊢
    by_cases k7 : t.kind = 7
    · rw [if_pos k7] at h ⊢
      simp only [Bool.and_eq_true, decide_eq_true_eq] at h
      have := sizeL_leaves h.2
      omega
    rw [if_neg k7] at h ⊢
    by_cases k3 : t.kind = 3
    · rw [if_pos k3] at h ⊢
      simp only [Bool.and_eq_true] at h
      have := looseZ_size (ih m) _ _ h.2
      omega
    rw [if_neg k3] at h ⊢
    simp only [Bool.and_eq_true, decide_eq_true_eq] at h
    have h1 := sizeL_bound (l := v.ks) (b := lsz d (m - 1) t.p0) (fun x hx => ih (m - 1) _ x (List.all_eq_true.1 h.2 x hx))
    have h2 := Nat.mul_le_mul_right (lsz d (m - 1) t.p0) h.1.2
    omega

/- sorting keeps sizes -/
theorem sizeL_perm {a b : List V} (h : a.Perm b) : sizeL a = sizeL b := by
  induction h with
  | nil => rfl
  | cons x _ ih => simp [sizeL, ih]
  | swap x y l => simp only [sizeL]; omega
  | trans _ _ h1 h2 => rw [h1, h2]
theorem srtZ_size {f : T → V → V} (h : ∀ t v, (f t v).size = v.size) : ∀ (ps : List T) (vs : List V), sizeL (srtZ f ps vs) = sizeL vs
  | [], vs => by simp [srtZ]
  | p :: ps, v :: vs => by simp [srtZ, sizeL, h, srtZ_size h ps vs]
  | _ :: _, [] => by simp [srtZ]
theorem srtK_size {f : T → V → V} (h : ∀ t v, (f t v).size = v.size) (t : T) (ks : List V) : sizeL (srtK f t ks) = sizeL ks := by
  unfold srtK
  split
  · exact srtZ_size h _ _
  · split
    · induction ks with
      | nil => rfl
      | cons x r ih => simp only [List.map_cons, sizeL, h, ih]
    · rfl
theorem srtP_size (d : Nat) : ∀ (t : T) (v : V), (srtP d t v).size = v.size := by
  induction d with
  | zero => intro t v; rfl
  | succ d ih =>
    intro t v
    rw [v.size_eq, V.size_eq]
    simp only [srtP, V.ks_mk]
    split
    · rw [sizeL_perm (sortV_perm _), srtK_size ih]
    · rw [srtK_size ih]
theorem srtP_n (d : Nat) (t : T) (v : V) : (srtP d t v).n = v.n := by cases d <;> rfl
theorem srtP_ks (d : Nat) (t : T) (v : V) : (srtP (d + 1) t v).ks = if t.kind = 5 then sortV (srtK (srtP d) t v.ks) else srtK (srtP d) t v.ks := rfl
theorem srtZ_one {f : T → V → V} {g g2 : T → V → Bool} : ∀ (ps : List T) (vs : List V), (∀ p ∈ ps, ∀ v ∈ vs, g p v = true → g2 p (f p v) = true) → oneZ g ps vs = true → oneZ g2 ps (srtZ f ps vs) = true
  | [], [], _, _ => rfl
  | p :: ps, v :: vs, h, e => by
    simp only [oneZ, Bool.and_eq_true] at e
    simp only [srtZ, oneZ, Bool.and_eq_true]
    exact ⟨h p (by simp) v (by simp) e.1, srtZ_one ps vs (fun q hq u hu => h q (by simp [hq]) u (by simp [hu])) e.2⟩
  | [], _ :: _, _, e => by simp [oneZ] at e
  | _ :: _, [], _, e => by simp [oneZ] at e
theorem all_perm {a b : List V} (h : a.Perm b) (f : V → Bool) : a.all f = b.all f := by
  rw [Bool.eq_iff_iff, List.all_eq_true, List.all_eq_true]
  exact ⟨fun k x hx => k x (h.mem_iff.2 hx), fun k x hx => k x (h.mem_iff.1 hx)⟩
theorem loose_one (d : Nat) : ∀ (m : Nat) (t : T) (v : V), m ≤ 12 → rightP d t = true → loosP d m t v = true → oneP d t (srtP d t v) = true := by
  induction d with
  | zero => intro m t v _ h; simp [rightP] at h
  | succ d ih =>
    intro m t v hm hr h
    have hr0 := hr
    simp only [rightP, Bool.and_eq_true] at hr
    have hr := hr.2
    simp only [loosP] at h
    have hn := srtP_n (d + 1) t v
    have hks := srtP_ks d t v
    have hv : t.kind = 6 → srtP (d + 1) t v = v := fun k6 => by
      rw [← V.eta (srtP (d + 1) t v), srtP_n, srtP_ks, if_neg (by omega)]
      simp only [srtK, k6]
      exact V.eta v
    generalize srtP (d + 1) t v = u at hn hks hv ⊢
    simp only [oneP, hn]
    by_cases k1 : t.kind = 1
    · rw [if_pos k1] at h ⊢
      simp only [Bool.and_eq_true, List.isEmpty_iff, decide_eq_true_eq] at h
      rw [if_neg (by omega), h.2] at hks
      rw [hks]
      simp [srtK, k1]; omega
    rw [if_neg k1] at h ⊢
    by_cases k2 : t.kind = 2
    · rw [if_pos k2] at h ⊢
      simp only [labelP, hn, Bool.and_eq_true, List.isEmpty_iff, decide_eq_true_eq] at h ⊢
      refine ⟨h.1, ?_⟩
      rw [if_neg (by omega), h.2] at hks
      rw [hks]
      simp [srtK, k2]
    rw [if_neg k2] at h ⊢
    by_cases k6 : t.kind = 6
    · rw [if_pos k6] at h
      rw [if_neg (by omega), if_neg (by omega), if_neg (by omega), if_pos k6]
      rw [hv k6]
      simp only [Bool.and_eq_true, decide_eq_true_eq] at h ⊢
      exact ⟨by omega, h.1⟩
    rw [if_neg k6] at h
    by_cases k7 : t.kind = 7
    · rw [if_pos k7] at h
      rw [if_neg (by omega), if_neg (by omega), if_neg (by omega), if_neg (by omega)]
      have e : srtK (srtP d) t v.ks = v.ks := by simp [srtK, k7]
      rw [if_neg (by omega), e] at hks
      rw [hks]
      simp only [Bool.and_eq_true, decide_eq_true_eq] at h ⊢
      exact ⟨⟨h.1.1, by omega⟩, h.2⟩
    rw [if_neg k7] at h
    by_cases k3 : t.kind = 3
    · rw [if_pos k3] at h ⊢
      rw [if_neg (by omega)] at hks
      rw [if_neg k1, if_neg (by omega), if_neg (by omega), if_pos k3] at hr
      simp only [Bool.and_eq_true, beq_iff_eq] at h hr ⊢
      have e : srtK (srtP d) t v.ks = srtZ (srtP d) t.parts v.ks := by simp [srtK, k3]
      rw [hks, e]
      exact ⟨⟨h.1.1, by rw [srtZ_length]; exact h.1.2⟩, srtZ_one _ _ (fun p hp u hu k => ih m p u hm (List.all_eq_true.1 hr.2 p hp) k) h.2⟩
    rw [if_neg k3] at h ⊢
    rw [if_neg k1, if_neg (by omega), if_neg (by omega), if_neg k3] at hr
    have k45 : t.kind = 4 ∨ t.kind = 5 := by
      by_cases k : t.kind = 4 ∨ t.kind = 5
      · exact k
      · rw [if_neg k] at hr; simp at hr
    rw [if_pos k45] at hr
    simp only [Bool.and_eq_true, beq_iff_eq, decide_eq_true_eq] at h hr
    have h0 := List.all_eq_true.1 hr.2 _ (p0_mem hr.1.2)
    have e : srtK (srtP d) t v.ks = v.ks.map (srtP d t.p0) := by unfold srtK; rw [if_neg k3, if_pos k45]
    have ha : (v.ks.map (srtP d t.p0)).all (oneP d t.p0) = true := by
      rw [List.all_eq_true]
      intro x hx
      obtain ⟨u, hu, rfl⟩ := List.mem_map.1 hx
      exact ih (m - 1) _ _ (by omega) h0 (List.all_eq_true.1 h.2 u hu)
    rw [e] at hks
    rcases k45 with k4 | k5
    · rw [if_neg (by omega)] at hks
      rw [if_pos k4, hks]
      simp only [Bool.and_eq_true, beq_iff_eq, decide_eq_true_eq]
      exact ⟨⟨h.1.1, by simp; omega⟩, ha⟩
    · rw [if_pos k5] at hks
      rw [if_neg (by omega), if_pos k5, hks]
      simp only [Bool.and_eq_true, beq_iff_eq, decide_eq_true_eq]
      exact ⟨⟨⟨h.1.1, by rw [sortV_length]; simp; omega⟩, by rw [all_perm (sortV_perm _)]; exact ha⟩, sortV_sorted _⟩
theorem right_mono (d : Nat) : ∀ (e : Nat) (t : T), d ≤ e → rightP d t = true → rightP e t = true := by
  induction d with
  | zero => intro e t _ h; simp [rightP] at h
  | succ d ih =>
    intro e t he h
    obtain ⟨e, rfl⟩ : ∃ k, e = k + 1 := ⟨e - 1, by omega⟩
    have ha : t.parts.all (rightP d) = true → t.parts.all (rightP e) = true := fun h => List.all_eq_true.2 (fun x hx => ih e x (by omega) (List.all_eq_true.1 h x hx))
    simp only [rightP, Bool.and_eq_true] at h ⊢
    refine ⟨h.1, ?_⟩
    have h := h.2
    by_cases k1 : t.kind = 1
    · rw [if_pos k1] at h ⊢; exact h
    rw [if_neg k1] at h ⊢
    by_cases k2 : t.kind = 2 ∨ t.kind = 6
    · rw [if_pos k2] at h ⊢; exact h
    rw [if_neg k2] at h ⊢
    by_cases k7 : t.kind = 7
    · rw [if_pos k7] at h ⊢; exact h
    rw [if_neg k7] at h ⊢
    by_cases k3 : t.kind = 3
    · rw [if_pos k3] at h ⊢
      rw [Bool.and_eq_true] at h ⊢
      exact ⟨h.1, ha h.2⟩
    rw [if_neg k3] at h ⊢
    by_cases k4 : t.kind = 4 ∨ t.kind = 5
    · rw [if_pos k4] at h ⊢
      rw [Bool.and_eq_true] at h ⊢
      exact ⟨h.1, ha h.2⟩
    · rw [if_neg k4] at h; simp at h
theorem sum_bound {l : List T} {g : T → Nat} {b : Nat} (h : ∀ t ∈ l, g t ≤ b) : (l.map g).sum ≤ l.length * b := by
  induction l with
  | nil => simp
  | cons x r ih =>
    have h1 := h x (by simp)
    have h2 := ih (fun v hv => h v (by simp [hv]))
    simp only [List.map_cons, List.sum_cons, List.length_cons, Nat.add_mul, Nat.one_mul]; omega
/-- bound by depth -/
def szB : Nat → Nat
  | 0 => 0
  | d + 1 => 4 + 3 * szB d
theorem fewP_succ (d : Nat) (t : T) : fewP (d + 1) t = (decide (t.parts.length ≤ 3) && t.parts.all (fewP d)) := rfl
theorem made_size (d : Nat) : ∀ (e m : Nat) (t : T), m ≤ 3 → rightP d t = true → fewP d t = true → lsz e m t ≤ szB d := by
  induction d with
  | zero => intro e m t _ h; simp [rightP] at h
  | succ d ih =>
    intro e m t hm hr hf
    simp only [rightP, Bool.and_eq_true] at hr
    have hr := hr.2
    rw [fewP_succ, Bool.and_eq_true, decide_eq_true_eq] at hf
    cases e with
    | zero => simp [lsz]
    | succ e =>
      simp only [lsz, szB]
      by_cases k1 : t.kind = 1
      · rw [if_pos k1]; omega
      rw [if_neg k1] at hr ⊢
      by_cases k2 : t.kind = 2
      · rw [if_pos k2]; omega
      rw [if_neg k2]
      by_cases k6 : t.kind = 6
      · rw [if_pos k6]; omega
      rw [if_neg (by omega)] at hr
      rw [if_neg k6]
      by_cases k7 : t.kind = 7
      · rw [if_pos k7]; omega
      rw [if_neg k7] at hr ⊢
      by_cases k3 : t.kind = 3
      · rw [if_pos k3] at hr ⊢
        simp only [Bool.and_eq_true] at hr
        have h1 := sum_bound (l := t.parts) (g := lsz e m) (b := szB d) (fun p hp => ih e m p hm (List.all_eq_true.1 hr.2 p hp) (List.all_eq_true.1 hf.2 p hp))
        have h2 := Nat.mul_le_mul_right (szB d) hf.1
        omega
      rw [if_neg k3] at hr ⊢
      by_cases k4 : t.kind = 4 ∨ t.kind = 5
      · rw [if_pos k4] at hr
        simp only [Bool.and_eq_true, beq_iff_eq] at hr
        have hp := p0_mem hr.1.2
        have h1 := ih e (m - 1) t.p0 (by omega) (List.all_eq_true.1 hr.2 _ hp) (List.all_eq_true.1 hf.2 _ hp)
        have h2 : m * lsz e (m - 1) t.p0 ≤ 3 * szB d := Nat.mul_le_mul hm h1
        omega
      · rw [if_neg k4] at hr; simp at hr
theorem made_right {d : Nat} {t : T} (h : madeP d t = true) : rightP d t = true := by
  simp only [madeP, Bool.and_eq_true] at h; exact h.1
theorem made_few {d : Nat} {t : T} (h : madeP d t = true) : fewP d t = true := by
  simp only [madeP, Bool.and_eq_true] at h; exact h.2
/-- a loose value of a type, sorted -/
theorem loose_sorted {m : Nat} {t : T} {v : V} (hm : m ≤ 12) (ht : rightP 8 t = true) (hs : lsz 8 m t ≤ 128) (h : loosP 8 m t v = true) : sortedP t v = (srtP 8 t v, 0) ∧ validP t (srtP 8 t v) = true := by
  have h1 := loose_size 8 m t v h
  have h2 : validP t (srtP 8 t v) = true := by
    unfold validP
    rw [ht, loose_one 8 m t v hm ht h, srtP_size]
    simp; omega
  unfold sortedP
  rw [if_pos ht, if_pos (by omega), if_pos h2]
  exact ⟨rfl, h2⟩
theorem made_lsz {m : Nat} {t : T} (hm : m ≤ 3) (h : madeP 3 t = true) : rightP 8 t = true ∧ lsz 8 m t ≤ 128 := by
  have h1 := made_size 3 8 m t hm (made_right h) (made_few h)
  exact ⟨right_mono 3 8 t (by omega) (made_right h), by simp [szB] at h1; omega⟩
end Go.Proofs.YtlmnkcfnihhlgaaGreatDoor
