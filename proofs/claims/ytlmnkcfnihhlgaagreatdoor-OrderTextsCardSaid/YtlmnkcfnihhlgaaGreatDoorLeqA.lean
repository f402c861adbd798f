/- order.Leq. Plain laws of law 06: values of a type have numbers that are not negative; their texts; least values; sorted values. order.least by kind, order.Least. -/
import Derived.Test.YtlmnkcfnihhlgaaGreatDoorLowB
import Derived.Test.YtlmnkcfnihhlgaaGreatDoorPlnC
import Derived.Test.YtlmnkcfnihhlgaaGreatDoorRefH
namespace Go.Proofs.YtlmnkcfnihhlgaaGreatDoor
open Go.RowKit
set_option linter.unusedSimpArgs false
set_option linter.unusedVariables false

theorem tvv {w : World} {kd z x y : Int} {r p s u : Value} : Bw w (((w.alloc (.cells #[.int .i64 kd, .int .i64 z, r, p] 25)).alloc (.cells #[.int .i64 x, s] 28)).alloc (.cells #[.int .i64 y, u] 28)) ∧
    ∀ W, Bw (((w.alloc (.cells #[.int .i64 kd, .int .i64 z, r, p] 25)).alloc (.cells #[.int .i64 x, s] 28)).alloc (.cells #[.int .i64 y, u] 28)) W →
      w.heap.size + 2 < W.heap.size ∧ Bw w W ∧ W.cell? ⟨w.heap.size, 0, none⟩ = some (.int .i64 kd) ∧ W.cell? ⟨w.heap.size, 1, none⟩ = some (.int .i64 z) ∧ W.cell? ⟨w.heap.size, 2, none⟩ = some r ∧ W.cell? ⟨w.heap.size, 3, none⟩ = some p ∧ W.cell? ⟨w.heap.size + 1, 0, none⟩ = some (.int .i64 x) ∧ W.cell? ⟨w.heap.size + 1, 1, none⟩ = some s ∧ W.cell? ⟨w.heap.size + 1 + 1, 0, none⟩ = some (.int .i64 y) ∧ W.cell? ⟨w.heap.size + 1 + 1, 1, none⟩ = some u := by
  obtain ⟨b0, b1, b2, b3⟩ := boxes3 w (.int .i64 kd) (.int .i64 z) r p (.int .i64 x) s (.int .i64 y) u
  refine ⟨b0, fun W g => ?_⟩
  have c1 := b1.below g.b b1.lt
  have c2 := b2.below g.b b2.lt
  have c3 := b3.below g.b b3.lt
  exact ⟨c3.lt, b0.trans g, c1.cell 0, c1.cell 1, c1.cell 2, c1.cell 3, c2.cell 0, c2.cell 1, c3.cell 0, c3.cell 1⟩
set_option maxRecDepth 100000 in
set_option maxHeartbeats 4000000 in
theorem oLeq_any (t : T) (a b : V) (rv pv s1 s2 : Value) (w : World) (hT : TB w w.heap.size rv pv t) (h1 : KB w w.heap.size s1 a.ks) (h2 : KB w w.heap.size s2 b.ks) (q : Bool) (hq : (validP t a && validP t b && belowP 8 t a b) = q) :
    Calls Tryz.prog 22 #[.agg #[.int .i64 t.kind, .int .i64 t.size, rv, pv], .agg #[.int .i64 a.n, s1], .agg #[.int .i64 b.n, s2]] w (BoolPost w q) := by
  subst hq
  obtain ⟨A, n, c, rfl, _, _, _⟩ := h1.form
  obtain ⟨B, m, e, rfl, _, _, _⟩ := h2.form
  obtain ⟨A1, rn, c1, rfl, _, _⟩ := hT.1.form'
  obtain ⟨A2, pn, c2, rfl, _, _, _⟩ := hT.2.form
  have C1 : Hid (∀ W, Bw w W → Calls Tryz.prog 20 #[.agg #[.int .i64 t.kind, .int .i64 t.size, .slice A1 rn c1, .slice A2 pn c2], .agg #[.int .i64 a.n, .slice A n c]] W (BoolPost W (validP t a))) := Lib.hid (fun W g => ovalid_any t a _ _ _ W (TAt.bw hT g) (h1.bw g) _ rfl)
  have C2 : Hid (∀ W, Bw w W → Calls Tryz.prog 20 #[.agg #[.int .i64 t.kind, .int .i64 t.size, .slice A1 rn c1, .slice A2 pn c2], .agg #[.int .i64 b.n, .slice B m e]] W (BoolPost W (validP t b))) := Lib.hid (fun W g => ovalid_any t b _ _ _ W (TAt.bw hT g) (h2.bw g) _ rfl)
  have C3 : Hid (validP t a = true → validP t b = true → ∀ W, Bw w W → Calls Tryz.prog 46 #[.agg #[.int .i64 t.kind, .int .i64 t.size, .slice A1 rn c1, .slice A2 pn c2], .agg #[.int .i64 a.n, .slice A n c], .agg #[.int .i64 b.n, .slice B m e]] W (BoolPost W (belowP 8 t a b))) := Lib.hid (fun va vb W g => by
    unfold validP at va vb
    simp only [Bool.and_eq_true] at va vb
    exact obelow_any 8 t va.1.1 a b va.2 vb.2 _ _ _ _ W (TAt.bw hT g) (h1.bw g) (h2.bw g))
  have TX := Lib.hid (tvv (w := w) (kd := t.kind) (z := t.size) (x := a.n) (y := b.n) (r := .slice A1 rn c1) (p := .slice A2 pn c2) (s := .slice A n c) (u := .slice B m e))
  clear hT h1 h2
  generalize belowP 8 t a b = q3 at *
  generalize validP t a = q1 at *
  generalize validP t b = q2 at *
  generalize a.n = x at *
  generalize b.n = y at *
  generalize t.size = z at *
  generalize t.kind = k at *
  unfold BoolPost at C1 C2 C3
  rcases q1 with _ | _
  · go_enter Tryz.func22, Tryz.ntmps22
    go_wp2_with (go_at_call 20; go_must ((with_reducible refine (C1.out _ TX.out.1).mono ?_); rintro e w6 ⟨rfl, hg6⟩; (have HG6 := Lib.hid (TX.out.1.trans hg6)); clear hg6))
    go_ret
    exact ⟨rfl, HG6.out⟩
  rcases q2 with _ | _
  · go_enter Tryz.func22, Tryz.ntmps22
    go_wp2_with (first
      | (go_at_call 20; ((with_reducible refine (C1.out _ TX.out.1).mono ?_); rintro e w6 ⟨rfl, hg6⟩; (have HX6 := Lib.hid hg6); (obtain ⟨y0, _, y1, y2, y3, y4, y5, y6, y7, y8⟩ := TX.out.2 _ hg6); clear hg6))
      | (go_at_call 20; ((with_reducible refine (C2.out _ (TX.out.1.trans HX6.out)).mono ?_); rintro e w7 ⟨rfl, hg7⟩; (have HG7 := Lib.hid (TX.out.1.trans (HX6.out.trans hg7))); clear hg7)))
    go_ret
    exact ⟨rfl, HG7.out⟩
  have C3' := Lib.hid (C3.out rfl rfl)
  clear C3
  go_enter Tryz.func22, Tryz.ntmps22
  go_wp2_with (first
    | (go_at_call 20; ((with_reducible refine (C1.out _ TX.out.1).mono ?_); rintro e w6 ⟨rfl, hg6⟩; (have HX6 := Lib.hid hg6); (obtain ⟨y0, _, y1, y2, y3, y4, y5, y6, y7, y8⟩ := TX.out.2 _ hg6); clear hg6))
    | (go_at_call 20; ((with_reducible refine (C2.out _ (TX.out.1.trans HX6.out)).mono ?_); rintro e w7 ⟨rfl, hg7⟩; (have HX7 := Lib.hid (HX6.out.trans hg7)); (obtain ⟨z0, _, z1, z2, z3, z4, z5, z6, z7, z8⟩ := TX.out.2 _ HX7.out); clear hg7))
    | (go_at_call 46; ((with_reducible refine (C3'.out _ (TX.out.1.trans HX7.out)).mono ?_); rintro e w8 ⟨rfl, hg8⟩; (have HG8 := Lib.hid (TX.out.1.trans (HX7.out.trans hg8))); clear hg8)))
  go_ret
  exact ⟨by rfl, HG8.out⟩
end Go.Proofs.YtlmnkcfnihhlgaaGreatDoor
namespace Go.Proofs.YtlmnkcfnihhlgaaGreatDoor
set_option linter.unusedSimpArgs false
set_option linter.unusedVariables false

mutual
def natV : V → Bool | .mk n ks => decide (0 ≤ n) && decide (n ≤ 1048576) && natL ks
def natL : List V → Bool | [] => true | v :: r => natV v && natL r
end
theorem natL_all : ∀ l : List V, natL l = l.all natV
  | [] => rfl
  | v :: r => by rw [natL, List.all_cons, natL_all r]
theorem natV_eq (v : V) : natV v = (decide (0 ≤ v.n) && decide (v.n ≤ 1048576) && v.ks.all natV) := by cases v; rw [natV, natL_all]; rfl
theorem natV_leaf {n : Int} (h0 : 0 ≤ n) (h1 : n ≤ 1048576) {v : V} (hn : v.n = n) (hk : v.ks.all natV = true) : natV v = true := by
  rw [natV_eq, hn, hk]; simp [h0, h1]
theorem tagged_nat {s : Int} (hs : s ≤ 16) (v : V) : taggedP s v = true → natV v = true := by
  induction v using V.ind with
  | h n ks ih =>
    intro h
    rw [taggedP, taggedL_eq, Bool.and_eq_true, Bool.and_eq_true] at h
    have h0 : 0 ≤ n := of_decide_eq_true h.1.1
    have h1 : n < s := of_decide_eq_true h.1.2
    rw [natV, natL_all, decide_eq_true h0, decide_eq_true (show n ≤ 1048576 by omega), Bool.true_and, Bool.true_and]
    exact List.all_eq_true.2 fun k hk => ih k hk (List.all_eq_true.1 h.2 k hk)
theorem label_nat {s : Int} (hs : s ≤ 16) {v : V} (h : labelP s v = true) : natV v = true := by
  unfold labelP at h
  simp only [Bool.and_eq_true, decide_eq_true_eq, List.isEmpty_iff] at h
  exact natV_leaf h.1.1 (by omega) rfl (by rw [h.2]; rfl)
theorem oneZ_mem {f : T → V → Bool} : ∀ {ps : List T} {vs : List V}, oneZ f ps vs = true → ∀ v ∈ vs, ∃ p ∈ ps, f p v = true
  | [], [], _ => by simp
  | [], _ :: _, h => by simp [oneZ] at h
  | _ :: _, [], h => by simp [oneZ] at h
  | p :: ps, v :: vs, h => by
    simp only [oneZ, Bool.and_eq_true] at h
    intro u hu
    rcases List.mem_cons.1 hu with rfl | hu
    · exact ⟨p, by simp, h.1⟩
    · obtain ⟨q, hq, e⟩ := oneZ_mem h.2 u hu
      exact ⟨q, List.mem_cons_of_mem _ hq, e⟩
theorem right_size {d : Nat} {t : T} (hr : rightP (d + 1) t = true) (hk : t.kind = 2 ∨ t.kind = 6) : t.size ≤ 16 := by
  simp only [rightP, Bool.and_eq_true] at hr
  have hr := hr.2
  rw [if_neg (by omega), if_pos hk] at hr
  simp only [Bool.and_eq_true, decide_eq_true_eq] at hr
  exact hr.2
theorem right_size7 {d : Nat} {t : T} (hr : rightP (d + 1) t = true) (h1 : t.kind ≠ 1) (h2 : t.kind ≠ 2) (h3 : t.kind ≠ 3) (h4 : t.kind ≠ 4) (h5 : t.kind ≠ 5) (h6 : t.kind ≠ 6) : t.size ≤ 16 := by
  simp only [rightP, Bool.and_eq_true] at hr
  have hr := hr.2
  rw [if_neg h1, if_neg (by omega)] at hr
  by_cases h7 : t.kind = 7
  · rw [if_pos h7] at hr
    simp only [rankedP, Bool.and_eq_true, decide_eq_true_eq, beq_iff_eq] at hr
    omega
  · rw [if_neg h7, if_neg h3, if_neg (by omega)] at hr
    simp at hr
theorem one_nat (d : Nat) : ∀ (t : T) (v : V), rightP d t = true → oneP d t v = true → natV v = true := by
  induction d with
  | zero => intro t v h; simp [rightP] at h
  | succ d ih =>
    intro t v hr ho
    simp only [oneP] at ho
    by_cases k1 : t.kind = 1
    · rw [if_pos k1] at ho
      simp only [Bool.and_eq_true, decide_eq_true_eq, List.isEmpty_iff] at ho
      exact natV_leaf ho.1.1 ho.1.2 rfl (by rw [ho.2]; rfl)
    rw [if_neg k1] at ho
    by_cases k2 : t.kind = 2
    · rw [if_pos k2] at ho
      exact label_nat (right_size hr (.inl k2)) ho
    rw [if_neg k2] at ho
    by_cases k3 : t.kind = 3
    · rw [if_pos k3] at ho
      simp only [Bool.and_eq_true, beq_iff_eq] at ho
      refine natV_leaf (n := 0) (by omega) (by omega) ho.1.1 (List.all_eq_true.2 fun k hk => ?_)
      obtain ⟨p, hp, h⟩ := oneZ_mem ho.2 k hk
      exact ih p k (List.all_eq_true.1 (parts_right hr k3).1 p hp) h
    rw [if_neg k3] at ho
    by_cases k4 : t.kind = 4
    · rw [if_pos k4] at ho
      simp only [Bool.and_eq_true, beq_iff_eq] at ho
      exact natV_leaf (n := 0) (by omega) (by omega) ho.1.1 (List.all_eq_true.2 fun k hk => ih _ k (p0_right hr (.inl k4)).1 (List.all_eq_true.1 ho.2 k hk))
    rw [if_neg k4] at ho
    by_cases k5 : t.kind = 5
    · rw [if_pos k5] at ho
      simp only [Bool.and_eq_true, beq_iff_eq] at ho
      exact natV_leaf (n := 0) (by omega) (by omega) ho.1.1.1 (List.all_eq_true.2 fun k hk => ih _ k (p0_right hr (.inr k5)).1 (List.all_eq_true.1 ho.1.2 k hk))
    rw [if_neg k5] at ho
    by_cases k6 : t.kind = 6
    · rw [if_pos k6] at ho
      simp only [Bool.and_eq_true] at ho
      exact tagged_nat (right_size hr (.inr k6)) v ho.2
    rw [if_neg k6] at ho
    simp only [Bool.and_eq_true, beq_iff_eq] at ho
    exact natV_leaf (n := 0) (by omega) (by omega) ho.1.1 (List.all_eq_true.2 fun k hk => label_nat (right_size7 hr k1 k2 k3 k4 k5 k6) (List.all_eq_true.1 ho.2 k hk))
theorem valid_parts {t : T} {v : V} (h : validP t v = true) : rightP 8 t = true ∧ v.size ≤ 128 ∧ oneP 8 t v = true := by
  unfold validP at h
  simp only [Bool.and_eq_true, decide_eq_true_eq] at h
  exact ⟨h.1.1, h.1.2, h.2⟩
theorem valid_nat {t : T} {v : V} (h : validP t v = true) : natV v = true := one_nat 8 t v (valid_parts h).1 (valid_parts h).2.2
theorem nat_i64V (v : V) : natV v = true → i64V v = true := by
  induction v using V.ind with
  | h n ks ih =>
    intro h
    rw [natV, natL_all, Bool.and_eq_true, Bool.and_eq_true] at h
    have h0 : 0 ≤ n := of_decide_eq_true h.1.1
    have h1 : n ≤ 1048576 := of_decide_eq_true h.1.2
    rw [i64V, i64L_all, Bool.and_eq_true, Bool.and_eq_true]
    exact ⟨⟨decide_eq_true (by omega), decide_eq_true (by omega)⟩, List.all_eq_true.2 fun k hk => ih k hk (List.all_eq_true.1 h.2 k hk)⟩

/- the bytes of a text -/
def plainB (c : UInt8) : Bool := digitB c || c == 40 || c == 41 || c == 32
theorem textK_all (ks : List V) (h : ∀ k ∈ ks, (textV k).all plainB = true) : ∀ c, plainB c = true → (textK c ks).all plainB = true := by
  induction ks with
  | nil => intro c _; rfl
  | cons v r ih =>
    intro c hc
    rw [textK, List.all_cons, List.all_append, hc, h v (by simp), ih (fun k hk => h k (List.mem_cons_of_mem _ hk)) 32 (by decide)]
    rfl
theorem text_plain (v : V) : natV v = true → (textV v).all plainB = true := by
  induction v using V.ind with
  | h n ks ih =>
    intro h
    rw [natV, natL_all, Bool.and_eq_true, Bool.and_eq_true] at h
    have h0 : 0 ≤ n := of_decide_eq_true h.1.1
    have h1 : (Lib.itoa n).all plainB = true := by
      unfold Lib.itoa
      rw [if_neg (by omega)]
      exact List.all_eq_true.2 fun c hc => by
        have := List.all_eq_true.1 (dec_digits n.toNat n.toNat (Nat.le_refl _)) c hc
        simp [plainB, this]
    have h2 := textK_all ks (fun k hk => ih k hk (List.all_eq_true.1 h.2 k hk)) 40 (by decide)
    rw [textV, List.all_append, List.all_append, h1, h2]
    cases ks
    · rfl
    · rfl
theorem itoa_pos (n : Int) : 1 ≤ (Lib.itoa n).length := by
  unfold Lib.itoa
  split
  · simp
  · exact dec_pos _
theorem textK_long (ks : List V) (h : ∀ k ∈ ks, k.size ≤ (textV k).length) : ∀ c, sizeL ks ≤ (textK c ks).length := by
  induction ks with
  | nil => intro c; simp [sizeL]
  | cons v r ih =>
    intro c
    have h1 := h v (by simp)
    have h2 := ih (fun k hk => h k (List.mem_cons_of_mem _ hk)) 32
    simp only [sizeL, textK, List.length_cons, List.length_append]
    omega
theorem text_long (v : V) : v.size ≤ (textV v).length := by
  induction v using V.ind with
  | h n ks ih =>
    have h1 := itoa_pos n
    have h2 := textK_long ks ih 40
    rw [V.size, textV]
    simp only [List.length_append]
    omega
/- least values -/
def dropsB (r : Int → Int) : List Int → Bool
  | [] => false
  | x :: w => (match w with | [] => false | y :: _ => decide (r x ≤ r y)) || dropsB r w
def leastZ (f : T → V → Bool) : List T → List V → Bool
  | [], _ => true
  | p :: ps, v :: vs => f p v && leastZ f ps vs
  | _ :: _, [] => false
def leastP : Nat → T → V → Bool
  | 0, _, _ => false
  | d + 1, t, v =>
    if t.kind = 1 then v.n == 0
    else if t.kind = 2 then true
    else if t.kind = 3 then leastZ (leastP d) t.parts v.ks
    else if t.kind = 4 ∨ t.kind = 5 ∨ t.kind = 6 then v.ks.isEmpty
    else !dropsB (rankAt t.ranks) (v.ks.map V.n)
/-- a word without drops has nothing below it: every letter has a greater rank than the next one -/
theorem drops_head {r : Int → Int} : ∀ {b : List Int} {x : Int} {a : List Int}, dropsB r b = false → PLe r (x :: a) b → ∃ b', b = x :: b' ∧ PLe r a b' := by
  intro b
  induction b with
  | nil => intro x a _ h; cases h
  | cons y b ih =>
    intro x a hd h
    cases h with
    | keep h => exact ⟨b, rfl, h⟩
    | skip h h4 =>
      simp only [dropsB, Bool.or_eq_false_iff] at hd
      obtain ⟨b', rfl, h5⟩ := ih hd.2 h
      exfalso
      have := hd.1
      simp only [decide_eq_false_iff_not] at this
      exact this h4
theorem drops_eq {r : Int → Int} : ∀ {b a : List Int}, dropsB r b = false → PLe r a b → a = b := by
  intro b
  induction b with
  | nil => intro a _ h; cases h; rfl
  | cons y b ih =>
    intro a hd h
    cases a with
    | nil => cases h
    | cons x a =>
      obtain ⟨b', e, h5⟩ := drops_head hd h
      injection e with e1 e2
      subst e1 e2
      simp only [dropsB, Bool.or_eq_false_iff] at hd
      rw [ih hd.2 h5]
theorem leastZ_eq {f : T → V → Bool} {g : T → V → V → Bool} {o : T → V → Bool} : ∀ (ps : List T) (xs ys : List V), (∀ p ∈ ps, ∀ a b, f p a = true → o p a = true → o p b = true → g p b a = true → b = a) →
    leastZ f ps xs = true → oneZ o ps xs = true → oneZ o ps ys = true → belZ g ps ys xs = true → ys = xs
  | [], [], [], _, _, _, _, _ => rfl
  | [], _ :: _, _, _, _, h, _, _ => by simp [oneZ] at h
  | [], [], _ :: _, _, _, _, h, _ => by simp [oneZ] at h
  | _ :: _, [], _, _, _, h, _, _ => by simp [oneZ] at h
  | _ :: _, _ :: _, [], _, _, _, h, _ => by simp [oneZ] at h
  | p :: ps, a :: xs, b :: ys, h, h1, h2, h3, h4 => by
    simp only [leastZ, oneZ, belZ, Bool.and_eq_true] at h1 h2 h3 h4
    rw [h p (by simp) a b h1.1 h2.1 h3.1 h4.1, leastZ_eq ps xs ys (fun q hq => h q (List.mem_cons_of_mem _ hq)) h1.2 h2.2 h3.2 h4.2]
theorem V.ext_ {a b : V} (hn : a.n = b.n) (hk : a.ks = b.ks) : a = b := by cases a; cases b; simp only [V.n_mk, V.ks_mk] at hn hk; rw [hn, hk]
theorem least_below (d : Nat) : ∀ (t : T) (a b : V), rightP d t = true → leastP d t a = true → oneP d t a = true → oneP d t b = true → belowP d t b a = true → b = a := by
  induction d with
  | zero => intro t a b h; simp [rightP] at h
  | succ d ih =>
    intro t a b hr hl oa ob hb
    simp only [oneP] at oa ob
    simp only [leastP] at hl
    simp only [belowP] at hb
    by_cases k1 : t.kind = 1
    · rw [if_pos k1] at hl oa ob hb
      simp only [Bool.and_eq_true, decide_eq_true_eq, List.isEmpty_iff, beq_iff_eq] at hl oa ob hb
      exact V.ext_ (by omega) (by rw [oa.2, ob.2])
    rw [if_neg k1] at hl oa ob hb
    by_cases k2 : t.kind = 2
    · rw [if_pos k2] at hl oa ob hb
      simp only [labelP, Bool.and_eq_true, decide_eq_true_eq, List.isEmpty_iff, beq_iff_eq] at oa ob hb
      exact V.ext_ hb (by rw [oa.2, ob.2])
    rw [if_neg k2] at hl oa ob hb
    by_cases k3 : t.kind = 3
    · rw [if_pos k3] at hl oa ob hb
      simp only [Bool.and_eq_true, beq_iff_eq] at oa ob
      have hp := (parts_right hr k3).1
      exact V.ext_ (by omega) (leastZ_eq _ _ _ (fun p hp2 a b q1 q2 q3 q4 => ih p a b (List.all_eq_true.1 hp p hp2) q1 q2 q3 q4) hl oa.2 ob.2 hb)
    rw [if_neg k3] at hl oa ob hb
    by_cases k4 : t.kind = 4
    · rw [if_pos (.inl k4)] at hl
      rw [if_pos k4] at oa ob hb
      simp only [Bool.and_eq_true, beq_iff_eq, List.isEmpty_iff] at oa ob hl
      rw [hl] at hb
      have := (embG_iff _ _ _).1 hb
      have hk : b.ks = [] := by
        rcases h : b.ks with _ | ⟨x, r⟩
        · rfl
        · rw [h] at this
          obtain ⟨y, hy, _⟩ := this.mem x (by simp)
          simp at hy
      exact V.ext_ (by omega) (by rw [hk, hl])
    rw [if_neg k4] at oa ob hb
    by_cases k5 : t.kind = 5
    · rw [if_pos (.inr (.inl k5))] at hl
      rw [if_pos k5] at oa ob hb
      simp only [Bool.and_eq_true, beq_iff_eq, List.isEmpty_iff] at oa ob hl
      rw [hl] at hb
      obtain ⟨b1, b2, h1, h2⟩ := (domG_iff _ _ _).1 hb
      have h3 := h1.length_eq
      have h4 := h2.length_eq
      simp only [List.length_nil, List.length_append] at h4
      have hk : b.ks = [] := List.length_eq_zero_iff.1 (by omega)
      exact V.ext_ (by omega) (by rw [hk, hl])
    rw [if_neg k5] at oa ob hb
    by_cases k6 : t.kind = 6
    · rw [if_pos (.inr (.inr k6))] at hl
      rw [if_pos k6] at oa ob hb
      simp only [List.isEmpty_iff] at hl
      rcases (embT_iff _ _).1 hb with ⟨h1, h2⟩ | ⟨k, hk, _⟩
      · rw [hl] at h2
        have hk : b.ks = [] := by
          rcases h : b.ks with _ | ⟨x, r⟩
          · rfl
          · rw [h] at h2
            obtain ⟨y, hy, _⟩ := h2.mem x (by simp)
            simp at hy
        exact V.ext_ h1 (by rw [hk, hl])
      · rw [hl] at hk; simp at hk
    rw [if_neg (by omega)] at hl
    rw [if_neg k6] at oa ob hb
    simp only [Bool.and_eq_true, beq_iff_eq, Bool.not_eq_true'] at oa ob hl
    have h1 := drops_eq hl ((pleB_iff _ _ _).1 hb)
    exact V.ext_ (by omega) (label_eq ob.2 oa.2 h1)

/- sorted values -/
theorem srtZ_id {f : T → V → V} {o : T → V → Bool} : ∀ (ps : List T) (vs : List V), (∀ p ∈ ps, ∀ v, o p v = true → f p v = v) → oneZ o ps vs = true → srtZ f ps vs = vs
  | [], vs, _, _ => by simp [srtZ]
  | _ :: _, [], _, h => by simp [oneZ] at h
  | p :: ps, v :: vs, h, h2 => by
    simp only [oneZ, Bool.and_eq_true] at h2
    rw [srtZ, h p (by simp) v h2.1, srtZ_id ps vs (fun q hq => h q (List.mem_cons_of_mem _ hq)) h2.2]
theorem map_id_of {f : V → V} {l : List V} (h : ∀ v ∈ l, f v = v) : l.map f = l := by
  induction l with
  | nil => rfl
  | cons a r ih => rw [List.map_cons, h a (by simp), ih (fun v hv => h v (List.mem_cons_of_mem _ hv))]
theorem srtP_id (d : Nat) : ∀ (t : T) (v : V), rightP d t = true → oneP d t v = true → srtP d t v = v := by
  induction d with
  | zero => intro t v h; simp [rightP] at h
  | succ d ih =>
    intro t v hr ho
    have hk : srtK (srtP d) t v.ks = v.ks := by
      unfold srtK
      simp only [oneP] at ho
      by_cases k3 : t.kind = 3
      · rw [if_pos k3]
        rw [if_neg (by omega), if_neg (by omega), if_pos k3] at ho
        simp only [Bool.and_eq_true] at ho
        exact srtZ_id _ _ (fun p hp v h => ih p v (List.all_eq_true.1 (parts_right hr k3).1 p hp) h) ho.2
      rw [if_neg k3]
      by_cases k4 : t.kind = 4 ∨ t.kind = 5
      · rw [if_pos k4]
        have hp := (p0_right hr k4).1
        refine map_id_of fun k hk => ih _ _ hp ?_
        rcases k4 with k4 | k4
        · rw [if_neg (by omega), if_neg (by omega), if_neg (by omega), if_pos k4] at ho
          simp only [Bool.and_eq_true] at ho
          exact List.all_eq_true.1 ho.2 k hk
        · rw [if_neg (by omega), if_neg (by omega), if_neg (by omega), if_neg (by omega), if_pos k4] at ho
          simp only [Bool.and_eq_true] at ho
          exact List.all_eq_true.1 ho.1.2 k hk
      · rw [if_neg k4]
    refine V.ext_ (srtP_n _ _ _) ?_
    rw [srtP_ks, hk]
    by_cases k5 : t.kind = 5
    · rw [if_pos k5]
      simp only [oneP] at ho
      rw [if_neg (by omega), if_neg (by omega), if_neg (by omega), if_neg (by omega), if_pos k5] at ho
      simp only [Bool.and_eq_true] at ho
      exact (sortV_eq (List.Perm.refl _) ho.2).symm
    · rw [if_neg k5]
theorem sorted_self {t : T} {v : V} (h : validP t v = true) : sortedP t v = (v, 0) := by
  obtain ⟨h1, h2, h3⟩ := valid_parts h
  unfold sortedP
  rw [if_pos h1, if_pos h2, srtP_id 8 t v h1 h3, if_pos h]
theorem below_refl_v {t : T} {a : V} (h : validP t a = true) : belowP 8 t a a = true := below_refl 8 t a (valid_parts h).1 (valid_parts h).2.2
theorem below_trans_v {t : T} {a b c : V} (ha : validP t a = true) (hb : validP t b = true) (hc : validP t c = true) (h1 : belowP 8 t a b = true) (h2 : belowP 8 t b c = true) : belowP 8 t a c = true :=
  below_trans 8 t a b c (valid_parts ha).1 (valid_parts ha).2.2 (valid_parts hb).2.2 (valid_parts hc).2.2 h1 h2
theorem below_anti_v {t : T} {a b : V} (ha : validP t a = true) (hb : validP t b = true) (h1 : belowP 8 t a b = true) (h2 : belowP 8 t b a = true) : a = b :=
  below_anti (valid_parts ha).1 (valid_parts ha).2.2 (valid_parts hb).2.2 h1 h2
theorem least_below_v {t : T} {a b : V} (ha : validP t a = true) (hb : validP t b = true) (hl : leastP 8 t a = true) (h : belowP 8 t b a = true) : b = a :=
  least_below 8 t a b (valid_parts ha).1 hl (valid_parts ha).2.2 (valid_parts hb).2.2 h
end Go.Proofs.YtlmnkcfnihhlgaaGreatDoor
namespace Go.Proofs.YtlmnkcfnihhlgaaGreatDoor
open Go.RowKit
set_option linter.unusedSimpArgs false
set_option linter.unusedVariables false

def LeastSays (t : T) (ok f : V → Bool) : Prop := ∀ v, ok v = true → ∀ (rv pv s : Value) (W : World), TB W W.heap.size rv pv t → KB W W.heap.size s v.ks → Calls Tryz.prog 53 #[aggT t rv pv, aggV v s] W (BoolPost W (f v))
theorem LeastSays.of_eq {t : T} {ok f g : V → Bool} (h : LeastSays t ok f) (e : ∀ v, f v = g v) : LeastSays t ok g := by
  intro v; rw [← e v]; exact h v
set_option maxHeartbeats 1000000 in
theorem oleast_k1 (t : T) (ok : V → Bool) (hk : t.kind = 1) : LeastSays t ok (fun v => v.n == 0) := by
  intro v _ rv pv s w hT h
  obtain ⟨A, n, c, rfl, ln, bn, mn⟩ := h.form
  obtain ⟨A1, rn, c1, rfl, _, _⟩ := hT.1.form'
  obtain ⟨A2, pn, c2, rfl, _, _, _⟩ := hT.2.form
  show Calls _ _ _ _ (BoolPost w (v.n == 0))
  unfold aggT aggV
  rw [hk]
  clear h hT ln hk
  generalize v.n = x
  generalize t.size = z
  rcases hx : (x == 0) with _ | _
  all_goals
    go_enter Tryz.func53, Tryz.ntmps53
    go_wp2
    go_ret
    exact ⟨rfl, ((Bw.refl _).alloc _).alloc _⟩
set_option maxHeartbeats 1000000 in
theorem oleast_k2 (t : T) (ok : V → Bool) (hk : t.kind = 2) : LeastSays t ok (fun _ => true) := by
  intro v _ rv pv s w hT h
  obtain ⟨A, n, c, rfl, ln, bn, mn⟩ := h.form
  obtain ⟨A1, rn, c1, rfl, _, _⟩ := hT.1.form'
  obtain ⟨A2, pn, c2, rfl, _, _, _⟩ := hT.2.form
  show Calls _ _ _ _ (BoolPost w true)
  unfold aggT aggV
  rw [hk]
  clear h hT ln hk
  generalize v.n = x
  generalize t.size = z
  go_enter Tryz.func53, Tryz.ntmps53
  go_wp2
  go_ret
  exact ⟨rfl, ((Bw.refl _).alloc _).alloc _⟩
set_option maxHeartbeats 1000000 in
theorem oleast_k456 (t : T) (ok : V → Bool) (hk : t.kind = 4 ∨ t.kind = 5 ∨ t.kind = 6) : LeastSays t ok (fun v => v.ks.isEmpty) := by
  intro v _ rv pv s w hT h
  obtain ⟨A, n, c, rfl, ln, bn, mn⟩ := h.form
  obtain ⟨A1, rn, c1, rfl, _, _⟩ := hT.1.form'
  obtain ⟨A2, pn, c2, rfl, _, _, _⟩ := hT.2.form
  show Calls _ _ _ _ (BoolPost w v.ks.isEmpty)
  unfold aggT aggV
  rw [isEmpty_len _ _ ln]
  clear h hT ln
  generalize v.n = x
  generalize t.size = z
  rcases hk with hk | hk | hk
  all_goals
    rw [hk]
    clear hk
    by_cases hn : n = 0
    · subst hn
      go_enter Tryz.func53, Tryz.ntmps53
      go_wp2
      go_ret
      exact ⟨rfl, ((Bw.refl _).alloc _).alloc _⟩
    · have HF : Hid (decide (n = 0) = false) := Lib.hid (decide_eq_false hn)
      rw [HF.out]
      have d0 : ((n : Int) == 0) = false := by simp [hn]
      go_enter Tryz.func53, Tryz.ntmps53
      go_wp2
      go_ret
      exact ⟨rfl, ((Bw.refl _).alloc _).alloc _⟩
set_option maxRecDepth 100000 in
set_option maxHeartbeats 2000000 in
theorem oLeast_any (t : T) (v : V) (LS : LeastSays t (oneP 8 t) (leastP 8 t)) (rv pv s : Value) (w : World) (hT : TB w w.heap.size rv pv t) (h : KB w w.heap.size s v.ks) (q : Bool) (hq : (validP t v && leastP 8 t v) = q) :
    Calls Tryz.prog 28 #[.agg #[.int .i64 t.kind, .int .i64 t.size, rv, pv], .agg #[.int .i64 v.n, s]] w (BoolPost w q) := by
  subst hq
  obtain ⟨A, n, c, rfl, ln, bn, mn⟩ := h.form
  obtain ⟨A1, rn, c1, rfl, _, _⟩ := hT.1.form'
  obtain ⟨A2, pn, c2, rfl, _, _, _⟩ := hT.2.form
  have C1 : Hid (∀ W, Bw w W → Calls Tryz.prog 20 #[.agg #[.int .i64 t.kind, .int .i64 t.size, .slice A1 rn c1, .slice A2 pn c2], .agg #[.int .i64 v.n, .slice A n c]] W (BoolPost W (validP t v))) := Lib.hid (fun W g => ovalid_any t v _ _ _ W (TAt.bw hT g) (h.bw g) _ rfl)
  have C2 : Hid (validP t v = true → ∀ W, Bw w W → Calls Tryz.prog 53 #[.agg #[.int .i64 t.kind, .int .i64 t.size, .slice A1 rn c1, .slice A2 pn c2], .agg #[.int .i64 v.n, .slice A n c]] W (BoolPost W (leastP 8 t v))) := Lib.hid (fun hv W g => LS v (valid_parts hv).2.2 _ _ _ W (TAt.bw hT g) (h.bw g))
  have HB := Lib.hid (boxes w (.int .i64 t.kind) (.int .i64 t.size) (.slice A1 rn c1) (.slice A2 pn c2) (.int .i64 v.n) (.slice A n c))
  clear h hT ln LS
  generalize validP t v = q1 at *
  generalize leastP 8 t v = q2 at *
  generalize v.n = x at *
  generalize t.kind = kd at *
  generalize t.size = z at *
  rcases q1 with _ | _
  · go_enter Tryz.func28, Tryz.ntmps28
    go_wp2_with (go_at_call 20; go_must (refine (C1.out _ HB.out.1).mono ?_; rintro e w6 ⟨rfl, hg6⟩; (have HG6 := Lib.hid (HB.out.1.trans hg6)); clear hg6))
    go_ret
    exact ⟨rfl, HG6.out⟩
  · have C3 := Lib.hid (C2.out rfl)
    clear C2
    go_enter Tryz.func28, Tryz.ntmps28
    go_wp2_with (first
      | (go_at_call 20; go_must (refine (C1.out _ HB.out.1).mono ?_; rintro e w6 ⟨rfl, hg6⟩; (have HG6 := Lib.hid (HB.out.1.trans hg6)); have b3 := HB.out.2.1.below hg6.b HB.out.2.1.lt; have b4 := HB.out.2.2.below hg6.b HB.out.2.2.lt; have y0 := b3.cell 0; have y1 := b3.cell 1; have y2 := b3.cell 2; have y3 := b3.cell 3; have y4 := b4.cell 0; have y5 := b4.cell 1; clear hg6 b3 b4))
      | (go_at_call 53; go_must (refine (C3.out _ HG6.out).mono ?_; rintro e w7 ⟨rfl, hg7⟩; (have HG7 := Lib.hid (HG6.out.trans hg7)); clear hg7)))
    go_ret
    exact ⟨rfl, HG7.out⟩
end Go.Proofs.YtlmnkcfnihhlgaaGreatDoor
