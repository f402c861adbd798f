/- Proved: for every []int l the call BasisInserts(l) returns true, and the list reads afterwards as it did. Conditions: none beyond the row's own. Plain: what a basis has behind an insertion. Law 07: inserting. -/
import Derived.Test.YtbmheekaclmibaaGreatLawA
import Derived.Test.YtbmheekaclmibaaGreatRefM
import Derived.Deep.RegionLawGrows
namespace Go.Proofs.YtbmheekaclmibaaGreat
set_option linter.unusedSimpArgs false
set_option linter.unusedVariables false

section
variable {t : T} {l : List V} {x : V}
theorem snoc_valid (hl : ∀ v ∈ l, validP t v = true) (hx : validP t x = true) : ∀ v ∈ l ++ [x], validP t v = true := fun v hv => by
  rcases List.mem_append.1 hv with hv | hv
  · exact hl v hv
  · obtain rfl := List.mem_singleton.1 hv; exact hx
/-- a basis has what some value of its list is below -/
theorem has_mn (ht : rightP 8 t = true) (hl : ∀ v ∈ l, validP t v = true) {w : V} (hw : validP t w = true) : hasP t (mn t l) w = l.any fun y => belowP 8 t y w := by
  have P := below_ord ht
  unfold hasP
  rw [Bool.eq_iff_iff, List.any_eq_true, List.any_eq_true]
  constructor
  · rintro ⟨y, hy, h⟩
    exact ⟨y, mn_mem ht hl hy, h⟩
  · rintro ⟨y, hy, h⟩
    obtain ⟨z, hz, h2⟩ := mn_dom ht hl hy
    exact ⟨z, hz, below_trans 8 t z y w ht (validP_one (mn_valid ht hl z hz)) (validP_one (hl y hy)) (validP_one hw) h2 h⟩
theorem has_snoc (ht : rightP 8 t = true) (hl : ∀ v ∈ l, validP t v = true) (hx : validP t x = true) {w : V} (hw : validP t w = true) : hasP t (mn t (l ++ [x])) w = (hasP t (mn t l) w || belowP 8 t x w) := by
  rw [has_mn ht (snoc_valid hl hx) hw, has_mn ht hl hw, List.any_append]
  simp
theorem has_new (ht : rightP 8 t = true) (hl : ∀ v ∈ l, validP t v = true) (hx : validP t x = true) : hasP t (mn t (l ++ [x])) x = true := by
  rw [has_snoc ht hl hx hx, (below_ord ht).refl x (validP_one hx), Bool.or_true]
/-- what is there already changes nothing -/
theorem mn_same (ht : rightP 8 t = true) (hl : ∀ v ∈ l, validP t v = true) (hx : validP t x = true) (h : hasP t (mn t l) x = true) : mn t (l ++ [x]) = mn t l := by
  have P := below_ord ht
  have hv := snoc_valid hl hx
  rw [has_mn ht hl hx] at h
  obtain ⟨y, hy, hyx⟩ := List.any_eq_true.1 h
  refine minP_eq P (ok_all hv) (ok_all hl) (fun z hz => ?_) (fun z hz => ⟨z, List.mem_append.2 (.inl hz), P.refl z (validP_one (hl z hz))⟩)
  rcases List.mem_append.1 hz with hz | hz
  · exact ⟨z, hz, P.refl z (validP_one (hl z hz))⟩
  · obtain rfl := List.mem_singleton.1 hz
    exact ⟨y, hy, hyx⟩
end
end Go.Proofs.YtbmheekaclmibaaGreat
namespace Go.Proofs.YtbmheekaclmibaaGreat
open Go.RowKit
set_option linter.unusedSimpArgs false
set_option linter.unusedVariables false

set_option maxRecDepth 100000 in
set_option maxHeartbeats 8000000 in
theorem l7Inserts_any (A : Option Addr) (n c : Nat) (hn : n ≤ maxLen) (w : World) (h : IntsArg w A n) : Calls Tryz.prog 5 #[.slice A n c] w (BoolPost w true) := by
  have hn63 : n ≤ 9223372036854775807 := by unfold maxLen at hn; omega
  have AW := Lib.hid (fun W => awake7_any W)
  have FW := Lib.hid (fun W => few_any W A n c hn63)
  by_cases h4 : n ≤ 400
  rotate_left
  · have d4 : decide (n ≤ 400) = false := decide_eq_false h4
    rw [d4] at FW
    clear h
    go_enter Tryz.func5, Tryz.ntmps5
    go_wp2_with (first
      | (go_at_call 9; (with_reducible refine (AW.out w).mono ?_); rintro e w1 ⟨rfl, hg1⟩)
      | (go_at_call 10; (with_reducible refine (FW.out w1).mono ?_); rintro e w2 ⟨rfl, rfl⟩)
      | (go_at_call 9; (with_reducible refine (AW.out w1).mono ?_); rintro e w3 ⟨rfl, hg3⟩))
    go_ret
    exact ⟨rfl, hg1.trans hg3⟩
  have d4 : decide (n ≤ 400) = true := decide_eq_true h4
  rw [d4] at FW
  have CN := Lib.hid (fun W g => new_arg w W A n c h4 h g)
  have CD := Lib.hid (fun W b hd => dealt_any W b false hd)
  unfold NewPost at CN
  unfold DealtT at CD
  clear h
  go_enter Tryz.func5, Tryz.ntmps5
  go_upto_region 5 with (first
    | (go_at_call 9; (with_reducible refine (AW.out w).mono ?_); rintro e w1 ⟨rfl, hg1⟩)
    | (go_at_call 10; (with_reducible refine (FW.out w1).mono ?_); rintro e w2 ⟨rfl, rfl⟩)
    | (go_at_call 11; (with_reducible refine (CN.out w1 hg1).mono ?_); rintro e w3 ⟨rfl, hd3, hg3⟩; have hs1 := hg1.size; generalize w1.heap.size = b at hd3 hg3 hs1 ⊢)
    | (go_at_call 12; (with_reducible refine (CD.out w3 b hd3).mono ?_); rintro e w4 ⟨t, A1, rn, c1, A2, pn, c2, rfl, ht, hls, hT, hg4⟩; have hg4' : GD b w3 (w4.alloc (.cells #[.int .i64 t.kind, .int .i64 t.size, .slice A1 rn c1, .slice A2 pn c2] 29)) := hg4.bw ((Bw.refl _).alloc _); have hT4 := hT.td ((GD.refl hg4.2).bw ((Bw.refl _).alloc (.cells #[.int .i64 t.kind, .int .i64 t.size, .slice A1 rn c1, .slice A2 pn c2] 29)))))
  have hb4 : b < w4.heap.size := hg4.2.lt
  have hw3 : Bw w w3 := Below.trans hg1 (Below.mono hg3 hs1)
  have hw4 : Bw w (w4.alloc (.cells #[.int .i64 t.kind, .int .i64 t.size, .slice A1 rn c1, .slice A2 pn c2] 29)) := bw_gb hw3 hg4'.1 (fun r e => by injection e with e; omega)
  have hbw : w.heap.size ≤ b := hs1
  refine wp_world (fun W => Hid (Bw w W ∧ DeckOk W b ∧ TAt W (TD b W) (.slice A1 rn c1) (.slice A2 pn c2) t ∧ Blk W w4.heap.size 29 #[.int .i64 t.kind, .int .i64 t.size, .slice A1 rn c1, .slice A2 pn c2] ∧ b < w4.heap.size)) (Lib.hid ⟨hw4, hg4'.2, hT4, Blk.new _ _ _, hb4⟩) ?_
  intro W0 HW0
  clear hw4 hw3 hb4 hT4 hg4' hg4 hT hd3 hg3 hg1 AW FW CN CD hn hn63 h4 d4 hs1
  generalize w4.heap.size = g4 at *
  obtain ⟨hw0, hd0, hT0, hbx, hb4⟩ := HW0.out
  have DV := Lib.hid (fun W (g : GD b W0 W) => dealtV_any W b 5 5 rfl (by omega) t ht hls (.slice A1 rn c1) (.slice A2 pn c2) g.2 (hT0.td g))
  unfold DealtV at DV
  have HG0 : Hid (GD b W0 W0.drew) := Lib.hid (GD.refl hd0).drew
  have hgb : g4 ≠ b := by omega
  have KS : Hid (∀ W', GD b W0 W' → W'.cell? ⟨g4, 0, none⟩ = some (.int .i64 t.kind) ∧ W'.cell? ⟨g4, 1, none⟩ = some (.int .i64 t.size) ∧ W'.cell? ⟨g4, 2, none⟩ = some (.slice A1 rn c1) ∧ W'.cell? ⟨g4, 3, none⟩ = some (.slice A2 pn c2)) := Lib.hid (fun W' g => by
    have h := g.blk hbx hgb
    exact ⟨h.cell 0, h.cell 1, h.cell 2, h.cell 3⟩)
  have HT0 := Lib.hid hT0
  have HBX := Lib.hid hbx
  have HW0' := Lib.hid hw0
  have HT := Lib.hid ht
  have HLS := Lib.hid hls
  have TG : Hid (∀ W', GD b W0 W' → TB W' W'.heap.size (.slice A1 rn c1) (.slice A2 pn c2) t) := Lib.hid (fun W' g => (HT0.out.td g).keep (fun x hx => hx.2) (fun _ _ => rfl))
  have MN : Hid (∀ (l : List V) (s : Value) (W : World), GD b W0 W → l.length ≤ 5 → (∀ v ∈ l, validP t v = true) → KB W W.heap.size s l → Calls Tryz.prog 14 #[.agg #[.int .i64 t.kind, .int .i64 t.size, .slice A1 rn c1, .slice A2 pn c2], s] W (ValsErr W (mn t l) 0)) := Lib.hid (fun l s W g hl hv hk => by
    have CM := bMinimise_any t l (by omega) _ _ _ W (TG.out W g) hk
    rw [minimise_mn HT.out hv (by omega)] at CM
    exact CM)
  have VAL : Hid (∀ W, GD b W0 W → Calls Tryz.prog 21 #[.pointer (some ⟨b, 0, none⟩), .agg #[.int .i64 t.kind, .int .i64 t.size, .slice A1 rn c1, .slice A2 pn c2]] W (MadePost W b (fun v => validP t v = true))) := Lib.hid (fun W g => (dvalue_any b t HT.out _ _ W g.2 (HT0.out.td g)).mono (by
    rintro e w' ⟨v, s, rfl, h1, h2⟩
    exact ⟨v, s, rfl, h1 HLS.out, h2⟩))
  have INS : Hid (∀ (q : List V) (v : V) (s s2 : Value) (W : World), GD b W0 W → KB W W.heap.size s q → KB W W.heap.size s2 v.ks → Calls Tryz.prog 15 #[.agg #[.int .i64 t.kind, .int .i64 t.size, .slice A1 rn c1, .slice A2 pn c2], s, .agg #[.int .i64 v.n, s2]] W (InsPost W (insP t q v).1 (insP t q v).2.1 (insP t q v).2.2)) := Lib.hid (fun q v s s2 W g h h2 => bInsert_any t q v _ _ _ _ W (TG.out W g) h h2)
  have HAS : Hid (∀ (q : List V) (v : V) (s s2 : Value) (W : World), GD b W0 W → KB W W.heap.size s q → KB W W.heap.size s2 v.ks → Calls Tryz.prog 19 #[.agg #[.int .i64 t.kind, .int .i64 t.size, .slice A1 rn c1, .slice A2 pn c2], s, .agg #[.int .i64 v.n, s2]] W (BoolPost W (hasB t q v))) := Lib.hid (fun q v s s2 W g h h2 => bHas_any t q v _ _ _ _ W (TG.out W g) h h2)
  have LEQ : Hid (∀ (u v : V) (s s2 : Value) (W : World), GD b W0 W → validP t u = true → validP t v = true → KB W W.heap.size s u.ks → KB W W.heap.size s2 v.ks → Calls Tryz.prog 22 #[.agg #[.int .i64 t.kind, .int .i64 t.size, .slice A1 rn c1, .slice A2 pn c2], .agg #[.int .i64 u.n, s], .agg #[.int .i64 v.n, s2]] W (BoolPost W (belowP 8 t u v))) := Lib.hid (fun u v s s2 W g hu hv h h2 => r6leq_any t u v hu hv _ _ _ _ W (TG.out W g) h h2)
  unfold ValsErr at MN
  clear hw0 hd0 hT0 hbx HW0 ht hls
  generalize hkd : t.kind = kd at *
  generalize hz : t.size = z at *
  clear hkd hz
  go_region_held3 (fun W' => W'.cell? ⟨g4, 0, none⟩ = some (.int .i64 kd) ∧ W'.cell? ⟨g4, 1, none⟩ = some (.int .i64 z) ∧ W'.cell? ⟨g4, 2, none⟩ = some (.slice A1 rn c1) ∧ W'.cell? ⟨g4, 3, none⟩ = some (.slice A2 pn c2)) (first | (refine KS.out _ ?_; first | exact HG0.out | exact HG5.out | exact HG6.out)) (first | (go_at_call 13; (with_reducible refine (DV.out _ HG0.out).mono ?_); rintro e w5 ⟨l, A5, n5, c5, rfl, l5, hn5, hv5, hk5, hg5⟩; have HG5 : Hid (GD b W0 w5) := Lib.hid (HG0.out.trans hg5)) | (go_at_call 14; (with_reducible refine (MN.out l _ _ HG5.out (by omega) hv5 hk5).mono ?_); rintro e w6 ⟨s6, rfl, hk6, hg6⟩; obtain ⟨A6, n6, c6, rfl, -, -, -⟩ := hk6.form; have HG6 : Hid (GD b W0 w6) := Lib.hid (HG5.out.bw hg6)))
  have hs6 := HG6.out.size
  have hbl : b < w5.heap.size := by have := HG5.out.size; have := HBX.out.lt; omega
  have HK6 : Hid (KAt w6 (TD b w6) (.slice A6 n6 c6) (mn t l)) := Lib.hid (hk6.keep (fun x hx => ⟨by omega, hx.2⟩) (fun _ _ => rfl))
  have DVL : Hid (∀ W, GD b W0 W → Calls Tryz.prog 21 #[.pointer (some ⟨b, 0, none⟩), .agg #[.int .i64 kd, .int .i64 z, .slice A1 rn c1, .slice A2 pn c2]] W (MadePost W b (fun v => validP t v = true))) := Lib.hid (fun W g => VAL.out W g)
  have HV := Lib.hid hv5
  have HL : Hid (l.length ≤ 5) := Lib.hid (by omega)
  obtain ⟨t0, t1, t2, t3⟩ := KS.out w6 HG6.out
  unfold MadePost at DVL
  clear hk6 hg6 hk5 hg5 hv5 DV MN VAL
  go_wp2_with (go_at_call 21; go_must ((with_reducible refine (DVL.out _ HG6.out).mono ?_); rintro e w7 ⟨v, sv, rfl, hv7, hk7, hg7⟩; obtain ⟨A7, n7, c7, rfl, -, -, -⟩ := hk7.form; (have HG7 := Lib.hid hg7); (have HV7 := Lib.hid hv7); (have HK7 := Lib.hid hk7); (have KK7 := Lib.hid (fun o => KS.out (w7.alloc o) ((HG6.out.trans hg7).bw ((Bw.refl _).alloc o)))); have k0 := (fun o => (KK7.out o).1); have k1 := (fun o => (KK7.out o).2.1); have k2 := (fun o => (KK7.out o).2.2.1); have k3 := (fun o => (KK7.out o).2.2.2); clear hg7 hv7 hk7))
  have HB7 : Hid (GD b W0 (w7.alloc (.cells #[.int .i64 v.n, .slice A7 n7 c7] 39))) := Lib.hid ((HG6.out.trans HG7.out).bw ((Bw.refl _).alloc _))
  have hb7 : b < w6.heap.size := by have := HG6.out.size; have := HBX.out.lt; omega
  have hs7 := HG7.out.size
  have HM7 : Hid (KAt (w7.alloc (.cells #[.int .i64 v.n, .slice A7 n7 c7] 39)) (TD b (w7.alloc (.cells #[.int .i64 v.n, .slice A7 n7 c7] 39))) (.slice A6 n6 c6) (mn t l)) := Lib.hid ((HK6.out.td HG7.out).td ((GD.refl HG7.out.2).bw ((Bw.refl _).alloc _)))
  have HV8 : Hid (KAt (w7.alloc (.cells #[.int .i64 v.n, .slice A7 n7 c7] 39)) (TD b (w7.alloc (.cells #[.int .i64 v.n, .slice A7 n7 c7] 39))) (.slice A7 n7 c7) v.ks) := Lib.hid ((KAt.keep HK7.out (S' := TD b w7) (fun x hx => ⟨by have := hx.1; omega, hx.2⟩) (fun _ _ => rfl)).td ((GD.refl HG7.out.2).bw ((Bw.refl _).alloc _)))
  have IN := Lib.hid (INS.out (mn t l) v _ _ _ HB7.out (HM7.out.keep (fun x hx => hx.2) (fun _ _ => rfl)) (HV8.out.keep (fun x hx => hx.2) (fun _ _ => rfl)))
  rw [ins_mn HT.out HV.out HV7.out (by have := HL.out; omega)] at IN
  unfold InsPost at IN
  have HBV : Hid (Blk (w7.alloc (.cells #[.int .i64 v.n, .slice A7 n7 c7] 39)) w7.heap.size 39 #[.int .i64 v.n, .slice A7 n7 c7]) := Lib.hid (Blk.new _ _ _)
  have hbw7 : b < w7.heap.size := by omega
  with_reducible refine IN.out.mono ?_
  rintro e w8 ⟨s8, rfl, hk8, hg8⟩
  obtain ⟨A8, n8, c8, rfl, -, -, -⟩ := hk8.form
  have HALL : Hid (GD b W0 w8 ∧ Bw w w8 ∧ KAt w8 (TD b w8) (.slice A6 n6 c6) (mn t l) ∧ KAt w8 (TD b w8) (.slice A8 n8 c8) (mn t (l ++ [v])) ∧ KAt w8 (TD b w8) (.slice A7 n7 c7) v.ks ∧ Blk w8 w7.heap.size 39 #[.int .i64 v.n, .slice A7 n7 c7]) := Lib.hid (by
    have g8 : GD b (w7.alloc (.cells #[.int .i64 v.n, .slice A7 n7 c7] 39)) w8 := (GD.refl HB7.out.2).bw hg8
    exact ⟨HB7.out.trans g8, bw_gb HW0'.out (HB7.out.trans g8).1 (fun r e => by injection e with e; omega), HM7.out.td g8, hk8.keep (fun x hx => ⟨by have := hx.1; simp at this; omega, hx.2⟩) (fun _ _ => rfl), HV8.out.td g8, HBV.out.below hg8.b HBV.out.lt⟩)
  clear hk8 hg8 IN HBV HM7 HV8 HB7 HK7 HK6 HG7 HG6 HG5 k0 k1 k2 k3 t0 t1 t2 t3 hs6 hs7 hb7
  generalize w7.heap.size = g7 at *
  dsimp only
  have HN1 : Hid (hasB t (mn t l) v = hasP t (mn t l) v) := Lib.hid (hasB_mn HT.out HV.out (by have := HL.out; omega) HV7.out)
  have HN2 : Hid (hasB t (mn t (l ++ [v])) v = true) := Lib.hid (by rw [hasB_mn HT.out (snoc_valid HV.out HV7.out) (by have := HL.out; simp; omega) HV7.out]; exact has_new HT.out HV.out HV7.out)
  obtain ⟨hgd8, hw8, hm8, hx8, hv8, hb8⟩ := HALL.out
  have H1 : Hid (∀ W, Bw w8 W → Calls Tryz.prog 19 #[.agg #[.int .i64 kd, .int .i64 z, .slice A1 rn c1, .slice A2 pn c2], .slice A6 n6 c6, .agg #[.int .i64 v.n, .slice A7 n7 c7]] W (BoolPost W (hasP t (mn t l) v))) := Lib.hid (fun W g => by
    rw [← HN1.out]
    exact HAS.out _ v _ _ W (hgd8.bw g) (KAt.bw (hm8.keep (fun x hx => hx.2) (fun _ _ => rfl)) g) (KAt.bw (hv8.keep (fun x hx => hx.2) (fun _ _ => rfl)) g))
  have H2 : Hid (∀ W, Bw w8 W → Calls Tryz.prog 19 #[.agg #[.int .i64 kd, .int .i64 z, .slice A1 rn c1, .slice A2 pn c2], .slice A8 n8 c8, .agg #[.int .i64 v.n, .slice A7 n7 c7]] W (BoolPost W true)) := Lib.hid (fun W g => by
    rw [← HN2.out]
    exact HAS.out _ v _ _ W (hgd8.bw g) (KAt.bw (hx8.keep (fun x hx => hx.2) (fun _ _ => rfl)) g) (KAt.bw (hv8.keep (fun x hx => hx.2) (fun _ _ => rfl)) g))
  have H3 : Hid (hasP t (mn t l) v = true → ∀ W, Bw w8 W → Calls Tryz.prog 17 #[.slice A8 n8 c8, .slice A6 n6 c6] W (BoolPost W true)) := Lib.hid (fun h W g => by
    have := r6sameAll_any (mn t (l ++ [v])) (mn t l) (.slice A8 n8 c8) (.slice A6 n6 c6) W (KAt.bw (hx8.keep (fun x hx => hx.2) (fun _ _ => rfl)) g) (KAt.bw (hm8.keep (fun x hx => hx.2) (fun _ _ => rfl)) g)
    rw [decide_eq_true (mn_same HT.out HV.out HV7.out h)] at this
    exact this)
  have KV : Hid (∀ W, Bw w8 W → (W.cell? ⟨g4, 0, none⟩ = some (.int .i64 kd) ∧ W.cell? ⟨g4, 1, none⟩ = some (.int .i64 z) ∧ W.cell? ⟨g4, 2, none⟩ = some (.slice A1 rn c1) ∧ W.cell? ⟨g4, 3, none⟩ = some (.slice A2 pn c2)) ∧ W.cell? ⟨g7, 0, none⟩ = some (.int .i64 v.n) ∧ W.cell? ⟨g7, 1, none⟩ = some (.slice A7 n7 c7)) := Lib.hid (fun W g => by
    have h := hb8.below g.b hb8.lt
    exact ⟨KS.out W (hgd8.bw g), h.cell 0, h.cell 1⟩)
  have K8 := Lib.hid (KV.out w8 (Bw.refl _))
  obtain ⟨⟨t0, t1, t2, t3⟩, u0, u1⟩ := K8.out
  have HHV : Hid (∀ u : V, validP t u = true → hasB t (mn t (l ++ [v])) u = (hasP t (mn t l) u || belowP 8 t v u) ∧ hasB t (mn t l) u = hasP t (mn t l) u) := Lib.hid (fun u hu => by
    refine ⟨?_, hasB_mn HT.out HV.out (by have := HL.out; omega) hu⟩
    rw [hasB_mn HT.out (snoc_valid HV.out HV7.out) (by have := HL.out; simp; omega) hu, has_snoc HT.out HV.out HV7.out hu])
  have HA8 := Lib.hid (And.intro hgd8 (And.intro hw8 (And.intro hm8 (And.intro hx8 (And.intro hv8 hb8)))))
  clear hgd8 hw8 hm8 hx8 hv8 hb8 HALL
  cases hh : hasP t (mn t l) v
  case' false =>
    rw [hh] at H1
    clear hh
    go_wp2_with (first
      | (go_at_call 19; (with_reducible refine (H1.out w8 (Bw.refl _)).mono ?_); rintro e w9 ⟨rfl, hg9⟩; (have HG9 := Lib.hid hg9); (have K9 := Lib.hid (KV.out _ hg9)); obtain ⟨⟨a0, a1, a2, a3⟩, a4, a5⟩ := K9.out; clear hg9 K9)
      | (go_at_call 19; (with_reducible refine (H2.out w9 HG9.out).mono ?_); rintro e w10 ⟨rfl, hg10⟩; (have HG10 := Lib.hid (HG9.out.trans hg10)); clear hg10))
    refine wp_world (fun W => Hid (Bw w8 W)) HG10 ?_
    intro W1 HW1
    clear HG9 HG10 a0 a1 a2 a3 a4 a5
  case' true =>
    rw [hh] at H1
    have H3' := Lib.hid (H3.out hh)
    clear hh
    go_wp2_with (first
      | (go_at_call 19; (with_reducible refine (H1.out w8 (Bw.refl _)).mono ?_); rintro e w9 ⟨rfl, hg9⟩; (have HG9 := Lib.hid hg9); (have K9 := Lib.hid (KV.out _ hg9)); obtain ⟨⟨a0, a1, a2, a3⟩, a4, a5⟩ := K9.out; clear hg9 K9)
      | (go_at_call 19; (with_reducible refine (H2.out w9 HG9.out).mono ?_); rintro e w10 ⟨rfl, hg10⟩; (have HG10 := Lib.hid (HG9.out.trans hg10)); clear hg10)
      | (go_at_call 17; (with_reducible refine (H3'.out w10 HG10.out).mono ?_); rintro e w11 ⟨rfl, hg11⟩; (have HG11 := Lib.hid (HG10.out.trans hg11)); clear hg11))
    refine wp_world (fun W => Hid (Bw w8 W)) HG11 ?_
    intro W1 HW1
    clear HG9 HG10 HG11 H3' a0 a1 a2 a3 a4 a5
  all_goals
    clear H1 H2 H3 KV K8 t0 t1 t2 t3 u0 u1 HN1 HN2 INS
    go_loopw [11] (fun i wr => ∃ k : Nat, k ≤ 5 ∧ i = .int .i64 k ∧ Hid (GD b w8 wr)) (fun i _ => 5 - (intOf i).toNat)
    case atStart => exact ⟨0, by omega, rfl, Lib.hid ((GD.refl HA8.out.1.2).bw HW1.out)⟩
    case round =>
      obtain ⟨k, hk, rfl, HR⟩ := hrel
      have HGR : Hid (GD b W0 wr) := Lib.hid (HA8.out.1.trans HR.out)
      by_cases hlt : k < 5
      · obtain ⟨s0, s1, s2, s3⟩ := KS.out wr HGR.out
        go_wp2_with (go_at_call 21; go_must ((with_reducible refine (DVL.out _ HGR.out).mono ?_); rintro e w9 ⟨u, su, rfl, hu, hku, hg9⟩; obtain ⟨A9, n9, c9, rfl, -, -, -⟩ := hku.form; (have HG9 := Lib.hid hg9); (have HU := Lib.hid hu); (have HKU := Lib.hid hku); clear hg9 hu hku))
        have HP : Hid (GD b w8 (w9.alloc (.cells #[.int .i64 u.n, .slice A9 n9 c9] 39)) ∧ KAt (w9.alloc (.cells #[.int .i64 u.n, .slice A9 n9 c9] 39)) (TD b (w9.alloc (.cells #[.int .i64 u.n, .slice A9 n9 c9] 39))) (.slice A9 n9 c9) u.ks ∧ Blk (w9.alloc (.cells #[.int .i64 u.n, .slice A9 n9 c9] 39)) w9.heap.size 39 #[.int .i64 u.n, .slice A9 n9 c9]) := Lib.hid ⟨(HR.out.trans HG9.out).bw ((Bw.refl _).alloc _), (KAt.keep HKU.out (S' := TD b w9) (fun x hx => ⟨by have := hx.1; have := HGR.out.2.lt; omega, hx.2⟩) (fun _ _ => rfl)).td ((GD.refl HG9.out.2).bw ((Bw.refl _).alloc _)), Blk.new _ _ _⟩
        refine wp_world (fun W => Hid (GD b w8 W ∧ KAt W (TD b W) (.slice A9 n9 c9) u.ks ∧ Blk W w9.heap.size 39 #[.int .i64 u.n, .slice A9 n9 c9])) HP ?_
        intro W2 HW2
        clear HP HG9 HKU s0 s1 s2 s3
        generalize w9.heap.size = g9 at *
        obtain ⟨hg2, hk2, hb2⟩ := HW2.out
        have hgd2 := HA8.out.1.trans hg2
        have hm2 := HA8.out.2.2.1.td hg2
        have hx2 := HA8.out.2.2.2.1.td hg2
        have hv2 := HA8.out.2.2.2.2.1.td hg2
        have hbv2 := hg2.blk HA8.out.2.2.2.2.2 (by omega)
        obtain ⟨HX, HY⟩ := HHV.out u HU.out
        have C1 : Hid (∀ (P : BwOf W2) (x : Bool), (hasP t (mn t l) u || belowP 8 t v u) = x → Calls Tryz.prog 19 #[.agg #[.int .i64 kd, .int .i64 z, .slice A1 rn c1, .slice A2 pn c2], .slice A8 n8 c8, .agg #[.int .i64 u.n, .slice A9 n9 c9]] P.val (BoolPost P.val x)) := Lib.hid (fun P x e => by
          rw [← e, ← HX]
          exact HAS.out _ u _ _ P.val (hgd2.bw P.bw) (KAt.bw (hx2.keep (fun x hx => hx.2) (fun _ _ => rfl)) P.bw) (KAt.bw (hk2.keep (fun x hx => hx.2) (fun _ _ => rfl)) P.bw))
        have C2 : Hid (∀ (P : BwOf W2) (x : Bool), hasP t (mn t l) u = x → Calls Tryz.prog 19 #[.agg #[.int .i64 kd, .int .i64 z, .slice A1 rn c1, .slice A2 pn c2], .slice A6 n6 c6, .agg #[.int .i64 u.n, .slice A9 n9 c9]] P.val (BoolPost P.val x)) := Lib.hid (fun P x e => by
          rw [← e, ← HY]
          exact HAS.out _ u _ _ P.val (hgd2.bw P.bw) (KAt.bw (hm2.keep (fun x hx => hx.2) (fun _ _ => rfl)) P.bw) (KAt.bw (hk2.keep (fun x hx => hx.2) (fun _ _ => rfl)) P.bw))
        have C3 : Hid (∀ (P : BwOf W2) (x : Bool), belowP 8 t v u = x → Calls Tryz.prog 22 #[.agg #[.int .i64 kd, .int .i64 z, .slice A1 rn c1, .slice A2 pn c2], .agg #[.int .i64 v.n, .slice A7 n7 c7], .agg #[.int .i64 u.n, .slice A9 n9 c9]] P.val (BoolPost P.val x)) := Lib.hid (fun P x e => by
          rw [← e]
          exact LEQ.out v u _ _ P.val (hgd2.bw P.bw) HV7.out HU.out (KAt.bw (hv2.keep (fun x hx => hx.2) (fun _ _ => rfl)) P.bw) (KAt.bw (hk2.keep (fun x hx => hx.2) (fun _ _ => rfl)) P.bw))
        have q0 : ∀ P : BwOf W2, P.val.cell? ⟨g4, 0, none⟩ = some (.int .i64 kd) := fun P => (KS.out P.val (hgd2.bw P.bw)).1
        have q1 : ∀ P : BwOf W2, P.val.cell? ⟨g4, 1, none⟩ = some (.int .i64 z) := fun P => (KS.out P.val (hgd2.bw P.bw)).2.1
        have q2 : ∀ P : BwOf W2, P.val.cell? ⟨g4, 2, none⟩ = some (.slice A1 rn c1) := fun P => (KS.out P.val (hgd2.bw P.bw)).2.2.1
        have q3 : ∀ P : BwOf W2, P.val.cell? ⟨g4, 3, none⟩ = some (.slice A2 pn c2) := fun P => (KS.out P.val (hgd2.bw P.bw)).2.2.2
        have q4 : ∀ P : BwOf W2, P.val.cell? ⟨g7, 0, none⟩ = some (.int .i64 v.n) := fun P => (hbv2.below P.bw.b hbv2.lt).cell 0
        have q5 : ∀ P : BwOf W2, P.val.cell? ⟨g7, 1, none⟩ = some (.slice A7 n7 c7) := fun P => (hbv2.below P.bw.b hbv2.lt).cell 1
        have q6 : ∀ P : BwOf W2, P.val.cell? ⟨g9, 0, none⟩ = some (.int .i64 u.n) := fun P => (hb2.below P.bw.b hb2.lt).cell 0
        have q7 : ∀ P : BwOf W2, P.val.cell? ⟨g9, 1, none⟩ = some (.slice A9 n9 c9) := fun P => (hb2.below P.bw.b hb2.lt).cell 1
        have HG2 := Lib.hid hg2
        clear hg2 hk2 hb2 hgd2 hm2 hx2 hv2 hbv2 HX HY HW2
        generalize hasP t (mn t l) u = p1 at *
        generalize belowP 8 t v u = p2 at *
        unfold BoolPost at C1 C2 C3
        rcases p1 with _ | _ <;> rcases p2 with _ | _
        · have D1 := Lib.hid (fun P => C1.out P false rfl)
          have D2 := Lib.hid (fun P => C2.out P false rfl)
          have D3 := Lib.hid (fun P => C3.out P false rfl)
          go_wp2_with fail
          refine wp_region_quiet_bw mixedO (by kernel_rfl) ?_
          repeat (go_big_quiet_step ((first | (go_at_call 19; with_reducible exact calls_bw _ (D1.out _)) | (go_at_call 19; with_reducible exact calls_bw _ (D2.out _)) | (go_at_call 22; with_reducible exact calls_bw _ (D3.out _)))))
          refine wpQuiet_nil ?_
          intro _ hw'
          obtain ⟨⟨w6, hg6⟩, rfl⟩ := hw'
          have HG6 := Lib.hid (HG2.out.bw hg6)
          clear hg6
          go_wp2
          go_roundw
          case rel => exact ⟨k + 1, by omega, by go_num, HG6⟩
          case measure => simp [intOf]; omega
        · have D1 := Lib.hid (fun P => C1.out P true rfl)
          have D2 := Lib.hid (fun P => C2.out P false rfl)
          have D3 := Lib.hid (fun P => C3.out P true rfl)
          go_wp2_with fail
          refine wp_region_quiet_bw mixedO (by kernel_rfl) ?_
          repeat (go_big_quiet_step ((first | (go_at_call 19; with_reducible exact calls_bw _ (D1.out _)) | (go_at_call 19; with_reducible exact calls_bw _ (D2.out _)) | (go_at_call 22; with_reducible exact calls_bw _ (D3.out _)))))
          refine wpQuiet_nil ?_
          intro _ hw'
          obtain ⟨⟨w6, hg6⟩, rfl⟩ := hw'
          have HG6 := Lib.hid (HG2.out.bw hg6)
          clear hg6
          go_wp2
          go_roundw
          case rel => exact ⟨k + 1, by omega, by go_num, HG6⟩
          case measure => simp [intOf]; omega
        · have D1 := Lib.hid (fun P => C1.out P true rfl)
          have D2 := Lib.hid (fun P => C2.out P true rfl)
          have D3 := Lib.hid (fun P => C3.out P false rfl)
          go_wp2_with fail
          refine wp_region_quiet_bw mixedO (by kernel_rfl) ?_
          repeat (go_big_quiet_step ((first | (go_at_call 19; with_reducible exact calls_bw _ (D1.out _)) | (go_at_call 19; with_reducible exact calls_bw _ (D2.out _)) | (go_at_call 22; with_reducible exact calls_bw _ (D3.out _)))))
          refine wpQuiet_nil ?_
          intro _ hw'
          obtain ⟨⟨w6, hg6⟩, rfl⟩ := hw'
          have HG6 := Lib.hid (HG2.out.bw hg6)
          clear hg6
          go_wp2
          go_roundw
          case rel => exact ⟨k + 1, by omega, by go_num, HG6⟩
          case measure => simp [intOf]; omega
        · have D1 := Lib.hid (fun P => C1.out P true rfl)
          have D2 := Lib.hid (fun P => C2.out P true rfl)
          have D3 := Lib.hid (fun P => C3.out P true rfl)
          go_wp2_with fail
          refine wp_region_quiet_bw mixedO (by kernel_rfl) ?_
          repeat (go_big_quiet_step ((first | (go_at_call 19; with_reducible exact calls_bw _ (D1.out _)) | (go_at_call 19; with_reducible exact calls_bw _ (D2.out _)) | (go_at_call 22; with_reducible exact calls_bw _ (D3.out _)))))
          refine wpQuiet_nil ?_
          intro _ hw'
          obtain ⟨⟨w6, hg6⟩, rfl⟩ := hw'
          have HG6 := Lib.hid (HG2.out.bw hg6)
          clear hg6
          go_wp2
          go_roundw
          case rel => exact ⟨k + 1, by omega, by go_num, HG6⟩
          case measure => simp [intOf]; omega
      · obtain rfl : k = 5 := by omega
        have HE := Lib.hid (bw_gb HA8.out.2.1 HR.out.1 (fun r e => by injection e with e; omega))
        go_wp2
        go_ret
        exact ⟨rfl, HE.out⟩
end Go.Proofs.YtbmheekaclmibaaGreat
namespace Go.Proofs.YtbmheekaclmibaaGreat
open Go Go.ChangeShapes Go.WideShapes Go.ChangeAt Go.RowKit
set_option linter.unusedSimpArgs false
set_option linter.unusedVariables false

set_option maxRecDepth 100000 in
theorem basisInserts_lifted (os : Os) (started : os.Started) (H : Type) (enc : TypeId × Value → H) :
    ReturnsInHanded {} Tryz.checked os 5 .any (Rows.basisInsertsSpec.pre6 enc Tryz.prog Tryz.f5 Rows.basisInsertsRow.domain false) (Rows.basisInsertsSpec.post enc Tryz.prog Tryz.f5 false true false false) := by
  refine returnsInHanded_of_change (C := Tryz.checked) own started (by kernel_rfl) Tryz.func5
    (ChangeSpec.witness6 (enc := enc) (C := Tryz.checked) false ⟨#[], #[.slice none 0 0], []⟩ 8 (by kernel_rfl) (by kernel_rfl) (by kernel_rfl) (by kernel_rfl)) ?_
  intro W base args ds gs before hval0 hW hcnd _
  have hval : ∀ (j : Nat) t v, Tryz.f5.params[j]? = some t → args[j]? = some v → Value.okWide Tryz.prog W .any base t v := hval0
  have hW' := hW
  obtain ⟨p, q, hA0, hV, rfl, hfz, hnd⟩ := hW
  have hA : DataW.TrodAll enc Tryz.prog W 0 (fun _ => true) true Tryz.f5.params.toList args.toList ds p := hA0
  rw [Tryz.params5] at hA hval
  obtain ⟨v0, d0, rfl, rfl, h0⟩ := trodAll_one hA
  obtain ⟨rfl, rfl⟩ := trodVars_none hV
  obtain ⟨a0, len0, cap0, rfl⟩ := okWide_slice Tryz.underlying22 (hval 0 22 v0 rfl rfl)
  have lt0 : ∀ x ∈ p, x.block < W.heap.size := by obtain ⟨m, hm⟩ := h0; exact DataW.trod_lt m _ _ _ hm
  obtain ⟨hI, hM⟩ := intsArg_of h0
  clear hA0 hval0
  refine (l7Inserts_any a0 len0 cap0 hM W hI).mono fun e W' ⟨he, bel0⟩ => ?_
  have bel : Below W.heap.size W W' := bel0
  subst he
  exact ⟨_, rfl, _, _, _, [], _, [], hW', trodAll_mk1 (shut_bool Tryz.underlying4 _), (trodAll_mk1 (Below.trod laidOut (by kernel_rfl) (of_decide_eq_true (by kernel_rfl)) h0 bel lt0)), rfl, bel.frame _, fun h => by cases h⟩

theorem basisInserts_holds : Rows.BasisInsertsSaid :=
  OpenClaim.holds_of_wide 5 Tryz.f5 rfl rfl rfl rfl rfl rfl rfl ⟨rfl, rfl, rfl, rfl, rfl⟩ rfl rfl rfl rfl rfl (by kernel_rfl) Tryz.func5 (by kernel_rfl)
    (of_decide_eq_true (by kernel_rfl)) (by unfold Func.isWrapper; rw [if_neg (of_decide_eq_false (by kernel_rfl))]; exact ⟨rfl, rfl⟩)
    (fun os started H enc _ => basisInserts_lifted os started H enc)
#print axioms basisInserts_holds
end Go.Proofs.YtbmheekaclmibaaGreat
