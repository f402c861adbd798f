/- Part of a proof of orderExact_card. -/
import Derived.Test.YtlmnkcfnihhlgaaGreatDoorXLstAQ
import Derived.Test.YtlmnkcfnihhlgaaGreatDoorXRefLQ
set_option maxRecDepth 100000
set_option maxHeartbeats 16000000
namespace Go.Proofs.YtlmnkcfnihhlgaaGreatDoor
open Go.RowKit
set_option linter.unusedSimpArgs false
set_option linter.unusedVariables false
def LeastSaysR (t : T) (ok f : V → Bool) : Prop := ∀ v, ok v = true → ∀ (rv pv s : Value) (W : World), TB W W.heap.size rv pv t → KB W W.heap.size s v.ks → Calls Tryz.prog 54 #[aggT t rv pv, aggV v s] W (BoolPost W (f v))
theorem LeastSaysR.of_eq {t : T} {ok f g : V → Bool} (h : LeastSaysR t ok f) (e : ∀ v, f v = g v) : LeastSaysR t ok g := by
 intro v; rw [← e v]; exact h v
theorem r6least_k1 (t : T) (ok : V → Bool) (hk : t.kind = 1) : LeastSaysR t ok (fun v => v.n == 0) := by
 intro v _ rv pv s w hT h
 obtain ⟨A, n, c, rfl, ln, bn, mn⟩ := h.form
 obtain ⟨A1, rn, c1, rfl, _, _⟩ := hT.1.form'
 obtain ⟨A2, pn, c2, rfl, _, _, _⟩ := hT.2.form
 show Calls _ _ _ _ (BoolPost w (v.n == 0))
 unfold aggT aggV
 rw [hk]
 clear h hT ln hk
 generalize v.n = x
 generalize t.size = z
 rcases hx : (x == 0) with _ | _
 all_goals
   go_enter Tryz.func54, Tryz.ntmps54
   go_wp2
   go_ret
   exact ⟨rfl, ((Bw.refl _).alloc _).alloc _⟩
theorem r6least_k2 (t : T) (ok : V → Bool) (hk : t.kind = 2) : LeastSaysR t ok (fun _ => true) := by
 intro v _ rv pv s w hT h
 obtain ⟨A, n, c, rfl, ln, bn, mn⟩ := h.form
 obtain ⟨A1, rn, c1, rfl, _, _⟩ := hT.1.form'
 obtain ⟨A2, pn, c2, rfl, _, _, _⟩ := hT.2.form
 show Calls _ _ _ _ (BoolPost w true)
 unfold aggT aggV
 rw [hk]
 clear h hT ln hk
 generalize v.n = x
 generalize t.size = z
 go_enter Tryz.func54, Tryz.ntmps54
 go_wp2
 go_ret
 exact ⟨rfl, ((Bw.refl _).alloc _).alloc _⟩
theorem r6least_k456 (t : T) (ok : V → Bool) (hk : t.kind = 4 ∨ t.kind = 5 ∨ t.kind = 6) : LeastSaysR t ok (fun v => v.ks.isEmpty) := by
 intro v _ rv pv s w hT h
 obtain ⟨A, n, c, rfl, ln, bn, mn⟩ := h.form
 obtain ⟨A1, rn, c1, rfl, _, _⟩ := hT.1.form'
 obtain ⟨A2, pn, c2, rfl, _, _, _⟩ := hT.2.form
 show Calls _ _ _ _ (BoolPost w v.ks.isEmpty)
 unfold aggT aggV
 rw [isEmpty_len _ _ ln]
 clear h hT ln
 generalize v.n = x
 generalize t.size = z
 rcases hk with hk | hk | hk
 all_goals
   rw [hk]
   clear hk
   by_cases hn : n = 0
   · subst hn
     go_enter Tryz.func54, Tryz.ntmps54
     go_wp2
     go_ret
     exact ⟨rfl, ((Bw.refl _).alloc _).alloc _⟩
   · have HF : Hid (decide (n = 0) = false) := Lib.hid (decide_eq_false hn)
     rw [HF.out]
     have d0 : ((n : Int) == 0) = false := by simp [hn]
     go_enter Tryz.func54, Tryz.ntmps54
     go_wp2
     go_ret
     exact ⟨rfl, ((Bw.refl _).alloc _).alloc _⟩
theorem r6least_k3 (t : T) (ok : V → Bool) (f g : T → V → Bool) (hk : t.kind = 3) (hok : ∀ v, ok v = true → v.ks.length = t.parts.length ∧ oneZ g t.parts v.ks = true) (ih : ∀ p ∈ t.parts, LeastSaysR p (g p) (f p)) : LeastSaysR t ok (fun v => leastZ f t.parts v.ks) := by
 intro v hv rv pv s w hT h
 obtain ⟨hlen, hone⟩ := hok v hv
 obtain ⟨A, n, c, rfl, ln, bn, mn⟩ := h.form
 obtain ⟨A1, rn, c1, rfl, _, _⟩ := hT.1.form'
 obtain ⟨A2, pn, c2, rfl, ln2, bn2, mn2⟩ := hT.2.form
 unfold maxLen at mn mn2
 obtain rfl : n = pn := by omega
 have HIH := Lib.hid ih
 have HON := Lib.hid hone
 have HP := Lib.hid hT.2
 have HK := Lib.hid h
 have LN := Lib.hid ln
 have LN2 := Lib.hid ln2
 have HB := Lib.hid (boxes w (.int .i64 3) (.int .i64 t.size) (.slice A1 rn c1) (.slice A2 n c2) (.int .i64 v.n) (.slice A n c))
 show Calls _ _ _ _ (BoolPost w (leastZ f t.parts v.ks))
 unfold aggT aggV
 rw [hk]
 clear h hT ln hk ih ln2 hok hv hone hlen
 have HZ : Hid (leastZ f t.parts v.ks = leastZ f (t.parts.drop 0) (v.ks.drop 0)) := Lib.hid rfl
 generalize hz : leastZ f t.parts v.ks = q at *
 clear hz
 generalize v.n = x at *
 generalize t.size = z at *
 go_enter Tryz.func54, Tryz.ntmps54
 go_wp2
 go_loopw [5] (fun i wr => ∃ k : Nat, k ≤ n ∧ i = .int .i64 k ∧ Hid (Bw ((w.alloc (.cells #[.int .i64 3, .int .i64 z, .slice A1 rn c1, .slice A2 n c2] 25)).alloc (.cells #[.int .i64 x, .slice A n c] 28)) wr ∧ q = leastZ f (t.parts.drop k) (v.ks.drop k))) (fun i _ => n - (intOf i).toNat)
 case atStart => exact ⟨0, by omega, rfl, Lib.hid ⟨Bw.refl _, HZ.out⟩⟩
 case round =>
   obtain ⟨k, hk, rfl, HR⟩ := hrel
   obtain ⟨hg, hq⟩ := HR.out
   obtain ⟨hw, k1, k2⟩ := HB.out
   have hgw := hw.trans hg
   have k1' := k1.below hg.b k1.lt
   have k2' := k2.below hg.b k2.lt
   have HW := Lib.hid hgw
   have HQ := Lib.hid hq
   have HG := Lib.hid hg
   by_cases hlt : k < n
   · have e1 : k < v.ks.length := by rw [LN.out]; exact hlt
     have e2 : k < t.parts.length := by rw [LN2.out]; exact hlt
     obtain ⟨ad, sA, sn, sc, rfl, hb, q0, q1, sl, hs⟩ := (HK.out.bw hgw).at_ e1
     obtain ⟨ad2, A3, n3, c3, A4, n4, c4, rfl, hb2, y0, y1, y2, y3, hT2⟩ := (HP.out.bw hgw).at_ e2
     have CM : Hid (∀ W, Bw wr W → Calls Tryz.prog 54 #[.agg #[.int .i64 t.parts[k].kind, .int .i64 t.parts[k].size, .slice A3 n3 c3, .slice A4 n4 c4], .agg #[.int .i64 v.ks[k].n, .slice sA sn sc]] W (BoolPost W (f t.parts[k] v.ks[k]))) := Lib.hid (fun W g => HIH.out _ (List.getElem_mem e2) _ (oneZ_nth e2 e1 HON.out) _ _ _ _ (TAt.bw hT2 g) (hs.bw g))
     have HZ2 : Hid (q = (f t.parts[k] v.ks[k] && leastZ f (t.parts.drop (k + 1)) (v.ks.drop (k + 1)))) := Lib.hid (by rw [hq]; exact leastZ_step e2 e1)
     have p3 := k1'.cell 3
     have p4 := k2'.cell 1
     have z1 := k1'.lt
     have z2 := k2'.lt
     clear hs sl hT2 hq HQ k1 k2 hgw hw HR k1' k2'
     generalize f t.parts[k] v.ks[k] = r at *
     generalize v.ks[k].n = x2 at *
     generalize t.parts[k].kind = pk at *
     generalize t.parts[k].size = pz at *
     clear hg
     have KS : Hid (∀ w', Bw wr w' → w'.cell? ⟨w.heap.size, 3, none⟩ = some (.slice (some ad2) n c2) ∧ w'.cell? ⟨w.heap.size + 1, 1, none⟩ = some (.slice (some ad) n c) ∧ w'.cell? (ad.add (k * 2)) = some (.int .i64 x2) ∧ w'.cell? ⟨(ad.add (k * 2)).block, (ad.add (k * 2)).off + 1, none⟩ = some (.slice sA sn sc) ∧ w'.cell? (ad2.add (k * 4)) = some (.int .i64 pk) ∧ w'.cell? ⟨(ad2.add (k * 4)).block, (ad2.add (k * 4)).off + 1, none⟩ = some (.int .i64 pz) ∧ w'.cell? ⟨(ad2.add (k * 4)).block, (ad2.add (k * 4)).off + 2, none⟩ = some (.slice A3 n3 c3) ∧ w'.cell? ⟨(ad2.add (k * 4)).block, (ad2.add (k * 4)).off + 3, none⟩ = some (.slice A4 n4 c4) ∧ Bw wr w') := Lib.hid (fun w' g =>
       ⟨(g.b.cell (p := ⟨w.heap.size, 3, none⟩) z1).trans p3, (g.b.cell (p := ⟨w.heap.size + 1, 1, none⟩) z2).trans p4, (g.b.cell (by rw [add_block]; exact hb)).trans q0, (g.b.cell (by simp only [add_block]; exact hb)).trans q1, (g.b.cell (by rw [add_block]; exact hb2)).trans y0, (g.b.cell (by simp only [add_block]; exact hb2)).trans y1, (g.b.cell (by simp only [add_block]; exact hb2)).trans y2, (g.b.cell (by simp only [add_block]; exact hb2)).trans y3, g⟩)
     go_wp2_with fail
     clear hb hb2
     go_region_held3 (fun w' => w'.cell? ⟨w.heap.size, 3, none⟩ = some (.slice (some ad2) n c2) ∧ w'.cell? ⟨w.heap.size + 1, 1, none⟩ = some (.slice (some ad) n c) ∧ w'.cell? (ad.add (k * 2)) = some (.int .i64 x2) ∧ w'.cell? ⟨(ad.add (k * 2)).block, (ad.add (k * 2)).off + 1, none⟩ = some (.slice sA sn sc) ∧ w'.cell? (ad2.add (k * 4)) = some (.int .i64 pk) ∧ w'.cell? ⟨(ad2.add (k * 4)).block, (ad2.add (k * 4)).off + 1, none⟩ = some (.int .i64 pz) ∧ w'.cell? ⟨(ad2.add (k * 4)).block, (ad2.add (k * 4)).off + 2, none⟩ = some (.slice A3 n3 c3) ∧ w'.cell? ⟨(ad2.add (k * 4)).block, (ad2.add (k * 4)).off + 3, none⟩ = some (.slice A4 n4 c4) ∧ Bw wr w') (first | (refine KS.out _ ?_; first | exact (Bw.refl _).drew | exact (Bw.refl _).drew.trans hg6)) (first | (go_at_call 54; (with_reducible refine (CM.out _ (Bw.refl _).drew).mono ?_); rintro e w' ⟨rfl, hg6⟩))
     have HG6 : Hid (Bw wr w') := Lib.hid ((Bw.refl _).drew.trans hg6)
     clear hg6
     rcases r with _ | _
     · have HF2 : Hid (q = false) := Lib.hid (by rw [HZ2.out]; rfl)
       go_wp2
       go_ret
       exact ⟨ret_bool (by rw [HF2.out]), HW.out.trans HG6.out⟩
     · have HF2 : Hid (q = leastZ f (t.parts.drop (k + 1)) (v.ks.drop (k + 1))) := Lib.hid (by rw [HZ2.out]; rfl)
       go_wp2
       go_roundw
       case rel => exact ⟨k + 1, by omega, by go_num, Lib.hid ⟨HG.out.trans HG6.out, HF2.out⟩⟩
       case measure => simp [intOf]; omega
   · obtain rfl : k = n := by omega
     have HF2 : Hid (q = true) := Lib.hid (by rw [HQ.out, List.drop_eq_nil_of_le (by rw [LN2.out]; omega)]; rfl)
     have p3 := k1'.cell 3
     clear hq HQ k1 k2 hgw hw HR k2' k1' hg
     go_wp2
     go_ret
     exact ⟨ret_bool (by rw [HF2.out]), HW.out⟩

theorem r6least_k7 (t : T) (ok : V → Bool) (hk : t.kind = 7) (hok : ∀ v, ok v = true → wordP t.ranks (v.ks.map V.n) = true) : LeastSaysR t ok (fun v => !dropsB (rankAt t.ranks) (v.ks.map V.n)) := by
 intro v hv rv pv s w hT h
 have wv := hok v hv
 have la : v.ks.length ≤ 12 := by simp only [wordP, Bool.and_eq_true, decide_eq_true_eq, List.length_map] at wv; exact wv.1.2
 obtain ⟨A, n, c, rfl, _, _, _⟩ := h.form
 obtain ⟨A1, rn, c1, rfl, _, _⟩ := hT.1.form'
 obtain ⟨A2, pn, c2, rfl, _, _, _⟩ := hT.2.form
 have LA : Hid (∀ W, Bw w W → Calls Tryz.prog 86 #[.agg #[.int .i64 v.n, .slice A n c]] W fun e w' => ∃ A' n' c', e = .returned (.slice A' n' c') ∧ IB w' w'.heap.size (.slice A' n' c') (v.ks.map V.n) ∧ Bw W w') := Lib.hid (fun W hg => (r6letters_any v _ W (h.bw hg) (by omega)).mono (by
   rintro e w' ⟨s, rfl, hk, hb⟩
   obtain ⟨A', n', c', rfl, _⟩ := hk.form
   exact ⟨A', n', c', rfl, hk.keep (fun b hb => hb.2) (fun _ _ => rfl), hb⟩))
 have PL : Hid (∀ s1 W, Bw w W → IB W W.heap.size s1 (v.ks.map V.n) → Calls Tryz.prog 90 #[.slice A1 rn c1, s1] W (DropPost W (dropsB (rankAt t.ranks) (v.ks.map V.n)))) := Lib.hid (fun s1 W hg k1 => r5Drops_any t.ranks _ _ s1 W (hT.1.bw hg) k1 wv)
 show Calls _ _ _ _ (BoolPost w (!dropsB (rankAt t.ranks) (v.ks.map V.n)))
 have HB := Lib.hid (boxes w (.int .i64 7) (.int .i64 t.size) (.slice A1 rn c1) (.slice A2 pn c2) (.int .i64 v.n) (.slice A n c))
 unfold aggT aggV
 rw [hk]
 clear h hT hk hok hv wv la
 generalize dropsB (rankAt t.ranks) (v.ks.map V.n) = q at *
 generalize v.n = x at *
 generalize t.size = z at *
 generalize v.ks.map V.n = ak at *
 unfold DropPost at PL
 go_enter Tryz.func54, Tryz.ntmps54
 go_wp2_with fail
 refine wp_world (fun W => Hid (Bw w W ∧ Blk W w.heap.size 25 #[.int .i64 7, .int .i64 z, .slice A1 rn c1, .slice A2 pn c2] ∧ Blk W (w.heap.size + 1) 28 #[.int .i64 x, .slice A n c])) HB ?_
 intro W HW
 obtain ⟨hg, k1, k2⟩ := HW.out
 have z1 := k1.lt
 have z2 := k2.lt
 have hs0 := hg.size
 have KS : Hid (∀ w', Bw W w' → w'.cell? ⟨w.heap.size, 2, none⟩ = some (.slice A1 rn c1) ∧ w'.cell? ⟨w.heap.size + 1, 0, none⟩ = some (.int .i64 x) ∧ w'.cell? ⟨w.heap.size + 1, 1, none⟩ = some (.slice A n c)) := Lib.hid (fun w' g =>
   ⟨(g.b.cell (p := ⟨w.heap.size, 2, none⟩) z1).trans (k1.cell 2), (g.b.cell (p := ⟨w.heap.size + 1, 0, none⟩) z2).trans (k2.cell 0), (g.b.cell (p := ⟨w.heap.size + 1, 1, none⟩) z2).trans (k2.cell 1)⟩)
 have HG := Lib.hid hg
 obtain ⟨p0, p1, p2⟩ := KS.out W (Bw.refl _)
 clear hg k1 k2 HW HB
 go_region_with (first
   | (go_at_call 86; (with_reducible refine (LA.out _ HG.out.drew).mono ?_); rintro e wa ⟨A', n', c', rfl, hka, hga⟩; have HKA := Lib.hid hka; have HGA : Hid (Bw _ wa) := Lib.hid hga; obtain ⟨u0, u1, u2⟩ := KS.out wa ((Bw.refl _).drew.trans hga); clear hka hga)
   | (go_at_call 90; (with_reducible refine (PL.out _ _ (HG.out.drew.trans HGA.out) HKA.out).mono ?_); rintro e wc ⟨Ac, mc, cc, rfl, hmc, hgc⟩; have HGC : Hid (Bw _ wc) := Lib.hid hgc; have HMC := Lib.hid hmc; clear hgc hmc))
 all_goals
   rcases Nat.eq_zero_or_pos mc with rfl | hpos
   · have HQ : Hid (q = false) := Lib.hid (HMC.out.1 rfl)
     clear HMC
     go_wp2
     go_ret
     refine ⟨ret_bool ?_, (HG.out.drew.trans HGA.out).trans HGC.out⟩
     rw [HQ.out]; rfl
   · have d0 : ((mc : Int) == 0) = false := by simp; omega
     have HQ : Hid (q = true) := Lib.hid (by
       rcases q with _ | _
       · have := HMC.out.2 rfl; omega
       · rfl)
     clear HMC
     go_wp2
     go_ret
     refine ⟨ret_bool ?_, (HG.out.drew.trans HGA.out).trans HGC.out⟩
     rw [HQ.out]; exact d0
theorem r6least_all (d : Nat) : ∀ t, rightP d t = true → LeastSaysR t (oneP d t) (leastP d t) := by
 induction d with
 | zero => intro t h; simp [rightP] at h
 | succ d ih =>
   intro t hr
   by_cases k1 : t.kind = 1
   · exact (r6least_k1 t _ k1).of_eq fun v => by simp only [leastP]; rw [if_pos k1]
   by_cases k2 : t.kind = 2
   · exact (r6least_k2 t _ k2).of_eq fun v => by simp only [leastP]; rw [if_neg k1, if_pos k2]
   by_cases k3 : t.kind = 3
   · refine (r6least_k3 t _ (leastP d) (oneP d) k3 (fun v hv => ?_) (fun p hp => ih p (List.all_eq_true.1 (parts_right hr k3).1 p hp))).of_eq fun v => by simp only [leastP]; rw [if_neg k1, if_neg k2, if_pos k3]
     simp only [oneP] at hv
     rw [if_neg k1, if_neg k2, if_pos k3] at hv
     simp only [Bool.and_eq_true, beq_iff_eq] at hv
     exact ⟨(oneZ_length hv.2).symm, hv.2⟩
   by_cases k4 : t.kind = 4 ∨ t.kind = 5 ∨ t.kind = 6
   · exact (r6least_k456 t _ k4).of_eq fun v => by simp only [leastP]; rw [if_neg k1, if_neg k2, if_neg k3, if_pos k4]
   simp only [rightP, Bool.and_eq_true] at hr
   have hr := hr.2
   by_cases k7 : t.kind = 7
   · refine (r6least_k7 t _ k7 (fun v hv => ?_)).of_eq fun v => by simp only [leastP]; rw [if_neg k1, if_neg k2, if_neg k3, if_neg k4]
     rw [if_neg k1, if_neg (by omega), if_pos k7] at hr
     simp only [oneP] at hv
     rw [if_neg k1, if_neg k2, if_neg k3, if_neg (by omega), if_neg (by omega), if_neg (by omega)] at hv
     simp only [Bool.and_eq_true, decide_eq_true_eq, beq_iff_eq] at hv hr
     simp only [wordP, Bool.and_eq_true, decide_eq_true_eq, List.length_map]
     refine ⟨⟨hr.2, hv.1.2⟩, ?_⟩
     rw [Bool.not_eq_true', List.any_eq_false]
     intro x hx
     obtain ⟨u, hu, rfl⟩ := List.mem_map.1 hx
     have := List.all_eq_true.1 hv.2 u hu
     simp only [labelP, Bool.and_eq_true, decide_eq_true_eq] at this
     simp [badX]
     omega
   · rw [if_neg k1, if_neg (by omega), if_neg k7, if_neg k3, if_neg (by omega)] at hr
     simp at hr
theorem r6Leqg_any (t : T) (a b : V) (rv pv s1 s2 : Value) (w : World) (hT : TB w w.heap.size rv pv t) (h1 : KB w w.heap.size s1 a.ks) (h2 : KB w w.heap.size s2 b.ks) (q : Bool) (hq : (validP t a && validP t b && belowP 8 t a b) = q) :
   Calls Tryz.prog 23 #[.agg #[.int .i64 t.kind, .int .i64 t.size, rv, pv], .agg #[.int .i64 a.n, s1], .agg #[.int .i64 b.n, s2]] w (BoolPost w q) := by
 subst hq
 obtain ⟨A, n, c, rfl, _, _, _⟩ := h1.form
 obtain ⟨B, m, e, rfl, _, _, _⟩ := h2.form
 obtain ⟨A1, rn, c1, rfl, _, _⟩ := hT.1.form'
 obtain ⟨A2, pn, c2, rfl, _, _, _⟩ := hT.2.form
 have C1 : Hid (∀ W, Bw w W → Calls Tryz.prog 21 #[.agg #[.int .i64 t.kind, .int .i64 t.size, .slice A1 rn c1, .slice A2 pn c2], .agg #[.int .i64 a.n, .slice A n c]] W (BoolPost W (validP t a))) := Lib.hid (fun W g => r6Valid_any t a _ _ _ W (TAt.bw hT g) (h1.bw g) _ rfl)
 have C2 : Hid (∀ W, Bw w W → Calls Tryz.prog 21 #[.agg #[.int .i64 t.kind, .int .i64 t.size, .slice A1 rn c1, .slice A2 pn c2], .agg #[.int .i64 b.n, .slice B m e]] W (BoolPost W (validP t b))) := Lib.hid (fun W g => r6Valid_any t b _ _ _ W (TAt.bw hT g) (h2.bw g) _ rfl)
 have C3 : Hid (validP t a = true → validP t b = true → ∀ W, Bw w W → Calls Tryz.prog 47 #[.agg #[.int .i64 t.kind, .int .i64 t.size, .slice A1 rn c1, .slice A2 pn c2], .agg #[.int .i64 a.n, .slice A n c], .agg #[.int .i64 b.n, .slice B m e]] W (BoolPost W (belowP 8 t a b))) := Lib.hid (fun va vb W g => by
   unfold validP at va vb
   simp only [Bool.and_eq_true] at va vb
   exact r6below_any 8 t va.1.1 a b va.2 vb.2 _ _ _ _ W (TAt.bw hT g) (h1.bw g) (h2.bw g))
 have TX := Lib.hid (tvv (w := w) (kd := t.kind) (z := t.size) (x := a.n) (y := b.n) (r := .slice A1 rn c1) (p := .slice A2 pn c2) (s := .slice A n c) (u := .slice B m e))
 clear hT h1 h2
 generalize belowP 8 t a b = q3 at *
 generalize validP t a = q1 at *
 generalize validP t b = q2 at *
 generalize a.n = x at *
 generalize b.n = y at *
 generalize t.size = z at *
 generalize t.kind = k at *
 unfold BoolPost at C1 C2 C3
 rcases q1 with _ | _
 · go_enter Tryz.func23, Tryz.ntmps23
   go_wp2_with (go_at_call 21; go_must ((with_reducible refine (C1.out _ TX.out.1).mono ?_); rintro e w6 ⟨rfl, hg6⟩; (have HG6 := Lib.hid (TX.out.1.trans hg6)); clear hg6))
   go_ret
   exact ⟨rfl, HG6.out⟩
 rcases q2 with _ | _
 · go_enter Tryz.func23, Tryz.ntmps23
   go_wp2_with (first
     | (go_at_call 21; ((with_reducible refine (C1.out _ TX.out.1).mono ?_); rintro e w6 ⟨rfl, hg6⟩; (have HX6 := Lib.hid hg6); (obtain ⟨y0, _, y1, y2, y3, y4, y5, y6, y7, y8⟩ := TX.out.2 _ hg6); clear hg6))
     | (go_at_call 21; ((with_reducible refine (C2.out _ (TX.out.1.trans HX6.out)).mono ?_); rintro e w7 ⟨rfl, hg7⟩; (have HG7 := Lib.hid (TX.out.1.trans (HX6.out.trans hg7))); clear hg7)))
   go_ret
   exact ⟨rfl, HG7.out⟩
 have C3' := Lib.hid (C3.out rfl rfl)
 clear C3
 go_enter Tryz.func23, Tryz.ntmps23
 go_wp2_with (first
   | (go_at_call 21; ((with_reducible refine (C1.out _ TX.out.1).mono ?_); rintro e w6 ⟨rfl, hg6⟩; (have HX6 := Lib.hid hg6); (obtain ⟨y0, _, y1, y2, y3, y4, y5, y6, y7, y8⟩ := TX.out.2 _ hg6); clear hg6))
   | (go_at_call 21; ((with_reducible refine (C2.out _ (TX.out.1.trans HX6.out)).mono ?_); rintro e w7 ⟨rfl, hg7⟩; (have HX7 := Lib.hid (HX6.out.trans hg7)); (obtain ⟨z0, _, z1, z2, z3, z4, z5, z6, z7, z8⟩ := TX.out.2 _ HX7.out); clear hg7))
   | (go_at_call 47; ((with_reducible refine (C3'.out _ (TX.out.1.trans HX7.out)).mono ?_); rintro e w8 ⟨rfl, hg8⟩; (have HG8 := Lib.hid (TX.out.1.trans (HX7.out.trans hg8))); clear hg8)))
 go_ret
 exact ⟨by rfl, HG8.out⟩
theorem r6Size_any (v : V) (s : Value) (w : World) (h : KB w w.heap.size s v.ks) : Calls Tryz.prog 27 #[.agg #[.int .i64 v.n, s]] w (NumPost w (min (v.size : Int) 129)) := by
 obtain ⟨A, n, c, rfl, _, _, _⟩ := h.form
 have HC : Hid (∀ o, Calls Tryz.prog 44 #[.agg #[.int .i64 v.n, .slice A n c], .int .i64 128] (w.alloc o) (NumPost (w.alloc o) (cntI v 128))) := Lib.hid (fun o => r6sz_any v _ (w.alloc o) 128 (by omega) (by omega) (h.bw ((Bw.refl _).alloc _)))
 have HE : Hid (min (cntI v 128) 129 = min (v.size : Int) 129) := Lib.hid (by unfold cntI; omega)
 have h1 : cntI v 128 ≤ 129 := by unfold cntI; omega
 have h2 : 1 ≤ cntI v 128 := by have := v.size_pos; unfold cntI; omega
 clear h
 generalize cntI v 128 = q at *
 generalize v.n = x at *
 go_enter Tryz.func27, Tryz.ntmps27
 go_wp2_with (go_at_call 44; go_must (refine (HC.out _).mono ?_; rintro e w6 ⟨rfl, hg6⟩; (have HG6 := Lib.hid hg6); clear hg6))
 go_ret
 exact ⟨ret_int (by rw [← HE.out]), ((Bw.refl _).alloc _).trans HG6.out⟩
end Go.Proofs.YtlmnkcfnihhlgaaGreatDoor
