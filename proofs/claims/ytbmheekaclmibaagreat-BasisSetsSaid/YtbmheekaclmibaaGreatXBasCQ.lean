/- Part of a proof of basisSets_holds. -/
import Derived.Test.YtbmheekaclmibaaGreatXBasBQ
import Derived.Deep.RegionLawGrows
set_option maxRecDepth 100000
set_option maxHeartbeats 16000000
namespace Go.Proofs.YtbmheekaclmibaaGreat
open Go.RowKit
set_option linter.unusedSimpArgs false
set_option linter.unusedVariables false

theorem KAt.pairs {w : World} {S : Nat → Prop} {A : Option Addr} {n c : Nat} {l : List V} (h : KAt w S (.slice A n c) l) :
   ∃ ps : List VS, ps.map (·.1) = l ∧ (∀ b, A = some b → ∀ j u, (pCells ps)[j]? = some u → w.cell? (b.add j) = some u ∧ S b.block) ∧ (∀ p ∈ ps, KAt w S p.2 p.1.ks) := by
 cases h with
 | mk _ _ _ _ ss hl hs hc hm ha hk =>
   refine ⟨l.zip ss, ?_, ?_, ?_⟩
   · rw [List.map_fst_zip (by omega)]
   · intro b hb j u hu
     have hj : j < n * 2 := by
       have : j < (pCells (l.zip ss)).length := by
         rcases Nat.lt_or_ge j (pCells (l.zip ss)).length with h | h
         · exact h
         · rw [List.getElem?_eq_none h] at hu; cases hu
       rw [pCells_length, List.length_zip] at this; omega
     obtain ⟨ad, rfl, hS, h2⟩ := ha (by omega)
     obtain rfl : ad = b := Option.some.inj hb
     refine ⟨?_, hS⟩
     have hk2 : j / 2 < (l.zip ss).length := by rw [List.length_zip]; omega
     have h3 := h2 (j / 2) (by omega) (by omega)
     have h4 := pCells_get hk2
     have e := Nat.div_add_mod j 2
     rcases Nat.mod_two_eq_zero_or_one j with h0 | h0
     · have e1 : j / 2 * 2 = j := by omega
       rw [e1] at h3 h4
       rw [h3.1, ← hu, h4.1]; simp
     · have e1 : j = j / 2 * 2 + 1 := by omega
       rw [e1] at hu ⊢
       rw [h4.2] at hu
       have := add_off ad (j / 2 * 2) 0
       rw [Nat.zero_add] at this
       rw [this, ← hu, h3.2]; simp
   · intro p hp
     obtain ⟨k, hk1, rfl⟩ := List.getElem_of_mem hp
     rw [List.length_zip] at hk1
     have := hk k (by omega) (by omega)
     simpa using this
theorem snoc_kb {w w1 : World} {v' : Value} {ps : List VS} {v : V} {s : Value} {B : Nat} (hB : w.heap.size ≤ B) (hown : w1.ownsRow B 39 2 v' (ps.length + 1) (pCells ps ++ [.int .i64 v.n, s])) (hps : ∀ p ∈ ps, KB w w.heap.size p.2 p.1.ks) (hs : KB w w.heap.size s v.ks) (hg : Bw w w1) :
   KB w1 w1.heap.size v' (ps.map (·.1) ++ [v]) := by
 have hm : MRow w1 B v' (ps ++ [(v, s)]) := ⟨by
   rw [pCells_append]; simpa [pCells] using hown, fun p hp => by
   have key : ∀ {s : Value} {ks : List V}, KB w w.heap.size s ks → KAt w1 (· < B) s ks := fun h => (h.under hg.b).more hB
   rcases List.mem_append.1 hp with hp | hp
   · exact key (hps p hp)
   · obtain rfl := List.mem_singleton.1 hp; exact key hs⟩
 have hlt : B ≤ w1.heap.size := by
   have := hown.2
   rcases this with ⟨_, h0⟩ | ⟨g, cap, cur, _, h1, h2, _⟩
   · omega
   · have : g < w1.heap.size := by
       rcases Nat.lt_or_ge g w1.heap.size with h | h
       · exact h
       · rw [Array.getElem?_eq_none h] at h2; cases h2
     omega
 have := hm.kb hlt
 simpa using this
theorem cut_full (A : Option Addr) (n c : Nat) (h : n ≤ c) (W : World) : (Instr.slice 31 (.slice A n c) none (some (.int .i64 (n : Int))) (some (.int .i64 (n : Int)))).run Tryz.prog W = .ok (.slice A n n) W := by
 rw [cutV_hm A n c n n (Nat.le_refl _) h W]
 have e : A.map (·.add (0 * 2)) = A := by cases A <;> simp [Addr.add]
 unfold sliced
 rw [e]; simp
theorem kb_of {w w' : World} {s : Value} {qs : List VS} {l : List V} (hm : MRow w' w.heap.size s qs) (he : qs.map (·.1) = l) (hg : Bw w w') : KB w' w'.heap.size s l := by
 have := hm.kb hg.size; rwa [he] at this
def InsPost (w : World) (l : List V) (is : Bool) (er : Int) (e : Ending) (w' : World) : Prop := ∃ s, e = .returned (.tuple #[s, .bool is, .int .i64 er]) ∧ KAt w' (fun b => w.heap.size ≤ b ∧ b < w'.heap.size) s l ∧ Bw w w'
def insP (t : T) (b : List V) (v : V) : List V × Bool × Int :=
 if checkB t b = 0 then (if validP t v then ((limP (minimalP (belowP 8 t) (b ++ [v]))).1, (limP (minimalP (belowP 8 t) (b ++ [v]))).2 == 0 && !hasP t b v, (limP (minimalP (belowP 8 t) (b ++ [v]))).2) else ([], false, 5)) else ([], false, checkB t b)
theorem bInsert_any (t : T) (l : List V) (v : V) (rv pv s s2 : Value) (w : World) (hT : TB w w.heap.size rv pv t) (h : KB w w.heap.size s l) (h2 : KB w w.heap.size s2 v.ks) :
   Calls Tryz.prog 15 #[.agg #[.int .i64 t.kind, .int .i64 t.size, rv, pv], s, .agg #[.int .i64 v.n, s2]] w (InsPost w (insP t l v).1 (insP t l v).2.1 (insP t l v).2.2) := by
 obtain ⟨A, n, c, rfl, ln, bn, mn⟩ := h.form
 obtain ⟨B, m, e, rfl, _, _, _⟩ := h2.form
 obtain ⟨A1, rn, c1, rfl, _, _⟩ := hT.1.form'
 obtain ⟨A2, pn, c2, rfl, _, _, _⟩ := hT.2.form
 have CK : Hid (∀ W, Bw w W → Calls Tryz.prog 16 #[.agg #[.int .i64 t.kind, .int .i64 t.size, .slice A1 rn c1, .slice A2 pn c2], .slice A n c] W (NumPost W (checkB t l))) := Lib.hid (fun W g => bCheck_any t l _ _ _ W (TAt.bw hT g) (h.bw g))
 have CV : Hid (∀ W, Bw w W → Calls Tryz.prog 44 #[.agg #[.int .i64 t.kind, .int .i64 t.size, .slice A1 rn c1, .slice A2 pn c2], .agg #[.int .i64 v.n, .slice B m e]] W (BoolPost W (validP t v))) := Lib.hid (fun W g => ovalid_any t v _ _ _ W (TAt.bw hT g) (h2.bw g) _ rfl)
 have TX := Lib.hid (tvbox (w := w) (kd := t.kind) (z := t.size) (x := v.n) (r := .slice A1 rn c1) (p := .slice A2 pn c2) (s := .slice B m e))
 unfold insP
 by_cases h0 : checkB t l = 0
 · rw [if_pos h0]
   rw [h0] at CK
   have hz := checkB_zero.1 h0
   rcases hv : validP t v with _ | _
   · rw [hv] at CV
     rw [if_neg (by simp)]
     clear hT h h2 ln h0 hz hv
     generalize t.kind = kd at *
     generalize t.size = z at *
     generalize v.n = x at *
     go_enter Tryz.func15, Tryz.ntmps15
     go_wp2_with (first | (go_at_call 16; go_must (refine (CK.out _ TX.out.1).mono ?_; rintro e6 w6 ⟨rfl, hg6⟩; (have HG6 := Lib.hid hg6); (obtain ⟨y0, -, y1, y2, y3, y4, y5, y6⟩ := TX.out.2 _ hg6); clear hg6)) | (go_at_call 44; go_must (refine (CV.out _ (TX.out.1.trans HG6.out)).mono ?_; rintro e7 w7 ⟨rfl, hg7⟩; (have HG7 := Lib.hid (HG6.out.trans hg7)); clear hg7)))
     go_ret3
     exact ⟨_, rfl, KAt.nil _ _ (Nat.zero_le _), TX.out.1.trans HG7.out⟩
   · rw [hv] at CV
     rw [if_pos rfl]
     obtain ⟨ps, hps, hcell, hkid⟩ := h.pairs
     have hpl : ps.length = n := by rw [← ln, ← hps]; simp
     have ho : ∀ x ∈ l ++ [v], oneP 8 t x = true := fun x hx => by
       rcases List.mem_append.1 hx with hx | hx
       · exact validP_one (hz.2.2.1 x hx)
       · obtain rfl := List.mem_singleton.1 hx; exact validP_one hv
     have hn256 : n ≤ 256 := by rw [← ln]; exact hz.2.1
     have CM : Hid (∀ W s', Bw w W → KB W W.heap.size s' (l ++ [v]) → Calls Tryz.prog 43 #[.agg #[.int .i64 t.kind, .int .i64 t.size, .slice A1 rn c1, .slice A2 pn c2], s'] W (MinPost W (minimalP (belowP 8 t) (l ++ [v])))) := Lib.hid (fun W s' g hk => bminimal_any t hz.1 (l ++ [v]) ho (by rw [List.length_append, ln]; simp; omega) _ _ _ W (TAt.bw hT g) hk)
     have CL : Hid (∀ W s', KB W W.heap.size s' (minimalP (belowP 8 t) (l ++ [v])) → Calls Tryz.prog 42 #[s'] W (ValsErr W (limP (minimalP (belowP 8 t) (l ++ [v]))).1 (limP (minimalP (belowP 8 t) (l ++ [v]))).2)) := Lib.hid (fun W s' hk => blimited_any _ (fun x hx => by
       have := (minP_spec (below_ord hz.1) ho).2.1 x hx
       rcases List.mem_append.1 this with hx | hx
       · exact validP_size (hz.2.2.1 x hx)
       · obtain rfl := List.mem_singleton.1 hx; exact validP_size hv) s' W hk)
     have CH : Hid (∀ W, Bw w W → Calls Tryz.prog 45 #[.agg #[.int .i64 t.kind, .int .i64 t.size, .slice A1 rn c1, .slice A2 pn c2], .slice A n c, .agg #[.int .i64 v.n, .slice B m e]] W (BoolPost W (hasP t l v))) := Lib.hid (fun W g => bhas_any t hz.1 l v (fun x hx => validP_one (hz.2.2.1 x hx)) (validP_one hv) _ _ _ _ W (TAt.bw hT g) (h.bw g) (h2.bw g))
     have SK : Hid (∀ w1 v' B0, w.heap.size ≤ B0 → Bw w w1 → w1.ownsRow B0 39 2 v' (n + 1) (pCells ps ++ [.int .i64 v.n, .slice B m e]) → KB w1 w1.heap.size v' (l ++ [v])) := Lib.hid (fun w1 v' B0 hB g hown => by
       have := snoc_kb hB (by rw [hpl]; exact hown) hkid h2 g
       rwa [hps] at this)
     have hA0 : A = none → n = 0 := by
       intro e0
       by_cases hn : n = 0
       · exact hn
       · obtain ⟨ad, _, _, _, ea, _⟩ := h.at_ (k := 0) (by rw [ln]; omega)
         rw [ea] at e0; cases e0
     have HCC : Hid (∀ W', Bw w W' → ∀ b, A = some b → ∀ j u, (pCells ps)[j]? = some u → W'.cell? (b.add j) = some u) := Lib.hid (fun W' g b hb j u hu => (g.b.cell (by rw [add_block]; exact (hcell b hb j u hu).2)).trans (hcell b hb j u hu).1)
     have HPL := Lib.hid hpl
     clear hT h h2 ln h0 hz hv hps hcell hkid hpl ho
     have HA0 := Lib.hid hA0
     clear hA0
     generalize minimalP (belowP 8 t) (l ++ [v]) = ml at *
     generalize l ++ [v] = lv at *
     generalize (limP ml).1 = l1 at *
     generalize (limP ml).2 = l2 at *
     generalize hasP t l v = q at *
     generalize t.kind = kd at *
     generalize t.size = z at *
     generalize v.n = x at *
     go_enter Tryz.func15, Tryz.ntmps15
     go_wp2_with (first | (go_at_call 16; go_must (refine (CK.out _ TX.out.1).mono ?_; rintro e6 w6 ⟨rfl, hg6⟩; (have HG6 := Lib.hid hg6); (obtain ⟨y0, -, y1, y2, y3, y4, y5, y6⟩ := TX.out.2 _ hg6); clear hg6)) | (go_at_call 44; go_must (refine (CV.out _ (TX.out.1.trans HG6.out)).mono ?_; rintro e7 w7 ⟨rfl, hg7⟩; (have HG7 := Lib.hid (HG6.out.trans hg7)); clear hg7 y0 y1 y2 y3 y4 y5 y6)))
     have HW7 : Hid (Bw w w7) := Lib.hid (TX.out.1.trans HG7.out)
     have hcut : ∀ W, (Instr.slice 31 (.slice A n c) none (some (.int .i64 (n : Int))) (some (.int .i64 (n : Int)))).run Tryz.prog W = .ok (.slice A n n) W := fun W => cut_full A n c bn W
     refine wp_world (fun W => Hid (∀ W', Bw W W' → w.heap.size + 1 < W'.heap.size ∧ Bw w W' ∧ W'.cell? ⟨w.heap.size, 0, none⟩ = some (.int .i64 kd) ∧ W'.cell? ⟨w.heap.size, 1, none⟩ = some (.int .i64 z) ∧ W'.cell? ⟨w.heap.size, 2, none⟩ = some (.slice A1 rn c1) ∧ W'.cell? ⟨w.heap.size, 3, none⟩ = some (.slice A2 pn c2) ∧ W'.cell? ⟨w.heap.size + 1, 0, none⟩ = some (.int .i64 x) ∧ W'.cell? ⟨w.heap.size + 1, 1, none⟩ = some (.slice B m e))) (Lib.hid (fun W' g => TX.out.2 W' (HG7.out.trans g))) ?_
     intro W HW
     have KS : Hid (∀ w', Bw W w' → w'.cell? ⟨w.heap.size, 0, none⟩ = some (.int .i64 kd) ∧ w'.cell? ⟨w.heap.size, 1, none⟩ = some (.int .i64 z) ∧ w'.cell? ⟨w.heap.size, 2, none⟩ = some (.slice A1 rn c1) ∧ w'.cell? ⟨w.heap.size, 3, none⟩ = some (.slice A2 pn c2) ∧ w'.cell? ⟨w.heap.size + 1, 0, none⟩ = some (.int .i64 x) ∧ w'.cell? ⟨w.heap.size + 1, 1, none⟩ = some (.slice B m e) ∧ Bw W w') := Lib.hid (fun w' g => by
       obtain ⟨_, _, a1, a2, a3, a4, a5, a6⟩ := HW.out w' g
       exact ⟨a1, a2, a3, a4, a5, a6, g⟩)
     have HBW : Hid (∀ w', Bw W w' → Bw w w') := Lib.hid (fun w' g => (HW.out w' g).2.1)
     obtain ⟨i0, hi, hz0, hz1, hz2⟩ := info_parts infoVal
     have hsz := (HW.out W (Bw.refl _)).1
     have HSZ := Lib.hid hsz
     clear CK CV HW
     generalize hy : w.heap.size = y at *
     have HY := Lib.hid hy
     clear hy
     go_region_held3 (fun w' => w'.cell? ⟨y, 0, none⟩ = some (.int .i64 kd) ∧ w'.cell? ⟨y, 1, none⟩ = some (.int .i64 z) ∧ w'.cell? ⟨y, 2, none⟩ = some (.slice A1 rn c1) ∧ w'.cell? ⟨y, 3, none⟩ = some (.slice A2 pn c2) ∧ w'.cell? ⟨y + 1, 0, none⟩ = some (.int .i64 x) ∧ w'.cell? ⟨y + 1, 1, none⟩ = some (.slice B m e) ∧ Bw W w')
       (first | (refine KS.out _ ?_; first | exact (Bw.refl _).drew | exact ((Bw.refl _).alloc _).drew | exact (((Bw.refl _).alloc _).drew).trans (Bw.grown hgr8) | exact ((((Bw.refl _).alloc _).drew).trans (Bw.grown hgr8)).trans hg9 | exact (((((Bw.refl _).alloc _).drew).trans (Bw.grown hgr8)).trans hg9).trans hg10))
       (first
         | (refine step_append_grows (by rfl) _ _ 31 (by rfl) 39 i0 _ 2 32 Tryz.underlying31 hi hz0 hz1 hz2 rfl (by omega) A n n (pCells ps) (by rfl) (fun e0 => ⟨HA0.out e0, HA0.out e0⟩) (by rw [pCells_length, HPL.out]) (HCC.out _ (HBW.out _ (((Bw.refl _).alloc _).drew))) ⟨W.heap.size, 0, none⟩ 1 1 [.int .i64 x, .slice B m e] (by rfl) (by rfl) (World.news_of_block (cs := #[.int .i64 x, .slice B m e]) (t := 39) (fr := (0, 0)) (heap_alloc_new W _)) (one2 _ _ _ _) (by omega) (by unfold maxLen; omega) (by omega) ?_; intro v8 w8 hown8 hgr8; obtain ⟨A8, c8, rfl⟩ := own_form hown8)
         | (go_at_call 43; (with_reducible refine (CM.out _ _ (HBW.out _ ((((Bw.refl _).alloc _).drew).trans (Bw.grown hgr8))) (SK.out _ _ _ (by simp; omega) (HBW.out _ ((((Bw.refl _).alloc _).drew).trans (Bw.grown hgr8))) hown8)).mono ?_); rintro e9 w9 ⟨s9, qs, rfl, hm9, he9, hg9⟩; obtain ⟨A9, c9, rfl, _, _⟩ := hm9.form)
         | (go_at_call 42; (with_reducible refine (CL.out _ _ (kb_of hm9 he9 hg9)).mono ?_); rintro e10 w10 ⟨s10, rfl, hk10, hg10⟩; obtain ⟨A10, n10, c10, rfl, _, _, _⟩ := hk10.form))
     have HG10 : Hid (Bw W w10) := Lib.hid (((((Bw.refl _).alloc _).drew.trans (Bw.grown hgr8)).trans hg9).trans hg10)
     have HK10 := Lib.hid hk10
     have HS9 : Hid (w.heap.size ≤ w9.heap.size) := Lib.hid (HBW.out w9 ((((Bw.refl _).alloc _).drew.trans (Bw.grown hgr8)).trans hg9)).size
     obtain ⟨k1, k2, k3, k4, k5, k6, -⟩ := KS.out w10 HG10.out
     have k7 : y + 1 < w10.heap.size := by have := HG10.out.size; have := HSZ.out; omega
     have hKF : KAt w10 (fun b => w.heap.size ≤ b ∧ b < w10.heap.size) (.slice A10 n10 c10) l1 := hk10.keep (fun b hb => ⟨Nat.le_trans HS9.out hb.1, hb.2⟩) (fun _ _ => rfl)
     have HKF := Lib.hid hKF
     clear hgr8 hown8 hm9 he9 hg9 hg10 hk10 hKF HK10 KS
     by_cases h5 : l2 = 0
     · subst h5
       go_wp2_with (go_at_call 45; go_must (refine (CH.out _ (HBW.out _ HG10.out)).mono ?_; rintro e11 w11 ⟨rfl, hg11⟩; (have HG11 := Lib.hid hg11); clear hg11))
       go_ret3
       exact ⟨_, rfl, HKF.out.keep (fun b hb => ⟨hb.1, Nat.lt_of_lt_of_le hb.2 HG11.out.size⟩) (fun p hp => HG11.out.b.cell hp.2), (HBW.out _ HG10.out).trans HG11.out⟩
     · have d5 : (l2 == 0) = false := by simpa using h5
       have HF : Hid ((l2 == 0 && !q) = false) := Lib.hid (by rw [d5]; rfl)
       go_wp2
       go_ret3
       rw [HF.out]
       exact ⟨_, rfl, HKF.out, HBW.out _ HG10.out⟩
 · rw [if_neg h0]
   clear hT h h2 ln CV
   generalize checkB t l = r at *
   have d1 : (r != 0) = true := by simpa using h0
   have d2 : (r == 0) = false := by simpa using h0
   generalize t.kind = kd at *
   generalize t.size = z at *
   generalize v.n = x at *
   go_enter Tryz.func15, Tryz.ntmps15
   go_wp2_with (first | (go_at_call 16; go_must (refine (CK.out _ TX.out.1).mono ?_; rintro e6 w6 ⟨rfl, hg6⟩; (have HG6 := Lib.hid hg6); clear hg6)))
   go_ret3
   exact ⟨_, rfl, KAt.nil _ _ (Nat.zero_le _), TX.out.1.trans HG6.out⟩
end Go.Proofs.YtbmheekaclmibaaGreat
