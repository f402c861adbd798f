/- Part of a proof of orderExact_card. -/
import Derived.Test.YtlmnkcfnihhlgaaGreatDoorXRdrAQ
import Derived.Test.YtlmnkcfnihhlgaaGreatDoorXArrAQ
import Derived.Test.YtlmnkcfnihhlgaaGreatDoorXLeqAQ
import Derived.Test.YtlmnkcfnihhlgaaGreatDoorXGenCQ
set_option maxRecDepth 100000
set_option maxHeartbeats 16000000
namespace Go.Proofs.YtlmnkcfnihhlgaaGreatDoor
open Go.RowKit
set_option linter.unusedSimpArgs false
set_option linter.unusedVariables false
def vA : V := .mk 0 [.mk 2 [], .mk 5 []]
def vB : V := .mk 0 [.mk 3 [], .mk 0 [], .mk 6 []]
def vS : V := .mk 0 [.mk 0 [], .mk 3 [], .mk 6 []]
def tW : T := .mk 4 0 [] [.mk 1 0 [] []]
def tG : T := .mk 5 0 [] [.mk 1 0 [] []]
theorem wa_leq : (validP tW vA && validP tW vB && belowP 8 tW vA vB) = true := by rfl
theorem wa_sorted : sortedP tG vB = (vS, 0) := by rfl
theorem wa_right : rightP 8 tW = true := by rfl
theorem wa_valid : validP tW vA = true := by rfl
theorem wa_cmp : cmpV vA vB = -1 := by rfl
theorem wa_least : (validP tW (.mk 0 []) && leastP 8 tW (.mk 0 [])) = true := by rfl
theorem wa_size : min (vB.size : Int) 129 = 4 := by rfl
theorem text_dig (n : Nat) (h : n < 10) : textV (.mk (n : Int) []) = [UInt8.ofNat (48 + n)] := by
 rw [textV, Lib.itoa_nonneg, Lib.decDigits_one h]; simp [textK]
theorem wa_textA : textV vA = [48, 40, 50, 32, 53, 41] := by
 have h0 := text_dig 0 (by omega)
 have h2 := text_dig 2 (by omega)
 have h5 := text_dig 5 (by omega)
 have e : Lib.itoa 0 = [48] := by
   have := Lib.itoa_nonneg 0
   rw [Lib.decDigits_one (by omega)] at this; exact this
 unfold vA
 rw [textV, textK, textK, textK]
 rw [show (textV (.mk 2 [])) = _ from h2, show (textV (.mk 5 [])) = _ from h5, e]
 rfl
theorem wa_textB : textV vB = [48, 40, 51, 32, 48, 32, 54, 41] := by
 have h0 := text_dig 0 (by omega)
 have h3 := text_dig 3 (by omega)
 have h6 := text_dig 6 (by omega)
 have e : Lib.itoa 0 = [48] := by
   have := Lib.itoa_nonneg 0
   rw [Lib.decDigits_one (by omega)] at this; exact this
 unfold vB
 rw [textV, textK, textK, textK, textK]
 rw [show (textV (.mk 3 [])) = _ from h3, show (textV (.mk 0 [])) = _ from h0, show (textV (.mk 6 [])) = _ from h6, e]
 rfl
theorem wa_parseA : parseE [48, 40, 50, 32, 53, 41] = (vA, 0) := by
 have h := parseP_of (v := vA) (by rfl) (by decide)
 rw [wa_textA] at h
 unfold parseE
 rw [if_neg (by decide), h]
theorem wa_parseB : parseE [48, 40, 51, 32, 48, 32, 54, 41] = (vB, 0) := by
 have h := parseP_of (v := vB) (by rfl) (by decide)
 rw [wa_textB] at h
 unfold parseE
 rw [if_neg (by decide), h]
theorem wa_txt : txtP vB = (⟨#[48, 40, 51, 32, 48, 32, 54, 41]⟩, 0) := by
 unfold txtP
 rw [if_pos (by decide), wa_textB]
theorem nat_at {W : World} {g : Nat} {T : TypeId} {kd : Int} (h : Blk W g T #[.int .i64 1, .int .i64 0, .slice none 0 0, .slice none 0 0]) : TB W W.heap.size (.slice none 0 0) (.slice (some ⟨g, 0, none⟩) 1 1) (.mk kd 0 [] [.mk 1 0 [] []]) := by
 have hg := h.lt
 refine ⟨IAt.nil _ _ (Nat.zero_le _), .mk (some ⟨g, 0, none⟩) 1 1 [.mk 1 0 [] []] [.slice none 0 0] [.slice none 0 0] rfl rfl rfl (Nat.le_refl _) (by unfold maxLen; omega) (fun _ => ⟨⟨g, 0, none⟩, rfl, hg, fun k h1 h2 h3 => ?_⟩) (fun k h1 h2 => ?_) (fun k h1 h2 => ?_)⟩
 · obtain rfl : k = 0 := by simp at h1; omega
   have e : (⟨g, 0, none⟩ : Addr).add (0 * 4) = ⟨g, 0, none⟩ := by simp [Addr.add]
   rw [e]
   exact ⟨h.cell 0, h.cell 1, h.cell 2, h.cell 3⟩
 · obtain rfl : k = 0 := by simp at h1; omega
   exact IAt.nil _ _ (Nat.zero_le _)
 · obtain rfl : k = 0 := by simp at h1; omega
   exact PAt.nil _ _ (Nat.zero_le _)
theorem awake6_any (w : World) (hg : GlobO w) : Calls Tryz.prog 9 #[] w (BoolPost w true) := by
 have PA : Hid (∀ W, Bw w W → Calls Tryz.prog 36 #[.string ⟨#[48, 40, 50, 32, 53, 41]⟩] W (SortedPost W vA 0)) := Lib.hid (fun W g => oParse_any ⟨#[48, 40, 50, 32, 53, 41]⟩ W (hg.bw g) (vA, 0) wa_parseA)
 have PB : Hid (∀ W, Bw w W → Calls Tryz.prog 36 #[.string ⟨#[48, 40, 51, 32, 48, 32, 54, 41]⟩] W (SortedPost W vB 0)) := Lib.hid (fun W g => oParse_any ⟨#[48, 40, 51, 32, 48, 32, 54, 41]⟩ W (hg.bw g) (vB, 0) wa_parseB)
 have HG := Lib.hid hg
 clear hg
 obtain ⟨yy, hyy⟩ : ∃ yy, yy = w.heap.size := ⟨_, rfl⟩
 have HYY := Lib.hid hyy
 clear hyy
 unfold SortedPost at PA PB
 go_enter Tryz.func9, Tryz.ntmps9
 go_upto_region 2 with fail
 have H2 : Hid (Bw w ((w.alloc (.cells #[.int .i64 1, .int .i64 0, .slice none 0 0, .slice none 0 0] 25)).alloc (.cells #[.int .i64 4, .int .i64 0, .slice none 0 0, .slice (some ⟨w.heap.size, 0, none⟩) 1 1] 25)) ∧ Blk ((w.alloc (.cells #[.int .i64 1, .int .i64 0, .slice none 0 0, .slice none 0 0] 25)).alloc (.cells #[.int .i64 4, .int .i64 0, .slice none 0 0, .slice (some ⟨w.heap.size, 0, none⟩) 1 1] 25)) w.heap.size 25 #[.int .i64 1, .int .i64 0, .slice none 0 0, .slice none 0 0] ∧ Blk ((w.alloc (.cells #[.int .i64 1, .int .i64 0, .slice none 0 0, .slice none 0 0] 25)).alloc (.cells #[.int .i64 4, .int .i64 0, .slice none 0 0, .slice (some ⟨w.heap.size, 0, none⟩) 1 1] 25)) (w.heap.size + 1) 25 #[.int .i64 4, .int .i64 0, .slice none 0 0, .slice (some ⟨w.heap.size, 0, none⟩) 1 1]) := Lib.hid ⟨((Bw.refl _).alloc _).alloc _, (Blk.new _ _ _).alloc _, by
   have := Blk.new (w.alloc (.cells #[.int .i64 1, .int .i64 0, .slice none 0 0, .slice none 0 0] 25)) 25 #[.int .i64 4, .int .i64 0, .slice none 0 0, .slice (some ⟨w.heap.size, 0, none⟩) 1 1]
   rw [World.size_alloc] at this
   exact this⟩
 refine wp_world (fun W => Hid (Bw w W ∧ Blk W w.heap.size 25 #[.int .i64 1, .int .i64 0, .slice none 0 0, .slice none 0 0] ∧ Blk W (w.heap.size + 1) 25 #[.int .i64 4, .int .i64 0, .slice none 0 0, .slice (some ⟨w.heap.size, 0, none⟩) 1 1])) H2 ?_
 intro W2 HW2
 clear H2
 go_upto_region 3 with (go_at_call 36; go_must (refine (PA.out _ HW2.out.1).mono ?_; rintro e wa ⟨sa, rfl, hka, hga⟩; obtain ⟨Aa, na, ca, rfl, -, -, -⟩ := hka.form))
 have HA : Hid (Bw W2 (wa.alloc (.cells #[.int .i64 vA.n, .slice Aa na ca] 28)) ∧ Blk (wa.alloc (.cells #[.int .i64 vA.n, .slice Aa na ca] 28)) wa.heap.size 28 #[.int .i64 vA.n, .slice Aa na ca] ∧ KB (wa.alloc (.cells #[.int .i64 vA.n, .slice Aa na ca] 28)) (wa.alloc (.cells #[.int .i64 vA.n, .slice Aa na ca] 28)).heap.size (.slice Aa na ca) vA.ks) := Lib.hid ⟨hga.alloc _, Blk.new _ _ _, KAt.bw (hka.keep (fun y hy => hy.2) (fun _ _ => rfl)) ((Bw.refl _).alloc _)⟩
 refine wp_world (fun W => Hid (Bw W2 W ∧ Blk W wa.heap.size 28 #[.int .i64 vA.n, .slice Aa na ca] ∧ KB W W.heap.size (.slice Aa na ca) vA.ks)) HA ?_
 intro W3 HW3
 clear HA hka hga
 generalize wa.heap.size = ga at *
 go_upto_region 4 with (go_at_call 36; go_must (refine (PB.out _ (HW2.out.1.trans HW3.out.1)).mono ?_; rintro e wb ⟨sb, rfl, hkb, hgb⟩; obtain ⟨Ab, nb, cb, rfl, -, -, -⟩ := hkb.form))
 have HB : Hid (Bw W3 (wb.alloc (.cells #[.int .i64 vB.n, .slice Ab nb cb] 28)) ∧ Blk (wb.alloc (.cells #[.int .i64 vB.n, .slice Ab nb cb] 28)) wb.heap.size 28 #[.int .i64 vB.n, .slice Ab nb cb] ∧ KB (wb.alloc (.cells #[.int .i64 vB.n, .slice Ab nb cb] 28)) (wb.alloc (.cells #[.int .i64 vB.n, .slice Ab nb cb] 28)).heap.size (.slice Ab nb cb) vB.ks) := Lib.hid ⟨hgb.alloc _, Blk.new _ _ _, KAt.bw (hkb.keep (fun y hy => hy.2) (fun _ _ => rfl)) ((Bw.refl _).alloc _)⟩
 refine wp_world (fun W => Hid (Bw W3 W ∧ Blk W wb.heap.size 28 #[.int .i64 vB.n, .slice Ab nb cb] ∧ KB W W.heap.size (.slice Ab nb cb) vB.ks)) HB ?_
 intro W4 HW4
 clear HB hkb hgb PA PB
 generalize wb.heap.size = gb at *
 have HXW : Hid (Bw w W4) := Lib.hid (HW2.out.1.trans (HW3.out.1.trans HW4.out.1))
 have KS : Hid (∀ W', Bw W4 W' → W'.cell? ⟨w.heap.size + 1, 0, none⟩ = some (.int .i64 4) ∧ W'.cell? ⟨w.heap.size + 1, 1, none⟩ = some (.int .i64 0) ∧ W'.cell? ⟨w.heap.size + 1, 2, none⟩ = some (.slice none 0 0) ∧ W'.cell? ⟨w.heap.size + 1, 3, none⟩ = some (.slice (some ⟨w.heap.size, 0, none⟩) 1 1) ∧ W'.cell? ⟨ga, 0, none⟩ = some (.int .i64 vA.n) ∧ W'.cell? ⟨ga, 1, none⟩ = some (.slice Aa na ca) ∧ W'.cell? ⟨gb, 0, none⟩ = some (.int .i64 vB.n) ∧ W'.cell? ⟨gb, 1, none⟩ = some (.slice Ab nb cb)) := Lib.hid (fun W' g => by
   have k1 := HW2.out.2.2.below (HW3.out.1.trans (HW4.out.1.trans g)).b HW2.out.2.2.lt
   have k2 := HW3.out.2.1.below (HW4.out.1.trans g).b HW3.out.2.1.lt
   have k3 := HW4.out.2.1.below g.b HW4.out.2.1.lt
   exact ⟨k1.cell 0, k1.cell 1, k1.cell 2, k1.cell 3, k2.cell 0, k2.cell 1, k3.cell 0, k3.cell 1⟩)
 have TN : Hid (∀ W' kd, Bw W4 W' → TB W' W'.heap.size (.slice none 0 0) (.slice (some ⟨w.heap.size, 0, none⟩) 1 1) (.mk kd 0 [] [.mk 1 0 [] []])) := Lib.hid (fun W' kd g => nat_at (HW2.out.2.1.below (HW3.out.1.trans (HW4.out.1.trans g)).b HW2.out.2.1.lt))
 have KA : Hid (∀ W', Bw W4 W' → KB W' W'.heap.size (.slice Aa na ca) vA.ks) := Lib.hid (fun W' g => KAt.bw HW3.out.2.2 (HW4.out.1.trans g))
 have KBb : Hid (∀ W', Bw W4 W' → KB W' W'.heap.size (.slice Ab nb cb) vB.ks) := Lib.hid (fun W' g => KAt.bw HW4.out.2.2 g)
 have CTX : Hid (∀ W', Bw W4 W' → Calls Tryz.prog 33 #[.agg #[.int .i64 vB.n, .slice Ab nb cb]] W' (TxtPost W' (⟨#[48, 40, 51, 32, 48, 32, 54, 41]⟩, 0))) := Lib.hid (fun W' g => oText_any vB (by rfl) _ W' (HG.out.bw (HXW.out.trans g)) (KBb.out W' g) _ wa_txt)
 have CSO : Hid (∀ W', Bw W4 W' → Calls Tryz.prog 30 #[.agg #[.int .i64 5, .int .i64 0, .slice none 0 0, .slice (some ⟨w.heap.size, 0, none⟩) 1 1], .agg #[.int .i64 vB.n, .slice Ab nb cb]] W' (SortedPost W' vS 0)) := Lib.hid (fun W' g => oSorted_any tG vB _ _ _ W' (TN.out W' 5 g) (KBb.out W' g) (vS, 0) wa_sorted)
 have CLQ : Hid (∀ W', Bw W4 W' → Calls Tryz.prog 22 #[.agg #[.int .i64 4, .int .i64 0, .slice none 0 0, .slice (some ⟨w.heap.size, 0, none⟩) 1 1], .agg #[.int .i64 vA.n, .slice Aa na ca], .agg #[.int .i64 vB.n, .slice Ab nb cb]] W' (BoolPost W' true)) := Lib.hid (fun W' g => oLeq_any tW vA vB _ _ _ _ W' (TN.out W' 4 g) (KA.out W' g) (KBb.out W' g) true wa_leq)
 have CSZ : Hid (∀ W', Bw W4 W' → Calls Tryz.prog 26 #[.agg #[.int .i64 vB.n, .slice Ab nb cb]] W' (NumPost W' 4)) := Lib.hid (fun W' g => by
   have := osize_any vB _ W' (KBb.out W' g)
   rw [wa_size] at this; exact this)
 have CCK : Hid (∀ W', Bw W4 W' → Calls Tryz.prog 18 #[.agg #[.int .i64 4, .int .i64 0, .slice none 0 0, .slice (some ⟨w.heap.size, 0, none⟩) 1 1]] W' (NumPost W' 0)) := Lib.hid (fun W' g => ocheck_any tW _ _ W' (TN.out W' 4 g) true wa_right)
 have CVA : Hid (∀ W', Bw W4 W' → Calls Tryz.prog 20 #[.agg #[.int .i64 4, .int .i64 0, .slice none 0 0, .slice (some ⟨w.heap.size, 0, none⟩) 1 1], .agg #[.int .i64 vA.n, .slice Aa na ca]] W' (BoolPost W' true)) := Lib.hid (fun W' g => ovalid_any tW vA _ _ _ W' (TN.out W' 4 g) (KA.out W' g) true wa_valid)
 have CCM : Hid (∀ W', Bw W4 W' → Calls Tryz.prog 24 #[.agg #[.int .i64 vA.n, .slice Aa na ca], .agg #[.int .i64 vB.n, .slice Ab nb cb]] W' (NumPost W' (-1))) := Lib.hid (fun W' g => by
   have := (cmp_any vA vB _ _ W' (KA.out W' g) (KBb.out W' g)).mono (fun _ _ h => IntPost.num h)
   rw [wa_cmp] at this; exact this)
 have CLE : Hid (∀ W', Bw W4 W' → Calls Tryz.prog 28 #[.agg #[.int .i64 4, .int .i64 0, .slice none 0 0, .slice (some ⟨w.heap.size, 0, none⟩) 1 1], .agg #[.int .i64 0, .slice none 0 0]] W' (BoolPost W' true)) := Lib.hid (fun W' g => oLeast_any tW (.mk 0 []) ((oleast_k456 tW _ (.inl rfl)).of_eq (fun v => rfl)) _ _ _ W' (TN.out W' 4 g) (KAt.nil 0 none (Nat.zero_le _)) true wa_least)
 clear HW2 HW3 TN KA
 obtain ⟨t0, t1, t2, t3, a0, a1, b0, b1⟩ := KS.out W4 (Bw.refl _)
 unfold TxtPost at CTX
 unfold SortedPost at CSO
 unfold BoolPost at CLQ CVA CLE
 unfold NumPost at CSZ CCK CCM
 generalize vA.n = xA at *
 generalize vB.n = xB at *
 go_upto_region 5 with (go_at_call 33; go_must (refine (CTX.out _ (Bw.refl _)).mono ?_; rintro e w5 ⟨rfl, hg5⟩; (have HX5 := Lib.hid hg5); clear t0 t1 t2 t3 a0 a1 b0 b1; obtain ⟨t0, t1, t2, t3, a0, a1, b0, b1⟩ := KS.out _ hg5; clear hg5))
 have d1 : ((⟨#[48, 40, 51, 32, 48, 32, 54, 41]⟩ : ByteArray).toList == (⟨#[48, 40, 51, 32, 48, 32, 54, 41]⟩ : ByteArray).toList) = true := by simp
 go_wp2_with (first
   | (go_at_call 30; go_must (refine (CSO.out _ HX5.out).mono ?_; rintro e w8 ⟨s8, rfl, hk8, hg8⟩; obtain ⟨A8, n8, c8, rfl, ln8, -, -⟩ := hk8.form; obtain rfl : n8 = 3 := (by rw [← ln8]; rfl); obtain ⟨ad8, -, -, -, rfl, hb8, z8, -, -, -⟩ := hk8.at_ (k := 0) (by decide); (have HX8 : Hid (Bw W4 (w8.alloc (.cells #[.int .i64 vS.n, .slice (some ad8) 3 c8] 28))) := Lib.hid ((HX5.out.trans hg8).alloc _)); (have HY8 : Hid (Bw (w8.alloc (.cells #[.int .i64 vS.n, .slice (some ad8) 3 c8] 28)) (w8.alloc (.cells #[.int .i64 vS.n, .slice (some ad8) 3 c8] 28))) := Lib.hid (Bw.refl _)); (have KS8 : Hid (∀ W', Bw (w8.alloc (.cells #[.int .i64 vS.n, .slice (some ad8) 3 c8] 28)) W' → (W'.cell? ⟨w.heap.size + 1, 0, none⟩ = some (.int .i64 4) ∧ W'.cell? ⟨w.heap.size + 1, 1, none⟩ = some (.int .i64 0) ∧ W'.cell? ⟨w.heap.size + 1, 2, none⟩ = some (.slice none 0 0) ∧ W'.cell? ⟨w.heap.size + 1, 3, none⟩ = some (.slice (some ⟨w.heap.size, 0, none⟩) 1 1) ∧ W'.cell? ⟨ga, 0, none⟩ = some (.int .i64 xA) ∧ W'.cell? ⟨ga, 1, none⟩ = some (.slice Aa na ca) ∧ W'.cell? ⟨gb, 0, none⟩ = some (.int .i64 xB) ∧ W'.cell? ⟨gb, 1, none⟩ = some (.slice Ab nb cb)) ∧ W'.cell? ⟨w8.heap.size, 1, none⟩ = some (.slice (some ad8) 3 c8) ∧ W'.cell? ad8 = some (.int .i64 0)) := Lib.hid (fun W' g => ⟨KS.out W' (HX8.out.trans g), ((Blk.new w8 28 #[.int .i64 vS.n, .slice (some ad8) 3 c8]).below g.b (by simp)).cell 1, by
           have e1 : w8.cell? ad8 = some (.int .i64 0) := (by simpa [Addr.add, vS] using z8)
           exact ((((Bw.refl w8).alloc (.cells #[.int .i64 vS.n, .slice (some ad8) 3 c8] 28)).trans g).b.cell (p := ad8) hb8.2).trans e1⟩)); clear t0 t1 t2 t3 a0 a1 b0 b1; obtain ⟨⟨t0, t1, t2, t3, a0, a1, b0, b1⟩, s0, e0⟩ := KS8.out _ (Bw.refl _); clear hk8 hg8 ln8 z8 hb8))
   | (go_at_call 22; go_must (refine (CLQ.out _ HX8.out).mono ?_; rintro e w9 ⟨rfl, hg9⟩; (have HX9 := Lib.hid (HX8.out.trans hg9)); (have HY9 := Lib.hid (HY8.out.trans hg9)); clear t0 t1 t2 t3 a0 a1 b0 b1 s0 e0; obtain ⟨⟨t0, t1, t2, t3, a0, a1, b0, b1⟩, s0, e0⟩ := KS8.out _ HY9.out; clear hg9))
   | (go_at_call 26; go_must (refine (CSZ.out _ HX9.out).mono ?_; rintro e w10 ⟨rfl, hg10⟩; (have HX10 := Lib.hid (HX9.out.trans hg10)); (have HY10 := Lib.hid (HY9.out.trans hg10)); clear t0 t1 t2 t3 a0 a1 b0 b1 s0 e0; obtain ⟨⟨t0, t1, t2, t3, a0, a1, b0, b1⟩, s0, e0⟩ := KS8.out _ HY10.out; clear hg10))
   | (go_at_call 18; go_must (refine (CCK.out _ HX10.out).mono ?_; rintro e w11 ⟨rfl, hg11⟩; (have HX11 := Lib.hid (HX10.out.trans hg11)); (have HY11 := Lib.hid (HY10.out.trans hg11)); clear t0 t1 t2 t3 a0 a1 b0 b1 s0 e0; obtain ⟨⟨t0, t1, t2, t3, a0, a1, b0, b1⟩, s0, e0⟩ := KS8.out _ HY11.out; clear hg11))
   | (go_at_call 20; go_must (refine (CVA.out _ HX11.out).mono ?_; rintro e w12 ⟨rfl, hg12⟩; (have HX12 := Lib.hid (HX11.out.trans hg12)); (have HY12 := Lib.hid (HY11.out.trans hg12)); clear t0 t1 t2 t3 a0 a1 b0 b1 s0 e0; obtain ⟨⟨t0, t1, t2, t3, a0, a1, b0, b1⟩, s0, e0⟩ := KS8.out _ HY12.out; clear hg12))
   | (go_at_call 24; go_must (refine (CCM.out _ HX12.out).mono ?_; rintro e w13 ⟨rfl, hg13⟩; (have HX13 := Lib.hid (HX12.out.trans hg13)); (have HY13 := Lib.hid (HY12.out.trans hg13)); clear t0 t1 t2 t3 a0 a1 b0 b1 s0 e0; obtain ⟨⟨t0, t1, t2, t3, a0, a1, b0, b1⟩, s0, e0⟩ := KS8.out _ HY13.out; clear hg13))
   | (go_at_call 28; go_must (refine (CLE.out _ HX13.out).mono ?_; rintro e w14 ⟨rfl, hg14⟩; (have HX14 := Lib.hid (HX13.out.trans hg14)); (have HY14 := Lib.hid (HY13.out.trans hg14)); clear t0 t1 t2 t3 a0 a1 b0 b1 s0 e0; obtain ⟨⟨t0, t1, t2, t3, a0, a1, b0, b1⟩, s0, e0⟩ := KS8.out _ HY14.out; clear hg14)))
 go_ret
 exact ⟨rfl, HXW.out.trans HX14.out⟩
end Go.Proofs.YtlmnkcfnihhlgaaGreatDoor
namespace Go.Proofs.YtlmnkcfnihhlgaaGreatDoor
open Go.RowKit
theorem bw_row {a b c : World} {row : Option Nat} (h : Bw a b) (hg : b.grownBy c row) (hr : ∀ r, row = some r → a.heap.size ≤ r) : Bw a c := Below.grown h hg h.size hr
end Go.Proofs.YtlmnkcfnihhlgaaGreatDoor
