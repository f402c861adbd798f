/- Part of a proof of pruneShows_holds. -/
import Derived.Test.YthhbkabdhkdafaaGreatUBpQ
import Derived.Test.YthhbkabdhkdafaaGreatUBqQ
import Derived.Test.YthhbkabdhkdafaaGreatUBbQ
import Derived.Deep.Slices
import Derived.Deep.Fields
set_option linter.unusedSimpArgs false
set_option linter.unusedVariables false
set_option maxRecDepth 100000
set_option maxHeartbeats 16000000
namespace Go.Proofs.YthhbkabdhkdafaaGreat
section
open Go.RowKit
theorem qCheck_any (m : Mdl) (hm : MdlOk m) (hn : NmOk m) (sv pv rv kv : Value) (w : World) (h : MB w w.heap.size sv pv rv kv m) : Calls Tryz.prog 34 #[aggM sv pv rv kv] w (NumPost w 0) := by
 obtain ⟨A1, c1, A2, c2, A3, c3, A4, c4, rfl, rfl, rfl, rfl⟩ := h.form
 have C1 : Hid (∀ W, Bw w W → Calls Tryz.prog 58 #[aggM (.slice A1 m.ss.length c1) (.slice A2 m.ps.length c2) (.slice A3 m.rs.length c3) (.slice A4 (1 + m.cs.length) c4)] W (BoolPost W true)) := Lib.hid (fun W g => qnumbers_any m hm hn.len _ _ _ _ W (h.bw g))
 have C2 : Hid (∀ W, Calls Tryz.prog 59 #[aggM (.slice A1 m.ss.length c1) (.slice A2 m.ps.length c2) (.slice A3 m.rs.length c3) (.slice A4 (1 + m.cs.length) c4)] W (BoolPost W true)) := Lib.hid (fun W => qranks_one _ _ _ _ W)
 have C3 : Hid (∀ W, Bw w W → Calls Tryz.prog 60 #[aggM (.slice A1 m.ss.length c1) (.slice A2 m.ps.length c2) (.slice A3 m.rs.length c3) (.slice A4 (1 + m.cs.length) c4)] W (BoolPost W true)) := Lib.hid (fun W g => qnames_any m hm hn _ _ _ _ W (h.bw g))
 have CR : Hid (∀ r ∈ m.rs, ∀ (nd gv : Value) (W : World), Bw w W → IB W W.heap.size nd r.need → IB W W.heap.size gv r.give → Calls Tryz.prog 61 #[aggM (.slice A1 m.ss.length c1) (.slice A2 m.ps.length c2) (.slice A3 m.rs.length c3) (.slice A4 (1 + m.cs.length) c4), aggR r nd gv] W (BoolPost W true)) := Lib.hid (fun r hr nd gv W g i1 i2 => qright_any m hm r (hm.ru r hr) _ _ _ _ nd gv W (h.bw g) i1 i2)
 have CT : Hid (∀ W, Bw w W → Calls Tryz.prog 36 #[aggM (.slice A1 m.ss.length c1) (.slice A2 m.ps.length c2) (.slice A3 m.rs.length c3) (.slice A4 (1 + m.cs.length) c4)] W (TypePost W m.t)) := Lib.hid (fun W g => qtypeOf_any m hm _ _ _ _ W (h.bw g))
 have CV : Hid (∀ W pv', Bw w W → TB W W.heap.size (.slice none 0 0) pv' m.t → Calls Tryz.prog 42 #[.agg #[.int .i64 3, .int .i64 0, .slice none 0 0, pv'], .agg #[.int .i64 0, .slice A4 (1 + m.cs.length) c4]] W (BoolPost W true)) := Lib.hid (fun W pv' g hT => r6ValidM m m.start (.slice none 0 0) pv' (.slice A4 (1 + m.cs.length) c4) W hT (h.k.bw g) true (validM hm hm.st))
 have R3 : Hid (∀ W, Bw w W → RlsAt W (· < W.heap.size) (.slice A3 m.rs.length c3) m.rs) := Lib.hid (fun W g => h.r.bw g)
 have HRS : Hid (m.rs.length = m.rs.length) := Lib.hid rfl
 have h12 := hn.len
 clear h hm hn
 unfold aggM at *
 unfold TypePost at CT
 obtain ⟨q, hq⟩ : ∃ q, m.rs.length = q := ⟨_, rfl⟩
 rw [hq] at C1 C2 C3 CR CT R3 h12 ⊢
 replace HRS := Lib.hid hq
 clear hq
 generalize m.ss.length = n at *
 generalize m.ps.length = k0 at *
 generalize 1 + m.cs.length = z at *
 have TX := Lib.hid (mdbox (w := w) (sv := .slice A1 n c1) (pv := .slice A2 k0 c2) (rv := .slice A3 q c3) (kv := .slice A4 z c4))
 have HB : Hid (Bw w (w.alloc (.cells #[.int .i64 1, .slice A1 n c1, .slice A2 k0 c2, .slice none 0 0, .slice none 0 0, .int .i64 0, .int .i64 0, .slice A3 q c3, .int .i64 0, .slice A4 z c4] 33))) := Lib.hid ((Bw.refl _).alloc _)
 go_enter Tryz.func34, Tryz.ntmps34
 go_wp2_with (first
   | (go_at_call 57; go_must (refine (qbetween_in _ _ _ _ (by omega) (by omega)).mono ?_; rintro e w' ⟨rfl, rfl⟩))
   | (go_at_call 58; go_must (refine (C1.out _ HB.out).mono ?_; rintro e w1 ⟨rfl, hg⟩; (obtain ⟨y0, yb, y1, y2, y3, y4, y5, y6, y7, y8, y9, y10⟩ := TX.out _ hg); (have HG1 := Lib.hid hg); clear hg yb))
   | (go_at_call 59; go_must (refine (C2.out _).mono ?_; rintro e w2 ⟨rfl, hg⟩; (have hg := HG1.out.trans hg); (obtain ⟨x0, xb, x1, x2, x3, x4, x5, x6, x7, x8, x9, x10⟩ := TX.out _ hg); (have HG2 := Lib.hid hg); clear hg xb))
   | (go_at_call 60; go_must (refine (C3.out _ (HB.out.trans HG2.out)).mono ?_; rintro e w3 ⟨rfl, hg⟩; (have hg := HG2.out.trans hg); (obtain ⟨v0, vb, v1, v2, v3, v4, v5, v6, v7, v8, v9, v10⟩ := TX.out _ hg); (have HG3 := Lib.hid hg); clear hg vb)))
 go_loopw [3] (fun i wr => ∃ j : Nat, j ≤ q ∧ i = .int .i64 j ∧ Hid (Bw (w.alloc (.cells #[.int .i64 1, .slice A1 n c1, .slice A2 k0 c2, .slice none 0 0, .slice none 0 0, .int .i64 0, .int .i64 0, .slice A3 q c3, .int .i64 0, .slice A4 z c4] 33)) wr)) (fun i _ => q - (intOf i).toNat)
 case atStart => exact ⟨0, by omega, rfl, HG3⟩
 case round =>
   clear y0 y1 y2 y3 y4 y5 y6 y7 y8 y9 y10 x0 x1 x2 x3 x4 x5 x6 x7 x8 x9 x10 v0 v1 v2 v3 v4 v5 v6 v7 v8 v9 v10 HG1 HG2 HG3
   obtain ⟨j, hj, rfl, HR⟩ := hrel
   obtain ⟨y0, yb, y1, y2, y3, y4, y5, y6, y7, y8, y9, y10⟩ := TX.out wr HR.out
   by_cases hlt : j < q
   · have e1 : j < m.rs.length := by rw [HRS.out]; exact hlt
     obtain ⟨ad, B1, q1, d1, B2, q2, d2, rfl, hb, hri, hnd, hgv⟩ := (R3.out wr yb).at_ e1
     have CM : Hid (∀ W', Bw wr W' → Calls Tryz.prog 61 #[.agg #[.int .i64 1, .slice A1 n c1, .slice A2 k0 c2, .slice none 0 0, .slice none 0 0, .int .i64 0, .int .i64 0, .slice (some ad) q c3, .int .i64 0, .slice A4 z c4], aggR m.rs[j] (.slice B1 q1 d1) (.slice B2 q2 d2)] W' (BoolPost W' true)) := Lib.hid (fun W' g => CR.out _ (List.getElem_mem e1) _ _ W' (yb.trans g) (hnd.bw g) (hgv.bw g))
     have RX : Hid (∀ P : BwOf wr, RlIs P.val (ad.add (j * 14)) m.rs[j] (.slice B1 q1 d1) (.slice B2 q2 d2) ∧ ad.block < P.val.heap.size) := Lib.hid (fun P => ⟨hri.bw (by rw [add_block]; exact hb) P.bw, Nat.lt_of_lt_of_le hb P.bw.size⟩)
     have MX : Hid (∀ P : BwOf wr, w.heap.size < P.val.heap.size ∧ P.val.cell? ⟨w.heap.size, 0, none⟩ = some (.int .i64 1) ∧ P.val.cell? ⟨w.heap.size, 1, none⟩ = some (.slice A1 n c1) ∧ P.val.cell? ⟨w.heap.size, 2, none⟩ = some (.slice A2 k0 c2) ∧ P.val.cell? ⟨w.heap.size, 3, none⟩ = some (.slice none 0 0) ∧ P.val.cell? ⟨w.heap.size, 4, none⟩ = some (.slice none 0 0) ∧ P.val.cell? ⟨w.heap.size, 5, none⟩ = some (.int .i64 0) ∧ P.val.cell? ⟨w.heap.size, 6, none⟩ = some (.int .i64 0) ∧ P.val.cell? ⟨w.heap.size, 7, none⟩ = some (.slice (some ad) q c3) ∧ P.val.cell? ⟨w.heap.size, 8, none⟩ = some (.int .i64 0) ∧ P.val.cell? ⟨w.heap.size, 9, none⟩ = some (.slice A4 z c4)) := Lib.hid (fun P => by
       obtain ⟨a0, ab, a1, a2, a3, a4, a5, a6, a7, a8, a9, a10⟩ := TX.out P.val (HR.out.trans P.bw)
       exact ⟨a0, a1, a2, a3, a4, a5, a6, a7, a8, a9, a10⟩)
     clear hri hnd hgv yb
     unfold aggR at CM
     rcases hrr : m.rs[j] with ⟨nm, fr, t9, need, give⟩
     rw [hrr] at CM RX
     dsimp only at CM
     have m0 := fun P => (MX.out P).1
     have m1 := fun P => (MX.out P).2.1
     have m2 := fun P => (MX.out P).2.2.1
     have m3 := fun P => (MX.out P).2.2.2.1
     have m4 := fun P => (MX.out P).2.2.2.2.1
     have m5 := fun P => (MX.out P).2.2.2.2.2.1
     have m6 := fun P => (MX.out P).2.2.2.2.2.2.1
     have m7 := fun P => (MX.out P).2.2.2.2.2.2.2.1
     have m8 := fun P => (MX.out P).2.2.2.2.2.2.2.2.1
     have m9 := fun P => (MX.out P).2.2.2.2.2.2.2.2.2.1
     have m10 := fun P => (MX.out P).2.2.2.2.2.2.2.2.2.2
     have r0 := fun P => (RX.out P).1.c0
     have r1 := fun P => (RX.out P).1.c1
     have r2 := fun P => (RX.out P).1.c2
     have r3 := fun P => (RX.out P).1.c3
     have r4 := fun P => (RX.out P).1.c4
     have r5 := fun P => (RX.out P).1.c5
     have r6 := fun P => (RX.out P).1.c6
     have r7 := fun P => (RX.out P).1.c7
     have r8 := fun P => (RX.out P).1.c8
     have r9 := fun P => (RX.out P).1.c9
     have r10 := fun P => (RX.out P).1.c10
     have r11 := fun P => (RX.out P).1.c11
     have r12 := fun P => (RX.out P).1.c12
     have r13 := fun P => (RX.out P).1.c13
     have rl := fun P => (RX.out P).2
     dsimp only at r0 r1 r2
     clear hrr RX MX
     go_upto_region 12 with fail
     refine wp_region_quiet_bw mixedO (by kernel_rfl) ?_
     repeat (go_big_quiet_step ((first | (go_at_call 61; with_reducible exact calls_bw _ (CM.out _ (BwOf.bw _))))))
     refine wpQuiet_nil ?_
     intro W3 hw'
     have HG3 : Hid (Bw wr W3) := Lib.hid (by obtain ⟨p, e⟩ := hw'; rw [e]; exact p.bw)
     clear hw' m0 m1 m2 m3 m4 m5 m6 m7 m8 m9 m10 r0 r1 r2 r3 r4 r5 r6 r7 r8 r9 r10 r11 r12 r13 rl CM
     go_wp2
     go_roundw
     case rel => exact ⟨j + 1, by omega, by go_num, Lib.hid (HR.out.trans HG3.out)⟩
     case measure => simp [intOf]; omega
   · obtain rfl : j = q := by omega
     go_wp2_with fail
     refine wp_world (fun W => Hid (Bw (w.alloc (.cells #[.int .i64 1, .slice A1 n c1, .slice A2 k0 c2, .slice none 0 0, .slice none 0 0, .int .i64 0, .int .i64 0, .slice A3 j c3, .int .i64 0, .slice A4 z c4] 33)) W)) (Lib.hid HR.out) ?_
     clear y0 y1 y2 y3 y4 y5 y6 y7 y8 y9 y10 yb HR
     intro W HW
     have KS : Hid (∀ w', Bw W w' → w'.cell? ⟨w.heap.size, 0, none⟩ = some (.int .i64 1) ∧ w'.cell? ⟨w.heap.size, 1, none⟩ = some (.slice A1 n c1) ∧ w'.cell? ⟨w.heap.size, 2, none⟩ = some (.slice A2 k0 c2) ∧ w'.cell? ⟨w.heap.size, 3, none⟩ = some (.slice none 0 0) ∧ w'.cell? ⟨w.heap.size, 4, none⟩ = some (.slice none 0 0) ∧ w'.cell? ⟨w.heap.size, 5, none⟩ = some (.int .i64 0) ∧ w'.cell? ⟨w.heap.size, 6, none⟩ = some (.int .i64 0) ∧ w'.cell? ⟨w.heap.size, 7, none⟩ = some (.slice A3 j c3) ∧ w'.cell? ⟨w.heap.size, 8, none⟩ = some (.int .i64 0) ∧ w'.cell? ⟨w.heap.size, 9, none⟩ = some (.slice A4 z c4) ∧ Bw W w') := Lib.hid (fun w' g => by
       obtain ⟨a0, ab, a1, a2, a3, a4, a5, a6, a7, a8, a9, a10⟩ := TX.out w' (HW.out.trans g)
       exact ⟨a1, a2, a3, a4, a5, a6, a7, a8, a9, a10, g⟩)
     have HBW : Hid (∀ w', Bw W w' → Bw w w') := Lib.hid (fun w' g => (TX.out w' (HW.out.trans g)).2.1)
     clear TX HW
     generalize w.heap.size = y at *
     go_region_held3 (fun w' => w'.cell? ⟨y, 0, none⟩ = some (.int .i64 1) ∧ w'.cell? ⟨y, 1, none⟩ = some (.slice A1 n c1) ∧ w'.cell? ⟨y, 2, none⟩ = some (.slice A2 k0 c2) ∧ w'.cell? ⟨y, 3, none⟩ = some (.slice none 0 0) ∧ w'.cell? ⟨y, 4, none⟩ = some (.slice none 0 0) ∧ w'.cell? ⟨y, 5, none⟩ = some (.int .i64 0) ∧ w'.cell? ⟨y, 6, none⟩ = some (.int .i64 0) ∧ w'.cell? ⟨y, 7, none⟩ = some (.slice A3 j c3) ∧ w'.cell? ⟨y, 8, none⟩ = some (.int .i64 0) ∧ w'.cell? ⟨y, 9, none⟩ = some (.slice A4 z c4) ∧ Bw W w')
       (first | (refine KS.out _ ?_; first | exact (Bw.refl _).drew | exact (Bw.refl _).drew.trans hg6 | exact ((Bw.refl _).drew.trans hg6).trans hg7))
       (first
         | (go_at_call 36; (with_reducible refine (CT.out _ (HBW.out _ (Bw.refl _).drew)).mono ?_); rintro e6 w6 ⟨pv6, rfl, hp6, hg6⟩; obtain ⟨A6, n6, c6, rfl, _, _, _⟩ := hp6.form)
         | (go_at_call 42; (with_reducible refine (CV.out _ _ (HBW.out _ ((Bw.refl _).drew.trans hg6)) (TypePost.tb hp6)).mono ?_); rintro e7 w7 ⟨rfl, hg7⟩))
     go_wp2
     go_ret
     exact ⟨rfl, HBW.out _ (((Bw.refl _).drew.trans hg6).trans hg7)⟩
theorem cfg_at {w : World} {S : Nat → Prop} {s : Int} {cs : List Int} {A : Option Addr} {n c : Nat} (h : KAt w S (.slice A n c) (cfgV s cs).ks) : n = cs.length + 1 ∧ ∃ ad, A = some ad ∧ S ad.block ∧ w.cell? ad = some (.int .i64 s) ∧ ∀ k (hk : k < cs.length), w.cell? (ad.add ((k + 1) * 2)) = some (.int .i64 cs[k]) := by
 obtain ⟨A', n', c', e, l5, b5, _⟩ := h.form
 injection e with e1 e2 e3
 subst e1 e2 e3
 have hn : n = cs.length + 1 := by rw [← l5]; simp [cfgV]
 obtain ⟨ad, xA, xn, xc, rfl, ba, qa0, qa1, -, -⟩ := h.at_ (k := 0) (by simp [cfgV])
 rw [show ad.add (0 * 2) = ad by simp [Addr.add]] at qa0
 refine ⟨hn, ad, rfl, ba, qa0, fun k hk => ?_⟩
 obtain ⟨ad', yA, yn, yc, e, -, z0, -, -, -⟩ := h.at_ (k := k + 1) (by simp [cfgV]; omega)
 injection e with e
 subst e
 rw [z0]
 simp [cfgV]
theorem shNumbers_any (st : Int) (cs : List Int) (s : Value) (w : World) (h : KB w w.heap.size s (cfgV st cs).ks) (h9 : cs.length ≤ 1000) : Calls Tryz.prog 52 #[.agg #[.int .i64 0, s]] w (IntsF w cs) := by
 obtain ⟨A, n, c, rfl, ln, bn, mn⟩ := h.form
 unfold maxLen at mn
 obtain ⟨rfl, -⟩ := cfg_at h
 obtain ⟨P, hP⟩ := sliced_form A 1 (cs.length + 1) c 2
 rw [Nat.add_sub_cancel] at hP
 have hc := fun W => cutV_l A (cs.length + 1) c 1 (by omega) W
 have hq := h.part (k := 1) (m := cs.length + 1) (by omega) (Nat.le_refl _)
 rw [hP] at hc hq
 rw [show ((cfgV st cs).ks.take (cs.length + 1)).drop 1 = cs.map (fun c => V.mk c []) by rw [List.take_of_length_le (by simp [cfgV])]; rfl] at hq
 push_cast at hc
 have HK := Lib.hid hq
 clear h ln hq hP
 obtain ⟨i0, hi, hz0, hz1, hz2⟩ := info_parts infoInt
 go_enter Tryz.func52, Tryz.ntmps52
 go_wp2_with fail
 refine wp_world (fun W => Hid (Bw w W)) (Lib.hid ((Bw.refl _).alloc _)) ?_
 clear hc
 intro W HW
 go_loopw [3, 10] (fun s3 i wr => ∃ k : Nat, k ≤ cs.length ∧ i = .int .i64 (k : Int) ∧ Hid (wr.ownsRow w.heap.size 3 1 s3 k (intVs (cs.take k)) ∧ Bw w wr)) (fun _ i _ => cs.length - (intOf i).toNat)
 case atStart => exact ⟨0, by omega, rfl, Lib.hid ⟨World.ownsRow_nil _ _ _ _, HW.out⟩⟩
 case round =>
   obtain ⟨k, hk, rfl, HR⟩ := hrel
   obtain ⟨hv, hw⟩ := HR.out
   obtain ⟨VA, vc, rfl, _, _⟩ := own_bounds hv
   by_cases hlt : k < cs.length
   · have hlt' : (k : Int) < (cs.length : Int) := by omega
     have e1 : k < (cs.map (fun c => V.mk c [])).length := by rw [List.length_map]; exact hlt
     obtain ⟨ad, sA, sn, sc, rfl, hb, q0, q1, sl, hs⟩ := (HK.out.bw hw).at_ e1
     replace q0 : wr.cell? (ad.add (k * 2)) = some (.int .i64 cs[k]) := by rw [q0]; simp
     have HT : Hid (intVs (cs.take (k + 1)) = intVs (cs.take k) ++ [.int .i64 cs[k]]) := Lib.hid (by rw [List.take_succ_eq_append_getElem hlt, ← intVs_append]; rfl)
     have HV := Lib.hid hv
     have HW := Lib.hid hw
     have hsw := hw.size
     clear hs sl hv hw HR
     generalize cs[k] = x at *
     go_wp2_with (at_builtin; go_must (refine wpList_append_any _ rfl _ _ 27 rfl w.heap.size 3 i0 _ 1 8 Tryz.underlying27 hi hz0 hz1 hz2 rfl (by decide) (.slice VA k vc) k (intVs (cs.take k)) rfl ((HV.out.alloc _).alloc _) (wr.heap.size + 1 + 1) (some ⟨wr.heap.size + 1, 0, none⟩) 1 1 [.int .i64 x] rfl (by have := reads_new1 (wr.alloc (.cells #[.int .i64 x, .slice sA sn sc] 31)) x; simpa only [World.size_alloc] using this) (by simp [Value.oneCell']) (by unfold maxLen; omega) (by omega) (by simp; omega) ?_; intro v7 w7 hown7 hgr7 hl7; obtain ⟨A7, c7, rfl⟩ := own_form hown7; (have HO7 := Lib.hid hown7); (have HG7 := Lib.hid hgr7); clear hown7 hgr7 hl7))
     go_roundw
     case rel =>
       refine ⟨k + 1, by omega, by go_num, Lib.hid ⟨?_, ?_⟩⟩
       · rw [HT.out]; exact HO7.out
       · exact Below.trans ((HW.out.alloc _).alloc _) (below_own (Below.refl w.heap.size _) ((HV.out.alloc _).alloc _) HG7.out (by simp; omega))
     case measure => simp [intOf]; omega
   · obtain rfl : k = cs.length := by omega
     have HV := Lib.hid hv
     have HW := Lib.hid hw
     clear hv hw HR
     go_wp2
     go_ret
     refine ⟨_, rfl, ?_, HW.out⟩
     have := HV.out
     rwa [List.take_of_length_le (Nat.le_refl _)] at this
end
section
open Go Go.ChangeShapes Go.WideShapes Go.ChangeAt Go.RowKit Go.Deep
section
variable {H : Type} {enc : TypeId × Value → H} {P : Program}
theorem trodAll_stays (hl : laidOutB P = true) {W W' : World} (hb : Below W.heap.size W W') : ∀ {ts : List TypeId} {vs : List Value} {ds : List (DataW H)} {ps : List MemPlace},
   (ts.all fun t => P.readableRec t && decide (t < P.types.size)) = true → DataW.TrodAll enc P W 0 (fun _ => true) true ts vs ds ps → (∀ x ∈ ps, x.block < W.heap.size) →
   DataW.TrodAll enc P W' 0 (fun b => decide (b < W.heap.size)) true ts vs ds ps := by
 intro ts
 induction ts with
 | nil =>
   intro vs ds ps _ h _
   obtain ⟨rfl, rfl, rfl⟩ := trodAll_nil h
   exact rfl
 | cons t ts ih =>
   intro vs ds ps hr h hlt
   obtain ⟨v, vs', d, ds', p, q, rfl, rfl, rfl, h1, h2⟩ := trodAll_cons h
   simp only [List.all_cons, Bool.and_eq_true, decide_eq_true_eq] at hr
   exact ⟨p, q, Below.trod hl hr.1.1 hr.1.2 h1 hb (fun x hx => hlt x (by simp [hx])), ih hr.2 h2 (fun x hx => hlt x (by simp [hx])), rfl⟩
theorem trodAll_lt {W : World} {base : Nat} {spare : Nat → Bool} {held : Bool} : ∀ {ts : List TypeId} {vs : List Value} {ds : List (DataW H)} {ps : List MemPlace}, DataW.TrodAll enc P W base spare held ts vs ds ps → ∀ x ∈ ps, x.block < W.heap.size := by
 intro ts
 induction ts with
 | nil =>
   intro vs ds ps h x hx
   obtain ⟨rfl, rfl, rfl⟩ := trodAll_nil h
   cases hx
 | cons t ts ih =>
   intro vs ds ps h x hx
   obtain ⟨v, vs', d, ds', p, q, rfl, rfl, rfl, ⟨m, h1⟩, h2⟩ := trodAll_cons h
   rcases List.mem_append.1 hx with hx | hx
   · exact DataW.trod_lt m _ _ _ h1 x hx
   · exact ih h2 x hx
end
end
end Go.Proofs.YthhbkabdhkdafaaGreat
