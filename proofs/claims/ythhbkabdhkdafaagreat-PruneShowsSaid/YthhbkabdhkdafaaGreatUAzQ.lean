/- Part of a proof of pruneShows_holds. -/
import Derived.Test.YthhbkabdhkdafaaGreatUAvQ
import Derived.Test.YthhbkabdhkdafaaGreatUAyQ
set_option linter.unusedSimpArgs false
set_option linter.unusedVariables false
set_option maxRecDepth 100000
set_option maxHeartbeats 16000000
namespace Go.Proofs.YthhbkabdhkdafaaGreat
section
open Go.RowKit
instance (n k : Nat) : Nonempty (FlatT (typF n k)) := ⟨⟨rfl, fun p hp => by
 rw [typF, T.parts_mk] at hp
 rcases List.mem_cons.1 hp with rfl | hp
 · exact .inr rfl
 · obtain ⟨_, rfl⟩ := List.mem_replicate.1 hp; exact .inl rfl⟩⟩
instance (m : Mdl) : Nonempty (FlatT m.t) := inferInstanceAs (Nonempty (FlatT (typF _ _)))
def encF : Enc T := ⟨4, fun t => [.int .i64 t.kind, .int .i64 t.size, .slice none 0 0, .slice none 0 0], fun _ => rfl, fun _ => []⟩
theorem EAt.pat {w : World} {S : Nat → Prop} {v : Value} {ts : List T} (h : EAt encF w S v ts) (hf : ∀ t ∈ ts, t.ranks = [] ∧ t.parts = []) : PAt w S v ts := by
 obtain ⟨Ad, n, c, rfl, h2, h3, h4, h5, h6⟩ := h
 refine .mk Ad n c ts (List.replicate n (.slice none 0 0)) (List.replicate n (.slice none 0 0)) h2 (by simp) (by simp) h3 h4 (fun hn => ?_) (fun k h h' => ?_) (fun k h h' => ?_)
 · obtain ⟨ad, rfl, hs, hc⟩ := h5 hn
   refine ⟨ad, rfl, hs, fun k hk hk' hk'' => ?_⟩
   have g : ∀ j u, j < 4 → ([Value.int .i64 ts[k].kind, .int .i64 ts[k].size, .slice none 0 0, .slice none 0 0] : List Value)[j]? = some u → w.cell? (ad.add (k * 4 + j)) = some u := fun j u hj hu => hc _ _ (by
     have := flat_get encF hk (j := j) hj
     exact this.trans hu)
   rw [List.getElem_replicate, ← add_off ad (k * 4) 0, ← add_off ad (k * 4) 1, ← add_off ad (k * 4) 2]
   exact ⟨g 0 _ (by omega) rfl, g 1 _ (by omega) rfl, g 2 _ (by omega) rfl, g 3 _ (by omega) rfl⟩
 · rw [List.getElem_replicate, (hf _ (List.getElem_mem h)).1]
   exact IAt.nil _ _ (Nat.zero_le _)
 · rw [List.getElem_replicate, (hf _ (List.getElem_mem h)).2]
   exact PAt.nil _ _ (Nat.zero_le _)
def TypePost (w : World) (t : T) (e : Ending) (w' : World) : Prop := ∃ pv, e = .returned (.agg #[.int .i64 3, .int .i64 0, .slice none 0 0, pv]) ∧ PAt w' (fun b => w.heap.size ≤ b ∧ b < w'.heap.size) pv t.parts ∧ Bw w w'
theorem reads_new4 (W : World) (t : TypeId) (x y : Int) (r p : Value) : Reads (W.alloc (.cells #[.int .i64 x, .int .i64 y, r, p] t)) (W.heap.size + 1) 4 (some ⟨W.heap.size, 0, none⟩) 1 [.int .i64 x, .int .i64 y, r, p] := reads_blk (n := 1) (Blk.new W t #[.int .i64 x, .int .i64 y, r, p]) (by omega) rfl
theorem one4 (x y : Int) (A A' : Option Addr) (n c n' c' : Nat) : ∀ u ∈ [Value.int .i64 x, .int .i64 y, .slice A n c, .slice A' n' c'], u.oneCell' = true := by simp [Value.oneCell']
theorem flat_parts (n k : Nat) : ∀ t ∈ (labT n :: List.replicate k natT), t.ranks = [] ∧ t.parts = [] := by
 intro t ht
 rcases List.mem_cons.1 ht with rfl | ht
 · exact ⟨rfl, rfl⟩
 · obtain ⟨_, rfl⟩ := List.mem_replicate.1 ht; exact ⟨rfl, rfl⟩
theorem typed_any (m : Mdl) (hm : MdlOk m) (sv pv rv kv : Value) (w : World) (h : MB w w.heap.size sv pv rv kv m) : Calls Tryz.prog 55 #[aggM sv pv rv kv] w (TypePost w m.t) := by
 obtain ⟨A1, c1, A2, c2, A3, c3, A4, c4, rfl, rfl, rfl, rfl⟩ := h.form
 have hb1 := hm.n1.2
 have hb2 := hm.k1.2
 unfold aggM
 have HT : Hid (m.t = typF m.ss.length m.ps.length) := Lib.hid rfl
 rw [HT.out]
 clear h hm HT
 generalize m.ss.length = n at *
 generalize m.ps.length = k0 at *
 generalize m.rs.length = q at *
 generalize 1 + m.cs.length = z at *
 obtain ⟨i0, hi, hz0, hz1, hz2⟩ := info_parts infoType
 unfold TypePost
 rw [show (typF n k0).parts = labT n :: List.replicate k0 natT from rfl]
 have TX := Lib.hid (mdbox (w := w) (sv := .slice A1 n c1) (pv := .slice A2 k0 c2) (rv := .slice A3 q c3) (kv := .slice A4 z c4))
 go_enter Tryz.func55, Tryz.ntmps55
 go_wp2_with (go_at_call 104; go_must (refine (label_any n _).mono ?_; rintro e w6 ⟨rfl, hg6⟩; (obtain ⟨y0, -, y1, y2, y3, y4, y5, y6, y7, y8, y9, y10⟩ := TX.out w6 (((Bw.refl _).alloc _).trans hg6)); (have HG6 := Lib.hid hg6); clear hg6))
 have HR1 : Hid (Blk w6 (w.heap.size + 1) 50 #[.int .i64 0, .int .i64 0, .slice none 0 0, .slice none 0 0]) := Lib.hid (by
   have h1 := Blk.new (w.alloc (.cells #[.int .i64 1, .slice A1 n c1, .slice A2 k0 c2, .slice none 0 0, .slice none 0 0, .int .i64 0, .int .i64 0, .slice A3 q c3, .int .i64 0, .slice A4 z c4] 33)) 50 #[.int .i64 0, .int .i64 0, .slice none 0 0, .slice none 0 0]
   rw [World.size_alloc] at h1
   exact h1.below HG6.out.b h1.lt)
 have HG7 : Hid (Bw (w.alloc (.cells #[.int .i64 1, .slice A1 n c1, .slice A2 k0 c2, .slice none 0 0, .slice none 0 0, .int .i64 0, .int .i64 0, .slice A3 q c3, .int .i64 0, .slice A4 z c4] 33)) w6) := Lib.hid (((Bw.refl _).alloc _).trans HG6.out)
 have HE0 : Hid (ERow encF (w6.alloc (.cells #[.int .i64 2, .int .i64 (n : Int), .slice none 0 0, .slice none 0 0] 50)) 50 w6.heap.size (fun _ => False) (.slice (some ⟨w6.heap.size, 0, none⟩) 1 1) [labT n]) := Lib.hid ⟨own_new w6 50 #[.int .i64 2, .int .i64 (n : Int), .slice none 0 0, .slice none 0 0] 4 (n := 1) rfl rfl, fun x _ q hq => by cases hq⟩
 go_loopw [3, 15] (fun s3 i wr => ∃ k : Nat, k ≤ k0 ∧ i = .int .i64 k ∧ Hid (ERow encF wr 50 w6.heap.size (fun _ => False) s3 (labT n :: List.replicate k natT) ∧ Bw w6 wr)) (fun _ i _ => k0 - (intOf i).toNat)
 case atStart => exact ⟨0, by omega, rfl, Lib.hid ⟨HE0.out, (Bw.refl _).alloc _⟩⟩
 case round =>
   clear y0 y1 y2 y3 y4 y5 y6 y7 y8 y9 y10 HE0
   obtain ⟨k, hk, rfl, HRR⟩ := hrel
   obtain ⟨he, hg⟩ := HRR.out
   obtain ⟨VA, vc, rfl, vb1, vb2⟩ := he.form
   have hln : (labT n :: List.replicate k natT).length = k + 1 := by simp
   rw [hln] at he
   obtain ⟨y0, yb, y1, y2, y3, y4, y5, y6, y7, y8, y9, y10⟩ := TX.out wr (HG7.out.trans hg)
   have hsz := hg.size
   have HE := Lib.hid he
   have HO : Hid (wr.ownsRow w6.heap.size 50 4 (.slice VA (k + 1) vc) (k + 1) ((labT n :: List.replicate k natT).flatMap encF.enc)) := Lib.hid (by have := he.own; rwa [hln] at this)
   have HG := Lib.hid hg
   rw [hln]
   by_cases hlt : k < k0
   · have HT : Hid (labT n :: List.replicate (k + 1) natT = (labT n :: List.replicate k natT) ++ [natT]) := Lib.hid (by rw [List.replicate_succ']; rfl)
     have HLN := Lib.hid hln
     clear he hg HRR yb hln
     generalize (labT n :: List.replicate k natT) = xs at *
     generalize hcl : xs.flatMap encF.enc = cl at *
     have HCL := Lib.hid hcl
     clear hcl
     go_wp2_with (at_builtin; go_must (refine wpList_append_any _ rfl _ _ 48 rfl w6.heap.size 50 i0 _ 4 64 Tryz.underlying48 hi hz0 hz1 hz2 rfl (by decide) (.slice VA (k + 1) vc) (k + 1) cl rfl ((HO.out.alloc _).alloc _) (wr.heap.size + 1 + 1) (some ⟨wr.heap.size + 1, 0, none⟩) 1 1 [.int .i64 1, .int .i64 0, .slice none 0 0, .slice none 0 0] rfl (by have := reads_new4 (wr.alloc (.cells #[.int .i64 1, .int .i64 0, .slice none 0 0, .slice none 0 0] 50)) 50 1 0 (.slice none 0 0) (.slice none 0 0); simpa only [World.size_alloc] using this) (one4 _ _ _ _ _ _ _ _) (by unfold maxLen; omega) (by omega) (by simp; omega) ?_; intro v7 w7 hown7 hgr7 hl7; obtain ⟨A7, c7, rfl⟩ := own_form hown7; (have HO7 := Lib.hid hown7); (have HG8 := Lib.hid hgr7); clear hown7 hgr7 hl7))
     go_roundw
     case rel =>
       refine ⟨k + 1, by omega, by go_num, Lib.hid ⟨?_, ?_⟩⟩
       · rw [HT.out]
         have h1 := (HE.out.bw (D' := fun _ => False) (((Bw.refl wr).alloc _).alloc _) (fun b hb => hb.elim)).push (x := natT) (v' := .slice A7 (k + 1 + 1) c7) (W := w7) (D' := fun _ => False) (fun q hq => by cases hq) (by
           have := HO7.out
           rw [← HCL.out] at this
           rw [HLN.out]
           exact this) HG8.out (fun b hb => hb.elim)
         exact h1
       · exact Below.trans ((HG.out.alloc _).alloc _) (below_own (Below.refl w6.heap.size _) ((HO.out.alloc _).alloc _) HG8.out (by simp; omega))
     case measure => simp [intOf]; omega
   · obtain rfl : k = k0 := by omega
     have HB := Lib.hid (HR1.out.below HG.out.b HR1.out.lt)
     have f0 := HB.out.cell 0
     have f1 := HB.out.cell 1
     have f2 := HB.out.cell 2
     have f3 := HB.out.cell 3
     have g0 := HB.out.frozen 0
     have g1 := HB.out.frozen 1
     have g2 := HB.out.frozen 2
     have g3 := HB.out.frozen 3
     have hlt := HB.out.lt
     clear he hg HRR yb hln
     go_wp2
     have HBB := Lib.hid (blk_set (i := 3) (.slice VA (k + 1) vc) (blk_set (i := 2) (.slice none 0 0) (blk_set (i := 1) (.int .i64 0) (blk_set (i := 0) (.int .i64 3) HB.out))))
     refine bodyPost_ret (results_cell_row (p := 2) (ty := 50) rfl _ _ (w.heap.size + 1) 50 _ (0, 0) _ rfl HBB.out Tryz.underlying50 rfl (by kernel_rfl)) rfl ?_
     have hz6 : w.heap.size + 2 ≤ w6.heap.size := by have := HG6.out.size; simpa using this
     have hgr := grownBy_setCell (p := ⟨w.heap.size + 1, 3, none⟩) (grownBy_setCell (p := ⟨w.heap.size + 1, 2, none⟩) (grownBy_setCell (p := ⟨w.heap.size + 1, 1, none⟩) (grownBy_setCell (p := ⟨w.heap.size + 1, 0, none⟩) (World.grownBy.refl wr (some (w.heap.size + 1))) (.inl rfl) (.int .i64 3)) (.inl rfl) (.int .i64 0)) (.inl rfl) (.slice none 0 0)) (.inl rfl) (.slice VA (k + 1) vc)
     have hkeep := HE.out.keep (D' := fun _ => False) hgr (.inr (fun e => by have := (HE.out.own.lt _ e.symm).1; omega)) (fun b hb => hb.elim)
     have hbw : Bw w wr := (((Bw.refl _).alloc _).trans (HG7.out.trans HG.out))
     refine ⟨_, rfl, ?_, Below.grown hbw hgr hbw.size (fun r e => by injection e with e; omega)⟩
     refine (hkeep.eat (S := fun b => w.heap.size ≤ b ∧ b < _) (fun b hb => hb.elim) (fun b hb => ?_)).pat (flat_parts n k)
     have := hkeep.own.lt b hb
     exact ⟨by omega, this.2⟩
theorem TypePost.tb {w : World} {m : Mdl} {pv : Value} {w' : World} (h : PAt w' (fun b => w.heap.size ≤ b ∧ b < w'.heap.size) pv m.t.parts) : TB w' w'.heap.size (.slice none 0 0) pv m.t :=
 ⟨IAt.nil _ _ (Nat.zero_le _), h.keep (fun b hb => hb.2) (fun _ _ => rfl)⟩
theorem begins_any (m : Mdl) (hm : MdlOk m) (sv pv rv kv : Value) (w : World) (h : MB w w.heap.size sv pv rv kv m) : Calls Tryz.prog 100 #[aggM sv pv rv kv] w (BoolPost w true) := by
 obtain ⟨A1, c1, A2, c2, A3, c3, A4, c4, rfl, rfl, rfl, rfl⟩ := h.form
 have CT : Hid (∀ W, Bw w W → Calls Tryz.prog 55 #[aggM (.slice A1 m.ss.length c1) (.slice A2 m.ps.length c2) (.slice A3 m.rs.length c3) (.slice A4 (1 + m.cs.length) c4)] W (TypePost W m.t)) := Lib.hid (fun W g => typed_any m hm _ _ _ _ W (h.bw g))
 have CV : Hid (∀ W pv', Bw w W → TB W W.heap.size (.slice none 0 0) pv' m.t → Calls Tryz.prog 54 #[.agg #[.int .i64 3, .int .i64 0, .slice none 0 0, pv'], .agg #[.int .i64 0, .slice A4 (1 + m.cs.length) c4]] W (BoolPost W true)) := Lib.hid (fun W pv' g hT => by
   have := ovalid_any m.t m.start (.slice none 0 0) pv' (.slice A4 (1 + m.cs.length) c4) W hT (h.k.bw g) true (validM hm hm.st)
   exact this)
 clear h hm
 unfold aggM at *
 unfold TypePost at CT
 generalize m.ss.length = n at *
 generalize m.ps.length = k0 at *
 generalize m.rs.length = q at *
 generalize 1 + m.cs.length = z at *
 have TX := Lib.hid (mdbox (w := w) (sv := .slice A1 n c1) (pv := .slice A2 k0 c2) (rv := .slice A3 q c3) (kv := .slice A4 z c4))
 go_enter Tryz.func100, Tryz.ntmps100
 go_wp2
 refine wp_world (fun W => Hid (Bw (w.alloc (.cells #[.int .i64 1, .slice A1 n c1, .slice A2 k0 c2, .slice none 0 0, .slice none 0 0, .int .i64 0, .int .i64 0, .slice A3 q c3, .int .i64 0, .slice A4 z c4] 33)) W)) (Lib.hid (Bw.refl _)) ?_
 intro W HW
 have KS : Hid (∀ w', Bw W w' → w'.cell? ⟨w.heap.size, 0, none⟩ = some (.int .i64 1) ∧ w'.cell? ⟨w.heap.size, 1, none⟩ = some (.slice A1 n c1) ∧ w'.cell? ⟨w.heap.size, 2, none⟩ = some (.slice A2 k0 c2) ∧ w'.cell? ⟨w.heap.size, 3, none⟩ = some (.slice none 0 0) ∧ w'.cell? ⟨w.heap.size, 4, none⟩ = some (.slice none 0 0) ∧
     w'.cell? ⟨w.heap.size, 5, none⟩ = some (.int .i64 0) ∧ w'.cell? ⟨w.heap.size, 6, none⟩ = some (.int .i64 0) ∧ w'.cell? ⟨w.heap.size, 7, none⟩ = some (.slice A3 q c3) ∧ w'.cell? ⟨w.heap.size, 8, none⟩ = some (.int .i64 0) ∧ w'.cell? ⟨w.heap.size, 9, none⟩ = some (.slice A4 z c4) ∧ Bw W w') := Lib.hid (fun w' g => by
   obtain ⟨_, _, a0, a1, a2, a3, a4, a5, a6, a7, a8, a9⟩ := TX.out w' (HW.out.trans g)
   exact ⟨a0, a1, a2, a3, a4, a5, a6, a7, a8, a9, g⟩)
 have HBW : Hid (∀ w', Bw W w' → Bw w w') := Lib.hid (fun w' g => (TX.out w' (HW.out.trans g)).2.1)
 clear TX HW
 generalize w.heap.size = y at *
 go_region_held3 (fun w' => w'.cell? ⟨y, 0, none⟩ = some (.int .i64 1) ∧ w'.cell? ⟨y, 1, none⟩ = some (.slice A1 n c1) ∧ w'.cell? ⟨y, 2, none⟩ = some (.slice A2 k0 c2) ∧ w'.cell? ⟨y, 3, none⟩ = some (.slice none 0 0) ∧ w'.cell? ⟨y, 4, none⟩ = some (.slice none 0 0) ∧ w'.cell? ⟨y, 5, none⟩ = some (.int .i64 0) ∧ w'.cell? ⟨y, 6, none⟩ = some (.int .i64 0) ∧ w'.cell? ⟨y, 7, none⟩ = some (.slice A3 q c3) ∧ w'.cell? ⟨y, 8, none⟩ = some (.int .i64 0) ∧ w'.cell? ⟨y, 9, none⟩ = some (.slice A4 z c4) ∧ Bw W w')
   (first | (refine KS.out _ ?_; first | exact (Bw.refl _).drew | exact (Bw.refl _).drew.trans hg6 | exact ((Bw.refl _).drew.trans hg6).trans hg7))
   (first
     | (go_at_call 55; (with_reducible refine (CT.out _ (HBW.out _ (Bw.refl _).drew)).mono ?_); rintro e6 w6 ⟨pv6, rfl, hp6, hg6⟩; obtain ⟨A6, n6, c6, rfl, _, _, _⟩ := hp6.form)
     | (go_at_call 54; (with_reducible refine (CV.out _ _ (HBW.out _ ((Bw.refl _).drew.trans hg6)) (TypePost.tb hp6)).mono ?_); rintro e7 w7 ⟨rfl, hg7⟩))
 go_wp2
 go_ret
 exact ⟨rfl, HBW.out _ (((Bw.refl _).drew.trans hg6).trans hg7)⟩
theorem idxRul_none (rs : List Rul) (g : Nat) (cb : Array Value) (eg : ∀ args w, (callFunc g args).run Tryz.prog w = .ok (.enter g args) w) (s : Value) (w : World) (h : RlsAt w (· < w.heap.size) s rs)
   (hc : ∀ r ∈ rs, ∀ (nd gv : Value) (W : World), Bw w W → IB W W.heap.size nd r.need → IB W W.heap.size gv r.give → Calls Tryz.prog g (#[aggR r nd gv] ++ cb) W (BoolPost W false)) :
   Calls Tryz.prog 157 #[s, .func (.func g) #[] cb] w (NumPost w (-1)) := by
 obtain ⟨A, n, c, rfl, ln, bn, mn⟩ := h.form
 unfold maxLen at mn
 have HC := Lib.hid hc
 have H := Lib.hid h
 have LN := Lib.hid ln
 clear hc h ln
 go_enter Tryz.func157, Tryz.ntmps157
 go_wp2
 go_loopw [5, 8] (fun _ i wr => ∃ k : Nat, k ≤ n ∧ i = .int .i64 k ∧ Hid (Bw w wr)) (fun _ i _ => n - (intOf i).toNat)
 case atStart => exact ⟨0, by omega, rfl, Lib.hid (Bw.refl _)⟩
 case round =>
   obtain ⟨k, hk, rfl, HR⟩ := hrel
   have hg := HR.out
   by_cases hlt : k < n
   · have e1 : k < rs.length := by rw [LN.out]; exact hlt
     obtain ⟨ad, B1, n1, d1, B2, n2, d2, rfl, hb, hri, hn1, hn2⟩ := (H.out.bw hg).at_ e1
     obtain ⟨x0, x1, x2, x3, x4, x5, x6, x7, x8, x9, x10, x11, x12, x13⟩ := hri
     have CM := Lib.hid (HC.out _ (List.getElem_mem e1) _ _ _ hg hn1 hn2)
     have HG := Lib.hid hg
     clear hg HR hn1 hn2
     unfold aggR at CM
     generalize rs[k].nm = nm at *
     generalize rs[k].fr = fr at *
     generalize rs[k].tz = t9 at *
     go_wp2_with (go_at_fn g; go_must (refine CM.out.mono ?_; rintro e w6 ⟨rfl, hg6⟩; (have HG6 := Lib.hid hg6); clear hg6))
     go_roundw
     case rel => exact ⟨k + 1, by omega, by go_num, Lib.hid (HG.out.trans HG6.out)⟩
     case measure => simp [intOf]; omega
   · obtain rfl : k = n := by omega
     have HG := Lib.hid hg
     clear hg HR
     go_wp2
     go_ret
     exact ⟨rfl, HG.out⟩
theorem contRul_none (rs : List Rul) (g : Nat) (cb : Array Value) (eg : ∀ args w, (callFunc g args).run Tryz.prog w = .ok (.enter g args) w) (s : Value) (w : World) (h : RlsAt w (· < w.heap.size) s rs)
   (hc : ∀ r ∈ rs, ∀ (nd gv : Value) (W : World), Bw w W → IB W W.heap.size nd r.need → IB W W.heap.size gv r.give → Calls Tryz.prog g (#[aggR r nd gv] ++ cb) W (BoolPost W false)) :
   Calls Tryz.prog 97 #[s, .func (.func g) #[] cb] w (BoolPost w false) := by
 have CI := Lib.hid (idxRul_none rs g cb eg s w h hc)
 obtain ⟨A, n, c, rfl, _, _, _⟩ := h.form
 clear hc h
 go_enter Tryz.func97, Tryz.ntmps97
 go_wp2_with (go_at_call 157; go_must (refine CI.out.mono ?_; rintro e w6 ⟨rfl, hg6⟩))
 go_ret
 exact ⟨rfl, hg6⟩
theorem check1_any (m : Mdl) (hm : MdlOk m) (r : Rul) (hr : RulOk m.ss.length m.ps.length r) (g : Nat) (sv pv rv kv nd gv : Value) (w : World) (hb : Blk w g 33 #[.int .i64 1, sv, pv, .slice none 0 0, .slice none 0 0, .int .i64 0, .int .i64 0, rv, .int .i64 0, kv])
   (h : MB w w.heap.size sv pv rv kv m) (h1 : IB w w.heap.size nd r.need) (h2 : IB w w.heap.size gv r.give) :
   Calls Tryz.prog 98 (#[aggR r nd gv] ++ #[.pointer (some ⟨g, 0, none⟩)]) w (BoolPost w false) := by
 obtain ⟨A1, c1, A2, c2, A3, c3, A4, c4, rfl, rfl, rfl, rfl⟩ := h.form
 obtain ⟨B1, n1, d1, rfl, _, _, _⟩ := h1.form
 obtain ⟨B2, n2, d2, rfl, _, _, _⟩ := h2.form
 have CR : Hid (∀ o, Calls Tryz.prog 99 #[aggM (.slice A1 m.ss.length c1) (.slice A2 m.ps.length c2) (.slice A3 m.rs.length c3) (.slice A4 (1 + m.cs.length) c4), aggR r (.slice B1 n1 d1) (.slice B2 n2 d2)] (w.alloc o) (BoolPost (w.alloc o) true)) := Lib.hid (fun o => mright_any m hm r hr _ _ _ _ _ _ _ (h.bw ((Bw.refl _).alloc _)) (h1.bw ((Bw.refl _).alloc _)) (h2.bw ((Bw.refl _).alloc _)))
 have q0 := hb.cell 0
 have q1 := hb.cell 1
 have q2 := hb.cell 2
 have q3 := hb.cell 3
 have q4 := hb.cell 4
 have q5 := hb.cell 5
 have q6 := hb.cell 6
 have q7 := hb.cell 7
 have q8 := hb.cell 8
 have q9 := hb.cell 9
 have ql := hb.lt
 clear h h1 h2 hr hm hb
 unfold aggR aggM at *
 generalize r.nm = nm at *
 generalize r.fr = fr at *
 generalize r.tz = t9 at *
 generalize m.ss.length = n at *
 generalize m.ps.length = k at *
 generalize m.rs.length = q at *
 generalize 1 + m.cs.length = z at *
 go_enter Tryz.func98, Tryz.ntmps98
 go_wp2_with (go_at_call 99; go_must (refine (CR.out _).mono ?_; rintro e w6 ⟨rfl, hg6⟩))
 go_ret
 exact ⟨rfl, ((Bw.refl _).alloc _).trans hg6⟩
theorem mdCheck_any (m : Mdl) (hm : MdlOk m) (hn : NmOk m) (sv pv rv kv : Value) (w : World) (h : MB w w.heap.size sv pv rv kv m) : Calls Tryz.prog 53 #[aggM sv pv rv kv] w (NumPost w 0) := by
 obtain ⟨A1, c1, A2, c2, A3, c3, A4, c4, rfl, rfl, rfl, rfl⟩ := h.form
 have C1 : Hid (∀ W, Bw w W → Calls Tryz.prog 94 #[aggM (.slice A1 m.ss.length c1) (.slice A2 m.ps.length c2) (.slice A3 m.rs.length c3) (.slice A4 (1 + m.cs.length) c4)] W (BoolPost W true)) := Lib.hid (fun W g => sized_any m hm hn.len _ _ _ _ W (h.bw g))
 have C2 : Hid (∀ W, Calls Tryz.prog 95 #[aggM (.slice A1 m.ss.length c1) (.slice A2 m.ps.length c2) (.slice A3 m.rs.length c3) (.slice A4 (1 + m.cs.length) c4)] W (BoolPost W true)) := Lib.hid (fun W => ranked_one _ _ _ _ W)
 have C3 : Hid (∀ W, Bw w W → Calls Tryz.prog 96 #[aggM (.slice A1 m.ss.length c1) (.slice A2 m.ps.length c2) (.slice A3 m.rs.length c3) (.slice A4 (1 + m.cs.length) c4)] W (BoolPost W true)) := Lib.hid (fun W g => mnamed_any m hm hn _ _ _ _ W (h.bw g))
 have C4 : Hid (∀ W, Bw (w.alloc (.cells #[.int .i64 1, .slice A1 m.ss.length c1, .slice A2 m.ps.length c2, .slice none 0 0, .slice none 0 0, .int .i64 0, .int .i64 0, .slice A3 m.rs.length c3, .int .i64 0, .slice A4 (1 + m.cs.length) c4] 33)) W → Calls Tryz.prog 97 #[.slice A3 m.rs.length c3, .func (.func 98) #[] #[.pointer (some ⟨w.heap.size, 0, none⟩)]] W (BoolPost W false)) := Lib.hid (fun W g => by
   have gw : Bw w W := ((Bw.refl _).alloc _).trans g
   have hb := (Blk.new w 33 #[.int .i64 1, .slice A1 m.ss.length c1, .slice A2 m.ps.length c2, .slice none 0 0, .slice none 0 0, .int .i64 0, .int .i64 0, .slice A3 m.rs.length c3, .int .i64 0, .slice A4 (1 + m.cs.length) c4]).below g.b (by simp)
   exact contRul_none m.rs 98 _ (enters_of Tryz.func98 (by kernel_rfl) rfl) _ W (h.r.bw gw) (fun r hr nd gv W' g' i1 i2 => check1_any m hm r (hm.ru r hr) w.heap.size _ _ _ _ nd gv W' (hb.below g'.b hb.lt) (h.bw (gw.trans g')) i1 i2))
 have C5 : Hid (∀ W, Bw w W → Calls Tryz.prog 100 #[aggM (.slice A1 m.ss.length c1) (.slice A2 m.ps.length c2) (.slice A3 m.rs.length c3) (.slice A4 (1 + m.cs.length) c4)] W (BoolPost W true)) := Lib.hid (fun W g => begins_any m hm _ _ _ _ W (h.bw g))
 clear h hm hn
 unfold aggM at *
 generalize m.ss.length = n at *
 generalize m.ps.length = k at *
 generalize m.rs.length = q at *
 generalize 1 + m.cs.length = z at *
 have TX := Lib.hid (mdbox (w := w) (sv := .slice A1 n c1) (pv := .slice A2 k c2) (rv := .slice A3 q c3) (kv := .slice A4 z c4))
 have HB : Hid (Bw w (w.alloc (.cells #[.int .i64 1, .slice A1 n c1, .slice A2 k c2, .slice none 0 0, .slice none 0 0, .int .i64 0, .int .i64 0, .slice A3 q c3, .int .i64 0, .slice A4 z c4] 33))) := Lib.hid ((Bw.refl _).alloc _)
 go_enter Tryz.func53, Tryz.ntmps53
 go_wp2_with (first
   | (go_at_call 93; go_must (refine (between_in _ _ _ _ (by omega) (by omega)).mono ?_; rintro e w' ⟨rfl, rfl⟩))
   | (go_at_call 94; go_must (refine (C1.out _ HB.out).mono ?_; rintro e w1 ⟨rfl, hg⟩; (obtain ⟨y0, -, y1, y2, y3, y4, y5, y6, y7, y8, y9, y10⟩ := TX.out _ hg); (have HG1 := Lib.hid hg); clear hg))
   | (go_at_call 95; go_must (refine (C2.out _).mono ?_; rintro e w2 ⟨rfl, hg⟩; (have hg := HG1.out.trans hg); (obtain ⟨z0, -, z1, z2, z3, z4, z5, z6, z7, z8, z9, z10⟩ := TX.out _ hg); (have HG2 := Lib.hid hg); clear hg))
   | (go_at_call 96; go_must (refine (C3.out _ (HB.out.trans HG2.out)).mono ?_; rintro e w3 ⟨rfl, hg⟩; (have hg := HG2.out.trans hg); (obtain ⟨x0, -, x1, x2, x3, x4, x5, x6, x7, x8, x9, x10⟩ := TX.out _ hg); (have HG3 := Lib.hid hg); clear hg))
   | (go_at_call 97; go_must (refine (C4.out _ HG3.out).mono ?_; rintro e w4 ⟨rfl, hg⟩; (have hg := HG3.out.trans hg); (obtain ⟨u0, -, u1, u2, u3, u4, u5, u6, u7, u8, u9, u10⟩ := TX.out _ hg); (have HG4 := Lib.hid hg); clear hg))
   | (go_at_call 100; go_must (refine (C5.out _ (HB.out.trans HG4.out)).mono ?_; rintro e w5 ⟨rfl, hg⟩; (have HG5 := Lib.hid (HG4.out.trans hg)); clear hg)))
 go_ret
 exact ⟨rfl, HB.out.trans HG5.out⟩
end
end Go.Proofs.YthhbkabdhkdafaaGreat
