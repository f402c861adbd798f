/- Part of a proof of coverSearches_holds. -/
import Derived.Test.YthhbkabdhkdafaaGreatVBdP
import Derived.Test.YthhbkabdhkdafaaGreatVAzP
import Derived.Test.YthhbkabdhkdafaaGreatVBaP
set_option linter.unusedSimpArgs false
set_option linter.unusedVariables false
set_option maxRecDepth 100000
set_option maxHeartbeats 16000000
namespace Go.Proofs.YthhbkabdhkdafaaGreat
section
open Go.RowKit
structure DiceAt (w : World) (b : Nat) (A : Option Addr) (n c : Nat) (zs : List Int) (at_ : Nat) : Prop where
 blk : w.heap[b]? = some (.cells #[.slice A n c, .int .i64 at_] 71 (0, 0))
 rd : ∀ k, k < n → ∃ ad : Addr, A = some ad ∧ ad.block < b ∧ w.cell? (ad.add k) = some (.int .u8 (zs.getD k 0)) ∧ 0 ≤ zs.getD k 0 ∧ zs.getD k 0 ≤ 255
 le : at_ ≤ n
 small : n ≤ 200
theorem DiceAt.c0 {w : World} {b : Nat} {A : Option Addr} {n c : Nat} {zs : List Int} {at_ : Nat} (h : DiceAt w b A n c zs at_) :
   w.cell? ⟨b, 0, none⟩ = some (.slice A n c) ∧ w.cell? ⟨b, 1, none⟩ = some (.int .i64 at_) ∧ w.frozen? ⟨b, 1, none⟩ = false := by
 simp [World.cell?, World.frozen?, h.blk]
def DiceOk (w : World) (b : Nat) : Prop := ∃ (A : Option Addr) (n c : Nat) (zs : List Int) (at_ : Nat), DiceAt w b A n c zs at_
theorem DiceOk.grown {w w' : World} {b : Nat} {row : Option Nat} (h : DiceOk w b) (hg : w.grownBy w' row) (hr : ∀ r, row = some r → b < r) : DiceOk w' b := by
 obtain ⟨A, n, c, zs, at_, h⟩ := h
 have hlt : b < w.heap.size := by
   rcases Nat.lt_or_ge b w.heap.size with hlt | hge
   · exact hlt
   · have := h.blk; rw [Array.getElem?_eq_none hge] at this; cases this
 refine ⟨A, n, c, zs, at_, (hg.block b hlt (fun e => by have := hr _ e.symm; omega)).trans h.blk, fun k hk => ?_, h.le, h.small⟩
 obtain ⟨ad, e, hl, hc, hz⟩ := h.rd k hk
 refine ⟨ad, e, hl, ?_, hz⟩
 rw [← hc]
 exact World.cell?_of_block (hg.block _ (by rw [add_block]; omega) (fun e => by rw [add_block] at e; have := hr _ e.symm; omega))
theorem DiceOk.drewN {w : World} {b : Nat} (h : DiceOk w b) (n : Nat) : DiceOk (w.drewN n) b := by
 obtain ⟨A, m, c, zs, at_, h⟩ := h
 exact ⟨A, m, c, zs, at_, h.blk, h.rd, h.le, h.small⟩
theorem DiceOk.below {w w' : World} {b B : Nat} (h : DiceOk w b) (hb : Below B w w') (hB : b < B) : DiceOk w' b := by
 obtain ⟨A, n, c, zs, at_, h⟩ := h
 refine ⟨A, n, c, zs, at_, (hb.block b hB).trans h.blk, fun k hk => ?_, h.le, h.small⟩
 obtain ⟨ad, e, hl, hc, hz⟩ := h.rd k hk
 exact ⟨ad, e, hl, (hb.cell (by rw [add_block]; omega)).trans hc, hz⟩
theorem DiceOk.lt {w : World} {b : Nat} (h : DiceOk w b) : b < w.heap.size := by
 obtain ⟨A, n, c, zs, at_, h⟩ := h
 rcases Nat.lt_or_ge b w.heap.size with hlt | hge
 · exact hlt
 · have := h.blk; rw [Array.getElem?_eq_none hge] at this; cases this
def PickPost (w : World) (b : Nat) (n : Int) (e : Ending) (w' : World) : Prop := ∃ r : Nat, e = .returned (.int .i64 (r : Int)) ∧ (r : Int) < n ∧ DiceOk w' b ∧ w.grownBy w' (some b)
theorem ppick_any (w : World) (b : Nat) (hd : DiceOk w b) (n : Int) (h1 : 1 ≤ n) (hn : n ≤ 100000) :
   Calls Tryz.prog 10 #[.pointer (some ⟨b, 0, none⟩), .int .i64 n] w (PickPost w b n) := by
 have HD := Lib.hid hd
 obtain ⟨A, m, c, zs, at_, h⟩ := hd
 obtain ⟨h0, h1', f1⟩ := h.c0
 have hsm := h.small
 by_cases hlt : at_ < m
 · obtain ⟨ad, rfl, hb, hc, z0, z1⟩ := h.rd at_ hlt
   have H := Lib.hid h
   clear h
   generalize zs.getD at_ 0 = x at hc z0 z1
   have g1 : decide ((m : Int) ≤ at_) = false := by simp; omega
   have g2 : ∀ q, ((w.drewN q).setCell ⟨b, 1, none⟩ (.int .i64 ((at_ : Int) + 1))).cell? ⟨b, 0, none⟩ = some (.slice (some ad) m c) := fun q => (World.cell?_setCell_other _ _ _ _ (by intro e; cases e)).trans h0
   have g3 : ∀ q, ((w.drewN q).setCell ⟨b, 1, none⟩ (.int .i64 ((at_ : Int) + 1))).cell? (ad.add at_) = some (.int .u8 x) := fun q => (World.cell?_setCell_other _ _ _ _ (by intro e; have := congrArg Addr.block e; rw [add_block] at this; simp at this; omega)).trans hc
   have g4 : ∀ q, ((w.drewN q).setCell ⟨b, 1, none⟩ (.int .i64 ((at_ : Int) + 1))).cell? ⟨b, 1, none⟩ = some (.int .i64 ((at_ : Int) + 1)) := fun q => World.cell?_setCell_same _ _ _ h1'
   have dw : IntKind.i64.wrap (at_ : Int) = at_ := wrapI64 at_ (by omega)
   have dw1 : IntKind.i64.wrap ((at_ : Int) + 1 - 1) = at_ := by rw [show (at_ : Int) + 1 - 1 = at_ from by omega]; exact dw
   go_enter Tryz.func10, Tryz.ntmps10
   go_wp2_with fail
   go_quiet (fail)
   go_wp2_with fail
   go_quiet (fail)
   go_wp2_with fail
   go_ret
   obtain ⟨r, hr⟩ := Int.eq_ofNat_of_zero_le (Int.emod_nonneg x (show n ≠ 0 by omega))
   have hrn := Int.emod_lt_of_pos x (show 0 < n by omega)
   refine ⟨r, by rw [← hr]; rfl, by omega, ?_, grownBy_drewN (grownBy_setCell (p := ⟨b, 1, none⟩) (grownBy_drewN (World.grownBy.refl _ _) _) (.inl rfl) _) _⟩
   have h := H.out
   refine DiceOk.drewN (w := (w.drewN _).setCell _ _) ⟨some ad, m, c, zs, at_ + 1, blk_set (w := w.drewN _) (i := 1) _ h.blk, fun k hk => ?_, by omega, hsm⟩ _
   obtain ⟨ad', e, hl, hc', hz⟩ := h.rd k hk
   exact ⟨ad', e, hl, (World.cell?_setCell_other _ _ _ _ (by intro e; have := congrArg Addr.block e; rw [add_block] at this; simp at this; omega)).trans hc', hz⟩
 · have g1 : decide ((m : Int) ≤ at_) = true := by simp; omega
   have H := Lib.hid h
   clear h
   go_enter Tryz.func10, Tryz.ntmps10
   go_wp2_with fail
   go_quiet (fail)
   go_wp2_with fail
   go_ret
   exact ⟨0, rfl, by omega, HD.out.drewN _, grownBy_drewN (World.grownBy.refl _ _) _⟩
def PNewPost (w : World) (e : Ending) (w' : World) : Prop := e = .returned (.pointer (some ⟨w.heap.size, 0, none⟩)) ∧ DiceOk w' w.heap.size ∧ Below w.heap.size w w'
theorem pnew_any (w : World) (A : Option Addr) (n c : Nat) (zs : List Int) (hn : n ≤ c) (hc63 : c ≤ 9223372036854775807)
   (hr : ∀ k, k < n → ∃ ad : Addr, A = some ad ∧ ad.block < w.heap.size ∧ w.cell? (ad.add k) = some (.int .u8 (zs.getD k 0)) ∧ 0 ≤ zs.getD k 0 ∧ zs.getD k 0 ≤ 255) :
   Calls Tryz.prog 7 #[.slice A n c] w (PNewPost w) := by
 by_cases h : n ≤ 200
 · have g : decide (200 < (n : Int)) = false := by simp; omega
   go_enter Tryz.func7, Tryz.ntmps7
   go_wp2
   go_ret
   refine ⟨rfl, ⟨A, n, c, zs, 0, heap_alloc_new w _, fun k hk => ?_, by omega, h⟩, (Below.refl _ _).alloc (Nat.le_refl _) _⟩
   obtain ⟨ad, e, hl, hc, hz⟩ := hr k hk
   exact ⟨ad, e, hl, (World.cell?_alloc_lt w _ _ (by rw [add_block]; omega)).trans hc, hz⟩
 · have g : decide (200 < (n : Int)) = true := by simp; omega
   obtain ⟨ad, rfl, hl0, _⟩ := hr 0 (by omega)
   go_enter Tryz.func7, Tryz.ntmps7
   go_wp2
   go_ret
   refine ⟨rfl, ⟨some ad, 200, c, zs, 0, heap_alloc_new w _, fun k hk => ?_, by omega, Nat.le_refl _⟩, (Below.refl _ _).alloc (Nat.le_refl _) _⟩
   obtain ⟨ad', e, hl, hc, hz⟩ := hr k (by omega)
   exact ⟨ad', e, hl, (World.cell?_alloc_lt w _ _ (by rw [add_block]; omega)).trans hc, hz⟩
theorem typF_parts {n k : Nat} {p : T} (h : p ∈ (typF n k).parts) : p = labT n ∨ p = natT := by
 rw [typF, T.parts_mk] at h
 rcases List.mem_cons.1 h with h | h
 · exact .inl h
 · exact .inr (List.eq_of_mem_replicate h)
theorem r6of_flat (n k : Nat) : OfSays (typF n k) (oneP 8 (typF n k)) := by
 refine (r6of_k3 (typF n k) (oneP 7) rfl fun p hp => ?_).of_eq fun v => by
   rw [oneP.eq_2 (d := 7)]
   simp only [typF, T.kind_mk, T.parts_mk, show ¬ ((3 : Int) = 1) by decide, show ¬ ((3 : Int) = 2) by decide, if_false, if_true]
   rfl
 rcases typF_parts hp with rfl | rfl
 · exact (r6of_k2 (labT n) rfl).of_eq fun v => rfl
 · exact (r6of_k1 natT rfl).of_eq fun v => rfl
theorem r6below_flat (n k : Nat) : BelSaysR (typF n k) (oneP 8 (typF n k)) (belowP 8 (typF n k)) := by
 refine (r6bel_k3 (typF n k) _ (oneP 7) (belowP 7) rfl (fun v hv => ?_) (fun p hp => ?_)).of_eq fun a b => by
   rw [belowP.eq_2 (d := 7)]
   simp only [typF, T.kind_mk, T.parts_mk, show ¬ ((3 : Int) = 1) by decide, show ¬ ((3 : Int) = 2) by decide, if_false, if_true]
 · obtain ⟨s, cs, rfl, s0, s1, hl, hc⟩ := one_flat.1 hv
   refine ⟨by simp [typF, cfgV, hl], fun j h h' => ?_⟩
   rw [oneP.eq_2 (d := 7)] at hv
   simp only [typF, T.kind_mk, T.parts_mk, show ¬ ((3 : Int) = 1) by decide, show ¬ ((3 : Int) = 2) by decide, if_false, if_true, Bool.and_eq_true] at hv
   exact oneZ_get hv.2 j h h'
 · rcases typF_parts hp with rfl | rfl
   · exact (r6bel_k2 (labT n) _ rfl).of_eq fun a b => rfl
   · exact (r6bel_k1 natT _ rfl).of_eq fun a b => rfl
theorem r6ValidM (m : Mdl) (v : V) (rv pv s : Value) (w : World) (hT : TB w w.heap.size rv pv m.t) (h : KB w w.heap.size s v.ks) (b : Bool) (hb : validP m.t v = b) :
   Calls Tryz.prog 42 #[.agg #[.int .i64 m.t.kind, .int .i64 m.t.size, rv, pv], .agg #[.int .i64 v.n, s]] w (BoolPost w b) := r6Valid_of m.t (fun _ => r6of_flat _ _) v rv pv s w hT h b hb
theorem r6leqM (M : Mdl) (a b : V) (ha : validP M.t a = true) (hb : validP M.t b = true) (rv pv s1 s2 : Value) (w : World) (hT : TB w w.heap.size rv pv M.t) (h1 : KB w w.heap.size s1 a.ks) (h2 : KB w w.heap.size s2 b.ks) :
   Calls Tryz.prog 19 #[aggT M.t rv pv, aggV a s1, aggV b s2] w (BoolPost w (belowP 8 M.t a b)) := by
 obtain ⟨A, n, c, rfl, _, _, _⟩ := h1.form
 obtain ⟨B, m, e, rfl, _, _, _⟩ := h2.form
 obtain ⟨A1, rn, c1, rfl, _, _⟩ := hT.1.form'
 obtain ⟨A2, pn, c2, rfl, _, _, _⟩ := hT.2.form
 have hr : rightP 8 M.t = true := by simp only [validP, Bool.and_eq_true] at ha; exact ha.1.1
 have oa : oneP 8 M.t a = true := by simp only [validP, Bool.and_eq_true] at ha; exact ha.2
 have ob : oneP 8 M.t b = true := by simp only [validP, Bool.and_eq_true] at hb; exact hb.2
 have V1 : Hid (∀ W, Bw w W → Calls Tryz.prog 42 #[.agg #[.int .i64 M.t.kind, .int .i64 M.t.size, .slice A1 rn c1, .slice A2 pn c2], .agg #[.int .i64 a.n, .slice A n c]] W (BoolPost W true)) := Lib.hid (fun W g => r6ValidM M a _ _ _ W (TAt.bw hT g) (h1.bw g) true ha)
 have V2 : Hid (∀ W, Bw w W → Calls Tryz.prog 42 #[.agg #[.int .i64 M.t.kind, .int .i64 M.t.size, .slice A1 rn c1, .slice A2 pn c2], .agg #[.int .i64 b.n, .slice B m e]] W (BoolPost W true)) := Lib.hid (fun W g => r6ValidM M b _ _ _ W (TAt.bw hT g) (h2.bw g) true hb)
 have CM : Hid (∀ W, Bw w W → Calls Tryz.prog 43 #[.agg #[.int .i64 M.t.kind, .int .i64 M.t.size, .slice A1 rn c1, .slice A2 pn c2], .agg #[.int .i64 a.n, .slice A n c], .agg #[.int .i64 b.n, .slice B m e]] W (BoolPost W (belowP 8 M.t a b))) := Lib.hid (fun W g => r6below_flat _ _ a b oa ob _ _ _ _ W (TAt.bw hT g) (h1.bw g) (h2.bw g))
 have HB := Lib.hid (boxes3 w (.int .i64 M.t.kind) (.int .i64 M.t.size) (.slice A1 rn c1) (.slice A2 pn c2) (.int .i64 a.n) (.slice A n c) (.int .i64 b.n) (.slice B m e))
 unfold aggT aggV
 clear ha hb hT h1 h2 hr oa ob
 generalize belowP 8 M.t a b = q at *
 generalize a.n = x at *
 generalize b.n = y at *
 generalize M.t.size = z at *
 generalize M.t.kind = k at *
 have HF : Hid (∀ W, Bw (((w.alloc (.cells #[.int .i64 k, .int .i64 z, .slice A1 rn c1, .slice A2 pn c2] 50)).alloc (.cells #[.int .i64 x, .slice A n c] 31)).alloc (.cells #[.int .i64 y, .slice B m e] 31)) W → (W.cell? ⟨w.heap.size, 0, none⟩ = some (.int .i64 k) ∧ W.cell? ⟨w.heap.size, 1, none⟩ = some (.int .i64 z) ∧ W.cell? ⟨w.heap.size, 2, none⟩ = some (.slice A1 rn c1) ∧ W.cell? ⟨w.heap.size, 3, none⟩ = some (.slice A2 pn c2)) ∧ W.cell? ⟨w.heap.size + 1, 0, none⟩ = some (.int .i64 x) ∧ W.cell? ⟨w.heap.size + 1, 1, none⟩ = some (.slice A n c) ∧ W.cell? ⟨w.heap.size + 2, 0, none⟩ = some (.int .i64 y) ∧ W.cell? ⟨w.heap.size + 2, 1, none⟩ = some (.slice B m e)) := Lib.hid (fun W g => by
   obtain ⟨h0, b1, b2, b3⟩ := HB.out
   have c1' := b1.below g.b b1.lt
   have c2' := b2.below g.b b2.lt
   have c3' := b3.below g.b b3.lt
   exact ⟨⟨c1'.cell 0, c1'.cell 1, c1'.cell 2, c1'.cell 3⟩, c2'.cell 0, c2'.cell 1, c3'.cell 0, c3'.cell 1⟩)
 go_enter Tryz.func19, Tryz.ntmps19
 go_wp2_with (first
   | (go_at_call 42; (with_reducible refine (V1.out _ HB.out.1).mono ?_); rintro e6 w6 ⟨rfl, hg6⟩; (have HG6 := Lib.hid hg6); (have K6 := Lib.hid (HF.out _ hg6)); obtain ⟨⟨t0, t1, t2, t3⟩, t4, t5, t6, t7⟩ := K6.out; clear hg6 K6)
   | (go_at_call 42; go_must ((with_reducible refine (V2.out _ (HB.out.1.trans HG6.out)).mono ?_); rintro e7 w7 ⟨rfl, hg7⟩; (have HG7 := Lib.hid (HG6.out.trans hg7)); (have K7 := Lib.hid (HF.out _ HG7.out)); obtain ⟨⟨u0, u1, u2, u3⟩, u4, u5, u6, u7⟩ := K7.out; clear hg7 K7))
   | (go_at_call 43; go_must ((with_reducible refine (CM.out _ (HB.out.1.trans HG7.out)).mono ?_); rintro e8 w8 ⟨rfl, hg8⟩; (have HG8 := Lib.hid hg8); clear hg8)))
 go_ret
 exact ⟨rfl, HB.out.1.trans (HG7.out.trans HG8.out)⟩
theorem qCheck_any (m : Mdl) (hm : MdlOk m) (hn : NmOk m) (sv pv rv kv : Value) (w : World) (h : MB w w.heap.size sv pv rv kv m) : Calls Tryz.prog 34 #[aggM sv pv rv kv] w (NumPost w 0) := by
 obtain ⟨A1, c1, A2, c2, A3, c3, A4, c4, rfl, rfl, rfl, rfl⟩ := h.form
 have C1 : Hid (∀ W, Bw w W → Calls Tryz.prog 58 #[aggM (.slice A1 m.ss.length c1) (.slice A2 m.ps.length c2) (.slice A3 m.rs.length c3) (.slice A4 (1 + m.cs.length) c4)] W (BoolPost W true)) := Lib.hid (fun W g => qnumbers_any m hm hn.len _ _ _ _ W (h.bw g))
 have C2 : Hid (∀ W, Calls Tryz.prog 59 #[aggM (.slice A1 m.ss.length c1) (.slice A2 m.ps.length c2) (.slice A3 m.rs.length c3) (.slice A4 (1 + m.cs.length) c4)] W (BoolPost W true)) := Lib.hid (fun W => qranks_one _ _ _ _ W)
 have C3 : Hid (∀ W, Bw w W → Calls Tryz.prog 60 #[aggM (.slice A1 m.ss.length c1) (.slice A2 m.ps.length c2) (.slice A3 m.rs.length c3) (.slice A4 (1 + m.cs.length) c4)] W (BoolPost W true)) := Lib.hid (fun W g => qnames_any m hm hn _ _ _ _ W (h.bw g))
 have CR : Hid (∀ r ∈ m.rs, ∀ (nd gv : Value) (W : World), Bw w W → IB W W.heap.size nd r.need → IB W W.heap.size gv r.give → Calls Tryz.prog 61 #[aggM (.slice A1 m.ss.length c1) (.slice A2 m.ps.length c2) (.slice A3 m.rs.length c3) (.slice A4 (1 + m.cs.length) c4), aggR r nd gv] W (BoolPost W true)) := Lib.hid (fun r hr nd gv W g i1 i2 => qright_any m hm r (hm.ru r hr) _ _ _ _ nd gv W (h.bw g) i1 i2)
 have CT : Hid (∀ W, Bw w W → Calls Tryz.prog 36 #[aggM (.slice A1 m.ss.length c1) (.slice A2 m.ps.length c2) (.slice A3 m.rs.length c3) (.slice A4 (1 + m.cs.length) c4)] W (TypePost W m.t)) := Lib.hid (fun W g => qtypeOf_any m hm _ _ _ _ W (h.bw g))
 have CV : Hid (∀ W pv', Bw w W → TB W W.heap.size (.slice none 0 0) pv' m.t → Calls Tryz.prog 42 #[.agg #[.int .i64 3, .int .i64 0, .slice none 0 0, pv'], .agg #[.int .i64 0, .slice A4 (1 + m.cs.length) c4]] W (BoolPost W true)) := Lib.hid (fun W pv' g hT => r6ValidM m m.start (.slice none 0 0) pv' (.slice A4 (1 + m.cs.length) c4) W hT (h.k.bw g) true (validM hm hm.st))
 have R3 : Hid (∀ W, Bw w W → RlsAt W (· < W.heap.size) (.slice A3 m.rs.length c3) m.rs) := Lib.hid (fun W g => h.r.bw g)
 have HRS : Hid (m.rs.length = m.rs.length) := Lib.hid rfl
 have h12 := hn.len
 clear h hm hn
 unfold aggM at *
 unfold TypePost at CT
 obtain ⟨q, hq⟩ : ∃ q, m.rs.length = q := ⟨_, rfl⟩
 rw [hq] at C1 C2 C3 CR CT R3 h12 ⊢
 replace HRS := Lib.hid hq
 clear hq
 generalize m.ss.length = n at *
 generalize m.ps.length = k0 at *
 generalize 1 + m.cs.length = z at *
 have TX := Lib.hid (mdbox (w := w) (sv := .slice A1 n c1) (pv := .slice A2 k0 c2) (rv := .slice A3 q c3) (kv := .slice A4 z c4))
 have HB : Hid (Bw w (w.alloc (.cells #[.int .i64 1, .slice A1 n c1, .slice A2 k0 c2, .slice none 0 0, .slice none 0 0, .int .i64 0, .int .i64 0, .slice A3 q c3, .int .i64 0, .slice A4 z c4] 33))) := Lib.hid ((Bw.refl _).alloc _)
 go_enter Tryz.func34, Tryz.ntmps34
 go_wp2_with (first
   | (go_at_call 57; go_must (refine (qbetween_in _ _ _ _ (by omega) (by omega)).mono ?_; rintro e w' ⟨rfl, rfl⟩))
   | (go_at_call 58; go_must (refine (C1.out _ HB.out).mono ?_; rintro e w1 ⟨rfl, hg⟩; (obtain ⟨y0, yb, y1, y2, y3, y4, y5, y6, y7, y8, y9, y10⟩ := TX.out _ hg); (have HG1 := Lib.hid hg); clear hg yb))
   | (go_at_call 59; go_must (refine (C2.out _).mono ?_; rintro e w2 ⟨rfl, hg⟩; (have hg := HG1.out.trans hg); (obtain ⟨x0, xb, x1, x2, x3, x4, x5, x6, x7, x8, x9, x10⟩ := TX.out _ hg); (have HG2 := Lib.hid hg); clear hg xb))
   | (go_at_call 60; go_must (refine (C3.out _ (HB.out.trans HG2.out)).mono ?_; rintro e w3 ⟨rfl, hg⟩; (have hg := HG2.out.trans hg); (obtain ⟨v0, vb, v1, v2, v3, v4, v5, v6, v7, v8, v9, v10⟩ := TX.out _ hg); (have HG3 := Lib.hid hg); clear hg vb)))
 go_loopw [3] (fun i wr => ∃ j : Nat, j ≤ q ∧ i = .int .i64 j ∧ Hid (Bw (w.alloc (.cells #[.int .i64 1, .slice A1 n c1, .slice A2 k0 c2, .slice none 0 0, .slice none 0 0, .int .i64 0, .int .i64 0, .slice A3 q c3, .int .i64 0, .slice A4 z c4] 33)) wr)) (fun i _ => q - (intOf i).toNat)
 case atStart => exact ⟨0, by omega, rfl, HG3⟩
 case round =>
   clear y0 y1 y2 y3 y4 y5 y6 y7 y8 y9 y10 x0 x1 x2 x3 x4 x5 x6 x7 x8 x9 x10 v0 v1 v2 v3 v4 v5 v6 v7 v8 v9 v10 HG1 HG2 HG3
   obtain ⟨j, hj, rfl, HR⟩ := hrel
   obtain ⟨y0, yb, y1, y2, y3, y4, y5, y6, y7, y8, y9, y10⟩ := TX.out wr HR.out
   by_cases hlt : j < q
   · have e1 : j < m.rs.length := by rw [HRS.out]; exact hlt
     obtain ⟨ad, B1, q1, d1, B2, q2, d2, rfl, hb, hri, hnd, hgv⟩ := (R3.out wr yb).at_ e1
     have CM : Hid (∀ W', Bw wr W' → Calls Tryz.prog 61 #[.agg #[.int .i64 1, .slice A1 n c1, .slice A2 k0 c2, .slice none 0 0, .slice none 0 0, .int .i64 0, .int .i64 0, .slice (some ad) q c3, .int .i64 0, .slice A4 z c4], aggR m.rs[j] (.slice B1 q1 d1) (.slice B2 q2 d2)] W' (BoolPost W' true)) := Lib.hid (fun W' g => CR.out _ (List.getElem_mem e1) _ _ W' (yb.trans g) (hnd.bw g) (hgv.bw g))
     have RX : Hid (∀ P : BwOf wr, RlIs P.val (ad.add (j * 14)) m.rs[j] (.slice B1 q1 d1) (.slice B2 q2 d2) ∧ ad.block < P.val.heap.size) := Lib.hid (fun P => ⟨hri.bw (by rw [add_block]; exact hb) P.bw, Nat.lt_of_lt_of_le hb P.bw.size⟩)
     have MX : Hid (∀ P : BwOf wr, w.heap.size < P.val.heap.size ∧ P.val.cell? ⟨w.heap.size, 0, none⟩ = some (.int .i64 1) ∧ P.val.cell? ⟨w.heap.size, 1, none⟩ = some (.slice A1 n c1) ∧ P.val.cell? ⟨w.heap.size, 2, none⟩ = some (.slice A2 k0 c2) ∧ P.val.cell? ⟨w.heap.size, 3, none⟩ = some (.slice none 0 0) ∧ P.val.cell? ⟨w.heap.size, 4, none⟩ = some (.slice none 0 0) ∧ P.val.cell? ⟨w.heap.size, 5, none⟩ = some (.int .i64 0) ∧ P.val.cell? ⟨w.heap.size, 6, none⟩ = some (.int .i64 0) ∧ P.val.cell? ⟨w.heap.size, 7, none⟩ = some (.slice (some ad) q c3) ∧ P.val.cell? ⟨w.heap.size, 8, none⟩ = some (.int .i64 0) ∧ P.val.cell? ⟨w.heap.size, 9, none⟩ = some (.slice A4 z c4)) := Lib.hid (fun P => by
       obtain ⟨a0, ab, a1, a2, a3, a4, a5, a6, a7, a8, a9, a10⟩ := TX.out P.val (HR.out.trans P.bw)
       exact ⟨a0, a1, a2, a3, a4, a5, a6, a7, a8, a9, a10⟩)
     clear hri hnd hgv yb
     unfold aggR at CM
     rcases hrr : m.rs[j] with ⟨nm, fr, t9, need, give⟩
     rw [hrr] at CM RX
     dsimp only at CM
     have m0 := fun P => (MX.out P).1
     have m1 := fun P => (MX.out P).2.1
     have m2 := fun P => (MX.out P).2.2.1
     have m3 := fun P => (MX.out P).2.2.2.1
     have m4 := fun P => (MX.out P).2.2.2.2.1
     have m5 := fun P => (MX.out P).2.2.2.2.2.1
     have m6 := fun P => (MX.out P).2.2.2.2.2.2.1
     have m7 := fun P => (MX.out P).2.2.2.2.2.2.2.1
     have m8 := fun P => (MX.out P).2.2.2.2.2.2.2.2.1
     have m9 := fun P => (MX.out P).2.2.2.2.2.2.2.2.2.1
     have m10 := fun P => (MX.out P).2.2.2.2.2.2.2.2.2.2
     have r0 := fun P => (RX.out P).1.c0
     have r1 := fun P => (RX.out P).1.c1
     have r2 := fun P => (RX.out P).1.c2
     have r3 := fun P => (RX.out P).1.c3
     have r4 := fun P => (RX.out P).1.c4
     have r5 := fun P => (RX.out P).1.c5
     have r6 := fun P => (RX.out P).1.c6
     have r7 := fun P => (RX.out P).1.c7
     have r8 := fun P => (RX.out P).1.c8
     have r9 := fun P => (RX.out P).1.c9
     have r10 := fun P => (RX.out P).1.c10
     have r11 := fun P => (RX.out P).1.c11
     have r12 := fun P => (RX.out P).1.c12
     have r13 := fun P => (RX.out P).1.c13
     have rl := fun P => (RX.out P).2
     dsimp only at r0 r1 r2
     clear hrr RX MX
     go_upto_region 12 with fail
     refine wp_region_quiet_bw mixedO (by kernel_rfl) ?_
     repeat (go_big_quiet_step ((first | (go_at_call 61; with_reducible exact calls_bw _ (CM.out _ (BwOf.bw _))))))
     refine wpQuiet_nil ?_
     intro W3 hw'
     have HG3 : Hid (Bw wr W3) := Lib.hid (by obtain ⟨p, e⟩ := hw'; rw [e]; exact p.bw)
     clear hw' m0 m1 m2 m3 m4 m5 m6 m7 m8 m9 m10 r0 r1 r2 r3 r4 r5 r6 r7 r8 r9 r10 r11 r12 r13 rl CM
     go_wp2
     go_roundw
     case rel => exact ⟨j + 1, by omega, by go_num, Lib.hid (HR.out.trans HG3.out)⟩
     case measure => simp [intOf]; omega
   · obtain rfl : j = q := by omega
     go_wp2_with fail
     refine wp_world (fun W => Hid (Bw (w.alloc (.cells #[.int .i64 1, .slice A1 n c1, .slice A2 k0 c2, .slice none 0 0, .slice none 0 0, .int .i64 0, .int .i64 0, .slice A3 j c3, .int .i64 0, .slice A4 z c4] 33)) W)) (Lib.hid HR.out) ?_
     clear y0 y1 y2 y3 y4 y5 y6 y7 y8 y9 y10 yb HR
     intro W HW
     have KS : Hid (∀ w', Bw W w' → w'.cell? ⟨w.heap.size, 0, none⟩ = some (.int .i64 1) ∧ w'.cell? ⟨w.heap.size, 1, none⟩ = some (.slice A1 n c1) ∧ w'.cell? ⟨w.heap.size, 2, none⟩ = some (.slice A2 k0 c2) ∧ w'.cell? ⟨w.heap.size, 3, none⟩ = some (.slice none 0 0) ∧ w'.cell? ⟨w.heap.size, 4, none⟩ = some (.slice none 0 0) ∧ w'.cell? ⟨w.heap.size, 5, none⟩ = some (.int .i64 0) ∧ w'.cell? ⟨w.heap.size, 6, none⟩ = some (.int .i64 0) ∧ w'.cell? ⟨w.heap.size, 7, none⟩ = some (.slice A3 j c3) ∧ w'.cell? ⟨w.heap.size, 8, none⟩ = some (.int .i64 0) ∧ w'.cell? ⟨w.heap.size, 9, none⟩ = some (.slice A4 z c4) ∧ Bw W w') := Lib.hid (fun w' g => by
       obtain ⟨a0, ab, a1, a2, a3, a4, a5, a6, a7, a8, a9, a10⟩ := TX.out w' (HW.out.trans g)
       exact ⟨a1, a2, a3, a4, a5, a6, a7, a8, a9, a10, g⟩)
     have HBW : Hid (∀ w', Bw W w' → Bw w w') := Lib.hid (fun w' g => (TX.out w' (HW.out.trans g)).2.1)
     clear TX HW
     generalize w.heap.size = y at *
     go_region_held3 (fun w' => w'.cell? ⟨y, 0, none⟩ = some (.int .i64 1) ∧ w'.cell? ⟨y, 1, none⟩ = some (.slice A1 n c1) ∧ w'.cell? ⟨y, 2, none⟩ = some (.slice A2 k0 c2) ∧ w'.cell? ⟨y, 3, none⟩ = some (.slice none 0 0) ∧ w'.cell? ⟨y, 4, none⟩ = some (.slice none 0 0) ∧ w'.cell? ⟨y, 5, none⟩ = some (.int .i64 0) ∧ w'.cell? ⟨y, 6, none⟩ = some (.int .i64 0) ∧ w'.cell? ⟨y, 7, none⟩ = some (.slice A3 j c3) ∧ w'.cell? ⟨y, 8, none⟩ = some (.int .i64 0) ∧ w'.cell? ⟨y, 9, none⟩ = some (.slice A4 z c4) ∧ Bw W w')
       (first | (refine KS.out _ ?_; first | exact (Bw.refl _).drew | exact (Bw.refl _).drew.trans hg6 | exact ((Bw.refl _).drew.trans hg6).trans hg7))
       (first
         | (go_at_call 36; (with_reducible refine (CT.out _ (HBW.out _ (Bw.refl _).drew)).mono ?_); rintro e6 w6 ⟨pv6, rfl, hp6, hg6⟩; obtain ⟨A6, n6, c6, rfl, _, _, _⟩ := hp6.form)
         | (go_at_call 42; (with_reducible refine (CV.out _ _ (HBW.out _ ((Bw.refl _).drew.trans hg6)) (TypePost.tb hp6)).mono ?_); rintro e7 w7 ⟨rfl, hg7⟩))
     go_wp2
     go_ret
     exact ⟨rfl, HBW.out _ (((Bw.refl _).drew.trans hg6).trans hg7)⟩
theorem qType_any (m : Mdl) (hm : MdlOk m) (hn : NmOk m) (sv pv rv kv : Value) (w : World) (h : MB w w.heap.size sv pv rv kv m) : Calls Tryz.prog 16 #[aggM sv pv rv kv] w (TypeErr w m.t) := by
 obtain ⟨A1, c1, A2, c2, A3, c3, A4, c4, rfl, rfl, rfl, rfl⟩ := h.form
 have CK : Hid (∀ W, Bw w W → Calls Tryz.prog 34 #[aggM (.slice A1 m.ss.length c1) (.slice A2 m.ps.length c2) (.slice A3 m.rs.length c3) (.slice A4 (1 + m.cs.length) c4)] W (NumPost W 0)) := Lib.hid (fun W g => qCheck_any m hm hn _ _ _ _ W (h.bw g))
 have CT : Hid (∀ W, Bw w W → Calls Tryz.prog 36 #[aggM (.slice A1 m.ss.length c1) (.slice A2 m.ps.length c2) (.slice A3 m.rs.length c3) (.slice A4 (1 + m.cs.length) c4)] W (TypePost W m.t)) := Lib.hid (fun W g => qtypeOf_any m hm _ _ _ _ W (h.bw g))
 clear h hm hn
 unfold aggM at *
 unfold TypePost at CT
 unfold TypeErr
 generalize m.ss.length = n at *
 generalize m.ps.length = k at *
 generalize m.rs.length = q at *
 generalize 1 + m.cs.length = z at *
 have TX := Lib.hid (mdbox (w := w) (sv := .slice A1 n c1) (pv := .slice A2 k c2) (rv := .slice A3 q c3) (kv := .slice A4 z c4))
 have HB : Hid (Bw w ((w.alloc (.cells #[.int .i64 1, .slice A1 n c1, .slice A2 k c2, .slice none 0 0, .slice none 0 0, .int .i64 0, .int .i64 0, .slice A3 q c3, .int .i64 0, .slice A4 z c4] 33)).alloc (.cells #[.int .i64 0, .int .i64 0, .slice none 0 0, .slice none 0 0] 50))) := Lib.hid (((Bw.refl _).alloc _).alloc _)
 have HR : Hid (∀ W, Bw ((w.alloc (.cells #[.int .i64 1, .slice A1 n c1, .slice A2 k c2, .slice none 0 0, .slice none 0 0, .int .i64 0, .int .i64 0, .slice A3 q c3, .int .i64 0, .slice A4 z c4] 33)).alloc (.cells #[.int .i64 0, .int .i64 0, .slice none 0 0, .slice none 0 0] 50)) W → Blk W (w.heap.size + 1) 50 #[.int .i64 0, .int .i64 0, .slice none 0 0, .slice none 0 0]) := Lib.hid (fun W g => by
   have h1 := Blk.new (w.alloc (.cells #[.int .i64 1, .slice A1 n c1, .slice A2 k c2, .slice none 0 0, .slice none 0 0, .int .i64 0, .int .i64 0, .slice A3 q c3, .int .i64 0, .slice A4 z c4] 33)) 50 #[.int .i64 0, .int .i64 0, .slice none 0 0, .slice none 0 0]
   rw [World.size_alloc] at h1
   exact h1.below g.b h1.lt)
 go_enter Tryz.func16, Tryz.ntmps16
 go_wp2_with (first
   | (go_at_call 34; go_must (refine (CK.out _ HB.out).mono ?_; rintro e w1 ⟨rfl, hg⟩; (obtain ⟨y0, -, y1, y2, y3, y4, y5, y6, y7, y8, y9, y10⟩ := TX.out _ (((Bw.refl _).alloc _).trans hg)); (have HG1 := Lib.hid hg); clear hg))
   | (go_at_call 36; go_must (refine (CT.out _ (HB.out.trans HG1.out)).mono ?_; rintro e w2 ⟨pv2, rfl, hp2, hg⟩; obtain ⟨A6, n6, c6, rfl, _, _, _⟩ := hp2.form; (have hg2 := HG1.out.trans hg); (have hb := HR.out _ hg2); (have f0 := hb.cell 0); (have f1 := hb.cell 1); (have f2 := hb.cell 2); (have f3 := hb.cell 3); (have g0 := hb.frozen 0); (have g1 := hb.frozen 1); (have g2 := hb.frozen 2); (have g3 := hb.frozen 3); (have hl := hb.lt); (have HB2 := Lib.hid hb); (have HP2 := Lib.hid hp2); (have HG2 := Lib.hid hg2); (have HGG := Lib.hid hg); clear hg hg2 hb hp2)))
 obtain ⟨hbb, hgr⟩ := blk4 (v0 := .int .i64 3) (v1 := .int .i64 0) (v2 := .slice none 0 0) (v3 := .slice A6 n6 c6) HB2.out
 refine bodyPost_ret (rrow1 (p := 2) (q := 3) (ty := 50) rfl _ _ (w.heap.size + 1) _ _ rfl (run_loadVar_row _ _ 50 50 _ (0, 0) _ hbb Tryz.underlying50 rfl (by kernel_rfl)) rfl) rfl ?_
 have hbw : Bw w w2 := HB.out.trans HG2.out
 have hz1 : w.heap.size + 2 ≤ w1.heap.size := by have := HG1.out.size; simpa using this
 have hsz := hgr.size
 refine ⟨_, rfl, HP2.out.keep (fun b hb => ⟨by omega, Nat.lt_of_lt_of_le hb.2 hsz⟩) (fun p hp => World.cell?_of_block (hgr.block p.block hp.2 (fun e => by injection e with e; omega))), Below.grown hbw hgr hbw.size (fun r e => by injection e with e; omega)⟩
theorem qValid_any (m : Mdl) (hm : MdlOk m) (hn : NmOk m) (v : V) (sv pv rv kv s : Value) (w : World) (h : MB w w.heap.size sv pv rv kv m) (hv : KB w w.heap.size s v.ks) : Calls Tryz.prog 45 #[aggM sv pv rv kv, .agg #[.int .i64 v.n, s]] w (BoolPost w (validP m.t v)) := by
 obtain ⟨A1, c1, A2, c2, A3, c3, A4, c4, rfl, rfl, rfl, rfl⟩ := h.form
 obtain ⟨A5, n5, c5, rfl, _, _, _⟩ := hv.form
 have CK : Hid (∀ W, Bw w W → Calls Tryz.prog 34 #[aggM (.slice A1 m.ss.length c1) (.slice A2 m.ps.length c2) (.slice A3 m.rs.length c3) (.slice A4 (1 + m.cs.length) c4)] W (NumPost W 0)) := Lib.hid (fun W g => qCheck_any m hm hn _ _ _ _ W (h.bw g))
 have CT : Hid (∀ W, Bw w W → Calls Tryz.prog 36 #[aggM (.slice A1 m.ss.length c1) (.slice A2 m.ps.length c2) (.slice A3 m.rs.length c3) (.slice A4 (1 + m.cs.length) c4)] W (TypePost W m.t)) := Lib.hid (fun W g => qtypeOf_any m hm _ _ _ _ W (h.bw g))
 have CV : Hid (∀ W pv', Bw w W → TB W W.heap.size (.slice none 0 0) pv' m.t → Calls Tryz.prog 42 #[.agg #[.int .i64 3, .int .i64 0, .slice none 0 0, pv'], .agg #[.int .i64 v.n, .slice A5 n5 c5]] W (BoolPost W (validP m.t v))) := Lib.hid (fun W pv' g hT => r6ValidM m v (.slice none 0 0) pv' (.slice A5 n5 c5) W hT (hv.bw g) _ rfl)
 clear h hm hn hv
 unfold aggM at *
 unfold TypePost at CT
 generalize validP m.t v = bb at *
 generalize v.n = x at *
 generalize m.ss.length = n at *
 generalize m.ps.length = k0 at *
 generalize m.rs.length = q at *
 generalize 1 + m.cs.length = z at *
 have TX := Lib.hid (mdbox (w := w) (sv := .slice A1 n c1) (pv := .slice A2 k0 c2) (rv := .slice A3 q c3) (kv := .slice A4 z c4))
 go_enter Tryz.func45, Tryz.ntmps45
 go_wp2_with fail
 refine wp_world (fun W => Hid (Bw (w.alloc (.cells #[.int .i64 1, .slice A1 n c1, .slice A2 k0 c2, .slice none 0 0, .slice none 0 0, .int .i64 0, .int .i64 0, .slice A3 q c3, .int .i64 0, .slice A4 z c4] 33)) W ∧ Blk W (w.heap.size + 1) 31 #[.int .i64 x, .slice A5 n5 c5])) (Lib.hid ⟨(Bw.refl _).alloc _, by have := Blk.new (w.alloc (.cells #[.int .i64 1, .slice A1 n c1, .slice A2 k0 c2, .slice none 0 0, .slice none 0 0, .int .i64 0, .int .i64 0, .slice A3 q c3, .int .i64 0, .slice A4 z c4] 33)) 31 #[.int .i64 x, .slice A5 n5 c5]; simpa only [World.size_alloc] using this⟩) ?_
 intro W HW
 have KS : Hid (∀ w', Bw W w' → w'.cell? ⟨w.heap.size, 0, none⟩ = some (.int .i64 1) ∧ w'.cell? ⟨w.heap.size, 1, none⟩ = some (.slice A1 n c1) ∧ w'.cell? ⟨w.heap.size, 2, none⟩ = some (.slice A2 k0 c2) ∧ w'.cell? ⟨w.heap.size, 3, none⟩ = some (.slice none 0 0) ∧ w'.cell? ⟨w.heap.size, 4, none⟩ = some (.slice none 0 0) ∧
     w'.cell? ⟨w.heap.size, 5, none⟩ = some (.int .i64 0) ∧ w'.cell? ⟨w.heap.size, 6, none⟩ = some (.int .i64 0) ∧ w'.cell? ⟨w.heap.size, 7, none⟩ = some (.slice A3 q c3) ∧ w'.cell? ⟨w.heap.size, 8, none⟩ = some (.int .i64 0) ∧ w'.cell? ⟨w.heap.size, 9, none⟩ = some (.slice A4 z c4) ∧ w'.cell? ⟨w.heap.size + 1, 0, none⟩ = some (.int .i64 x) ∧ w'.cell? ⟨w.heap.size + 1, 1, none⟩ = some (.slice A5 n5 c5) ∧ Bw W w') := Lib.hid (fun w' g => by
   obtain ⟨_, _, a0, a1, a2, a3, a4, a5, a6, a7, a8, a9⟩ := TX.out w' (HW.out.1.trans g)
   have hb := HW.out.2.below g.b HW.out.2.lt
   exact ⟨a0, a1, a2, a3, a4, a5, a6, a7, a8, a9, hb.cell 0, hb.cell 1, g⟩)
 have HBW : Hid (∀ w', Bw W w' → Bw w w') := Lib.hid (fun w' g => (TX.out w' (HW.out.1.trans g)).2.1)
 clear TX HW
 generalize w.heap.size = y at *
 go_region_held3 (fun w' => w'.cell? ⟨y, 0, none⟩ = some (.int .i64 1) ∧ w'.cell? ⟨y, 1, none⟩ = some (.slice A1 n c1) ∧ w'.cell? ⟨y, 2, none⟩ = some (.slice A2 k0 c2) ∧ w'.cell? ⟨y, 3, none⟩ = some (.slice none 0 0) ∧ w'.cell? ⟨y, 4, none⟩ = some (.slice none 0 0) ∧ w'.cell? ⟨y, 5, none⟩ = some (.int .i64 0) ∧ w'.cell? ⟨y, 6, none⟩ = some (.int .i64 0) ∧ w'.cell? ⟨y, 7, none⟩ = some (.slice A3 q c3) ∧ w'.cell? ⟨y, 8, none⟩ = some (.int .i64 0) ∧ w'.cell? ⟨y, 9, none⟩ = some (.slice A4 z c4) ∧ w'.cell? ⟨y + 1, 0, none⟩ = some (.int .i64 x) ∧ w'.cell? ⟨y + 1, 1, none⟩ = some (.slice A5 n5 c5) ∧ Bw W w')
   (first | (refine KS.out _ ?_; first | exact (Bw.refl _).drew | exact (Bw.refl _).drew.trans hg5 | exact ((Bw.refl _).drew.trans hg5).trans hg6 | exact (((Bw.refl _).drew.trans hg5).trans hg6).trans hg7))
   (first
     | (go_at_call 34; (with_reducible refine (CK.out _ (HBW.out _ (Bw.refl _).drew)).mono ?_); rintro e5 w5 ⟨rfl, hg5⟩)
     | (go_at_call 36; (with_reducible refine (CT.out _ (HBW.out _ ((Bw.refl _).drew.trans hg5))).mono ?_); rintro e6 w6 ⟨pv6, rfl, hp6, hg6⟩; obtain ⟨A6, n6, c6, rfl, _, _, _⟩ := hp6.form)
     | (go_at_call 42; (with_reducible refine (CV.out _ _ (HBW.out _ (((Bw.refl _).drew.trans hg5).trans hg6)) (TypePost.tb hp6)).mono ?_); rintro e7 w7 ⟨rfl, hg7⟩))
 go_wp2
 go_ret
 exact ⟨rfl, HBW.out _ ((((Bw.refl _).drew.trans hg5).trans hg6).trans hg7)⟩
theorem qKind_any (m : Mdl) (hm : MdlOk m) (hn : NmOk m) (sv pv rv kv : Value) (w : World) (h : MB w w.heap.size sv pv rv kv m) : Calls Tryz.prog 44 #[aggM sv pv rv kv] w (NumPost w 0) := by
 obtain ⟨A1, c1, A2, c2, A3, c3, A4, c4, rfl, rfl, rfl, rfl⟩ := h.form
 have CK : Hid (∀ W, Bw w W → Calls Tryz.prog 34 #[aggM (.slice A1 m.ss.length c1) (.slice A2 m.ps.length c2) (.slice A3 m.rs.length c3) (.slice A4 (1 + m.cs.length) c4)] W (NumPost W 0)) := Lib.hid (fun W g => qCheck_any m hm hn _ _ _ _ W (h.bw g))
 clear h hm hn
 unfold aggM at *
 generalize m.ss.length = n at *
 generalize m.ps.length = k0 at *
 generalize m.rs.length = q at *
 generalize 1 + m.cs.length = z at *
 have TX := Lib.hid (mdbox (w := w) (sv := .slice A1 n c1) (pv := .slice A2 k0 c2) (rv := .slice A3 q c3) (kv := .slice A4 z c4))
 have HB : Hid (Bw w (w.alloc (.cells #[.int .i64 1, .slice A1 n c1, .slice A2 k0 c2, .slice none 0 0, .slice none 0 0, .int .i64 0, .int .i64 0, .slice A3 q c3, .int .i64 0, .slice A4 z c4] 33))) := Lib.hid ((Bw.refl _).alloc _)
 go_enter Tryz.func44, Tryz.ntmps44
 go_wp2_with (go_at_call 34; go_must (refine (CK.out _ HB.out).mono ?_; rintro e w1 ⟨rfl, hg⟩; (obtain ⟨y0, yb, y1, y2, y3, y4, y5, y6, y7, y8, y9, y10⟩ := TX.out _ hg); (have HG1 := Lib.hid hg); clear hg yb))
 go_ret
 exact ⟨rfl, HB.out.trans HG1.out⟩
theorem qfault_any (m : Mdl) (hm : MdlOk m) (hn : NmOk m) (i : Nat) (hi : i < m.rs.length) (sv pv rv kv : Value) (w : World) (h : MB w w.heap.size sv pv rv kv m) : Calls Tryz.prog 211 #[aggM sv pv rv kv, .int .i64 (i : Int)] w (NumPost w 0) := by
 obtain ⟨A1, c1, A2, c2, A3, c3, A4, c4, rfl, rfl, rfl, rfl⟩ := h.form
 have CK : Hid (∀ W, Bw w W → Calls Tryz.prog 34 #[aggM (.slice A1 m.ss.length c1) (.slice A2 m.ps.length c2) (.slice A3 m.rs.length c3) (.slice A4 (1 + m.cs.length) c4)] W (NumPost W 0)) := Lib.hid (fun W g => qCheck_any m hm hn _ _ _ _ W (h.bw g))
 have hi2 : (i : Int) < (m.rs.length : Int) := by omega
 clear h hm hn
 unfold aggM at *
 generalize m.ss.length = n at *
 generalize m.ps.length = k0 at *
 generalize m.rs.length = q at *
 generalize 1 + m.cs.length = z at *
 have TX := Lib.hid (mdbox (w := w) (sv := .slice A1 n c1) (pv := .slice A2 k0 c2) (rv := .slice A3 q c3) (kv := .slice A4 z c4))
 have HB : Hid (Bw w (w.alloc (.cells #[.int .i64 1, .slice A1 n c1, .slice A2 k0 c2, .slice none 0 0, .slice none 0 0, .int .i64 0, .int .i64 0, .slice A3 q c3, .int .i64 0, .slice A4 z c4] 33))) := Lib.hid ((Bw.refl _).alloc _)
 go_enter Tryz.func211, Tryz.ntmps211
 go_wp2_with (go_at_call 34; go_must (refine (CK.out _ HB.out).mono ?_; rintro e w1 ⟨rfl, hg⟩; (obtain ⟨y0, yb, y1, y2, y3, y4, y5, y6, y7, y8, y9, y10⟩ := TX.out _ hg); (have HG1 := Lib.hid hg); clear hg yb))
 go_ret
 exact ⟨rfl, HB.out.trans HG1.out⟩
theorem cfg_at {w : World} {S : Nat → Prop} {s : Int} {cs : List Int} {A : Option Addr} {n c : Nat} (h : KAt w S (.slice A n c) (cfgV s cs).ks) : n = cs.length + 1 ∧ ∃ ad, A = some ad ∧ S ad.block ∧ w.cell? ad = some (.int .i64 s) ∧ ∀ k (hk : k < cs.length), w.cell? (ad.add ((k + 1) * 2)) = some (.int .i64 cs[k]) := by
 obtain ⟨A', n', c', e, l5, b5, _⟩ := h.form
 injection e with e1 e2 e3
 subst e1 e2 e3
 have hn : n = cs.length + 1 := by rw [← l5]; simp [cfgV]
 obtain ⟨ad, xA, xn, xc, rfl, ba, qa0, qa1, -, -⟩ := h.at_ (k := 0) (by simp [cfgV])
 rw [show ad.add (0 * 2) = ad by simp [Addr.add]] at qa0
 refine ⟨hn, ad, rfl, ba, qa0, fun k hk => ?_⟩
 obtain ⟨ad', yA, yn, yc, e, -, z0, -, -, -⟩ := h.at_ (k := k + 1) (by simp [cfgV]; omega)
 injection e with e
 subst e
 rw [z0]
 simp [cfgV]
theorem qenabled_any (r : Rul) (s : Int) (cs : List Int) (hl : r.need.length = cs.length) (h9 : cs.length ≤ 1000) (nd gv s1 : Value) (w : World) (h1 : IB w w.heap.size nd r.need) (h2 : IB w w.heap.size gv r.give) (h3 : KB w w.heap.size s1 (cfgV s cs).ks) :
   Calls Tryz.prog 212 #[aggR r nd gv, .agg #[.int .i64 0, s1]] w (BoolPost w (canB r s cs)) := by
 obtain ⟨nm, fr, t9, need, give⟩ := r
 unfold canB
 dsimp only at hl h1 h2 ⊢
 obtain ⟨B1, q1, d1, rfl, l1, _, _⟩ := h1.form
 obtain ⟨B2, q2, d2, rfl, _, _, _⟩ := h2.form
 obtain ⟨A5, n5, c5, rfl, l5, b5, _⟩ := h3.form
 obtain ⟨hn5, ad, rfl, hab, -, -⟩ := cfg_at h3
 have QA : Hid (∀ W, Bw w W → W.cell? ad = some (.int .i64 s) ∧ ∀ k (hk : k < cs.length), W.cell? (ad.add ((k + 1) * 2)) = some (.int .i64 cs[k])) := Lib.hid (fun W g => by
   obtain ⟨-, ad', e, -, x0, x1⟩ := cfg_at (h3.bw g)
   injection e with e; subst e
   exact ⟨x0, x1⟩)
 have HND := Lib.hid h1
 have HL := Lib.hid hl
 have hLE : Hid (∀ k (hk : k < cs.length), leC (need.take k) (cs.take k) = true → need[k]'(Nat.lt_of_lt_of_eq hk hl.symm) ≤ cs[k] → leC (need.take (k + 1)) (cs.take (k + 1)) = true) := Lib.hid (fun k hk h h' => by rw [leC_step hl hk h]; exact decide_eq_true h')
 have hNO : Hid (∀ k (hk : k < cs.length), cs[k] < need[k]'(Nat.lt_of_lt_of_eq hk hl.symm) → leC need cs = false) := Lib.hid (fun k hk h => leC_no hl hk (by simpa using h))
 have hALL : Hid (leC (need.take cs.length) (cs.take cs.length) = leC need cs) := Lib.hid (by rw [List.take_of_length_le (by omega), List.take_of_length_le (Nat.le_refl _)])
 clear h1 h2 h3 l5
 obtain rfl : q1 = cs.length := by omega

 unfold aggR
 dsimp only
 have BX := Lib.hid (box2 w 75 #[.string nm, .int .i64 fr, .int .i64 t9, .slice B1 cs.length d1, .slice B2 q2 d2, .slice none 0 0, .int .i64 0, .int .i64 0, .int .i64 0, .slice none 0 0, .slice none 0 0, .slice none 0 0, .slice none 0 0, .int .i64 0] 31 #[.int .i64 0, .slice (some ad) n5 c5])
 have hb3 : (0 : Int) < (n5 : Int) := by omega
 have hb4 : 0 < n5 := by omega
 have hqa := (QA.out _ (Bw.refl w)).1
 have HN5 := Lib.hid hn5
 clear hn5
 by_cases hsf : s = fr
 · have hsf' : fr = s := hsf.symm
   subst hsf'
   have dd : (fr != fr) = false := by simp
   rw [decide_eq_true rfl, Bool.true_and]
   go_enter Tryz.func212, Tryz.ntmps212
   go_wp2_with fail
   go_quiet (fail)
   go_wp2
   go_loopw [5] (fun i wr => ∃ k : Nat, k ≤ cs.length ∧ i = .int .i64 k ∧ Hid (leC (need.take k) (cs.take k) = true ∧ Bw ((w.alloc (.cells #[.string nm, .int .i64 fr, .int .i64 t9, .slice B1 cs.length d1, .slice B2 q2 d2, .slice none 0 0, .int .i64 0, .int .i64 0, .int .i64 0, .slice none 0 0, .slice none 0 0, .slice none 0 0, .slice none 0 0, .int .i64 0] 75)).alloc (.cells #[.int .i64 0, .slice (some ad) n5 c5] 31)) wr)) (fun i _ => cs.length - (intOf i).toNat)
   case atStart => exact ⟨0, by omega, rfl, Lib.hid ⟨by simp [leC], (Bw.refl _).drewN _⟩⟩
   case round =>
     clear hqa
     obtain ⟨k, hk, rfl, HR⟩ := hrel
     obtain ⟨hle, hw⟩ := HR.out
     obtain ⟨-, bb0, bb1⟩ := BX.out.2 wr hw
     obtain ⟨ul, u0, u1, u2, u3, u4, u5, u6, u7, u8, u9, u10, u11, u12, u13⟩ := bb0.c14
     obtain ⟨vl, v0, v1⟩ := bb1.c2
     clear bb0 bb1
     by_cases hlt : k < cs.length
     · have e1 : k < need.length := by have := HL.out; omega
       obtain ⟨bd, rfl, hbb, p0⟩ := (HND.out.bw (BX.out.1.trans hw)).at_ e1
       have z0 := (QA.out _ (BX.out.1.trans hw)).2 k hlt
       have hbb2 : bd.block < wr.heap.size := hbb
       have hpb : ad.block < wr.heap.size := Nat.lt_of_lt_of_le hab (BX.out.1.trans hw).size
       have HS := Lib.hid (hLE.out k hlt hle)
       have HN := Lib.hid (hNO.out k hlt)
       have HW := Lib.hid hw
       have hk1 : (k : Int) < (cs.length : Int) := by omega
       have hk2 : (1 : Int) + (k : Int) < (n5 : Int) := by have := HN5.out; omega
       clear hle hw HR
       by_cases hge : need[k] ≤ cs[k]
       · have HX := Lib.hid (HS.out hge)
         clear HS HN
         generalize need[k] = x at *
         generalize cs[k] = y at *
         have dl : decide (y < x) = false := by simp; omega
         go_wp2_with fail
         have hs1 : IntKind.i64.wrap (1 + (k : Int)) = 1 + (k : Int) := IntWalk.i64_in _ (by omega)
         have hs2 : (1 + (k : Int)).toNat = k + 1 := by omega
         have hs3 : (0 : Int) ≤ 1 + (k : Int) := by omega
         go_quiet (fail)
         clear hs1 hs2 hs3
         go_wp2
         go_roundw
         case rel => exact ⟨k + 1, by omega, by go_num, Lib.hid ⟨HX.out, HW.out.drewN _⟩⟩
         case measure => simp [intOf]; omega
       · have HX := Lib.hid (HN.out (by omega))
         clear HS HN
         generalize need[k] = x at *
         generalize cs[k] = y at *
         have dl : decide (y < x) = true := by simp; omega
         go_wp2_with fail
         have hs1 : IntKind.i64.wrap (1 + (k : Int)) = 1 + (k : Int) := IntWalk.i64_in _ (by omega)
         have hs2 : (1 + (k : Int)).toNat = k + 1 := by omega
         have hs3 : (0 : Int) ≤ 1 + (k : Int) := by omega
         go_quiet (fail)
         clear hs1 hs2 hs3
         go_wp2
         go_ret
         exact ⟨by rw [HX.out]; rfl, (BX.out.1.trans (HW.out.drewN _))⟩
     · obtain rfl : k = cs.length := by omega
       rw [hALL.out] at hle
       have HLE := Lib.hid hle
       have HW := Lib.hid hw
       clear hle hw HR
       go_wp2
       go_ret
       exact ⟨by rw [HLE.out]; rfl, BX.out.1.trans HW.out⟩
 · have dd : (s != fr) = true := by simpa using hsf
   rw [decide_eq_false hsf, Bool.false_and]
   go_enter Tryz.func212, Tryz.ntmps212
   go_wp2_with fail
   go_quiet (fail)
   go_wp2
   go_ret
   exact ⟨rfl, BX.out.1.drewN _⟩
structure SAt (w : World) (S : Nat → Prop) (bv ov fv : Value) (s : Sk) : Prop where
 b : KAt w S bv s.ba
 o : ∃ ps, EAt encO w S ov ps ∧ ps.map (·.1) = s.og
 f : KAt w S fv s.fr
abbrev aggS (bv ov fv : Value) (us : Int) : Value := .agg #[bv, ov, fv, .int .i64 us]
theorem SAt.bw {w w' : World} {bv ov fv : Value} {s : Sk} (h : SAt w (· < w.heap.size) bv ov fv s) (g : Bw w w') : SAt w' (· < w'.heap.size) bv ov fv s := by
 obtain ⟨ps, h1, h2⟩ := h.o
 exact ⟨h.b.bw g, ⟨ps, h1.bw g, h2⟩, h.f.bw g⟩
theorem SAt.form {w : World} {S : Nat → Prop} {bv ov fv : Value} {s : Sk} (h : SAt w S bv ov fv s) : ∃ A1 c1 A2 c2 A3 c3, bv = .slice A1 s.ba.length c1 ∧ ov = .slice A2 s.og.length c2 ∧ fv = .slice A3 s.fr.length c3 := by
 obtain ⟨A1, n1, c1, e1, l1, _⟩ := h.b.form
 obtain ⟨ps, h2, l2⟩ := h.o
 obtain ⟨A2, c2, e2, _⟩ := h2.form
 obtain ⟨A3, n3, c3, e3, l3, _⟩ := h.f.form
 refine ⟨A1, c1, A2, c2, A3, c3, by rw [e1, l1], ?_, by rw [e3, l3]⟩
 rw [e2, ← l2, List.length_map]
def Dk (w : World) (B : Nat) (K : Option Nat) (ov fv : Value) (b : Nat) : Prop := B ≤ b ∧ b < w.heap.size ∧ K ≠ some b ∧ ov.ownBlock ≠ some b ∧ fv.ownBlock ≠ some b
structure SOwn (w : World) (B : Nat) (K : Option Nat) (bv ov fv : Value) (s : Sk) : Prop where
 b : KAt w (Dk w B K ov fv) bv s.ba
 o : ∃ ps, ERow encO w 112 B (Dk w B K ov fv) ov ps ∧ ps.map (·.1) = s.og
 f : ∃ qs : List VS, ERow encV w 31 B (Dk w B K ov fv) fv qs ∧ qs.map (·.1) = s.fr
 ko : ∀ k, K = some k → ov.ownBlock ≠ some k ∧ fv.ownBlock ≠ some k ∧ k < w.heap.size
section
variable {w w' A W : World} {B : Nat} {K : Option Nat} {bv ov fv v' : Value} {s : Sk}
theorem SOwn.of_ne (h : SOwn w B K bv ov fv s) : ∀ g, ov.ownBlock = some g → fv.ownBlock ≠ some g := by
 obtain ⟨ps, h1, _⟩ := h.o
 obtain ⟨qs, h2, _⟩ := h.f
 exact own_own_ne h1.own h2.own (by decide)
theorem SOwn.olt (h : SOwn w B K bv ov fv s) : (∀ g, ov.ownBlock = some g → B ≤ g ∧ g < w.heap.size) ∧ (∀ g, fv.ownBlock = some g → B ≤ g ∧ g < w.heap.size) := by
 obtain ⟨ps, h1, _⟩ := h.o
 obtain ⟨qs, h2, _⟩ := h.f
 exact ⟨fun g e => h1.own.lt g e, fun g e => h2.own.lt g e⟩
theorem SOwn.sat (h : SOwn w B K bv ov fv s) : SAt w (· < w.heap.size) bv ov fv s := by
 obtain ⟨ps, h1, e1⟩ := h.o
 obtain ⟨qs, h2, e2⟩ := h.f
 refine ⟨h.b.keep (fun b hb => hb.2.1) (fun _ _ => rfl), ⟨ps, h1.eatB (fun b hb => hb.2.1), e1⟩, ?_⟩
 have := (h2.eatB (fun b hb => hb.2.1)).kat
 rwa [e2] at this
theorem Dk.bw {b : Nat} (h : Dk w B K ov fv b) (g : w.heap.size ≤ w'.heap.size) : Dk w' B K ov fv b := ⟨h.1, Nat.lt_of_lt_of_le h.2.1 g, h.2.2⟩
theorem SOwn.bw (h : SOwn w B K bv ov fv s) (g : Bw w w') : SOwn w' B K bv ov fv s := by
 obtain ⟨ps, h1, e1⟩ := h.o
 obtain ⟨qs, h2, e2⟩ := h.f
 exact ⟨h.b.keep (fun b hb => hb.bw g.size) (fun p hp => g.b.cell hp.2.1), ⟨ps, h1.bw g (fun b hb => ⟨hb.bw g.size, hb.2.1⟩), e1⟩, ⟨qs, h2.bw g (fun b hb => ⟨hb.bw g.size, hb.2.1⟩), e2⟩, fun k e => ⟨(h.ko k e).1, (h.ko k e).2.1, Nat.lt_of_lt_of_le (h.ko k e).2.2 g.size⟩⟩
theorem SOwn.more (h : SOwn w B K bv ov fv s) {B' : Nat} (hB : B' ≤ B) : SOwn w B' K bv ov fv s := by
 obtain ⟨ps, h1, e1⟩ := h.o
 obtain ⟨qs, h2, e2⟩ := h.f
 have hD : ∀ b, Dk w B K ov fv b → Dk w B' K ov fv b := fun b hb => ⟨Nat.le_trans hB hb.1, hb.2⟩
 exact ⟨h.b.keep hD (fun _ _ => rfl), ⟨ps, ⟨own_down h1.own hB, fun x hx q hq => (h1.kid x hx q hq).keep hD (fun _ _ => rfl)⟩, e1⟩, ⟨qs, ⟨own_down h2.own hB, fun x hx q hq => (h2.kid x hx q hq).keep hD (fun _ _ => rfl)⟩, e2⟩, h.ko⟩
theorem SOwn.put {k : Nat} (h : SOwn w B (some k) bv ov fv s) (g : w.grownBy w' (some k)) : SOwn w' B (some k) bv ov fv s := by
 obtain ⟨ps, h1, e1⟩ := h.o
 obtain ⟨qs, h2, e2⟩ := h.f
 have hk := h.ko k rfl
 have hD : ∀ b, Dk w B (some k) ov fv b → Dk w' B (some k) ov fv b ∧ b < w.heap.size ∧ some k ≠ some b := fun b hb => ⟨hb.bw g.size, hb.2.1, hb.2.2.1⟩
 exact ⟨h.b.keep (fun b hb => hb.bw g.size) (fun p hp => World.cell?_of_block (g.block p.block hp.2.1 (fun e => hp.2.2.1 e.symm))), ⟨ps, h1.keep g (.inr (fun e => hk.1 e.symm)) hD, e1⟩, ⟨qs, h2.keep g (.inr (fun e => hk.2.1 e.symm)) hD, e2⟩, fun j e => ⟨(h.ko j e).1, (h.ko j e).2.1, Nat.lt_of_lt_of_le (h.ko j e).2.2 g.size⟩⟩
theorem SOwn.lock (h : SOwn w B none bv ov fv s) (g : Bw w w') {k : Nat} (hk : w.heap.size ≤ k) (hk2 : k < w'.heap.size) : SOwn w' B (some k) bv ov fv s := by
 obtain ⟨ps, h1, e1⟩ := h.o
 obtain ⟨qs, h2, e2⟩ := h.f
 obtain ⟨o1, o2⟩ := h.olt
 have hD : ∀ b, Dk w B none ov fv b → Dk w' B (some k) ov fv b := fun b hb => ⟨hb.1, Nat.lt_of_lt_of_le hb.2.1 g.size, fun e => by injection e with e; have := hb.2.1; omega, hb.2.2.2⟩
 exact ⟨h.b.keep hD (fun p hp => g.b.cell hp.2.1), ⟨ps, h1.bw g (fun b hb => ⟨hD b hb, hb.2.1⟩), e1⟩, ⟨qs, h2.bw g (fun b hb => ⟨hD b hb, hb.2.1⟩), e2⟩, fun j e => by
   injection e with e
   subst e
   exact ⟨fun e => by have := (o1 _ e).2; omega, fun e => by have := (o2 _ e).2; omega, hk2⟩⟩
theorem SOwn.setB (h : SOwn w B K bv ov fv s) {bv' : Value} {l : List V} (hb : KAt w (Dk w B K ov fv) bv' l) : SOwn w B K bv' ov fv ⟨l, s.og, s.fr, s.us⟩ := ⟨hb, h.o, h.f, h.ko⟩
theorem SOwn.setU (h : SOwn w B K bv ov fv s) (u : Int) : SOwn w B K bv ov fv ⟨s.ba, s.og, s.fr, u⟩ := ⟨h.b, h.o, h.f, h.ko⟩
theorem SOwn.fresh (h : SOwn w B K bv ov fv s) {u : Value} {l : List V} (g : Bw w w') (hk : KAt w' (fun b => w.heap.size ≤ b ∧ b < w'.heap.size) u l) (hB : B ≤ w.heap.size) : KAt w' (Dk w' B K ov fv) u l := by
 obtain ⟨o1, o2⟩ := h.olt
 exact hk.keep (fun b hb => ⟨Nat.le_trans hB hb.1, hb.2, fun e => by have := (h.ko b e).2.2; omega, fun e => by have := (o1 b e).2; omega, fun e => by have := (o2 b e).2; omega⟩) (fun _ _ => rfl)
theorem SOwn.pushO (h : SOwn A B K bv ov fv s) {x : Ori} {s1 s2 : Value} (hx : KAt A (Dk A B K ov fv) s1 x.v.ks) (hy : KAt A (Dk A B K ov fv) s2 x.nx.ks) {ps : List (Ori × Value × Value)} (hp : ERow encO A 112 B (Dk A B K ov fv) ov ps) (he : ps.map (·.1) = s.og)
   (hown : W.ownsRow B 112 5 v' (ps.length + 1) (ps.flatMap encO.enc ++ [.int .i64 x.v.n, s1, .int .i64 x.r, .int .i64 x.nx.n, s2])) (hg : A.grownBy W ov.ownBlock) (hv : v'.ownBlock = ov.ownBlock ∨ v'.ownBlock = some A.heap.size) :
   SOwn W B K bv v' fv ⟨s.ba, s.og ++ [x], s.fr, s.us⟩ := by
 obtain ⟨qs, h2, e2⟩ := h.f
 have hof := h.of_ne
 have hD : ∀ b, Dk A B K ov fv b → Dk W B K v' fv b ∧ b < A.heap.size ∧ ov.ownBlock ≠ some b := fun b hb => ⟨⟨hb.1, Nat.lt_of_lt_of_le hb.2.1 hg.size, hb.2.2.1, fun e => by
   rcases hv with e' | e'
   · rw [e'] at e; exact hb.2.2.2.1 e
   · rw [e'] at e; injection e with e; have := hb.2.1; omega, hb.2.2.2.2⟩, hb.2.1, hb.2.2.2.1⟩
 refine ⟨h.b.keep (fun b hb => (hD b hb).1) (fun p hp => World.cell?_of_block (hg.block p.block hp.2.1 (fun e => hp.2.2.2.1 e.symm))), ⟨ps ++ [(x, s1, s2)], ?_, by simp [he]⟩, ⟨qs, ?_, e2⟩, fun k e => ⟨fun e' => ?_, (h.ko k e).2.1, Nat.lt_of_lt_of_le (h.ko k e).2.2 hg.size⟩⟩
 · exact hp.push (x := (x, s1, s2)) (fun q hq => by
     simp only [encO, List.mem_cons, List.not_mem_nil, or_false] at hq
     rcases hq with rfl | rfl
     · exact hx
     · exact hy) hown hg hD
 · refine h2.keep hg ?_ hD
   rcases hf : fv.ownBlock with _ | k
   · exact .inl rfl
   · exact .inr (fun e => hof k e hf)
 · rcases hv with e1 | e1
   · rw [e1] at e'; exact (h.ko k e).1 e'
   · rw [e1] at e'; injection e' with e'; have := (h.ko k e).2.2; omega
theorem SOwn.pushF (h : SOwn A B K bv ov fv s) {x : V} {s1 : Value} (hx : KAt A (Dk A B K ov fv) s1 x.ks) {qs : List VS} (hp : ERow encV A 31 B (Dk A B K ov fv) fv qs) (he : qs.map (·.1) = s.fr)
   (hown : W.ownsRow B 31 2 v' (qs.length + 1) (pCells qs ++ [.int .i64 x.n, s1])) (hg : A.grownBy W fv.ownBlock) (hv : v'.ownBlock = fv.ownBlock ∨ v'.ownBlock = some A.heap.size) :
   SOwn W B K bv ov v' ⟨s.ba, s.og, s.fr ++ [x], s.us⟩ := by
 obtain ⟨ps, h1, e1⟩ := h.o
 have hof := h.of_ne
 have hD : ∀ b, Dk A B K ov fv b → Dk W B K ov v' b ∧ b < A.heap.size ∧ fv.ownBlock ≠ some b := fun b hb => ⟨⟨hb.1, Nat.lt_of_lt_of_le hb.2.1 hg.size, hb.2.2.1, hb.2.2.2.1, fun e => by
   rcases hv with e' | e'
   · rw [e'] at e; exact hb.2.2.2.2 e
   · rw [e'] at e; injection e with e; have := hb.2.1; omega⟩, hb.2.1, hb.2.2.2.2⟩
 refine ⟨h.b.keep (fun b hb => (hD b hb).1) (fun p hp => World.cell?_of_block (hg.block p.block hp.2.1 (fun e => hp.2.2.2.2 e.symm))), ⟨ps, ?_, e1⟩, ⟨qs ++ [(x, s1)], ?_, by simp [he]⟩, fun k e => ⟨(h.ko k e).1, fun e' => ?_, Nat.lt_of_lt_of_le (h.ko k e).2.2 hg.size⟩⟩
 · refine h1.keep hg ?_ hD
   rcases hf : ov.ownBlock with _ | k
   · exact .inl rfl
   · exact .inr (fun e => hof k hf e)
 · exact hp.push (x := (x, s1)) (fun q hq => by
     simp only [encV, List.mem_cons, List.not_mem_nil, or_false] at hq
     subst hq
     exact hx) hown hg hD
 · rcases hv with e1 | e1
   · rw [e1] at e'; exact (h.ko k e).2.1 e'
   · rw [e1] at e'; injection e' with e'; have := (h.ko k e).2.2; omega
theorem SOwn.popF (h : SOwn A B K bv ov fv s) {x : VS} {qs : List VS} (hp : ERow encV A 31 B (Dk A B K ov fv) fv (x :: qs)) (hown : W.ownsRow B 31 2 v' qs.length (pCells qs)) (hg : A.grownBy W fv.ownBlock) (hv : v'.ownBlock = fv.ownBlock) :
   SOwn W B K bv ov v' ⟨s.ba, s.og, qs.map (·.1), s.us⟩ := by
 obtain ⟨ps, h1, e1⟩ := h.o
 have hof := h.of_ne
 have hD : ∀ b, Dk A B K ov fv b → Dk W B K ov v' b ∧ b < A.heap.size ∧ fv.ownBlock ≠ some b := fun b hb => ⟨⟨hb.1, Nat.lt_of_lt_of_le hb.2.1 hg.size, hb.2.2.1, hb.2.2.2.1, by rw [hv]; exact hb.2.2.2.2⟩, hb.2.1, hb.2.2.2.2⟩
 have hK : ∀ p : Addr, Dk A B K ov fv p.block → W.cell? p = A.cell? p := fun p hp => World.cell?_of_block (hg.block p.block hp.2.1 (fun e => hp.2.2.2.2 e.symm))
 refine ⟨h.b.keep (fun b hb => (hD b hb).1) hK, ⟨ps, ?_, e1⟩, ⟨qs, ⟨hown, fun y hy q hq => (hp.kid y (List.mem_cons_of_mem _ hy) q hq).keep (fun b hb => (hD b hb).1) hK⟩, rfl⟩, fun k e => ⟨(h.ko k e).1, by rw [hv]; exact (h.ko k e).2.1, Nat.lt_of_lt_of_le (h.ko k e).2.2 hg.size⟩⟩
 refine h1.keep hg ?_ hD
 rcases hf : ov.ownBlock with _ | k
 · exact .inl rfl
 · exact .inr (fun e => hof k hf e)
end
theorem vCells_zip : ∀ {l : List V} {ss : List Value}, ss.length = l.length → vCells l ss = pCells (l.zip ss)
 | [], [], _ => rfl
 | v :: l, s :: ss, h => by
   have := vCells_zip (l := l) (ss := ss) (by simpa using h)
   simp [vCells, pCells] at this ⊢
   exact this
 | [], _ :: _, h => by simp at h
 | _ :: _, [], h => by simp at h
theorem vrow_erow {w : World} {L B : Nat} {v : Value} {l : List V} {ss : List Value} (h : VRow w 31 L B v l ss) : ∃ qs : List VS, ERow encV w 31 B (fun b => L ≤ b ∧ b < w.heap.size ∧ v.ownBlock ≠ some b) v qs ∧ qs.map (·.1) = l := by
 have hl : (l.zip ss).length = l.length := by rw [List.length_zip, h.len]; omega
 refine ⟨l.zip ss, ⟨?_, fun x hx q hq => ?_⟩, by rw [List.map_fst_zip (by rw [h.len]; exact Nat.le_refl _)]⟩
 · have := h.own
   rw [vCells_zip h.len] at this
   rw [hl]; exact this
 · obtain ⟨k, hk, rfl⟩ := List.getElem_of_mem hx
   rw [hl] at hk
   simp only [encV, List.mem_cons, List.not_mem_nil, or_false] at hq
   subst hq
   have := h.kid k hk (by rw [h.len]; exact hk)
   simpa using this
theorem prcheck_any (m : Mdl) (hm : MdlOk m) (hn : NmOk m) (i : Int) (hi : -1 ≤ i ∧ i < (m.rs.length : Int)) (sv pv rv kv : Value) (w : World) (h : MB w w.heap.size sv pv rv kv m) : Calls Tryz.prog 249 #[aggM sv pv rv kv, .int .i64 i] w (NumPost w 0) := by
 obtain ⟨A1, c1, A2, c2, A3, c3, A4, c4, rfl, rfl, rfl, rfl⟩ := h.form
 have CK : Hid (∀ W, Bw w W → Calls Tryz.prog 53 #[aggM (.slice A1 m.ss.length c1) (.slice A2 m.ps.length c2) (.slice A3 m.rs.length c3) (.slice A4 (1 + m.cs.length) c4)] W (NumPost W 0)) := Lib.hid (fun W g => mdCheck_any m hm hn _ _ _ _ W (h.bw g))
 have d1 : decide (i < -1) = false := by (simp <;> omega)
 have d2 : decide ((m.rs.length : Int) ≤ i) = false := by (simp <;> omega)
 have hiz : i < (m.rs.length : Int) := by omega
 clear h hm hn hi
 unfold aggM at *
 generalize m.ss.length = n at *
 generalize m.ps.length = k at *
 generalize m.rs.length = q at *
 generalize 1 + m.cs.length = z at *
 have BX : Hid (Bw w (w.alloc (.cells #[.int .i64 1, .slice A1 n c1, .slice A2 k c2, .slice none 0 0, .slice none 0 0, .int .i64 0, .int .i64 0, .slice A3 q c3, .int .i64 0, .slice A4 z c4] 33)) ∧ ∀ W, Bw (w.alloc (.cells #[.int .i64 1, .slice A1 n c1, .slice A2 k c2, .slice none 0 0, .slice none 0 0, .int .i64 0, .int .i64 0, .slice A3 q c3, .int .i64 0, .slice A4 z c4] 33)) W → Bw w W ∧ w.heap.size < W.heap.size ∧ W.cell? ⟨w.heap.size, 0, none⟩ = some (.int .i64 1) ∧ W.cell? ⟨w.heap.size, 1, none⟩ = some (.slice A1 n c1) ∧ W.cell? ⟨w.heap.size, 2, none⟩ = some (.slice A2 k c2) ∧ W.cell? ⟨w.heap.size, 3, none⟩ = some (.slice none 0 0) ∧ W.cell? ⟨w.heap.size, 4, none⟩ = some (.slice none 0 0) ∧ W.cell? ⟨w.heap.size, 5, none⟩ = some (.int .i64 0) ∧ W.cell? ⟨w.heap.size, 6, none⟩ = some (.int .i64 0) ∧ W.cell? ⟨w.heap.size, 7, none⟩ = some (.slice A3 q c3) ∧ W.cell? ⟨w.heap.size, 8, none⟩ = some (.int .i64 0) ∧ W.cell? ⟨w.heap.size, 9, none⟩ = some (.slice A4 z c4)) := Lib.hid ⟨((Bw.refl _).alloc _), fun W g => by
   have h0 := (Blk.new w 33 #[.int .i64 1, .slice A1 n c1, .slice A2 k c2, .slice none 0 0, .slice none 0 0, .int .i64 0, .int .i64 0, .slice A3 q c3, .int .i64 0, .slice A4 z c4])
   have k0 := h0.below g.b h0.lt
   exact ⟨((Bw.refl _).alloc _).trans g, k0.lt, k0.cell 0, k0.cell 1, k0.cell 2, k0.cell 3, k0.cell 4, k0.cell 5, k0.cell 6, k0.cell 7, k0.cell 8, k0.cell 9⟩⟩
 go_enter Tryz.func249, Tryz.ntmps249
 go_wp2_with (go_at_call 53; go_must (refine (CK.out _ BX.out.1).mono ?_; rintro e w1 ⟨rfl, hg⟩; (obtain ⟨-, ylt0, y0_0, y0_1, y0_2, y0_3, y0_4, y0_5, y0_6, y0_7, y0_8, y0_9⟩ := BX.out.2 _ hg); (have HG1 := Lib.hid hg); clear hg))
 go_ret
 exact ⟨rfl, BX.out.1.trans HG1.out⟩
theorem prone1_any (t : T) (v : V) (g : Nat) (rv pv s' : Value) (w : World) (hb : Blk w g 50 #[.int .i64 t.kind, .int .i64 t.size, rv, pv]) (hT : TB w w.heap.size rv pv t) (h1 : KB w w.heap.size s' v.ks) :
   Calls Tryz.prog 310 (#[.agg #[.int .i64 v.n, s']] ++ #[.pointer (some ⟨g, 0, none⟩)]) w (BoolPost w (!validP t v)) := by
 obtain ⟨A, n, c, rfl, _, _, _⟩ := h1.form
 obtain ⟨B1, m1, d1, rfl, _, _⟩ := hT.1.form'
 obtain ⟨B2, m2, d2, rfl, _, _, _⟩ := hT.2.form
 have CV : Hid (∀ o, Calls Tryz.prog 54 #[.agg #[.int .i64 t.kind, .int .i64 t.size, .slice B1 m1 d1, .slice B2 m2 d2], .agg #[.int .i64 v.n, .slice A n c]] (w.alloc o) (BoolPost (w.alloc o) (validP t v))) := Lib.hid (fun o => ovalid_any t v _ _ _ _ (TAt.bw hT ((Bw.refl _).alloc _)) (h1.bw ((Bw.refl _).alloc _)) _ rfl)
 have q0 := hb.cell 0
 have q1 := hb.cell 1
 have q2 := hb.cell 2
 have q3 := hb.cell 3
 have ql := hb.lt
 clear h1 hb hT
 generalize validP t v = bb at *
 generalize t.kind = kd at *
 generalize t.size = sz at *
 generalize v.n = vn at *
 go_enter Tryz.func310, Tryz.ntmps310
 go_wp2_with (go_at_call 54; go_must (refine (CV.out _).mono ?_; rintro e w6 ⟨rfl, hg6⟩))
 go_ret
 exact ⟨rfl, ((Bw.refl _).alloc _).trans hg6⟩
end
end Go.Proofs.YthhbkabdhkdafaaGreat
