/- Part of a proof of coverSearches_holds. -/
import Derived.Test.YthhbkabdhkdafaaGreatVBdP
import Derived.Test.YthhbkabdhkdafaaGreatVBaP
set_option linter.unusedSimpArgs false
set_option linter.unusedVariables false
set_option maxRecDepth 100000
set_option maxHeartbeats 16000000
namespace Go.Proofs.YthhbkabdhkdafaaGreat
section
open Go.RowKit
theorem predR_cfg (r : Rul) (s : Int) (cs : List Int) : predR r (cfgV s cs) = if s = r.tz then (optL (askC r.need r.give cs)).map (cfgV r.fr) else [] := by
 unfold predR
 rw [stV_cfg, csV_cfg]
 by_cases h : s = r.tz
 · rw [if_neg (by simpa using h), if_pos h]
   rcases askC r.need r.give cs with _ | l <;> rfl
 · rw [if_pos h, if_neg h]
def BefPost (w : World) (l : List V) (e : Ending) (w' : World) : Prop := ∃ s L ps, e = .returned (.tuple #[s, .bool false]) ∧ w.heap.size ≤ L ∧ L ≤ w'.heap.size ∧ MRow w' L s ps ∧ ps.map (·.1) = l ∧ Bw w w'
theorem BefPost.nil {w w' : World} (h : Bw w w') : BefPost w [] (.returned (.tuple #[.slice none 0 0, .bool false])) w' := ⟨_, w'.heap.size, [], rfl, h.size, Nat.le_refl _, ⟨World.ownsRow_nil _ _ _ _, fun p hp => absurd hp (by simp)⟩, rfl, h⟩
theorem size_nats (l : List Int) : sizeL (l.map fun c => V.mk c []) = l.length := by
 induction l with
 | nil => rfl
 | cons a l ih => simp [sizeL, V.size, ih]; omega
theorem own_ib {w : World} {B e n : Nat} {v : Value} {cs : List Int} (h : w.ownsRow B e 1 v n (intVs cs)) : IB w w.heap.size v cs := by
 obtain ⟨A, c, rfl, _, _⟩ := own_bounds h
 exact (own_iat h).keep (fun b hb => hb.2) (fun _ _ => rfl)
theorem before_any (m : Mdl) (hm : MdlOk m) (hn : NmOk m) (s : Int) (cs : List Int) (hv : oneP 8 m.t (cfgV s cs) = true) (i : Nat) (hi : i < m.rs.length) (sv pv rv kv s1 : Value) (w : World) (h : MB w w.heap.size sv pv rv kv m) (h1 : KB w w.heap.size s1 (cfgV s cs).ks) :
   Calls Tryz.prog 309 #[aggM sv pv rv kv, .int .i64 (i : Int), .agg #[.int .i64 0, s1]] w (BefPost w (predR m.rs[i] (cfgV s cs))) := by
 obtain ⟨A1, c1, A2, c2, A3, c3, A4, c4, rfl, rfl, rfl, rfl⟩ := h.form
 obtain ⟨A5, n5, c5, rfl, l5, b5, _⟩ := h1.form
 obtain ⟨ad, xA, xn, xc, rfl, ba, qa0, -, -, -⟩ := h1.at_ (k := 0) (by simp [cfgV])
 have e0 : (cfgV s cs).ks[0]'(by simp [cfgV]) = V.mk s [] := rfl
 rw [e0, V.n_mk, show ad.add (0 * 2) = ad by simp [Addr.add]] at qa0
 have l5' : n5 = cs.length + 1 := by rw [← l5]; simp [cfgV]
 have hkp := h1.part (k := 1) (m := n5) (by omega) (Nat.le_refl _)
 rw [List.take_of_length_le (by rw [l5]; omega), show (cfgV s cs).ks.drop 1 = cs.map fun c => V.mk c [] from rfl] at hkp
 have hcut := fun W => cutV_l (some ad) n5 c5 1 (by omega) W
 obtain ⟨PA, eA⟩ := sliced_form (some ad) 1 n5 c5 2
 rw [eA] at hkp hcut
 push_cast at hcut
 have hn1 : n5 - 1 = cs.length := by omega
 rw [hn1] at hkp hcut
 obtain ⟨s', cs', he, _, _, hlen, hcb⟩ := one_flat.1 hv
 obtain ⟨rfl, rfl⟩ := cfgV_inj he
 have hk1 := hm.k1
 obtain ⟨ad3, B1, q1, d1, B2, q2, d2, rfl, hb3, hrl, hnd, hgv⟩ := h.r.at_ hi
 have hru := hm.ru _ (List.getElem_mem hi)
 have hrw := hrl.bw (w := w) (W := ((w.alloc (.cells #[.int .i64 1, .slice A1 m.ss.length c1, .slice A2 m.ps.length c2, .slice none 0 0, .slice none 0 0, .int .i64 0, .int .i64 0, .slice (some ad3) m.rs.length c3, .int .i64 0, .slice A4 (1 + m.cs.length) c4] 33)).alloc (.cells #[.int .i64 0, .slice (some ad) n5 c5] 31))) (by rw [add_block]; exact hb3) (((Bw.refl w).alloc _).alloc _)
 have NM : Hid (∀ W, Bw w W → Calls Tryz.prog 357 #[.slice PA cs.length (c5 - 1)] W (IntsF W cs)) := Lib.hid (fun W g => by
   have := numbers_any (cs.map fun c => V.mk c []) _ W (hkp.bw g) (by simp; omega)
   simpa [Function.comp_def] using this)
 have CO : Hid (∀ W s2, Bw w W → IB W W.heap.size s2 cs → Calls Tryz.prog 356 #[aggR m.rs[i] (.slice B1 q1 d1) (.slice B2 q2 d2), s2] W (CouPost W (optL (askC m.rs[i].need m.rs[i].give cs)))) := Lib.hid (fun W s2 g hs => counters_any m.ss.length _ cs (by rw [hlen]; exact hru) hcb (by omega) (by omega) _ _ _ W (hnd.bw g) (hgv.bw g) hs)
 have hal : ∀ l, askC m.rs[i].need m.rs[i].give cs = some l → l.length ≤ 6 := fun l hl => by rw [(askC_len (by rw [hru.nl, hlen]) (by rw [hru.gl, hlen]) hl).1]; omega
 have hiq : (i : Int) < (m.rs.length : Int) := by omega
 have hiq2 : i < m.rs.length := hi
 have e1 : ((i : Int) == -1) = false := by (simp <;> omega)
 rw [predR_cfg]
 generalize hres : (if s = m.rs[i].tz then (optL (askC m.rs[i].need m.rs[i].give cs)).map (cfgV m.rs[i].fr) else []) = res
 clear h h1 hn hv he hcb hrl e0 l5 hkp
 generalize m.rs[i] = r at *
 clear hnd hgv hru hm hk1 hi hlen
 obtain ⟨nm, fr, t9, need, give⟩ := r
 unfold aggR at CO
 dsimp only at CO hal hrw hres ⊢
 have HRES := Lib.hid hres
 clear hres
 unfold aggM at *
 generalize m.ss.length = n at *
 generalize m.ps.length = k at *
 generalize m.rs.length = q at *
 generalize 1 + m.cs.length = z at *
 obtain ⟨r0, r1, r2, r3, r4, r5, r6, r7, r8, r9, r10, r11, r12, r13⟩ := hrw
 dsimp only at r0 r1 r2 r3 r4
 have hb2 : (1 : Int) ≤ (n5 : Int) := by omega
 have hb4 : (0 : Int) < (n5 : Int) := by omega
 have hb6 : 0 < n5 := by omega
 clear l5' hn1
 have BX3 : Hid (Bw w (((w.alloc (.cells #[.int .i64 1, .slice A1 n c1, .slice A2 k c2, .slice none 0 0, .slice none 0 0, .int .i64 0, .int .i64 0, .slice (some ad3) q c3, .int .i64 0, .slice A4 z c4] 33)).alloc (.cells #[.int .i64 0, .slice (some ad) n5 c5] 31)).alloc (.cells #[.string nm, .int .i64 fr, .int .i64 t9, .slice B1 q1 d1, .slice B2 q2 d2, .slice none 0 0, .int .i64 0, .int .i64 0, .int .i64 0, .slice none 0 0, .slice none 0 0, .slice none 0 0, .slice none 0 0, .int .i64 0] 75)) ∧ ∀ W, Bw (((w.alloc (.cells #[.int .i64 1, .slice A1 n c1, .slice A2 k c2, .slice none 0 0, .slice none 0 0, .int .i64 0, .int .i64 0, .slice (some ad3) q c3, .int .i64 0, .slice A4 z c4] 33)).alloc (.cells #[.int .i64 0, .slice (some ad) n5 c5] 31)).alloc (.cells #[.string nm, .int .i64 fr, .int .i64 t9, .slice B1 q1 d1, .slice B2 q2 d2, .slice none 0 0, .int .i64 0, .int .i64 0, .int .i64 0, .slice none 0 0, .slice none 0 0, .slice none 0 0, .slice none 0 0, .int .i64 0] 75)) W → Bw w W ∧ w.heap.size < W.heap.size ∧ w.heap.size + 1 < W.heap.size ∧ w.heap.size + 1 + 1 < W.heap.size ∧ W.cell? ⟨w.heap.size, 0, none⟩ = some (.int .i64 1) ∧ W.cell? ⟨w.heap.size, 1, none⟩ = some (.slice A1 n c1) ∧ W.cell? ⟨w.heap.size, 2, none⟩ = some (.slice A2 k c2) ∧ W.cell? ⟨w.heap.size, 3, none⟩ = some (.slice none 0 0) ∧ W.cell? ⟨w.heap.size, 4, none⟩ = some (.slice none 0 0) ∧ W.cell? ⟨w.heap.size, 5, none⟩ = some (.int .i64 0) ∧ W.cell? ⟨w.heap.size, 6, none⟩ = some (.int .i64 0) ∧ W.cell? ⟨w.heap.size, 7, none⟩ = some (.slice (some ad3) q c3) ∧ W.cell? ⟨w.heap.size, 8, none⟩ = some (.int .i64 0) ∧ W.cell? ⟨w.heap.size, 9, none⟩ = some (.slice A4 z c4) ∧ W.cell? ⟨w.heap.size + 1, 0, none⟩ = some (.int .i64 0) ∧ W.cell? ⟨w.heap.size + 1, 1, none⟩ = some (.slice (some ad) n5 c5) ∧ W.cell? ⟨w.heap.size + 1 + 1, 0, none⟩ = some (.string nm) ∧ W.cell? ⟨w.heap.size + 1 + 1, 1, none⟩ = some (.int .i64 fr) ∧ W.cell? ⟨w.heap.size + 1 + 1, 2, none⟩ = some (.int .i64 t9) ∧ W.cell? ⟨w.heap.size + 1 + 1, 3, none⟩ = some (.slice B1 q1 d1) ∧ W.cell? ⟨w.heap.size + 1 + 1, 4, none⟩ = some (.slice B2 q2 d2) ∧ W.cell? ⟨w.heap.size + 1 + 1, 5, none⟩ = some (.slice none 0 0) ∧ W.cell? ⟨w.heap.size + 1 + 1, 6, none⟩ = some (.int .i64 0) ∧ W.cell? ⟨w.heap.size + 1 + 1, 7, none⟩ = some (.int .i64 0) ∧ W.cell? ⟨w.heap.size + 1 + 1, 8, none⟩ = some (.int .i64 0) ∧ W.cell? ⟨w.heap.size + 1 + 1, 9, none⟩ = some (.slice none 0 0) ∧ W.cell? ⟨w.heap.size + 1 + 1, 10, none⟩ = some (.slice none 0 0) ∧ W.cell? ⟨w.heap.size + 1 + 1, 11, none⟩ = some (.slice none 0 0) ∧ W.cell? ⟨w.heap.size + 1 + 1, 12, none⟩ = some (.slice none 0 0) ∧ W.cell? ⟨w.heap.size + 1 + 1, 13, none⟩ = some (.int .i64 0)) := Lib.hid ⟨((((Bw.refl _).alloc _).alloc _).alloc _), fun W g => by
   have h0 := (Blk.new w 33 #[.int .i64 1, .slice A1 n c1, .slice A2 k c2, .slice none 0 0, .slice none 0 0, .int .i64 0, .int .i64 0, .slice (some ad3) q c3, .int .i64 0, .slice A4 z c4])
   have k0 := ((h0.alloc (.cells #[.int .i64 0, .slice (some ad) n5 c5] 31)).alloc (.cells #[.string nm, .int .i64 fr, .int .i64 t9, .slice B1 q1 d1, .slice B2 q2 d2, .slice none 0 0, .int .i64 0, .int .i64 0, .int .i64 0, .slice none 0 0, .slice none 0 0, .slice none 0 0, .slice none 0 0, .int .i64 0] 75)).below g.b ((h0.alloc (.cells #[.int .i64 0, .slice (some ad) n5 c5] 31)).alloc (.cells #[.string nm, .int .i64 fr, .int .i64 t9, .slice B1 q1 d1, .slice B2 q2 d2, .slice none 0 0, .int .i64 0, .int .i64 0, .int .i64 0, .slice none 0 0, .slice none 0 0, .slice none 0 0, .slice none 0 0, .int .i64 0] 75)).lt
   have h1 := (Blk.new (w.alloc (.cells #[.int .i64 1, .slice A1 n c1, .slice A2 k c2, .slice none 0 0, .slice none 0 0, .int .i64 0, .int .i64 0, .slice (some ad3) q c3, .int .i64 0, .slice A4 z c4] 33)) 31 #[.int .i64 0, .slice (some ad) n5 c5])
   simp only [World.size_alloc] at h1
   have k1 := (h1.alloc (.cells #[.string nm, .int .i64 fr, .int .i64 t9, .slice B1 q1 d1, .slice B2 q2 d2, .slice none 0 0, .int .i64 0, .int .i64 0, .int .i64 0, .slice none 0 0, .slice none 0 0, .slice none 0 0, .slice none 0 0, .int .i64 0] 75)).below g.b (h1.alloc (.cells #[.string nm, .int .i64 fr, .int .i64 t9, .slice B1 q1 d1, .slice B2 q2 d2, .slice none 0 0, .int .i64 0, .int .i64 0, .int .i64 0, .slice none 0 0, .slice none 0 0, .slice none 0 0, .slice none 0 0, .int .i64 0] 75)).lt
   have h2 := (Blk.new ((w.alloc (.cells #[.int .i64 1, .slice A1 n c1, .slice A2 k c2, .slice none 0 0, .slice none 0 0, .int .i64 0, .int .i64 0, .slice (some ad3) q c3, .int .i64 0, .slice A4 z c4] 33)).alloc (.cells #[.int .i64 0, .slice (some ad) n5 c5] 31)) 75 #[.string nm, .int .i64 fr, .int .i64 t9, .slice B1 q1 d1, .slice B2 q2 d2, .slice none 0 0, .int .i64 0, .int .i64 0, .int .i64 0, .slice none 0 0, .slice none 0 0, .slice none 0 0, .slice none 0 0, .int .i64 0])
   simp only [World.size_alloc] at h2
   have k2 := h2.below g.b h2.lt
   exact ⟨((((Bw.refl _).alloc _).alloc _).alloc _).trans g, k0.lt, k1.lt, k2.lt, k0.cell 0, k0.cell 1, k0.cell 2, k0.cell 3, k0.cell 4, k0.cell 5, k0.cell 6, k0.cell 7, k0.cell 8, k0.cell 9, k1.cell 0, k1.cell 1, k2.cell 0, k2.cell 1, k2.cell 2, k2.cell 3, k2.cell 4, k2.cell 5, k2.cell 6, k2.cell 7, k2.cell 8, k2.cell 9, k2.cell 10, k2.cell 11, k2.cell 12, k2.cell 13⟩⟩
 go_enter Tryz.func309, Tryz.ntmps309
 go_wp2_with fail
 refine wp_world (fun W => Hid (Bw (((w.alloc (.cells #[.int .i64 1, .slice A1 n c1, .slice A2 k c2, .slice none 0 0, .slice none 0 0, .int .i64 0, .int .i64 0, .slice (some ad3) q c3, .int .i64 0, .slice A4 z c4] 33)).alloc (.cells #[.int .i64 0, .slice (some ad) n5 c5] 31)).alloc (.cells #[.string nm, .int .i64 fr, .int .i64 t9, .slice B1 q1 d1, .slice B2 q2 d2, .slice none 0 0, .int .i64 0, .int .i64 0, .int .i64 0, .slice none 0 0, .slice none 0 0, .slice none 0 0, .slice none 0 0, .int .i64 0] 75)) W)) (Lib.hid (Bw.refl _)) ?_
 intro W0 HW0
 clear r0 r1 r2 r3 r4 r5 r6 r7 r8 r9 r10 r11 r12 r13
 obtain ⟨-, ylt0, ylt1, ylt2, y0_0, y0_1, y0_2, y0_3, y0_4, y0_5, y0_6, y0_7, y0_8, y0_9, y1_0, y1_1, y2_0, y2_1, y2_2, y2_3, y2_4, y2_5, y2_6, y2_7, y2_8, y2_9, y2_10, y2_11, y2_12, y2_13⟩ := BX3.out.2 _ HW0.out
 have qa1 : W0.cell? ad = some (.int .i64 s) := ((BX3.out.1.trans HW0.out).b.cell ba).trans qa0
 have qal : ad.block < W0.heap.size := Nat.lt_of_lt_of_le ba (BX3.out.1.trans HW0.out).size
 by_cases hst : s = t9
 · have hst' : t9 = s := hst.symm
   subst hst'
   have dd : (t9 != t9) = false := by simp
   go_quiet (fail)
   go_wp2_with fail
   refine wp_world (fun W => Hid (Bw (((w.alloc (.cells #[.int .i64 1, .slice A1 n c1, .slice A2 k c2, .slice none 0 0, .slice none 0 0, .int .i64 0, .int .i64 0, .slice (some ad3) q c3, .int .i64 0, .slice A4 z c4] 33)).alloc (.cells #[.int .i64 0, .slice (some ad) n5 c5] 31)).alloc (.cells #[.string nm, .int .i64 fr, .int .i64 t9, .slice B1 q1 d1, .slice B2 q2 d2, .slice none 0 0, .int .i64 0, .int .i64 0, .int .i64 0, .slice none 0 0, .slice none 0 0, .slice none 0 0, .slice none 0 0, .int .i64 0] 75)) W)) (Lib.hid (HW0.out.trans ((Bw.refl _).drewN _))) ?_
   clear ylt0 ylt1 ylt2 y0_0 y0_1 y0_2 y0_3 y0_4 y0_5 y0_6 y0_7 y0_8 y0_9 y1_0 y1_1 y2_0 y2_1 y2_2 y2_3 y2_4 y2_5 y2_6 y2_7 y2_8 y2_9 y2_10 y2_11 y2_12 y2_13
   clear qa1 qal dd
   intro W1 HW1
   have HRS : Hid ((optL (askC need give cs)).map (cfgV fr) = res) := Lib.hid (by simpa using HRES.out)
   have KS : Hid (∀ w', Bw W1 w' → w'.cell? ⟨w.heap.size + 1 + 1, 0, none⟩ = some (.string nm) ∧ w'.cell? ⟨w.heap.size + 1 + 1, 1, none⟩ = some (.int .i64 fr) ∧ w'.cell? ⟨w.heap.size + 1 + 1, 2, none⟩ = some (.int .i64 t9) ∧ w'.cell? ⟨w.heap.size + 1 + 1, 3, none⟩ = some (.slice B1 q1 d1) ∧ w'.cell? ⟨w.heap.size + 1 + 1, 4, none⟩ = some (.slice B2 q2 d2) ∧ w'.cell? ⟨w.heap.size + 1 + 1, 5, none⟩ = some (.slice none 0 0) ∧ w'.cell? ⟨w.heap.size + 1 + 1, 6, none⟩ = some (.int .i64 0) ∧ w'.cell? ⟨w.heap.size + 1 + 1, 7, none⟩ = some (.int .i64 0) ∧ w'.cell? ⟨w.heap.size + 1 + 1, 8, none⟩ = some (.int .i64 0) ∧ w'.cell? ⟨w.heap.size + 1 + 1, 9, none⟩ = some (.slice none 0 0) ∧ w'.cell? ⟨w.heap.size + 1 + 1, 10, none⟩ = some (.slice none 0 0) ∧ w'.cell? ⟨w.heap.size + 1 + 1, 11, none⟩ = some (.slice none 0 0) ∧ w'.cell? ⟨w.heap.size + 1 + 1, 12, none⟩ = some (.slice none 0 0) ∧ w'.cell? ⟨w.heap.size + 1 + 1, 13, none⟩ = some (.int .i64 0) ∧ w'.cell? ⟨w.heap.size + 1, 1, none⟩ = some (.slice (some ad) n5 c5) ∧ Bw W1 w') := Lib.hid (fun w' g => by
     obtain ⟨-, ylt0, ylt1, ylt2, y0_0, y0_1, y0_2, y0_3, y0_4, y0_5, y0_6, y0_7, y0_8, y0_9, y1_0, y1_1, y2_0, y2_1, y2_2, y2_3, y2_4, y2_5, y2_6, y2_7, y2_8, y2_9, y2_10, y2_11, y2_12, y2_13⟩ := BX3.out.2 _ (HW1.out.trans g)
     exact ⟨y2_0, y2_1, y2_2, y2_3, y2_4, y2_5, y2_6, y2_7, y2_8, y2_9, y2_10, y2_11, y2_12, y2_13, y1_1, g⟩)
   have hbs : w.heap.size + 1 + 1 < W1.heap.size := by
     obtain ⟨-, ylt0, ylt1, ylt2, y0_0, y0_1, y0_2, y0_3, y0_4, y0_5, y0_6, y0_7, y0_8, y0_9, y1_0, y1_1, y2_0, y2_1, y2_2, y2_3, y2_4, y2_5, y2_6, y2_7, y2_8, y2_9, y2_10, y2_11, y2_12, y2_13⟩ := BX3.out.2 _ HW1.out
     exact ylt2
   have NM2 : Hid (∀ W, Bw W1 W → Calls Tryz.prog 357 #[.slice PA cs.length (c5 - 1)] W (IntsF W cs)) := Lib.hid (fun W g => NM.out W ((BX3.out.1.trans HW1.out).trans g))
   have CO2 : Hid (∀ W s2, Bw W1 W → IB W W.heap.size s2 cs → Calls Tryz.prog 356 #[.agg #[.string nm, .int .i64 fr, .int .i64 t9, .slice B1 q1 d1, .slice B2 q2 d2, .slice none 0 0, .int .i64 0, .int .i64 0, .int .i64 0, .slice none 0 0, .slice none 0 0, .slice none 0 0, .slice none 0 0, .int .i64 0], s2] W (CouPost W (optL (askC need give cs)))) := Lib.hid (fun W s2 g hs => CO.out W s2 ((BX3.out.1.trans HW1.out).trans g) hs)
   clear NM CO
   unfold IntsF at NM2
   unfold CouPost at CO2
   generalize askC need give cs = ask at *
   go_region_held3 (fun w' => w'.cell? ⟨w.heap.size + 1 + 1, 0, none⟩ = some (.string nm) ∧ w'.cell? ⟨w.heap.size + 1 + 1, 1, none⟩ = some (.int .i64 fr) ∧ w'.cell? ⟨w.heap.size + 1 + 1, 2, none⟩ = some (.int .i64 t9) ∧ w'.cell? ⟨w.heap.size + 1 + 1, 3, none⟩ = some (.slice B1 q1 d1) ∧ w'.cell? ⟨w.heap.size + 1 + 1, 4, none⟩ = some (.slice B2 q2 d2) ∧ w'.cell? ⟨w.heap.size + 1 + 1, 5, none⟩ = some (.slice none 0 0) ∧ w'.cell? ⟨w.heap.size + 1 + 1, 6, none⟩ = some (.int .i64 0) ∧ w'.cell? ⟨w.heap.size + 1 + 1, 7, none⟩ = some (.int .i64 0) ∧ w'.cell? ⟨w.heap.size + 1 + 1, 8, none⟩ = some (.int .i64 0) ∧ w'.cell? ⟨w.heap.size + 1 + 1, 9, none⟩ = some (.slice none 0 0) ∧ w'.cell? ⟨w.heap.size + 1 + 1, 10, none⟩ = some (.slice none 0 0) ∧ w'.cell? ⟨w.heap.size + 1 + 1, 11, none⟩ = some (.slice none 0 0) ∧ w'.cell? ⟨w.heap.size + 1 + 1, 12, none⟩ = some (.slice none 0 0) ∧ w'.cell? ⟨w.heap.size + 1 + 1, 13, none⟩ = some (.int .i64 0) ∧ w'.cell? ⟨w.heap.size + 1, 1, none⟩ = some (.slice (some ad) n5 c5) ∧ Bw W1 w') (first | (refine KS.out _ ?_; first | exact (Bw.refl _).drew | exact (Bw.refl _).drew.trans hg6 | exact ((Bw.refl _).drew.trans hg6).trans hg7)) (first
     | (go_at_call 357; (with_reducible refine (NM2.out _ (Bw.refl _).drew).mono ?_); rintro e w6 ⟨s6, rfl, ho6, hg6⟩; obtain ⟨A6, c6, rfl, _, _⟩ := own_bounds ho6)
     | (go_at_call 356; (with_reducible refine (CO2.out _ _ ((Bw.refl _).drew.trans hg6) (own_ib ho6)).mono ?_); rintro e w7 ⟨s7, rfl, hi7, hg7⟩; obtain ⟨A7, n7, c7, rfl, l7, _, _⟩ := hi7.form))
   have HG7 : Hid (Bw W1 w7) := Lib.hid (((Bw.refl _).drew.trans hg6).trans hg7)
   have HI7 := Lib.hid hi7
   have HL7 := Lib.hid l7
   clear hg6 hg7 ho6 hi7 l7 KS NM2 CO2 HRES
   rcases ask with _ | l
   · obtain rfl : n7 = 0 := HL7.out.symm
     have hre : res = [] := HRS.out.symm
     subst hre
     go_wp2
     refine wp_loop_rounds 1 ?_
     rw [rounds_succ]
     go_wp2
     go_ret2
     exact BefPost.nil ((BX3.out.1.trans HW1.out).trans HG7.out)
   · obtain rfl : n7 = 1 := HL7.out.symm
     have hl6 := hal l rfl
     obtain ⟨av, vA, vn, vc, rfl, hSv, qv, hlv, hiv⟩ := HI7.out.at_ (k := 0) (by simp [optL])
     rw [show av.add 0 = av by simp [Addr.add]] at qv
     have hiv : IB w7 w7.heap.size (.slice vA vn vc) l := hiv
     have hlv : l.length = vn := hlv
     have HIV := Lib.hid hiv
     have hre : res = [cfgV fr l] := HRS.out.symm
     have HRE := Lib.hid hre
     clear hiv hlv hre hal
     go_wp2
     refine wp_loop_rounds 2 ?_
     rw [rounds_succ]
     go_wp2_with fail
     refine wp_world (fun W => Hid (Bw (((w.alloc (.cells #[.int .i64 1, .slice A1 n c1, .slice A2 k c2, .slice none 0 0, .slice none 0 0, .int .i64 0, .int .i64 0, .slice (some ad3) q c3, .int .i64 0, .slice A4 z c4] 33)).alloc (.cells #[.int .i64 0, .slice (some ad) n5 c5] 31)).alloc (.cells #[.string nm, .int .i64 fr, .int .i64 t9, .slice B1 q1 d1, .slice B2 q2 d2, .slice none 0 0, .int .i64 0, .int .i64 0, .int .i64 0, .slice none 0 0, .slice none 0 0, .slice none 0 0, .slice none 0 0, .int .i64 0] 75)) W ∧ IB W W.heap.size (.slice vA vn vc) l)) (Lib.hid ⟨HW1.out.trans HG7.out, HIV.out⟩) ?_
     intro W2 HW2
     have KS : Hid (∀ w', Bw W2 w' → w'.cell? ⟨w.heap.size + 1 + 1, 1, none⟩ = some (.int .i64 fr) ∧ Bw W2 w') := Lib.hid (fun w' g => by
       obtain ⟨-, ylt0, ylt1, ylt2, y0_0, y0_1, y0_2, y0_3, y0_4, y0_5, y0_6, y0_7, y0_8, y0_9, y1_0, y1_1, y2_0, y2_1, y2_2, y2_3, y2_4, y2_5, y2_6, y2_7, y2_8, y2_9, y2_10, y2_11, y2_12, y2_13⟩ := BX3.out.2 _ (HW2.out.1.trans g)
       exact ⟨y2_1, g⟩)
     have hbs2 : w.heap.size + 1 + 1 < W2.heap.size := by
       obtain ⟨-, ylt0, ylt1, ylt2, y0_0, y0_1, y0_2, y0_3, y0_4, y0_5, y0_6, y0_7, y0_8, y0_9, y1_0, y1_1, y2_0, y2_1, y2_2, y2_3, y2_4, y2_5, y2_6, y2_7, y2_8, y2_9, y2_10, y2_11, y2_12, y2_13⟩ := BX3.out.2 _ HW2.out.1
       exact ylt2
     have VA : Hid (∀ W, Bw W2 W → Calls Tryz.prog 359 #[.slice vA vn vc] W (fun e w' => ∃ s, e = .returned s ∧ KB w' w'.heap.size s (l.map fun c => V.mk c []) ∧ Bw W w')) := Lib.hid (fun W g => (values_any l _ W (HW2.out.2.bw g) (by omega)).mono fun e w' ⟨s, ss, h1, h2, h3⟩ => ⟨s, h1, (h2.kat (Nat.le_refl _)).keep (fun b hb => hb.2) (fun _ _ => rfl), h3⟩)
     have WI : Hid (∀ W s2, KB W W.heap.size s2 (l.map fun c => V.mk c []) → Calls Tryz.prog 358 #[.int .i64 fr, s2] W (ValPost W (cfgV fr l))) := Lib.hid (fun W s2 hs => with_any fr (l.map fun c => V.mk c []) (by rw [size_nats]; omega) s2 W hs)
     obtain ⟨i0, hi0, hz0, hz1, hz2⟩ := info_parts infoVal
     have hl6' : l.length ≤ 6 := hl6
     unfold ValPost at WI
     go_region_held3 (fun w' => w'.cell? ⟨w.heap.size + 1 + 1, 1, none⟩ = some (.int .i64 fr) ∧ Bw W2 w') (first | (refine KS.out _ ?_; first | exact (Bw.refl _).drew | exact (Bw.refl _).drew.trans hg8 | exact ((Bw.refl _).drew.trans hg8).trans hg9 | exact (((Bw.refl _).drew.trans hg8).trans hg9).alloc _ | exact ((((Bw.refl _).drew.trans hg8).trans hg9).alloc _).trans (Bw.grown hgr10))) (first
       | (go_at_call 359; (with_reducible refine (VA.out _ (Bw.refl _).drew).mono ?_); rintro e w8 ⟨s8, rfl, hk8, hg8⟩; obtain ⟨A8, n8, c8, rfl, _, _, _⟩ := hk8.form)
       | (go_at_call 358; (with_reducible refine (WI.out _ _ hk8).mono ?_); rintro e w9 ⟨s9, rfl, hk9, hg9⟩; obtain ⟨A9, n9, c9, rfl, _, _, _⟩ := hk9.form)
       | (refine step_append_grows (by rfl) _ _ 29 (by rfl) 31 i0 _ 2 32 Tryz.underlying29 hi0 hz0 hz1 hz2 rfl (by omega) none 0 0 [] (by rfl) (fun _ => ⟨rfl, rfl⟩) rfl (fun b hb => by cases hb) ⟨w9.heap.size, 0, none⟩ 1 1 [.int .i64 0, .slice A9 n9 c9] (by rfl) (by rfl) (World.news_of_block (cs := #[.int .i64 0, .slice A9 n9 c9]) (t := 31) (fr := (0, 0)) (heap_alloc_new w9 _)) (one2 _ _ _ _) (by omega) (by unfold maxLen; omega) (by omega) ?_; intro v10 w10 hown10 hgr10; obtain ⟨A10, c10, rfl⟩ := own_form hown10))
     have HK9 := Lib.hid hk9
     have HO10 := Lib.hid hown10
     have HB9 : Hid (Bw W2 w9) := Lib.hid (((Bw.refl _).drew.trans hg8).trans hg9)
     have HB10 : Hid (Bw w9 w10) := Lib.hid (((Bw.refl _).alloc _).trans (Bw.grown hgr10))
     clear hk9 hk8 hg8 hg9 hown10 hgr10 KS VA WI
     go_wp2
     rw [rounds_succ]
     go_wp2
     go_ret2
     rw [HRE.out]
     have hbw := (BX3.out.1.trans HW2.out.1).trans HB9.out
     refine ⟨_, w9.heap.size, [(cfgV fr l, .slice A9 n9 c9)], rfl, hbw.size, HB10.out.size, ⟨?_, fun p hp => ?_⟩, rfl, hbw.trans HB10.out⟩
     · have := HO10.out
       exact own_down this (by simp)
     · obtain rfl := List.mem_singleton.1 hp
       exact HK9.out.keep (fun b hb => hb.2) (fun p hp => HB10.out.b.cell hp.2)
 · have dd : (s != t9) = true := by simpa using hst
   go_quiet (fail)
   go_wp2
   go_ret2
   rw [← HRES.out, if_neg hst]
   exact BefPost.nil (BX3.out.1.trans (HW0.out.trans ((Bw.refl _).drewN _)))
end
end Go.Proofs.YthhbkabdhkdafaaGreat
