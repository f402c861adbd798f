/- Part of a proof of coverSearches_holds. -/
import Derived.Test.YthhbkabdhkdafaaGreatVAyP
set_option linter.unusedSimpArgs false
set_option linter.unusedVariables false
set_option maxRecDepth 100000
set_option maxHeartbeats 16000000
namespace Go.Proofs.YthhbkabdhkdafaaGreat
section
open Go.RowKit
theorem leC_step {ns cs : List Int} (hl : ns.length = cs.length) {k : Nat} (hk : k < cs.length) (h : leC (ns.take k) (cs.take k) = true) : leC (ns.take (k + 1)) (cs.take (k + 1)) = decide (ns[k]'(by omega) ≤ cs[k]) := by
 rcases Bool.eq_false_or_eq_true (leC (ns.take (k + 1)) (cs.take (k + 1))) with e | e
 · rw [e]
   have := (leC_iff (by simp; omega)).1 e k (by simp; omega)
   simp only [List.getD_eq_getElem?_getD, List.getElem?_take, Nat.lt_succ_self, if_true, List.getElem?_eq_getElem hk, List.getElem?_eq_getElem (show k < ns.length by omega), Option.getD_some] at this
   simp [this]
 · rw [e]
   symm
   apply decide_eq_false
   intro h1
   have h2 : leC (ns.take (k + 1)) (cs.take (k + 1)) = true := (leC_iff (by simp; omega)).2 fun j hj => by
     have hj' : j < k + 1 := by simp at hj; omega
     have hj2 : j < cs.length := by omega
     have hj3 : j < ns.length := by omega
     simp only [List.getD_eq_getElem?_getD, List.getElem?_take, hj', if_true, List.getElem?_eq_getElem hj2, List.getElem?_eq_getElem hj3, Option.getD_some]
     by_cases e2 : j = k
     · subst e2; exact h1
     · have := (leC_iff (ns := ns.take k) (cs := cs.take k) (by simp; omega)).1 h j (by simp; omega)
       simp only [List.getD_eq_getElem?_getD, List.getElem?_take, show j < k by omega, if_true, List.getElem?_eq_getElem hj2, List.getElem?_eq_getElem hj3, Option.getD_some] at this
       exact this
   rw [h2] at e; cases e
theorem leC_no {ns cs : List Int} (hl : ns.length = cs.length) {k : Nat} (hk : k < cs.length) (h : ¬ ns[k]'(by omega) ≤ cs[k]) : leC ns cs = false := by
 rcases Bool.eq_false_or_eq_true (leC ns cs) with e | e
 · have := (leC_iff hl).1 e k hk
   simp only [List.getD_eq_getElem?_getD, List.getElem?_eq_getElem hk, List.getElem?_eq_getElem (show k < ns.length by omega), Option.getD_some] at this
   exact absurd this h
 · exact e
theorem enabled_any (r : Rul) (s : Int) (cs : List Int) (hl : r.need.length = cs.length) (h9 : cs.length ≤ 1000) (nd gv s1 : Value) (w : World) (h1 : IB w w.heap.size nd r.need) (h2 : IB w w.heap.size gv r.give) (h3 : KB w w.heap.size s1 (cfgV s cs).ks) :
   Calls Tryz.prog 318 #[aggR r nd gv, .agg #[.int .i64 0, s1]] w (BoolPost w (decide (s = r.fr) && leC r.need cs)) := by
 obtain ⟨nm, fr, t9, need, give⟩ := r
 dsimp only at hl h1 h2 ⊢
 obtain ⟨B1, q1, d1, rfl, l1, _, _⟩ := h1.form
 obtain ⟨B2, q2, d2, rfl, _, _, _⟩ := h2.form
 obtain ⟨A5, n5, c5, rfl, l5, b5, _⟩ := h3.form
 obtain ⟨ad, xA, xn, xc, rfl, ba, qa0, qa1, -, -⟩ := h3.at_ (k := 0) (by simp [cfgV])
 have e0 : (cfgV s cs).ks[0]'(by simp [cfgV]) = V.mk s [] := rfl
 rw [e0, V.n_mk, show ad.add (0 * 2) = ad by simp [Addr.add]] at qa0
 have l5' : n5 = cs.length + 1 := by rw [← l5]; simp [cfgV]
 have hkp := h3.part (k := 1) (m := n5) (by omega) (Nat.le_refl _)
 rw [List.take_of_length_le (by rw [l5]; omega), show (cfgV s cs).ks.drop 1 = cs.map fun c => V.mk c [] from rfl] at hkp
 have hcut := fun W => cutV_l (some ad) n5 c5 1 (by omega) W
 obtain ⟨PA, eA⟩ := sliced_form (some ad) 1 n5 c5 2
 rw [eA] at hkp hcut
 push_cast at hcut
 have hn1 : n5 - 1 = cs.length := by omega
 rw [hn1] at hkp hcut
 have HKP := Lib.hid hkp
 have HND := Lib.hid h1
 have QA : Hid (∀ W, Bw w W → W.cell? ad = some (.int .i64 s)) := Lib.hid (fun W g => (g.b.cell ba).trans qa0)
 have HL := Lib.hid hl
 have hb2 : (1 : Int) ≤ (n5 : Int) := by omega
 have hb3 : (0 : Int) < (n5 : Int) := by omega
 have hb4 : 0 < n5 := by omega
 clear l5' hn1
 have hLE : Hid (∀ k (hk : k < cs.length), leC (need.take k) (cs.take k) = true → need[k]'(by omega) ≤ cs[k] → leC (need.take (k + 1)) (cs.take (k + 1)) = true) := Lib.hid (fun k hk h h' => by rw [leC_step hl hk h]; exact decide_eq_true h')
 have hNO : Hid (∀ k (hk : k < cs.length), cs[k] < need[k]'(by omega) → leC need cs = false) := Lib.hid (fun k hk h => leC_no hl hk (by simpa using h))
 have hALL : Hid (leC (need.take cs.length) (cs.take cs.length) = leC need cs) := Lib.hid (by rw [List.take_of_length_le (by omega), List.take_of_length_le (Nat.le_refl _)])
 have hm3 : cs.length ≤ 1000 := h9
 clear h1 h2 h3 qa1 e0 l5 hkp eA
 unfold aggR at *
 have BX : Hid (Bw w ((w.alloc (.cells #[.string nm, .int .i64 fr, .int .i64 t9, .slice B1 q1 d1, .slice B2 q2 d2, .slice none 0 0, .int .i64 0, .int .i64 0, .int .i64 0, .slice none 0 0, .slice none 0 0, .slice none 0 0, .slice none 0 0, .int .i64 0] 75)).alloc (.cells #[.int .i64 0, .slice (some ad) n5 c5] 31)) ∧ ∀ W, Bw ((w.alloc (.cells #[.string nm, .int .i64 fr, .int .i64 t9, .slice B1 q1 d1, .slice B2 q2 d2, .slice none 0 0, .int .i64 0, .int .i64 0, .int .i64 0, .slice none 0 0, .slice none 0 0, .slice none 0 0, .slice none 0 0, .int .i64 0] 75)).alloc (.cells #[.int .i64 0, .slice (some ad) n5 c5] 31)) W → Bw w W ∧ w.heap.size < W.heap.size ∧ w.heap.size + 1 < W.heap.size ∧ W.cell? ⟨w.heap.size, 0, none⟩ = some (.string nm) ∧ W.cell? ⟨w.heap.size, 1, none⟩ = some (.int .i64 fr) ∧ W.cell? ⟨w.heap.size, 2, none⟩ = some (.int .i64 t9) ∧ W.cell? ⟨w.heap.size, 3, none⟩ = some (.slice B1 q1 d1) ∧ W.cell? ⟨w.heap.size, 4, none⟩ = some (.slice B2 q2 d2) ∧ W.cell? ⟨w.heap.size, 5, none⟩ = some (.slice none 0 0) ∧ W.cell? ⟨w.heap.size, 6, none⟩ = some (.int .i64 0) ∧ W.cell? ⟨w.heap.size, 7, none⟩ = some (.int .i64 0) ∧ W.cell? ⟨w.heap.size, 8, none⟩ = some (.int .i64 0) ∧ W.cell? ⟨w.heap.size, 9, none⟩ = some (.slice none 0 0) ∧ W.cell? ⟨w.heap.size, 10, none⟩ = some (.slice none 0 0) ∧ W.cell? ⟨w.heap.size, 11, none⟩ = some (.slice none 0 0) ∧ W.cell? ⟨w.heap.size, 12, none⟩ = some (.slice none 0 0) ∧ W.cell? ⟨w.heap.size, 13, none⟩ = some (.int .i64 0) ∧ W.cell? ⟨w.heap.size + 1, 0, none⟩ = some (.int .i64 0) ∧ W.cell? ⟨w.heap.size + 1, 1, none⟩ = some (.slice (some ad) n5 c5)) := Lib.hid ⟨(((Bw.refl _).alloc _).alloc _), fun W g => by
   have h0 := (Blk.new w 75 #[.string nm, .int .i64 fr, .int .i64 t9, .slice B1 q1 d1, .slice B2 q2 d2, .slice none 0 0, .int .i64 0, .int .i64 0, .int .i64 0, .slice none 0 0, .slice none 0 0, .slice none 0 0, .slice none 0 0, .int .i64 0])
   have k0 := (h0.alloc (.cells #[.int .i64 0, .slice (some ad) n5 c5] 31)).below g.b (h0.alloc (.cells #[.int .i64 0, .slice (some ad) n5 c5] 31)).lt
   have h1 := (Blk.new (w.alloc (.cells #[.string nm, .int .i64 fr, .int .i64 t9, .slice B1 q1 d1, .slice B2 q2 d2, .slice none 0 0, .int .i64 0, .int .i64 0, .int .i64 0, .slice none 0 0, .slice none 0 0, .slice none 0 0, .slice none 0 0, .int .i64 0] 75)) 31 #[.int .i64 0, .slice (some ad) n5 c5])
   simp only [World.size_alloc] at h1
   have k1 := h1.below g.b h1.lt
   exact ⟨(((Bw.refl _).alloc _).alloc _).trans g, k0.lt, k1.lt, k0.cell 0, k0.cell 1, k0.cell 2, k0.cell 3, k0.cell 4, k0.cell 5, k0.cell 6, k0.cell 7, k0.cell 8, k0.cell 9, k0.cell 10, k0.cell 11, k0.cell 12, k0.cell 13, k1.cell 0, k1.cell 1⟩⟩
 have hbd : ad.block < w.heap.size := ba
 by_cases hsf : s = fr
 · have hsf' : fr = s := hsf.symm
   subst hsf'
   have dd : (fr != fr) = false := by simp
   rw [decide_eq_true rfl, Bool.true_and]
   go_enter Tryz.func318, Tryz.ntmps318
   go_wp2_with fail
   go_quiet (fail)
   go_wp2
   go_loopw [19] (fun i wr => ∃ k : Nat, k ≤ cs.length ∧ i = .int .i64 k ∧ Hid (leC (need.take k) (cs.take k) = true ∧ Bw ((w.alloc (.cells #[.string nm, .int .i64 fr, .int .i64 t9, .slice B1 q1 d1, .slice B2 q2 d2, .slice none 0 0, .int .i64 0, .int .i64 0, .int .i64 0, .slice none 0 0, .slice none 0 0, .slice none 0 0, .slice none 0 0, .int .i64 0] 75)).alloc (.cells #[.int .i64 0, .slice (some ad) n5 c5] 31)) wr)) (fun i _ => cs.length - (intOf i).toNat)
   case atStart => exact ⟨0, by omega, rfl, Lib.hid ⟨by simp [leC], (Bw.refl _).drewN _⟩⟩
   case round =>
     obtain ⟨k, hk, rfl, HR⟩ := hrel
     obtain ⟨hle, hw⟩ := HR.out
     obtain ⟨-, ult0, ult1, u0_0, u0_1, u0_2, u0_3, u0_4, u0_5, u0_6, u0_7, u0_8, u0_9, u0_10, u0_11, u0_12, u0_13, u1_0, u1_1⟩ := BX.out.2 _ hw
     by_cases hlt : k < cs.length
     · have e1 : k < need.length := by have := HL.out; omega
       have e2 : k < (cs.map fun c => V.mk c []).length := by simpa using hlt
       obtain ⟨bd, rfl, hbb, p0⟩ := (HND.out.bw (BX.out.1.trans hw)).at_ e1
       obtain ⟨pd, zA, zn, zc, rfl, hpb, z0, z1, -, -⟩ := (HKP.out.bw (BX.out.1.trans hw)).at_ e2
       have e3 : ((cs.map fun c => V.mk c [])[k]'e2).n = cs[k] := by simp
       rw [e3] at z0
       have hbb2 : bd.block < wr.heap.size := hbb
       have hbb3 : (bd.add k).block < wr.heap.size := by rw [add_block]; exact hbb
       have p1 : (wr.alloc (.cells #[.int .i64 cs[k], .slice zA zn zc] 31)).cell? (bd.add k) = some (.int .i64 (need[k]'e1)) := by rw [World.cell?_alloc_lt wr _ _ hbb3]; exact p0
       have HS := Lib.hid (hLE.out k hlt hle)
       have HN := Lib.hid (hNO.out k hlt)
       have HW := Lib.hid hw
       have hsw := hw.size
       have hq1 : k < q1 := by omega
       clear hle hw HR e3
       by_cases hge : need[k] ≤ cs[k]
       · have HX := Lib.hid (HS.out hge)
         clear HS HN
         generalize need[k] = x at *
         generalize cs[k] = y at *
         have dl : decide (y < x) = false := by simp; omega
         go_wp2_with fail
         go_quiet (fail)
         go_wp2
         go_roundw
         case rel => exact ⟨k + 1, by omega, by go_num, Lib.hid ⟨HX.out, (HW.out.alloc _).drewN _⟩⟩
         case measure => simp [intOf]; omega
       · have HX := Lib.hid (HN.out (by omega))
         clear HS HN
         generalize need[k] = x at *
         generalize cs[k] = y at *
         have dl : decide (y < x) = true := by simp; omega
         go_wp2_with fail
         go_quiet (fail)
         go_wp2
         go_ret
         exact ⟨by rw [HX.out]; rfl, (BX.out.1.trans ((HW.out.alloc _).drewN _))⟩
     · obtain rfl : k = cs.length := by omega
       rw [hALL.out] at hle
       have HLE := Lib.hid hle
       have HW := Lib.hid hw
       clear hle hw HR
       go_wp2
       go_ret
       exact ⟨by rw [HLE.out]; rfl, BX.out.1.trans HW.out⟩
 · have dd : (s != fr) = true := by simpa using hsf
   rw [decide_eq_false hsf, Bool.false_and]
   go_enter Tryz.func318, Tryz.ntmps318
   go_wp2_with fail
   go_quiet (fail)
   go_wp2
   go_ret
   exact ⟨rfl, BX.out.1.drewN _⟩
def VEPost (w : World) (v : V) (er : Int) (e : Ending) (w' : World) : Prop := ∃ s, e = .returned (.tuple #[.agg #[.int .i64 v.n, s], .int .i64 er]) ∧ KAt w' (fun b => w.heap.size ≤ b ∧ b < w'.heap.size) s v.ks ∧ Bw w w'
def mixC (cs ns gs : List Int) (k : Nat) : List Int := (fireC cs ns gs).take k ++ gs.drop k
section
variable {cs ns gs : List Int} {k : Nat}
theorem mix_zero : mixC cs ns gs 0 = gs := by simp [mixC]
theorem mix_all (h1 : ns.length = cs.length) (h2 : gs.length = cs.length) : mixC cs ns gs cs.length = fireC cs ns gs := by
 unfold mixC
 rw [List.take_of_length_le (by rw [fireC_length h1 h2]; exact Nat.le_refl _), List.drop_eq_nil_of_le (by omega), List.append_nil]
theorem mix_get (h1 : ns.length = cs.length) (h2 : gs.length = cs.length) (hk : k < cs.length) : (intVs (mixC cs ns gs k))[k]? = some (.int .i64 (gs[k]'(by omega))) := by
 have hl : ((fireC cs ns gs).take k).length = k := by simp [fireC_length h1 h2]; omega
 unfold mixC
 rw [intVs, List.getElem?_map, List.getElem?_append_right (by omega), hl, Nat.sub_self, List.getElem?_drop, Nat.add_zero, List.getElem?_eq_getElem (by omega)]
 rfl
theorem fire_at (h1 : ns.length = cs.length) (h2 : gs.length = cs.length) (hk : k < cs.length) : (fireC cs ns gs)[k]'(by rw [fireC_length h1 h2]; exact hk) = gs[k]'(by omega) + (cs[k] - ns[k]'(by omega)) := by
 have := fireC_get h1 h2 hk
 simp only [List.getD_eq_getElem?_getD, List.getElem?_eq_getElem hk, List.getElem?_eq_getElem (show k < ns.length by omega), List.getElem?_eq_getElem (show k < gs.length by omega), List.getElem?_eq_getElem (show k < (fireC cs ns gs).length by rw [fireC_length h1 h2]; exact hk), Option.getD_some] at this
 omega
theorem mix_set (h1 : ns.length = cs.length) (h2 : gs.length = cs.length) (hk : k < cs.length) : (intVs (mixC cs ns gs k)).set k (.int .i64 (gs[k]'(by omega) + (cs[k] - ns[k]'(by omega)))) = intVs (mixC cs ns gs (k + 1)) := by
 have hl : ((fireC cs ns gs).take k).length = k := by simp [fireC_length h1 h2]; omega
 have hf : k < (fireC cs ns gs).length := by rw [fireC_length h1 h2]; exact hk
 rw [← fire_at h1 h2 hk]
 unfold mixC
 rw [intVs, intVs, List.map_append, List.map_append, List.set_append_right _ _ (by rw [List.length_map, hl]; exact Nat.le_refl _), List.length_map, hl, Nat.sub_self, List.drop_eq_getElem_cons (show k < gs.length by omega), List.map_cons, List.set_cons_zero, List.take_succ_eq_append_getElem hf, List.map_append]
 simp
end
theorem any_take {p : Int → Bool} : ∀ (l : List Int) {k : Nat} (hk : k < l.length), (l.take k).any p = false → p l[k] = true → l.any p = true := fun l k hk _ h => List.any_eq_true.2 ⟨_, List.getElem_mem hk, h⟩
theorem RlIs.bw {w W : World} {p : Addr} {r : Rul} {nd gv : Value} (h : RlIs w p r nd gv) (hb : p.block < w.heap.size) (g : Bw w W) : RlIs W p r nd gv := by
 have hc : ∀ k : Nat, W.cell? ⟨p.block, k, none⟩ = w.cell? ⟨p.block, k, none⟩ := fun k => g.b.cell (p := ⟨p.block, k, none⟩) hb
 exact ⟨(g.b.cell hb).trans h.c0, (hc _).trans h.c1, (hc _).trans h.c2, (hc _).trans h.c3, (hc _).trans h.c4, (hc _).trans h.c5, (hc _).trans h.c6, (hc _).trans h.c7, (hc _).trans h.c8, (hc _).trans h.c9, (hc _).trans h.c10, (hc _).trans h.c11, (hc _).trans h.c12, (hc _).trans h.c13⟩
end
end Go.Proofs.YthhbkabdhkdafaaGreat
