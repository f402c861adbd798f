/- The reference's events of a place. The reference's right and Steps. Plain: the number of a place; what Do and Fails say of the reference's way to count places. -/
import Derived.Test.YtpkefohcccpncaaGreatDoorQAx
import Derived.Deep.DeepCutAuto
import Derived.Deep.CutBlock
import Derived.Test.YtpkefohcccpncaaGreatDoorQAt
import Derived.Test.YtpkefohcccpncaaGreatDoorQAs
import Derived.Deep.RegionHeld3
namespace Go.Proofs.YtpkefohcccpncaaGreatDoor
open Go.RowKit
set_option linter.unusedSimpArgs false
set_option linter.unusedVariables false

theorem evs_new (W : World) (es : List Ev) : EvsAt (W.alloc (.cells (evCells es).toArray 38)) (W.alloc (.cells (evCells es).toArray 38)).heap.size (some ⟨W.heap.size, 0, none⟩) es :=
  ⟨evCells_length es, fun _ => ⟨_, rfl, by simp, cells_new_list W 38 (evCells es)⟩⟩
set_option maxRecDepth 100000 in
set_option maxHeartbeats 8000000 in
theorem rat_any (p : Prg) (A : Option Addr) (n c : Nat) (i k : Nat) (v : Int) (w : World) (hT : ThsAt w w.heap.size A p.ts) (hn : p.ts.length = n) (hi : i < p.ts.length) (hk0 : k < p.ts[i].ls.length) (h6 : p.ts[i].ls.length ≤ 6)
    (h9 : n ≤ 10000000000000) :
    Calls Tryz.prog 51 #[.agg #[.int .i64 p.v, .slice A n c], .int .i64 v, .int .i64 i, .int .i64 k] w (EvsPost w (evsAt p v (i, k))) := by
  have HE := Lib.hid (evsAt_at v hi hk0)
  obtain ⟨ad, LA, lc, rfl, hab, h0, h1, hL⟩ := hT.at_ hi
  obtain ⟨ad2, rfl, hab2, g0, g1, g2⟩ := hL.at_ hk0
  have hin : i < n := by omega
  generalize hl : p.ts[i].ls[k] = l at *
  obtain ⟨nl, hnl⟩ : ∃ nl, p.ts[i].ls.length = nl := ⟨_, rfl⟩
  have hk : k < nl := by rw [← hnl]; exact hk0
  rw [hnl] at HE h1 h6
  obtain ⟨lk, la, lm⟩ := l
  dsimp only at *
  obtain ⟨evs, hev⟩ : ∃ evs, evsAt p v (i, k) = evs := ⟨_, rfl⟩
  rw [hev] at HE ⊢
  generalize p.v = pv at *
  have x1 : ∀ o1, (w.alloc o1).cell? ⟨(ad.add (i * 2)).block, (ad.add (i * 2)).off + 1, none⟩ = some (.slice (some ad2) nl lc) := fun o1 => by
    rw [World.cell?_alloc_lt _ _ _ (by dsimp only; rw [add_block]; exact hab)]; exact h1
  have x2 : ∀ o1 o2 o3, (((w.alloc o1).alloc o2).alloc o3).cell? ⟨(ad.add (i * 2)).block, (ad.add (i * 2)).off + 1, none⟩ = some (.slice (some ad2) nl lc) := fun o1 o2 o3 => by
    rw [World.cell?_alloc_lt _ _ _ (by dsimp only; rw [add_block]; simp; omega), World.cell?_alloc_lt _ _ _ (by dsimp only; rw [add_block]; simp; omega)]; exact x1 o1
  have y0 : ∀ o1, (w.alloc o1).cell? (ad2.add (k * 3)) = some (.int .i64 lk) := fun o1 => by
    rw [World.cell?_alloc_lt _ _ _ (by rw [add_block]; exact hab2)]; exact g0
  have y1 : ∀ o1, (w.alloc o1).cell? ⟨(ad2.add (k * 3)).block, (ad2.add (k * 3)).off + 1, none⟩ = some (.int .i64 la) := fun o1 => by
    rw [World.cell?_alloc_lt _ _ _ (by dsimp only; rw [add_block]; exact hab2)]; exact g1
  have y2 : ∀ o1, (w.alloc o1).cell? ⟨(ad2.add (k * 3)).block, (ad2.add (k * 3)).off + 2, none⟩ = some (.int .i64 lm) := fun o1 => by
    rw [World.cell?_alloc_lt _ _ _ (by dsimp only; rw [add_block]; exact hab2)]; exact g2
  have i0 : (0 : Int) ≤ (i : Int) := by omega
  have i1 : (i : Int) < (n : Int) := by omega
  have k0 : (0 : Int) ≤ (k : Int) := by omega
  have k1 : (k : Int) < (nl : Int) := by omega
  clear hT hn hL hl hnl hev hk0 hi h0 h1 g0 g1 g2
  go_enter Tryz.func51, Tryz.ntmps51
  go_upto_if 38 with fail
  refine wp_world (fun W => Hid (Blk W (w.heap.size + 1) 42 #[.int .i64 lk, .int .i64 la, .int .i64 lm] ∧ Blk W (w.heap.size + 1 + 1) 38 #[.int .i64 i, .int .i64 k, .int .i64 lm, .int .i64 v, .int .i64 ((k : Int) + 1)] ∧ Below w.heap.size w W)) (Lib.hid ⟨?_, ?_, ?_⟩) ?_
  · have := (Blk.new (w.alloc (.cells #[.int .i64 pv, .slice (some ad) n c] 28)) 42 #[.int .i64 lk, .int .i64 la, .int .i64 lm]).alloc (.cells #[.int .i64 i, .int .i64 k, .int .i64 lm, .int .i64 v, .int .i64 ((k : Int) + 1)] 38)
    simpa only [World.size_alloc] using this
  · have := Blk.new ((w.alloc (.cells #[.int .i64 pv, .slice (some ad) n c] 28)).alloc (.cells #[.int .i64 lk, .int .i64 la, .int .i64 lm] 42)) 38 #[.int .i64 i, .int .i64 k, .int .i64 lm, .int .i64 v, .int .i64 ((k : Int) + 1)]
    simpa only [World.size_alloc] using this
  · exact (((Below.refl _ _).alloc (Nat.le_refl _) _).alloc (by simp) _).alloc (by simp; omega) _
  intro W HW
  clear x1 x2 y0 y1 y2
  have hWs : w.heap.size + 1 + 1 < W.heap.size := HW.out.2.1.lt
  have f4 := HW.out.2.1.frozen 4
  have u4 := HW.out.2.1.cell 4
  go_cut [] from 38 to 39 (fun wx => Hid (Blk wx (w.heap.size + 1) 42 #[.int .i64 lk, .int .i64 la, .int .i64 lm] ∧ Blk wx (w.heap.size + 1 + 1) 38 #[.int .i64 i, .int .i64 k, .int .i64 lm, .int .i64 v, .int .i64 (behindL nl k)] ∧ Below w.heap.size w wx))
  case first =>
    by_cases hb : k + 1 = nl
    · have e1 : (((k : Int) + 1) == (nl : Int)) = true := by simp; omega
      have HF : Hid (behindL nl k = -1) := Lib.hid (by unfold behindL; rw [if_pos hb])
      clear hb
      go_wp2_with fail
      go_meet
      exact Lib.hid ⟨HW.out.1.far (by dsimp only; omega) _, by rw [HF.out]; exact HW.out.2.1.set_ 4 _, HW.out.2.2.setCell (by first | omega | (dsimp only; omega)) _⟩
    · have e1 : (((k : Int) + 1) == (nl : Int)) = false := by simp; omega
      have HF : Hid (behindL nl k = (k : Int) + 1) := Lib.hid (by unfold behindL; rw [if_neg hb])
      clear hb
      go_wp2_with fail
      go_meet
      exact Lib.hid ⟨HW.out.1, by rw [HF.out]; exact HW.out.2.1, HW.out.2.2⟩
  case rest =>
    obtain ⟨W1, rfl⟩ : ∃ W1 : World, W1 = wc := ⟨_, rfl⟩
    obtain ⟨bh, hbh⟩ : ∃ bh, behindL nl k = bh := ⟨_, rfl⟩
    rw [hbh] at hcut
    have hb1 : bh = -1 ∨ 0 ≤ bh := by rw [← hbh]; unfold behindL; split <;> omega
    have HBH := Lib.hid hbh
    have HC := Lib.hid hcut.out
    clear hbh hcut f4 u4 HW hWs
    have l0 := HC.out.1.cell 0
    have l1 := HC.out.1.cell 1
    have l2 := HC.out.1.cell 2
    have e0 := HC.out.2.1.cell 0
    have e1 := HC.out.2.1.cell 1
    have e2 := HC.out.2.1.cell 2
    have e3 := HC.out.2.1.cell 3
    have e4 := HC.out.2.1.cell 4
    have f3 := HC.out.2.1.frozen 3
    have f4 := HC.out.2.1.frozen 4
    have hz := HC.out.2.1.lt
    have hz1 : w.heap.size + 1 < W1.heap.size := by omega
    have HSC : Hid (∀ X, Below w.heap.size w X → ∀ (j : Nat) (u : Value), Below w.heap.size w (X.setCell ⟨w.heap.size + 1 + 1, j, none⟩ u)) := Lib.hid (fun X h j u => h.setCell (by show w.heap.size ≤ w.heap.size + 1 + 1; omega) u)
    have HSD : Hid (∀ X o, Below w.heap.size w X → ∀ (j : Nat) (u : Value), w.heap.size ≤ X.heap.size → Below w.heap.size w ((X.alloc o).setCell ⟨X.heap.size, j, none⟩ u)) := Lib.hid (fun X o h j u hx => (h.alloc hx o).setCell (by show w.heap.size ≤ X.heap.size; omega) u)
    have HB := Lib.hid HC.out.2.2
    have HEV : Hid (∀ xs : List Int, nextsL ⟨lk, la, lm⟩ nl k = xs → ¬ (lk = 7 ∨ (lk = 2 ∧ v ≠ la)) → evs = xs.map (fun x => (⟨i, k, lm, valueL ⟨lk, la, lm⟩ v, x⟩ : Ev))) := Lib.hid (fun xs hx hne => by
      rw [HE.out, evsL, if_neg hne, hx])
    have HEN : Hid ((lk = 7 ∨ (lk = 2 ∧ v ≠ la)) → evs = []) := Lib.hid (fun h => by rw [HE.out, evsL, if_pos h])
    have HONE : Hid (∀ (X : World) (x : Ev) (g : Nat), evs = [x] → Below w.heap.size w X → g = X.heap.size → EvsPost w evs (.returned (.slice (some ⟨g, 0, none⟩) 1 1)) (X.alloc (.cells #[.int .i64 x.th, .int .i64 x.ln, .int .i64 x.nu, .int .i64 x.va, .int .i64 x.nx] 38))) := Lib.hid (fun X x g h hb hg => by
      subst hg; rw [h]; exact ⟨_, _, rfl, evs_new X [x], hb.alloc hb.size _⟩)
    have HTWO : Hid (∀ (X : World) (x y : Ev) (g : Nat), evs = [x, y] → Below w.heap.size w X → g = X.heap.size → EvsPost w evs (.returned (.slice (some ⟨g, 0, none⟩) 2 2)) (X.alloc (.cells #[.int .i64 x.th, .int .i64 x.ln, .int .i64 x.nu, .int .i64 x.va, .int .i64 x.nx, .int .i64 y.th, .int .i64 y.ln, .int .i64 y.nu, .int .i64 y.va, .int .i64 y.nx] 38))) := Lib.hid (fun X x y g h hb hg => by
      subst hg; rw [h]; exact ⟨_, _, rfl, evs_new X [x, y], hb.alloc hb.size _⟩)
    by_cases k1 : lk = 1
    · subst k1
      have HX : Hid (evs = [⟨i, k, lm, la, bh⟩]) := Lib.hid (HEV.out [bh] (by rw [← HBH.out]; rfl) (by omega))
      go_wp2_with fail
      go_ret
      exact HONE.out _ _ _ HX.out (HSC.out _ HB.out _ _) (by first | rfl | simp [World.setCell])
    have d1 : (lk == 1) = false := by simpa using k1
    have HV : Hid (valueL ⟨lk, la, lm⟩ v = v) := Lib.hid (by rw [valueL, if_neg k1])
    by_cases k2 : lk = 2
    · subst k2
      by_cases hv : v = la
      · have d2 : (v != la) = false := by simp [hv]
        have d3 : (v == la) = true := by simp [hv]
        have HX : Hid (evs = [⟨i, k, lm, v, bh⟩]) := Lib.hid (by rw [HEV.out [bh] (by rw [← HBH.out]; rfl) (by omega), HV.out]; rfl)
        clear hv k1
        go_wp2_with fail
        go_ret
        exact HONE.out _ _ _ HX.out HB.out (by first | rfl | simp [World.setCell])
      · have d2 : (v != la) = true := by simpa using hv
        have HF : Hid (evs = []) := Lib.hid (HEN.out (Or.inr ⟨rfl, hv⟩))
        clear hv k1
        go_wp2_with fail
        go_ret
        rw [HF.out]
        exact ⟨none, 0, rfl, Reads.none_, HB.out⟩
    have d2 : (lk == 2) = false := by simpa using k2
    by_cases k3 : lk = 3
    · subst k3
      have HX : Hid (evs = [⟨i, k, lm, v, la⟩]) := Lib.hid (by rw [HEV.out [la] rfl (by omega), HV.out]; rfl)
      clear k1 k2
      go_wp2_with fail
      go_ret
      exact HONE.out _ _ _ HX.out (HSC.out _ HB.out _ _) (by first | rfl | simp [World.setCell])
    have d3 : (lk == 3) = false := by simpa using k3
    by_cases k4 : lk = 4
    · subst k4
      have HX : Hid (evs = (bothL la bh).map (fun x => (⟨i, k, lm, v, x⟩ : Ev))) := Lib.hid (by rw [HEV.out (bothL la bh) (by rw [← HBH.out]; rfl) (by omega), HV.out])
      clear k1 k2 k3
      by_cases m1 : la = bh
      · have HX2 : Hid (evs = [⟨i, k, lm, v, bh⟩]) := Lib.hid (by rw [HX.out, bothL, if_pos m1, m1]; rfl)
        have d4 : (la == bh) = true := by simpa using m1
        clear m1
        go_wp2_with fail
        go_ret
        exact HONE.out _ _ _ HX2.out (HB.out.alloc (by omega) _) (by first | rfl | simp [World.setCell])
      have d4 : (la == bh) = false := by simpa using m1
      by_cases m2 : bh = -1
      · have HX2 : Hid (evs = [⟨i, k, lm, v, la⟩, ⟨i, k, lm, v, bh⟩]) := Lib.hid (by rw [HX.out, bothL, if_neg m1, if_neg (by omega)]; rfl)
        have d5 : (bh == -1) = true := by simpa using m2
        clear m1 m2
        go_wp2_with fail
        go_ret
        exact HTWO.out _ _ _ _ HX2.out (HB.out.alloc (by omega) _) (by first | rfl | simp [World.setCell])
      have d5 : (bh == -1) = false := by simpa using m2
      by_cases m3 : la < bh
      · have HX2 : Hid (evs = [⟨i, k, lm, v, la⟩, ⟨i, k, lm, v, bh⟩]) := Lib.hid (by rw [HX.out, bothL, if_neg m1, if_neg (by omega)]; rfl)
        have d6 : decide (la < bh) = true := decide_eq_true m3
        clear m1 m2 m3
        go_wp2_with fail
        go_ret
        exact HTWO.out _ _ _ _ HX2.out (HB.out.alloc (by omega) _) (by first | rfl | simp [World.setCell])
      · have HX2 : Hid (evs = [⟨i, k, lm, v, bh⟩, ⟨i, k, lm, v, la⟩]) := Lib.hid (by rw [HX.out, bothL, if_neg m1, if_pos (by omega)]; rfl)
        have d6 : decide (la < bh) = false := decide_eq_false m3
        clear m1 m2 m3
        go_wp2_with fail
        go_ret
        exact HTWO.out _ _ _ _ HX2.out (HB.out.alloc (by omega) _) (by first | rfl | simp [World.setCell])
    have d4 : (lk == 4) = false := by simpa using k4
    by_cases k6 : lk = 6
    · subst k6
      have HX : Hid (evs = [⟨i, k, lm, v, -1⟩]) := Lib.hid (by rw [HEV.out [-1] rfl (by omega), HV.out]; rfl)
      clear k1 k2 k3 k4
      go_wp2_with fail
      go_ret
      exact HONE.out _ _ _ HX.out (HSC.out _ HB.out _ _) (by first | rfl | simp [World.setCell])
    have d6 : (lk == 6) = false := by simpa using k6
    by_cases k7 : lk = 7
    · subst k7
      have HF : Hid (evs = []) := Lib.hid (HEN.out (Or.inl rfl))
      clear k1 k2 k3 k4 k6
      go_wp2_with fail
      go_ret
      rw [HF.out]
      exact ⟨none, 0, rfl, Reads.none_, HB.out⟩
    have d7 : (lk == 7) = false := by simpa using k7
    have HX : Hid (evs = [⟨i, k, lm, v, bh⟩]) := Lib.hid (by rw [HEV.out [bh] (by rw [← HBH.out]; simp [nextsL, k3, k4, k6]) (by omega), HV.out]; rfl)
    clear k1 k2 k3 k4 k6 k7
    go_wp2_with fail
    go_ret
    exact HONE.out _ _ _ HX.out HB.out (by first | rfl | simp [World.setCell])
end Go.Proofs.YtpkefohcccpncaaGreatDoor
namespace Go.Proofs.YtpkefohcccpncaaGreatDoor
open Go.RowKit
set_option linter.unusedSimpArgs false
set_option linter.unusedVariables false

theorem stepsP_err {p : Prg} {v : Int} {cs : List Int} (h : (stepsP p v cs).1 ≠ 0) : stepsP p v cs = ((stepsP p v cs).1, []) := by
  unfold stepsP at h ⊢
  split <;> rename_i h1
  · rfl
  · split <;> rename_i h2
    · rfl
    · split <;> rename_i h3
      · rfl
      · rw [if_neg h1, if_neg h2, if_neg h3] at h; exact absurd rfl h
/-- the first error of a state -/
def errP (p : Prg) (v : Int) (cs : List Int) : Int :=
  if checkP p = false then 47 else if v < 0 ∨ p.v ≤ v then 2 else if cs.any badC = true then 2 else if cs.length ≠ (placesP p).length then 3 else 0
theorem errP_eq (p : Prg) (v : Int) (cs : List Int) : errP p v cs = (stepsP p v cs).1 := by
  unfold errP stepsP
  by_cases h1 : checkP p = false
  · rw [if_pos h1, if_pos h1]
  rw [if_neg h1, if_neg h1]
  by_cases h2 : v < 0 ∨ p.v ≤ v
  · rw [if_pos h2, if_pos (by omega)]
  rw [if_neg h2]
  by_cases h3 : cs.any badC = true
  · rw [if_pos h3, if_pos (Or.inr (Or.inr h3))]
  have hn : ¬ (v < 0 ∨ p.v ≤ v ∨ cs.any badC = true) := fun h => by
    rcases h with h | h | h
    · exact h2 (Or.inl h)
    · exact h2 (Or.inr h)
    · exact h3 h
  rw [if_neg h3, if_neg hn]
  by_cases h4 : cs.length ≠ (placesP p).length
  · rw [if_pos h4, if_pos h4]
  · rw [if_neg h4, if_neg h4]
set_option maxRecDepth 100000 in
set_option maxHeartbeats 8000000 in
theorem rright_any (p : Prg) (A : Option Addr) (n c : Nat) (v : Int) (CA : Option Addr) (cn cc : Nat) (cs : List Int) (w : World) (hT : ThsAt w w.heap.size A p.ts) (hn : p.ts.length = n) (hok : PrgOk p)
    (hC : IsAt w w.heap.size CA cs) (hcn : cs.length = cn) (hc9 : cn ≤ 9223372036854775807) (r : Int) (hr : (stepsP p v cs).1 = r) :
    Calls Tryz.prog 50 #[.agg #[.int .i64 p.v, .slice A n c], .int .i64 v, .slice CA cn cc] w fun e w' => e = .returned (.int .i64 r) ∧ Below w.heap.size w w' := by
  rw [← errP_eq, errP, hcn] at hr
  have HC := Lib.hid hC
  have HCN := Lib.hid hcn
  have CK : Hid (∀ o b, checkP p = b → Calls Tryz.prog 19 #[.agg #[.int .i64 p.v, .slice A n c]] (w.alloc o) fun e w' => e = .returned (.int .i64 (chkR b)) ∧ Below (w.alloc o).heap.size (w.alloc o) w') :=
    Lib.hid (fun o b hb => rcheck_any p A n c (w.alloc o) (hT.up ((Below.refl _ _).alloc (Nat.le_refl _) o)) hn hok b hb)
  have PL : Hid (∀ W, Below w.heap.size w W → Calls Tryz.prog 22 #[.agg #[.int .i64 p.v, .slice A n c]] W (PlacesPost W (placesP p))) :=
    Lib.hid (fun W h => rplaces_any p A n c W (hT.up h) hn hok)
  have h6 := placesP_le p
  rcases hb : checkP p with _ | _
  · have CK2 : Hid (∀ o, Calls Tryz.prog 19 #[.agg #[.int .i64 p.v, .slice A n c]] (w.alloc o) fun e w' => e = .returned (.int .i64 47) ∧ Below (w.alloc o).heap.size (w.alloc o) w') := Lib.hid (fun o => CK.out o false hb)
    have HF : Hid (r = 47) := Lib.hid (by rw [← hr, if_pos hb])
    clear hb CK hT hC hcn hr hok hn
    generalize p.v = pv at *
    go_enter Tryz.func50, Tryz.ntmps50
    go_wp2_with (go_at_call 19; go_must (refine (CK2.out _).mono ?_; rintro e w1 ⟨rfl, hb1⟩; (have HB1 := Lib.hid hb1); clear hb1))
    go_ret
    exact ⟨ret_int (by rw [HF.out]), ((Below.refl _ _).alloc (Nat.le_refl _) _).trans (HB1.out.mono (by simp))⟩
  have CK2 : Hid (∀ o, Calls Tryz.prog 19 #[.agg #[.int .i64 p.v, .slice A n c]] (w.alloc o) fun e w' => e = .returned (.int .i64 0) ∧ Below (w.alloc o).heap.size (w.alloc o) w') := Lib.hid (fun o => CK.out o true hb)
  rw [if_neg (by rw [hb]; decide)] at hr
  clear hT hC hcn hok hn CK hb
  generalize placesP p = ps at *
  obtain ⟨m, hm⟩ : ∃ m, ps.length = m := ⟨_, rfl⟩
  rw [hm] at h6 hr
  have HM := Lib.hid hm
  clear hm
  generalize p.v = pv at *
  have CK := CK2
  clear CK2
  by_cases v0 : v < 0
  · have d1 : decide (v < 0) = true := decide_eq_true v0
    have HF : Hid (r = 2) := Lib.hid (by rw [← hr, if_pos (Or.inl v0)])
    clear v0 hr
    go_enter Tryz.func50, Tryz.ntmps50
    go_wp2_with (go_at_call 19; go_must (refine (CK.out _).mono ?_; rintro e w1 ⟨rfl, hb1⟩; (have hq1 : Blk w1 w.heap.size 28 #[.int .i64 pv, .slice A n c] := (Blk.new w _ _).below hb1 (by simp)); (have q0 := hq1.cell 0); (have q1 := hq1.cell 1); (have HB1 := Lib.hid hb1); clear hb1 hq1))
    go_ret
    exact ⟨ret_int (by rw [HF.out]), ((Below.refl _ _).alloc (Nat.le_refl _) _).trans (HB1.out.mono (by simp))⟩
  have d1 : decide (v < 0) = false := decide_eq_false v0
  by_cases v1 : pv ≤ v
  · have d2 : decide (pv ≤ v) = true := decide_eq_true v1
    have HF : Hid (r = 2) := Lib.hid (by rw [← hr, if_pos (Or.inr v1)])
    clear v0 v1 hr
    go_enter Tryz.func50, Tryz.ntmps50
    go_wp2_with (go_at_call 19; go_must (refine (CK.out _).mono ?_; rintro e w1 ⟨rfl, hb1⟩; (have hq1 : Blk w1 w.heap.size 28 #[.int .i64 pv, .slice A n c] := (Blk.new w _ _).below hb1 (by simp)); (have q0 := hq1.cell 0); (have q1 := hq1.cell 1); (have HB1 := Lib.hid hb1); clear hb1 hq1))
    go_ret
    exact ⟨ret_int (by rw [HF.out]), ((Below.refl _ _).alloc (Nat.le_refl _) _).trans (HB1.out.mono (by simp))⟩
  have d2 : decide (pv ≤ v) = false := decide_eq_false v1
  have HRR : Hid ((if cs.any badC = true then (2 : Int) else if cn ≠ m then 3 else 0) = r) := Lib.hid (by rw [← hr, if_neg (show ¬ (v < 0 ∨ pv ≤ v) by omega)])
  clear v0 v1 hr
  go_enter Tryz.func50, Tryz.ntmps50
  go_wp2_with (go_at_call 19; go_must (refine (CK.out _).mono ?_; rintro e w1 ⟨rfl, hb1⟩; (have hq1 : Blk w1 w.heap.size 28 #[.int .i64 pv, .slice A n c] := (Blk.new w _ _).below hb1 (by simp)); (have q0 := hq1.cell 0); (have q1 := hq1.cell 1); (have HQ1 := Lib.hid hq1); (have HB1 : Hid (Below w.heap.size w w1) := Lib.hid (((Below.refl _ _).alloc (Nat.le_refl _) _).trans (hb1.mono (by simp)))); clear hb1 hq1))
  go_loop [8] (fun s8 => ∃ k : Nat, k ≤ cn ∧ s8 = .int .i64 k ∧ Hid ((cs.take k).any badC = false)) (fun s8 => cn - (intOf s8).toNat)
  case atStart => exact ⟨0, by omega, rfl, Lib.hid rfl⟩
  case round =>
    obtain ⟨k, hk, rfl, HR⟩ := hrel
    by_cases hlt : k < cn
    · have hkp : k < cs.length := by rw [HCN.out]; exact hlt
      obtain ⟨ad, rfl, hab, h0⟩ := (HC.out.below HB1.out).at_ hkp
      have HT := Lib.hid (List.take_succ_eq_append_getElem hkp)
      have HM := Lib.hid (List.getElem_mem hkp)
      generalize cs[k]'hkp = x at *
      have k0 : (0 : Int) ≤ (k : Int) := by omega
      have k1 : (k : Int) < (cn : Int) := by omega
      by_cases x0 : x < 0
      · have e1 : decide (x < 0) = true := decide_eq_true x0
        have HF : Hid (r = 2) := Lib.hid (by rw [← HRR.out, if_pos (List.any_eq_true.2 ⟨x, HM.out, by simp [badC, e1]⟩)])
        clear x0
        go_wp2_with fail
        go_ret
        exact ⟨ret_int (by rw [HF.out]), HB1.out⟩
      have e1 : decide (x < 0) = false := decide_eq_false x0
      by_cases x1 : 1048576 < x
      · have e2 : decide (1048576 < x) = true := decide_eq_true x1
        have HF : Hid (r = 2) := Lib.hid (by rw [← HRR.out, if_pos (List.any_eq_true.2 ⟨x, HM.out, by simp [badC, e2]⟩)])
        clear x0 x1
        go_wp2_with fail
        go_ret
        exact ⟨ret_int (by rw [HF.out]), HB1.out⟩
      have e2 : decide (1048576 < x) = false := decide_eq_false x1
      have HF : Hid ((cs.take (k + 1)).any badC = false) := Lib.hid (by rw [HT.out, List.any_append, HR.out]; simp [badC, e1, e2])
      clear x0 x1
      go_wp2_with fail
      go_round
      case rel => exact ⟨k + 1, by omega, by go_num, HF⟩
      case measure => simp [intOf]; omega
    · obtain rfl : k = cn := by omega
      have hbc : cs.any badC = false := by
        have := HR.out
        rwa [List.take_of_length_le (by rw [HCN.out]; exact Nat.le_refl _)] at this
      have HR3 : Hid ((if k ≠ m then (3 : Int) else 0) = r) := Lib.hid (by rw [← HRR.out, hbc]; rfl)
      clear hbc
      by_cases hkm : k = m
      · subst hkm
        have d3 : ((k : Int) != (k : Int)) = false := by simp
        have HF : Hid (r = 0) := Lib.hid (by rw [← HR3.out, if_neg (by simp)])
        go_wp2_with (go_at_call 22; go_must (refine (PL.out _ HB1.out).mono ?_; rintro e w2 ⟨PA, pc, rfl, _, hb2⟩; (rw [HM.out]); (have HB2 := Lib.hid (HB1.out.trans (hb2.mono HB1.out.size))); clear hb2))
        go_ret
        exact ⟨ret_int (by rw [HF.out]), HB2.out⟩
      · have d3 : ((k : Int) != (m : Int)) = true := by simp; omega
        have HF : Hid (r = 3) := Lib.hid (by rw [← HR3.out, if_pos hkm])
        clear hkm
        go_wp2_with (go_at_call 22; go_must (refine (PL.out _ HB1.out).mono ?_; rintro e w2 ⟨PA, pc, rfl, _, hb2⟩; (rw [HM.out]); (have HB2 := Lib.hid (HB1.out.trans (hb2.mono HB1.out.size))); clear hb2))
        go_ret
        exact ⟨ret_int (by rw [HF.out]), HB2.out⟩

set_option maxRecDepth 100000 in
set_option maxHeartbeats 8000000 in
theorem rsteps_any (p : Prg) (A : Option Addr) (n c : Nat) (v : Int) (CA : Option Addr) (cn cc : Nat) (cs : List Int) (w : World) (hT : ThsAt w w.heap.size A p.ts) (hn : p.ts.length = n) (hok : PrgOk p)
    (hC : IsAt w w.heap.size CA cs) (hcn : cs.length = cn) (hc9 : cn ≤ 9223372036854775807) (r : Int × List Ev) (hr : stepsP p v cs = r) :
    Calls Tryz.prog 24 #[.agg #[.int .i64 p.v, .slice A n c], .int .i64 v, .slice CA cn cc] w (StepsPost w r) := by
  have hn9 := hok.n
  rw [hn] at hn9
  have RG : Hid (∀ o, Calls Tryz.prog 50 #[.agg #[.int .i64 p.v, .slice A n c], .int .i64 v, .slice CA cn cc] (w.alloc o) fun e w' => e = .returned (.int .i64 r.1) ∧ Below (w.alloc o).heap.size (w.alloc o) w') := Lib.hid (fun o =>
    have hb := (Below.refl w.heap.size w).alloc (Nat.le_refl _) o
    rright_any p A n c v CA cn cc cs (w.alloc o) (hT.up hb) hn hok ((hC.below hb).more hb.size) hcn hc9 r.1 (by rw [hr]))
  by_cases h0 : r.1 = 0
  rotate_left
  · have e1 : (r.1 == 0) = false := by simpa using h0
    have e2 : (r.1 != 0) = true := by simpa using h0
    have HF : Hid (r = (r.1, [])) := Lib.hid (by have := stepsP_err (p := p) (v := v) (cs := cs) (by rw [hr]; exact h0); rw [hr] at this; exact this)
    generalize p.v = pv at *
    generalize hr1 : r.1 = r1 at *
    clear hT hC hcn hr hok hn h0 hr1
    go_enter Tryz.func24, Tryz.ntmps24
    go_wp2_with (go_at_call 50; go_must (refine (RG.out _).mono ?_; rintro e w1 ⟨rfl, hb1⟩; (have HB1 := Lib.hid hb1); clear hb1))
    go_ret2
    rw [HF.out]
    exact ⟨none, 0, rfl, Reads.none_, ((Below.refl _ _).alloc (Nat.le_refl _) _).trans (HB1.out.mono (by simp))⟩
  have h01 : (stepsP p v cs).1 = 0 := by rw [hr]; exact h0
  obtain ⟨hck, v0, v1, hbad, hlen, hsteps⟩ := steps_ok h01
  rw [h0] at RG
  have PL : Hid (∀ W, Below w.heap.size w W → Calls Tryz.prog 22 #[.agg #[.int .i64 p.v, .slice A n c]] W (PlacesPost W (placesP p))) :=
    Lib.hid (fun W h => rplaces_any p A n c W (hT.up h) hn hok)
  have HEVT : Hid (∀ i, (h : i < (placesP p).length) → ∀ W, Below w.heap.size w W → Calls Tryz.prog 51 #[.agg #[.int .i64 p.v, .slice A n c], .int .i64 v, .int .i64 ((placesP p)[i].1 : Int), .int .i64 ((placesP p)[i].2 : Int)] W (EvsPost W (evsAt p v (placesP p)[i]))) :=
    Lib.hid (fun i h W hW => by
      obtain ⟨h1, h2⟩ := place_at (List.getElem_mem h)
      have h3 := lsLen_at h1
      have h4 := check_len hck ((placesP p)[i].1 + 1)
      rw [lenTo] at h4
      exact rat_any p A n c _ _ v W (hT.up hW) hn h1 h2 (by omega) hn9)
  have h6 := placesP_le p
  have HEL : Hid (∀ x, (evsAt p v x).length ≤ 2) := Lib.hid (evsAt_le p v)
  have HPA : Hid (∀ {PA : Option Addr} {W : World} {B : Nat}, PlsAt W B PA (placesP p) → ∀ i, (h : i < (placesP p).length) → ∃ ad, PA = some ad ∧ ad.block < B ∧ W.cell? (ad.add (i * 2)) = some (.int .i64 ((placesP p)[i].1 : Int)) ∧ W.cell? ⟨(ad.add (i * 2)).block, (ad.add (i * 2)).off + 1, none⟩ = some (.int .i64 ((placesP p)[i].2 : Int))) := Lib.hid (fun h i hi => PlsAt.at_ h hi)
  have HST : Hid (∀ i, (h : i < (placesP p).length) → (h' : i < cs.length) → stepsTo p v cs (placesP p) (i + 1) = stepsTo p v cs (placesP p) i ++ (if 0 < cs[i] then evsAt p v (placesP p)[i] else [])) := Lib.hid (fun i h h' => by
    rw [stepsTo]; simp [List.getD, h, h'])
  obtain ⟨m, hm⟩ : ∃ m, (placesP p).length = m := ⟨_, rfl⟩
  rw [hm] at h6 hlen hsteps
  have HF : Hid (r = (0, stepsTo p v cs (placesP p) m)) := Lib.hid (by rw [← hsteps, hr, ← h0])
  have hmc : m = cn := by omega
  subst hmc
  have HM := Lib.hid hm
  have HCN := Lib.hid hcn
  have HC := Lib.hid hC
  have HS0 : Hid (stepsTo p v cs (placesP p) 0 = []) := Lib.hid rfl
  generalize hse : stepsTo p v cs (placesP p) = sE at *
  generalize placesP p = ps at *
  obtain ⟨evf, hevf⟩ : ∃ evf, evsAt p v = evf := ⟨_, rfl⟩
  rw [hevf] at HEVT HST HEL
  clear hT hC hcn hr hok hn h0 h01 hck v0 v1 hbad hlen hsteps hm hse hevf
  generalize p.v = pv at *
  go_enter Tryz.func24, Tryz.ntmps24
  go_wp2_with (first
    | (go_at_call 50; go_must (refine (RG.out _).mono ?_; rintro e w1 ⟨rfl, hb1⟩; (have hq1 : Blk w1 w.heap.size 28 #[.int .i64 pv, .slice A n c] := (Blk.new w _ _).below hb1 (by simp)); (have q0 := hq1.cell 0); (have q1 := hq1.cell 1); (have HQ1 := Lib.hid hq1); (have HB1 : Hid (Below w.heap.size w w1) := Lib.hid (((Below.refl _ _).alloc (Nat.le_refl _) _).trans (hb1.mono (by simp)))); clear hb1 hq1))
    | (go_at_call 22; go_must (refine (PL.out _ HB1.out).mono ?_; rintro e w2 ⟨PA, pc, rfl, hpl, hb2⟩; (rw [HM.out]); (have z2 : w1.heap.size ≤ w2.heap.size := hb2.size); (have HPL := Lib.hid hpl); (have HQ2 := Lib.hid (HQ1.out.below hb2 HQ1.out.lt)); (have HB2 := Lib.hid (HB1.out.trans (hb2.mono HB1.out.size))); clear hb2 hpl)))
  have zw2 : w.heap.size < w2.heap.size := HQ2.out.lt
  clear q0 q1
  obtain ⟨i0, hi, hz0, hz1, hz2⟩ := info_parts infoEvent
  go_loopw [9, 11] (fun s9 s11 wr => ∃ i ne : Nat, i ≤ m ∧ ne ≤ 2 * i ∧ s11 = .int .i64 i ∧ Hid ((sE i).length = ne ∧ wr.ownsRow w2.heap.size 38 5 s9 ne (evCells (sE i)) ∧ Below w2.heap.size w2 wr)) (fun _ s11 _ => m - (intOf s11).toNat)
  case atStart => exact ⟨0, 0, by omega, by omega, rfl, Lib.hid ⟨by rw [HS0.out]; rfl, by rw [HS0.out]; exact World.ownsRow_nil _ _ _ _, Below.refl _ _⟩⟩
  case round =>
    obtain ⟨i, ne, hi9, hne, rfl, HRL⟩ := hrel
    obtain ⟨hsl, hown, hbw⟩ := HRL.out
    have hwl : w2.heap.size ≤ wr.heap.size := hbw.size
    by_cases hlt : i < m
    · have hip : i < ps.length := by rw [HM.out]; exact hlt
      have hic : i < cs.length := by rw [HCN.out]; exact hlt
      obtain ⟨ad, rfl, hab, h0, h1⟩ := HPA.out (HPL.out.below hbw) i hip
      obtain ⟨ad2, rfl, hab2, g0⟩ := (HC.out.below (HB2.out.trans (hbw.mono (by omega)))).at_ hic
      have EV := Lib.hid (HEVT.out i hip)
      have HSS := Lib.hid (HST.out i hip hic)
      have hq := HQ2.out.below hbw zw2
      generalize cs[i]'hic = ct at *
      generalize ps[i]'hip = x at *
      obtain ⟨x1, x2⟩ := x
      dsimp only at *
      have KS : Hid (∀ W', Below wr.heap.size wr W' → W'.cell? ⟨w.heap.size, 0, none⟩ = some (.int .i64 pv) ∧ W'.cell? ⟨w.heap.size, 1, none⟩ = some (.slice A n c) ∧ W'.cell? (ad.add (i * 2)) = some (.int .i64 (x1 : Int)) ∧ W'.cell? ⟨(ad.add (i * 2)).block, (ad.add (i * 2)).off + 1, none⟩ = some (.int .i64 (x2 : Int))) := Lib.hid (fun W' h => by
        have hb := hq.below h (by omega)
        exact ⟨hb.cell 0, hb.cell 1, (h.cell (p := ad.add (i * 2)) (by rw [add_block]; omega)).trans h0, (h.cell (p := ⟨(ad.add (i * 2)).block, (ad.add (i * 2)).off + 1, none⟩) (by simp only [add_block]; omega)).trans h1⟩)
      obtain ⟨A3, c3, rfl⟩ := own_form hown
      have HO := Lib.hid hown
      have HB := Lib.hid hbw
      have HSL2 := Lib.hid hsl
      have HEL2 := HEL.out (x1, x2)
      obtain ⟨es, hes⟩ : ∃ es, evf (x1, x2) = es := ⟨_, rfl⟩
      rw [hes] at EV HSS HEL2
      obtain ⟨el, hel⟩ : ∃ el, es.length = el := ⟨_, rfl⟩
      rw [hel] at HEL2
      have HEL3 := Lib.hid hel
      have j0 : (0 : Int) ≤ (i : Int) := by omega
      have j1 : (i : Int) < (m : Int) := by omega
      clear hown hbw hsl hes hel HRL
      by_cases hct : 0 < ct
      · have d4 : decide (0 < ct) = true := decide_eq_true hct
        have HSX : Hid (sE (i + 1) = sE i ++ es) := Lib.hid (by rw [HSS.out, if_pos hct])
        have EV2 : Hid (∀ W, Below wr.heap.size wr W → Calls Tryz.prog 51 #[.agg #[.int .i64 pv, .slice A n c], .int .i64 v, .int .i64 (x1 : Int), .int .i64 (x2 : Int)] W (EvsPost W es)) := Lib.hid (fun W h => EV.out W ((HB2.out.trans (HB.out.mono (by omega))).trans (h.mono (by omega))))
        unfold EvsPost at EV2
        have HR0 : Hid (Below wr.heap.size wr wr.drew) := Lib.hid (below_drewN (Below.refl _ _) 1)
        have HGR : Hid (∀ W w7, Below wr.heap.size wr W → W.grownBy w7 (Value.slice A3 ne c3).ownBlock → w7.cell? ⟨w.heap.size, 0, none⟩ = some (.int .i64 pv) ∧ w7.cell? ⟨w.heap.size, 1, none⟩ = some (.slice A n c) ∧ w7.cell? (ad.add (i * 2)) = some (.int .i64 (x1 : Int)) ∧ w7.cell? ⟨(ad.add (i * 2)).block, (ad.add (i * 2)).off + 1, none⟩ = some (.int .i64 (x2 : Int))) := Lib.hid (fun W w7 h hg => by
          have hown2 := own_kept_below HO.out h
          have hbb : Below w2.heap.size W w7 := below_own (Below.refl _ _) hown2 hg (by have := h.size; omega)
          obtain ⟨a0, a1, a2, a3⟩ := KS.out W h
          exact ⟨(hbb.cell (p := ⟨w.heap.size, 0, none⟩) zw2).trans a0, (hbb.cell (p := ⟨w.heap.size, 1, none⟩) zw2).trans a1, (hbb.cell (p := ad.add (i * 2)) (by rw [add_block]; exact hab)).trans a2, (hbb.cell (p := ⟨(ad.add (i * 2)).block, (ad.add (i * 2)).off + 1, none⟩) (by simp only [add_block]; exact hab)).trans a3⟩)
        obtain ⟨q0, q1, q2, q3⟩ := KS.out wr (Below.refl _ _)
        clear hct HSS h0 h1 hq
        go_upto_region 10 with fail
        go_region_held3 (fun W' => W'.cell? ⟨w.heap.size, 0, none⟩ = some (.int .i64 pv) ∧ W'.cell? ⟨w.heap.size, 1, none⟩ = some (.slice A n c) ∧ W'.cell? (ad.add (i * 2)) = some (.int .i64 (x1 : Int)) ∧ W'.cell? ⟨(ad.add (i * 2)).block, (ad.add (i * 2)).off + 1, none⟩ = some (.int .i64 (x2 : Int))) (first | (refine KS.out _ ?_; first | exact HR0.out | exact HR5.out) | exact HK7.out) (first
          | (refine step_append_any _ rfl (.tmp 32) (.tmp 45) 34 rfl w2.heap.size 38 i0 _ 5 40 Tryz.underlying34 hi hz0 hz1 hz2 rfl (by decide) (.slice A3 ne c3) ne (evCells (sE i)) (by simp [Act.eval, Act.put]) HO5.out w5.heap.size EA el ec (evCells es) (by simp [Act.eval, Act.put]) (by have := HE5.out; unfold EvsAt at this; rw [HEL3.out] at this; exact this) (evCells_one _) (by unfold maxLen; omega) (by omega) (by omega) ?_; intro v7 w7 hown7 hgr7 hl7; obtain ⟨A7, c7, rfl⟩ := own_form hown7; (have HO7 := Lib.hid hown7); (have HG7 := Lib.hid hgr7); (have HK7 := Lib.hid (HGR.out w5 w7 HR5.out hgr7)); clear hown7 hgr7 hl7)
          | (go_at_call 51; (with_reducible refine (EV2.out _ HR0.out).mono ?_); rintro e w5 ⟨EA, ec, rfl, he5, hb5⟩; (rw [HEL3.out]); (have HR5 : Hid (Below wr.heap.size wr w5) := Lib.hid (HR0.out.trans hb5)); (have hw5 : wr.heap.size ≤ w5.heap.size := HR5.out.size); (have HE5 := Lib.hid he5); (have HO5 := Lib.hid (own_kept_below HO.out HR5.out)); clear he5 hb5))
        have HREL : Hid ((sE (i + 1)).length = ne + el ∧ w7.ownsRow w2.heap.size 38 5 (.slice A7 (ne + el) c7) (ne + el) (evCells (sE (i + 1))) ∧ Below w2.heap.size w2 w7) := Lib.hid (by
          refine ⟨by rw [HSX.out, List.length_append, HSL2.out, HEL3.out], by rw [HSX.out, evCells_append]; exact HO7.out, ?_⟩
          exact below_own (HB.out.trans (HR5.out.mono (by omega))) HO5.out HG7.out (by omega))
        go_wp2_with fail
        go_roundw
        case rel => exact ⟨i + 1, ne + el, by omega, by omega, by go_num, HREL⟩
        case measure => simp [intOf]; omega
      · have d4 : decide (0 < ct) = false := decide_eq_false hct
        have HSX : Hid (sE (i + 1) = sE i) := Lib.hid (by rw [HSS.out, if_neg hct, List.append_nil])
        clear hct HSS h0 h1 hq
        go_wp2_with fail
        go_roundw
        case rel => exact ⟨i + 1, ne, by omega, by omega, by go_num, Lib.hid ⟨by rw [HSX.out]; exact HSL2.out, by rw [HSX.out]; exact HO.out, HB.out⟩⟩
        case measure => simp [intOf]; omega
    · obtain rfl : i = m := by omega
      obtain ⟨A3, c3, rfl⟩ := own_form hown
      have HO := Lib.hid hown
      have HB := Lib.hid hbw
      have HSL2 := Lib.hid hsl
      clear hown hbw hsl HRL
      go_wp2_with fail
      go_ret2
      rw [HF.out]
      refine ⟨A3, c3, (by dsimp only; rw [HSL2.out]; rfl), ?_, HB2.out.trans (HB.out.mono (by omega))⟩
      unfold EvsAt
      dsimp only
      rw [HSL2.out]
      exact Reads.of_own HO.out
end Go.Proofs.YtpkefohcccpncaaGreatDoor
namespace Go.Proofs.YtpkefohcccpncaaGreatDoor
open Go.RowKit
set_option linter.unusedSimpArgs false
set_option linter.unusedVariables false

theorem plsTo_at {ts : List Th} : ∀ {n i k : Nat}, i < n → k < lsLen ts i → (plsTo ts n)[lenTo ts i + k]? = some (i, k) := by
  intro n
  induction n with
  | zero => intro i k h; omega
  | succ n ih =>
    intro i k h1 h2
    rw [plsTo]
    by_cases e : i = n
    · subst e
      rw [List.getElem?_append_right (by rw [plsTo_length]; omega), plsTo_length, Nat.add_sub_cancel_left]
      unfold plsOf
      rw [List.getElem?_map, List.getElem?_range h2]; rfl
    · have h3 : lenTo ts (i + 1) ≤ lenTo ts n := lenTo_le ts (by omega)
      rw [lenTo] at h3
      rw [List.getElem?_append_left (by rw [plsTo_length]; omega)]
      exact ih (by omega) h2
/-- the number of a place -/
theorem ix_place {p : Prg} (hc : checkP p = true) {i k : Nat} (hi : i < p.ts.length) (hk : k < p.ts[i].ls.length) : ixOf (placesP p) i k = lenTo p.ts i + k := by
  have h := plsTo_at (ts := p.ts) (n := p.ts.length) hi (by rw [lsLen_at hi]; exact hk)
  have h2 : (placesP p)[lenTo p.ts i + k]? = some (i, k) := by rw [placesP, if_pos hc]; exact h
  obtain ⟨hj, he⟩ := List.getElem?_eq_some_iff.1 h2
  exact ixOf_idx (places_nodup p) hj he
end Go.Proofs.YtpkefohcccpncaaGreatDoor
