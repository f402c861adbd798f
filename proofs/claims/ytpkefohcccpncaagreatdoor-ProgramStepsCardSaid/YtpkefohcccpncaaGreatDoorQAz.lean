/- The reference's Do. -/
import Derived.Test.YtpkefohcccpncaaGreatDoorQAy
import Derived.Test.YtpkefohcccpncaaGreatDoorQAu
namespace Go.Proofs.YtpkefohcccpncaaGreatDoor
open Go.RowKit
set_option linter.unusedSimpArgs false
set_option linter.unusedVariables false

/-- is a count too great? -/
def bigC (cs : List Int) : Bool := cs.any fun n => decide (1048576 < n)
def DoPost (w : World) (r : Int × Int × List Int) (e : Ending) (w' : World) : Prop := ∃ A c, e = .returned (.tuple #[.int .i64 r.2.1, .slice A r.2.2.length c, .int .i64 r.1]) ∧ IsAt w' w'.heap.size A r.2.2 ∧ Below w.heap.size w w'
theorem DoPost.err {w w' : World} {x : Int} {e : Ending} (he : e = .returned (.tuple #[.int .i64 0, .slice none 0 0, .int .i64 x])) (hb : Below w.heap.size w w') : DoPost w (x, 0, []) e w' := ⟨none, 0, he, Reads.none_, hb⟩
/-- what holds while Do changes the counts -/
structure RDoI (w W : World) (v : Int) (A : Option Addr) (n c : Nat) (e : Ev) (g m cap : Nat) (cs : List Int) : Prop where
  own : W.ownsRow (w.heap.size + 2) 3 1 (.slice (some ⟨g, 0, none⟩) m cap) m (intVs cs)
  n_ : cs.length = m
  p : Blk W w.heap.size 28 #[.int .i64 v, .slice A n c]
  e : Blk W (w.heap.size + 1) 38 #[.int .i64 e.th, .int .i64 e.ln, .int .i64 e.nu, .int .i64 e.va, .int .i64 e.nx]
  be : Below w.heap.size w W
theorem RDoI.below {w W W' : World} {v : Int} {A : Option Addr} {n c : Nat} {e : Ev} {g m cap : Nat} {cs : List Int} (h : RDoI w W v A n c e g m cap cs) (hb : Below W.heap.size W W') : RDoI w W' v A n c e g m cap cs :=
  ⟨own_kept_below h.own hb, h.n_, h.p.below hb h.p.lt, h.e.below hb h.e.lt, h.be.trans (hb.mono h.be.size)⟩
theorem RDoI.g_lt {w W : World} {v : Int} {A : Option Addr} {n c : Nat} {e : Ev} {g m cap : Nat} {cs : List Int} (h : RDoI w W v A n c e g m cap cs) : w.heap.size + 1 < g ∧ g < W.heap.size := by
  have := h.own.lt g rfl; omega
theorem RDoI.bump {w W : World} {v : Int} {A : Option Addr} {n c : Nat} {e : Ev} {g m cap : Nat} {cs : List Int} (h : RDoI w W v A n c e g m cap cs) (ix : Nat) (d : Int) : RDoI w (W.setCell ⟨g, ix, none⟩ (.int .i64 (cs.getD ix 0 + d))) v A n c e g m cap (bump cs ix d) := by
  have hg := h.g_lt
  have h1 := (h.own.stored ix (.int .i64 (cs.getD ix 0 + d))).1
  rw [intVs_set] at h1
  exact ⟨h1, by rw [bump_length]; exact h.n_, h.p.far (by dsimp only; omega) _, h.e.far (by dsimp only; omega) _, h.be.setCell (by dsimp only; omega) _⟩
theorem RDoI.cell {w W : World} {v : Int} {A : Option Addr} {n c : Nat} {e : Ev} {g m cap : Nat} {cs : List Int} (h : RDoI w W v A n c e g m cap cs) {ix : Nat} (hi : ix < m) : W.cell? ⟨g, ix, none⟩ = some (.int .i64 (cs.getD ix 0)) ∧ W.frozen? ⟨g, ix, none⟩ = false := by
  have := h.n_
  exact ⟨by rw [h.own.cellAt ix (by omega), intVs_get (by omega)], h.own.frozenAt ix⟩
theorem bigC_at {cs : List Int} {j : Nat} (hj : j < cs.length) (h : 1048576 < cs.getD j 0) : bigC cs = true := by
  refine List.any_eq_true.2 ⟨cs[j], List.getElem_mem hj, ?_⟩
  rw [show cs.getD j 0 = cs[j] by simp [List.getD, hj]] at h
  simpa using h
theorem bigC_none {cs : List Int} (h : ∀ j, j < cs.length → ¬ 1048576 < cs.getD j 0) : bigC cs = false := by
  refine List.any_eq_false.2 fun x hx => ?_
  obtain ⟨j, hj, rfl⟩ := List.getElem_of_mem hx
  have := h j hj
  rw [show cs.getD j 0 = cs[j] by simp [List.getD, hj]] at this
  simpa using this
set_option maxRecDepth 100000 in
set_option maxHeartbeats 16000000 in
theorem rdo_any (p : Prg) (A : Option Addr) (n c : Nat) (v : Int) (CA : Option Addr) (cn cc : Nat) (cs : List Int) (e : Ev) (w : World) (hT : ThsAt w w.heap.size A p.ts) (hn : p.ts.length = n) (hok : PrgOk p)
    (hC : IsAt w w.heap.size CA cs) (hcn : cs.length = cn) (hc9 : cn ≤ 9223372036854775807) :
    Calls Tryz.prog 27 #[.agg #[.int .i64 p.v, .slice A n c], .int .i64 v, .slice CA cn cc, .agg #[.int .i64 e.th, .int .i64 e.ln, .int .i64 e.nu, .int .i64 e.va, .int .i64 e.nx]] w (DoPost w (doP p v cs e)) := by
  have hn9 := hok.n
  rw [hn] at hn9
  obtain ⟨es, hes⟩ : ∃ es, (stepsP p v cs).2 = es := ⟨_, rfl⟩
  obtain ⟨er, her⟩ : ∃ er, (stepsP p v cs).1 = er := ⟨_, rfl⟩
  have hr : stepsP p v cs = (er, es) := by rw [← hes, ← her]
  have ST : Hid (∀ W, Below w.heap.size w W → Calls Tryz.prog 24 #[.agg #[.int .i64 p.v, .slice A n c], .int .i64 v, .slice CA cn cc] W (StepsPost W (er, es))) := Lib.hid (fun W h =>
    rsteps_any p A n c v CA cn cc cs W (hT.up h) hn hok ((hC.below h).more h.size) hcn hc9 _ hr)
  unfold StepsPost at ST
  have HB2 : Hid (∀ o1 o2, Below w.heap.size w ((w.alloc o1).alloc o2)) := Lib.hid (fun o1 o2 => ((Below.refl _ _).alloc (Nat.le_refl _) _).alloc (by simp) _)
  by_cases h0 : er = 0
  rotate_left
  · have e1 : (er == 0) = false := by simpa using h0
    have e2 : (er != 0) = true := by simpa using h0
    have HF : Hid (doP p v cs e = (er, 0, [])) := Lib.hid (by unfold doP; rw [her, if_pos h0])
    have HES : Hid (es = []) := Lib.hid (by have := stepsP_err (p := p) (v := v) (cs := cs) (by rw [her]; exact h0); rw [← hes, this])
    generalize p.v = pv at *
    clear hT hn hok hC hcn hes her hr h0
    obtain ⟨x1, x2, x3, x4, x5⟩ := e
    dsimp only
    go_enter Tryz.func27, Tryz.ntmps27
    go_wp2_with (go_at_call 24; go_must (refine (ST.out _ (HB2.out _ _)).mono ?_; rintro e' w2 ⟨EA, ec, rfl, _, hb2⟩; dsimp only; (have HBB := Lib.hid ((HB2.out _ _).trans (hb2.mono (by simp <;> omega)))); clear hb2))
    go_ret3
    rw [HF.out]
    exact DoPost.err rfl HBB.out
  subst h0
  obtain ⟨hck, v0, v1, hbad, hlen, hsteps⟩ := steps_ok her
  have h6 := placesP_le p
  have hp0 := placesP_pos p hck
  have hcn6 : cn ≤ 6 := by omega
  have hcn0 : 0 < cn := by omega
  obtain ⟨el, hel⟩ : ∃ el, es.length = el := ⟨_, rfl⟩
  have hel9 : el ≤ 12 := by
    have := stepsTo_le p v cs (placesP p) (placesP p).length
    rw [← hsteps, hes, hel] at this
    omega
  have HEL := Lib.hid hel
  have HCI := Lib.hid hC
  have HCN := Lib.hid hcn
  have HDOP : Hid (doP p v cs e = if es.any (eqEvB · e) = false then (18, 0, []) else if bigC (doC p cs e) = true then (1, 0, []) else (0, e.va, doC p cs e)) := Lib.hid (by
    unfold doP; rw [if_neg (by rw [her]; simp), hes]; rfl)
  have HEVF : Hid (es.any (eqEvB · e) = true → ∃ i k, EvAt p v cs e i k) := Lib.hid (fun h => by
    obtain ⟨x, hx, he⟩ := List.any_eq_true.1 h
    rw [(eqEvB_iff _ _).1 he] at hx
    exact ev_place her (by rw [hes]; exact hx))
  have HEIX : Hid (∀ i k, EvAt p v cs e i k → _) := Lib.hid (fun i k hat => ev_ix hck hlen hat)
  have HLN : Hid (∀ i k (hat : EvAt p v cs e i k) W, Below w.heap.size w W → ∃ ad LA lc ad2, A = some ad ∧ LA = some ad2 ∧ ad.block < w.heap.size ∧ ad2.block < w.heap.size ∧ W.cell? ⟨(ad.add (i * 2)).block, (ad.add (i * 2)).off + 1, none⟩ = some (.slice LA (p.ts[i]'hat.hi).ls.length lc) ∧
      W.cell? (ad2.add (k * 3)) = some (.int .i64 (lnOf p e.th e.ln).k) ∧ W.cell? ⟨(ad2.add (k * 3)).block, (ad2.add (k * 3)).off + 1, none⟩ = some (.int .i64 (lnOf p e.th e.ln).a) ∧ W.cell? ⟨(ad2.add (k * 3)).block, (ad2.add (k * 3)).off + 2, none⟩ = some (.int .i64 (lnOf p e.th e.ln).n)) := Lib.hid (fun i k hat W h => by
    obtain ⟨ad, LA, lc, e1, hab, g0, g1, hL⟩ := (hT.below h).at_ hat.hi
    obtain ⟨ad2, e2, hab2, l0, l1, l2⟩ := hL.at_ hat.hk
    rw [hat.ok.th, hat.ok.ln, lnOf_at hat.hi hat.hk]
    exact ⟨ad, LA, lc, ad2, e1, e2, hab, hab2, g1, l0, l1, l2⟩)
  have HPX : Hid (∀ (t : Nat) (k : Nat) (W : World), t < p.ts.length → k < lsLen p.ts t → Below w.heap.size w W → Calls Tryz.prog 52 #[.agg #[.int .i64 p.v, .slice A n c], .int .i64 t, .int .i64 k] W fun e w' => e = .returned (.int .i64 (ixOf (placesP p) t k : Nat)) ∧ Below W.heap.size W w') := Lib.hid (fun t k W ht hk h => by
    have hk2 : k < p.ts[t].ls.length := by rw [← lsLen_at ht]; exact hk
    rw [ix_place hck ht hk2]
    have h7 := check_len hck (t + 1)
    rw [lenTo, lsLen_at ht] at h7
    refine (rplace_any p A n c t k W (hT.up h) hn (by omega) (check_len hck) hn9 (by omega)).mono fun e w' h => ⟨?_, h.2⟩
    rw [h.1]; congr 2; omega)
  have HKL : Hid (∀ i k, EvAt p v cs e i k → i < n ∧ k < (lsLen p.ts i)) := Lib.hid (fun i k hat => ⟨by rw [← hn]; exact hat.hi, by rw [lsLen_at hat.hi]; exact hat.hk⟩)
  have HSPN : Hid (∀ i k, EvAt p v cs e i k → (lnOf p e.th e.ln).k = 5 → ∃ m : Nat, (lnOf p e.th e.ln).a = m ∧ m < p.ts.length ∧ 0 < lsLen p.ts m) := Lib.hid (fun i k hat h5 => by
    rw [hat.ok.th, hat.ok.ln, lnOf_at hat.hi hat.hk] at h5 ⊢
    obtain ⟨_, hln⟩ := check_th hck (List.getElem_mem hat.hi)
    obtain ⟨_, _, a0, am, _⟩ := hln _ (List.getElem_mem hat.hk)
    rw [h5] at am
    have am2 : ((p.ts[i]'(hat.hi)).ls[k]'(hat.hk)).a < (p.ts.length : Int) := am
    obtain ⟨m, hm⟩ := Int.eq_ofNat_of_zero_le a0
    have hmt : m < p.ts.length := by omega
    obtain ⟨hn0, _⟩ := check_th hck (List.getElem_mem hmt)
    exact ⟨m, hm, hmt, by rw [lsLen_at hmt]; omega⟩)
  have HDC : Hid (∀ c1 c2, c1 = bump cs (ixOf (placesP p) e.th e.ln) (-1) → c2 = (if 0 ≤ e.nx then bump c1 (ixOf (placesP p) e.th e.nx) 1 else c1) → doC p cs e = (if (lnOf p e.th e.ln).k = 5 then bump c2 (ixOf (placesP p) (lnOf p e.th e.ln).a 0) 1 else c2)) := Lib.hid (fun c1 c2 h1 h2 => by subst h1; subst h2; rfl)
  have hlb : ∀ j, -1000 ≤ cs.getD j 0 ∧ cs.getD j 0 ≤ 1048576 := fun j => by
    by_cases hj : j < cs.length
    · have h1 := List.any_eq_false.1 hbad _ (List.getElem_mem hj)
      rw [show cs.getD j 0 = cs[j] by simp [List.getD, hj]]
      simp [badC] at h1
      omega
    · rw [List.getD_eq_getElem?_getD, List.getElem?_eq_none (by omega)]; simp
  have HLB := Lib.hid hlb
  have HDL := Lib.hid (doC_length p cs e)
  have HLSL := Lib.hid (fun i (h : i < p.ts.length) => lsLen_at h)
  have HPN := Lib.hid hn
  generalize lnOf p e.th e.ln = L at *
  obtain ⟨lk, la, lm⟩ := L
  obtain ⟨x1, x2, x3, x4, x5⟩ := e
  obtain ⟨dp, hdp⟩ : ∃ dp, doP p v cs ⟨x1, x2, x3, x4, x5⟩ = dp := ⟨_, rfl⟩
  rw [hdp] at HDOP ⊢
  generalize hDC : doC p cs ⟨x1, x2, x3, x4, x5⟩ = DC at *
  dsimp only at *
  clear hT hn hok hC hcn hes her hr hck v0 v1 hbad hlen hsteps hp0 hlb hel hdp hDC
  generalize p.v = pv at *
  have HEV0 : Hid (Blk ((w.alloc (.cells #[.int .i64 pv, .slice A n c] 28)).alloc (.cells #[.int .i64 x1, .int .i64 x2, .int .i64 x3, .int .i64 x4, .int .i64 x5] 38)) (w.heap.size + 1) 38 #[.int .i64 x1, .int .i64 x2, .int .i64 x3, .int .i64 x4, .int .i64 x5]) := Lib.hid (by
    have := Blk.new (w.alloc (.cells #[.int .i64 pv, .slice A n c] 28)) 38 #[.int .i64 x1, .int .i64 x2, .int .i64 x3, .int .i64 x4, .int .i64 x5]
    rw [World.size_alloc] at this
    exact this)
  go_enter Tryz.func27, Tryz.ntmps27
  go_wp2_with (go_at_call 24; go_must (refine (ST.out _ (HB2.out _ _)).mono ?_; rintro e' w2 ⟨EA, ec, rfl, hes2, hb2⟩; dsimp only at hes2 ⊢; (rw [HEL.out]); (have HES := Lib.hid hes2); (have HBW2 := Lib.hid ((HB2.out _ _).trans (hb2.mono (by simp <;> omega)))); (have HP2 : Hid (Blk w2 w.heap.size 28 #[.int .i64 pv, .slice A n c]) := Lib.hid (((Blk.new w _ _).alloc _).below hb2 (by simp <;> omega))); (have HE2 : Hid (Blk w2 (w.heap.size + 1) 38 #[.int .i64 x1, .int .i64 x2, .int .i64 x3, .int .i64 x4, .int .i64 x5]) := Lib.hid (HEV0.out.below hb2 (by simp))); clear hes2 hb2))
  have z2 := HE2.out.lt
  go_loopw [13, 14] (fun s13 s14 wr => ∃ (i q : Nat) (b : Bool), i ≤ el ∧ s14 = .int .i64 i ∧ s13 = .bool b ∧ Hid (wr = w2.drewN q ∧ (es.take i).any (eqEvB · ⟨x1, x2, x3, x4, x5⟩) = b)) (fun _ s14 _ => el - (intOf s14).toNat)
  case atStart => exact ⟨0, 0, false, by omega, rfl, rfl, Lib.hid ⟨rfl, rfl⟩⟩
  case round =>
    obtain ⟨i, q, b, hi, rfl, rfl, HR⟩ := hrel
    obtain ⟨hw, hb⟩ := HR.out
    subst hw
    by_cases hil : i < el
    · have hix : i < es.length := by rw [HEL.out]; exact hil
      obtain ⟨ad, rfl, hab, g0, g1, g2, g3, g4⟩ := HES.out.at_ hix
      have HT := Lib.hid (List.take_succ_eq_append_getElem hix)
      generalize es[i]'hix = y at *
      obtain ⟨y1, y2, y3, y4, y5⟩ := y
      dsimp only at *
      have ne := eqEv y1 y2 y3 y4 y5 x1 x2 x3 x4 x5
      have e0 := HE2.out.cell 0
      have e1 := HE2.out.cell 1
      have e2 := HE2.out.cell 2
      have e3 := HE2.out.cell 3
      have e4 := HE2.out.cell 4
      have i0 : (0 : Int) ≤ (i : Int) := by omega
      have i1 : (i : Int) < (el : Int) := by omega
      have HB := Lib.hid hb
      clear hb HR
      rcases b with _ | _
      · obtain ⟨b2, hb2⟩ : ∃ b2, eqEvB ⟨y1, y2, y3, y4, y5⟩ ⟨x1, x2, x3, x4, x5⟩ = b2 := ⟨_, rfl⟩
        rw [hb2] at ne
        have HF : Hid ((es.take (i + 1)).any (eqEvB · ⟨x1, x2, x3, x4, x5⟩) = b2) := Lib.hid (by rw [HT.out, List.any_append, HB.out]; simp [hb2])
        clear hb2
        go_wp2_with fail
        go_quiet (fail)
        go_wp2_with fail
        go_roundw
        case rel => exact ⟨i + 1, _, b2, by omega, by go_num, rfl, Lib.hid ⟨rfl, HF.out⟩⟩
        case measure => simp [intOf]; omega
      · have HF : Hid ((es.take (i + 1)).any (eqEvB · ⟨x1, x2, x3, x4, x5⟩) = true) := Lib.hid (by rw [HT.out, List.any_append, HB.out]; rfl)
        clear ne e0 e1 e2 e3 e4 g0 g1 g2 g3 g4
        go_wp2_with fail
        go_quiet (fail)
        go_wp2_with fail
        go_roundw
        case rel => exact ⟨i + 1, _, true, by omega, by go_num, rfl, Lib.hid ⟨rfl, HF.out⟩⟩
        case measure => simp [intOf]; omega
    · obtain rfl : i = el := by omega
      have hbb : es.any (eqEvB · ⟨x1, x2, x3, x4, x5⟩) = b := by
        rwa [List.take_of_length_le (by rw [HEL.out]; exact Nat.le_refl _)] at hb
      rcases b with _ | _
      · have HF : Hid (dp = (18, 0, [])) := Lib.hid (by rw [HDOP.out, if_pos hbb])
        clear hbb hb HR
        go_wp2_with fail
        go_ret3
        rw [HF.out]
        exact DoPost.err rfl (below_drewN HBW2.out _)
      have HDP2 : Hid (dp = if bigC DC = true then (1, 0, []) else (0, x4, DC)) := Lib.hid (by rw [HDOP.out, if_neg (by rw [hbb]; simp)])
      obtain ⟨t, k, hat⟩ := HEVF.out hbb
      obtain ⟨ix2, ix3⟩ := HEIX.out t k hat
      have hix1 := hat.lt
      have hth := hat.ok.th
      have hln := hat.ok.ln
      have hnx := hat.ok.nx
      obtain ⟨htn, hkl⟩ := HKL.out t k hat
      have hsp := HSPN.out t k hat
      have HLN2 := Lib.hid (HLN.out t k hat)
      have HTL := Lib.hid hat.hi
      have HLS2 := Lib.hid (HLSL.out t hat.hi)
      dsimp only at *
      subst hth
      subst hln
      clear HLN HSPN HKL HEIX HEVF HDOP hbb hb HR ST HES
      obtain ⟨j1, hj1⟩ : ∃ j, ixOf (placesP p) (t : Int) (k : Int) = j := ⟨_, rfl⟩
      obtain ⟨j2, hj2⟩ : ∃ j, ixOf (placesP p) (t : Int) x5 = j := ⟨_, rfl⟩
      obtain ⟨j3, hj3⟩ : ∃ j, ixOf (placesP p) la 0 = j := ⟨_, rfl⟩
      rw [hj1] at HDC hix1
      rw [hj2] at HDC ix2
      rw [hj3] at HDC ix3
      have PX1 : Hid (∀ W, Below w.heap.size w W → Calls Tryz.prog 52 #[.agg #[.int .i64 pv, .slice A n c], .int .i64 t, .int .i64 k] W fun e w' => e = .returned (.int .i64 (j1 : Nat)) ∧ Below W.heap.size W w') := Lib.hid (fun W h => by
        have := HPX.out t k W HTL.out hkl h
        rw [hj1] at this; exact this)
      have PX2 : Hid (0 ≤ x5 → ∀ W, Below w.heap.size w W → Calls Tryz.prog 52 #[.agg #[.int .i64 pv, .slice A n c], .int .i64 t, .int .i64 x5] W fun e w' => e = .returned (.int .i64 (j2 : Nat)) ∧ Below W.heap.size W w') := Lib.hid (fun h5 W h => by
        rcases hnx with hx | ⟨m, hm, hm2⟩
        · omega
        · have := HPX.out t m W HTL.out hm2 h
          rw [← hm, hj2] at this; exact this)
      have PX3 : Hid (lk = 5 → ∀ W, Below w.heap.size w W → Calls Tryz.prog 52 #[.agg #[.int .i64 pv, .slice A n c], .int .i64 la, .int .i64 0] W fun e w' => e = .returned (.int .i64 (j3 : Nat)) ∧ Below W.heap.size W w') := Lib.hid (fun h5 W h => by
        obtain ⟨m, hm, hm2, hm3⟩ := hsp h5
        have := HPX.out m 0 W hm2 hm3 h
        rw [← hm] at this
        have e0 : ((0 : Nat) : Int) = 0 := rfl
        rw [e0, hj3] at this; exact this)
      have HKT := Lib.hid hkl
      clear HPX hsp hnx hj1 hj2 hj3 hkl
      rw [HCN.out] at hix1 ix2 ix3
      have HCI2 : Hid (IsAt (w2.drewN q) w.heap.size CA cs) := Lib.hid (Reads.drewN (HCI.out.below HBW2.out) q)
      obtain ⟨i0, hi0, hz0, hz1, hz2⟩ := info_parts infoInt
      have HBWQ : Hid (Below w.heap.size w (w2.drewN q)) := Lib.hid (below_drewN HBW2.out q)
      have HPQ : Hid (Blk (w2.drewN q) w.heap.size 28 #[.int .i64 pv, .slice A n c]) := Lib.hid (HP2.out.drewN q)
      have HEQ : Hid (Blk (w2.drewN q) (w.heap.size + 1) 38 #[.int .i64 t, .int .i64 k, .int .i64 x3, .int .i64 x4, .int .i64 x5]) := Lib.hid (HE2.out.drewN q)
      have zq : w.heap.size + 1 < (w2.drewN q).heap.size := z2
      generalize w2.drewN q = w3 at *
      clear HBW2 HP2 HE2
      go_upto_region 12 with (at_builtin; go_must (refine wpList_append_any _ rfl _ _ 30 rfl (w.heap.size + 2) 3 i0 _ 1 8 Tryz.underlying30 hi0 hz0 hz1 hz2 rfl (by decide) (.slice none 0 0) 0 [] rfl (World.ownsRow_nil _ _ _ _) w.heap.size CA cn cc (intVs cs) rfl (by have := HCI2.out; unfold IsAt at this; rw [HCN.out] at this; exact this) (by unfold intVs; intro u hu; obtain ⟨x, _, rfl⟩ := List.mem_map.1 hu; rfl) (by unfold maxLen; omega) (by omega) (by omega) ?_; intro v7 w7 hown7 hgr7 _; (have HO7 := Lib.hid hown7); (have HG7 := Lib.hid hgr7); clear hown7 hgr7))
      obtain ⟨g, cap, e7, -, -⟩ := HO7.out.form (by omega)
      subst e7
      have HI7 : Hid (RDoI w w7 pv A n c ⟨t, k, x3, x4, x5⟩ g cn cap cs) := Lib.hid (by
        have ho := HO7.out
        rw [List.nil_append, Nat.zero_add] at ho
        exact ⟨ho, HCN.out, HPQ.out.grown HG7.out (by simp [Value.ownBlock]), HEQ.out.grown HG7.out (by simp [Value.ownBlock]), HBWQ.out.grown HG7.out HBWQ.out.size (by simp [Value.ownBlock])⟩)
      clear HO7 HG7 HPQ HEQ HBWQ HCI2 HCI zq z2
      -- the first count
      have e0 := HI7.out.e.cell 0
      have e1 := HI7.out.e.cell 1
      have p0 := HI7.out.p.cell 0
      have p1 := HI7.out.p.cell 1
      have hu1 := HLB.out j1
      obtain ⟨u1, hu1e⟩ : ∃ u, cs.getD j1 0 = u := ⟨_, rfl⟩
      rw [hu1e] at hu1
      obtain ⟨hu1a, hu1b⟩ := hu1
      have HU1 := Lib.hid hu1e
      have d0 : (0 : Int) ≤ (j1 : Int) := by omega
      have d1 : (j1 : Int) < (cn : Int) := by omega
      have d2 : (j1 : Int) < ((0 + cn : Nat) : Int) := by omega
      dsimp only at e0 e1
      clear hu1e
      go_upto_region 13 with (go_at_call 52; (with_reducible refine (PX1.out _ HI7.out.be).mono ?_); rintro e' w8 ⟨rfl, hb8⟩; (have HI8 := Lib.hid (HI7.out.below hb8)); (have c8 : w8.cell? ⟨g, j1, none⟩ = some (.int .i64 u1) := by rw [← HU1.out]; exact (HI8.out.cell hix1).1); (have f8 := (HI8.out.cell hix1).2); clear hb8)
      have HI9 : Hid (RDoI w (w8.setCell ⟨g, j1, none⟩ (.int .i64 (u1 - 1))) pv A n c ⟨t, k, x3, x4, x5⟩ g cn cap (bump cs j1 (-1))) := Lib.hid (by
        have := HI8.out.bump j1 (-1)
        rw [HU1.out] at this
        exact this)
      obtain ⟨C1, hC1⟩ : ∃ C1, bump cs j1 (-1) = C1 := ⟨_, rfl⟩
      have HC1 := Lib.hid hC1
      have HL1 := Lib.hid (bump_bd HLB.out j1 (-1) (by omega) (by omega) (by omega))
      rw [hC1] at HI9 HL1
      clear hC1 e0 e1 p0 p1 c8 f8 HI8 HI7 d2
      refine wp_world (fun W => Hid (RDoI w W pv A n c ⟨t, k, x3, x4, x5⟩ g cn cap C1)) HI9 ?_
      clear HI9
      intro W9 HI9
      have e0 := HI9.out.e.cell 0
      have e4 := HI9.out.e.cell 4
      have p0 := HI9.out.p.cell 0
      have p1 := HI9.out.p.cell 1
      dsimp only at e0 e4
      obtain ⟨C2, hC2⟩ : ∃ C2, (if 0 ≤ x5 then bump C1 j2 1 else C1) = C2 := ⟨_, rfl⟩
      have HC2 := Lib.hid hC2
      have HL2 : Hid (∀ j, -1000 - 10 - 10 ≤ C2.getD j 0 ∧ C2.getD j 0 ≤ 1048576 + 10 + 10) := Lib.hid (fun j => by
        rw [← hC2]
        split
        · exact bump_bd HL1.out j2 1 (by omega) (by omega) (by omega) j
        · have := HL1.out j; omega)
      clear hC2
      go_upto_if 60 with fail
      go_cut [] from 58 to 71 (fun wx => Hid (RDoI w wx pv A n c ⟨t, k, x3, x4, x5⟩ g cn cap C2))
      case first =>
        by_cases hx : 0 ≤ x5
        · have d3 : decide (0 ≤ x5) = true := decide_eq_true hx
          have PX2b := Lib.hid (PX2.out hx)
          have hj2 := ix2 hx
          have HF : Hid (bump C1 j2 1 = C2) := Lib.hid (by rw [← HC2.out, if_pos hx])
          have hu2 := HL1.out j2
          obtain ⟨u2, hu2e⟩ : ∃ u, C1.getD j2 0 = u := ⟨_, rfl⟩
          rw [hu2e] at hu2
          obtain ⟨hu2a, hu2b⟩ := hu2
          have HU2 := Lib.hid hu2e
          have q0 : (0 : Int) ≤ (j2 : Int) := by omega
          have q1 : (j2 : Int) < (cn : Int) := by omega
          rw [d3]
          clear hx hu2e
          go_wp2_with (go_at_call 52; (with_reducible refine (PX2b.out _ HI9.out.be).mono ?_); rintro e' w8 ⟨rfl, hb8⟩; (have HI8 := Lib.hid (HI9.out.below hb8)); (have c8 : w8.cell? ⟨g, j2, none⟩ = some (.int .i64 u2) := by rw [← HU2.out]; exact (HI8.out.cell hj2).1); (have f8 := (HI8.out.cell hj2).2); clear hb8)
          go_meet
          have := HI8.out.bump j2 1
          rw [HU2.out, HF.out] at this
          exact Lib.hid this
        · have d3 : decide (0 ≤ x5) = false := decide_eq_false hx
          have HF : Hid (C1 = C2) := Lib.hid (by rw [← HC2.out, if_neg hx])
          rw [d3]
          clear hx
          go_wp2_with fail
          go_meet
          exact Lib.hid (by rw [← HF.out]; exact HI9.out)
      case rest =>
        obtain ⟨W1, rfl⟩ : ∃ W1 : World, W1 = wc := ⟨_, rfl⟩
        have HI := hcut
        clear hcut HI9 e0 e4 p0 p1 PX1 PX2
        obtain ⟨ad, LA, lc, ad2, rfl, rfl, hab, hab2, l1, l2, l3, l4⟩ := HLN2.out W1 HI.out.be
        rw [← HLS2.out] at l1
        obtain ⟨nl, hnl⟩ : ∃ nl, lsLen p.ts t = nl := ⟨_, rfl⟩
        rw [hnl] at l1
        have hkn : k < nl := by rw [← hnl]; exact (HKT.out)
        have hz := HI.out.be.size
        have hz2 := HI.out.e.lt
        have KS : Hid (∀ W', Below W1.heap.size W1 W' → W'.cell? ⟨w.heap.size, 1, none⟩ = some (.slice (some ad) n c) ∧ W'.cell? ⟨w.heap.size + 1, 0, none⟩ = some (.int .i64 (t : Int)) ∧ W'.cell? ⟨w.heap.size + 1, 1, none⟩ = some (.int .i64 (k : Int)) ∧ W'.cell? ⟨(ad.add (t * 2)).block, (ad.add (t * 2)).off + 1, none⟩ = some (.slice (some ad2) nl lc) ∧ W'.cell? (ad2.add (k * 3)) = some (.int .i64 lk) ∧ W'.cell? ⟨(ad2.add (k * 3)).block, (ad2.add (k * 3)).off + 1, none⟩ = some (.int .i64 la) ∧ W'.cell? ⟨(ad2.add (k * 3)).block, (ad2.add (k * 3)).off + 2, none⟩ = some (.int .i64 lm)) := Lib.hid (fun W' h => by
          have h' := HI.out.below h
          have h0 := h'.p.cell 1
          have h1 := h'.e.cell 0
          have h2 := h'.e.cell 1
          dsimp only at h1 h2
          exact ⟨h0, h1, h2, (h.cell (p := ⟨(ad.add (t * 2)).block, (ad.add (t * 2)).off + 1, none⟩) (by simp only [add_block]; omega)).trans l1, (h.cell (p := ad2.add (k * 3)) (by rw [add_block]; omega)).trans l2, (h.cell (p := ⟨(ad2.add (k * 3)).block, (ad2.add (k * 3)).off + 1, none⟩) (by simp only [add_block]; omega)).trans l3, (h.cell (p := ⟨(ad2.add (k * 3)).block, (ad2.add (k * 3)).off + 2, none⟩) (by simp only [add_block]; omega)).trans l4⟩)
        have HD0 : Hid (Below W1.heap.size W1 W1.drew) := Lib.hid (below_drewN (Below.refl _ _) 1)
        have HD1 : Hid (∀ o, Below W1.heap.size W1 (W1.drew.alloc o) ∧ Below W1.heap.size W1 ((W1.alloc o).drew) ∧ Below W1.heap.size W1 (W1.alloc o)) := Lib.hid (fun o => ⟨(below_drewN (Below.refl _ _) 1).alloc (Nat.le_refl _) o, below_drewN ((Below.refl _ _).alloc (Nat.le_refl _) o) 1, (Below.refl _ _).alloc (Nat.le_refl _) o⟩)
        obtain ⟨s1, s2, s3, s4, s5, s6, s7⟩ := KS.out W1 (Below.refl _ _)
        have t0 : (0 : Int) ≤ (t : Int) := by omega
        have t1 : (t : Int) < (n : Int) := by omega
        have k0 : (0 : Int) ≤ (k : Int) := by omega
        have k1 : (k : Int) < (nl : Int) := by omega
        clear HLN2 HLS2 hnl l1 l2 l3 l4
        go_upto_region 15 with fail
        go_region_held3 (fun W' => W'.cell? ⟨w.heap.size, 1, none⟩ = some (.slice (some ad) n c) ∧ W'.cell? ⟨w.heap.size + 1, 0, none⟩ = some (.int .i64 (t : Int)) ∧ W'.cell? ⟨w.heap.size + 1, 1, none⟩ = some (.int .i64 (k : Int)) ∧ W'.cell? ⟨(ad.add (t * 2)).block, (ad.add (t * 2)).off + 1, none⟩ = some (.slice (some ad2) nl lc) ∧ W'.cell? (ad2.add (k * 3)) = some (.int .i64 lk) ∧ W'.cell? ⟨(ad2.add (k * 3)).block, (ad2.add (k * 3)).off + 1, none⟩ = some (.int .i64 la) ∧ W'.cell? ⟨(ad2.add (k * 3)).block, (ad2.add (k * 3)).off + 2, none⟩ = some (.int .i64 lm)) (first | (refine KS.out _ ?_; first | exact HD0.out | exact (HD1.out _).1 | exact (HD1.out _).2.1 | exact (HD1.out _).2.2) | go_keep) (fail)
        go_upto_if 85 with fail
        refine wp_world (fun W => Hid (RDoI w W pv (some ad) n c ⟨t, k, x3, x4, x5⟩ g cn cap C2 ∧ Blk W W1.heap.size 42 #[.int .i64 lk, .int .i64 la, .int .i64 lm])) (Lib.hid ⟨HI.out.below (by first | exact (HD1.out _).2.1 | exact (HD1.out _).1 | exact (HD1.out _).2.2), by first | exact Blk.new W1 _ _ | exact (Blk.new W1 _ _).drew⟩) ?_
        intro W10 HI10
        have b1 := HI10.out.2.cell 1
        have b0 := HI10.out.2.cell 0
        have p0 := HI10.out.1.p.cell 0
        have p1 := HI10.out.1.p.cell 1
        obtain ⟨C3, hC3⟩ : ∃ C3, (if lk = 5 then bump C2 j3 1 else C2) = C3 := ⟨_, rfl⟩
        have HC3 := Lib.hid hC3
        have HDC3 : Hid (DC = C3) := Lib.hid (by rw [HDC.out C1 C2 HC1.out.symm HC2.out.symm]; exact hC3)
        have HL3 : Hid (C3.length = cn) := Lib.hid (by rw [← HDC3.out, HDL.out, HCN.out])
        clear hC3 s1 s2 s3 s4 s5 s6 s7 KS HI HD0 HD1 t0 t1 k0 k1
        go_cut [] from 83 to 94 (fun wx => Hid (RDoI w wx pv (some ad) n c ⟨t, k, x3, x4, x5⟩ g cn cap C3))
        case first =>
          by_cases hx : lk = 5
          · have d3 : (lk == 5) = true := by simpa using hx
            have PX3b := Lib.hid (PX3.out hx)
            have hj3 := ix3 hx
            have HF : Hid (bump C2 j3 1 = C3) := Lib.hid (by rw [← HC3.out, if_pos hx])
            have hu2 := HL2.out j3
            obtain ⟨u2, hu2e⟩ : ∃ u, C2.getD j3 0 = u := ⟨_, rfl⟩
            rw [hu2e] at hu2
            obtain ⟨hu2a, hu2b⟩ := hu2
            have HU2 := Lib.hid hu2e
            have q0 : (0 : Int) ≤ (j3 : Int) := by omega
            have q1 : (j3 : Int) < (cn : Int) := by omega
            rw [d3]
            clear hx hu2e
            go_wp2_with (go_at_call 52; (with_reducible refine (PX3b.out _ HI10.out.1.be).mono ?_); rintro e' w8 ⟨rfl, hb8⟩; (have HI8 := Lib.hid (HI10.out.1.below hb8)); (have c8 : w8.cell? ⟨g, j3, none⟩ = some (.int .i64 u2) := by rw [← HU2.out]; exact (HI8.out.cell hj3).1); (have f8 := (HI8.out.cell hj3).2); clear hb8)
            go_meet
            have := HI8.out.bump j3 1
            rw [HU2.out, HF.out] at this
            exact Lib.hid this
          · have d3 : (lk == 5) = false := by simpa using hx
            have HF : Hid (C2 = C3) := Lib.hid (by rw [← HC3.out, if_neg hx])
            rw [d3]
            clear hx
            go_wp2_with fail
            go_meet
            exact Lib.hid (by rw [← HF.out]; exact HI10.out.1)
        case rest =>
          obtain ⟨W2, rfl⟩ : ∃ W2 : World, W2 = wc := ⟨_, rfl⟩
          have HI := hcut
          have HDP3 : Hid (dp = if bigC C3 = true then (1, 0, []) else (0, x4, C3)) := Lib.hid (by rw [HDP2.out, HDC3.out])
          have e3 := HI.out.e.cell 3
          dsimp only at e3
          clear hcut HI10 b0 b1 p0 p1 PX3 HDC HDC3 HDP2 ix2 ix3
          go_wp2_with fail
          go_loop [17] (fun s17 => ∃ j : Nat, j ≤ cn ∧ s17 = .int .i64 j ∧ Hid (∀ i, i < j → ¬ 1048576 < C3.getD i 0)) (fun s17 => cn - (intOf s17).toNat)
          case atStart => exact ⟨0, by omega, rfl, Lib.hid (fun i h => absurd h (by omega))⟩
          case round =>
            obtain ⟨j, hj, rfl, HJ⟩ := hrel
            by_cases hjl : j < cn
            · have c8 := (HI.out.cell hjl).1
              have q0 : (0 : Int) ≤ (j : Int) := by omega
              have q1 : (j : Int) < (cn : Int) := by omega
              by_cases hbig : 1048576 < C3.getD j 0
              · have HF : Hid (dp = (1, 0, [])) := Lib.hid (by rw [HDP3.out, if_pos (bigC_at (by rw [HL3.out]; exact hjl) hbig)])
                have d3 : decide (1048576 < C3.getD j 0) = true := decide_eq_true hbig
                generalize C3.getD j 0 = u at *
                clear hbig
                go_wp2_with fail
                go_ret3
                rw [HF.out]
                exact DoPost.err rfl HI.out.be
              · have d3 : decide (1048576 < C3.getD j 0) = false := decide_eq_false hbig
                have HF : Hid (∀ i, i < j + 1 → ¬ 1048576 < C3.getD i 0) := Lib.hid (fun i hi => by
                  by_cases e : i = j
                  · rw [e]; exact hbig
                  · exact HJ.out i (by omega))
                generalize C3.getD j 0 = u at *
                clear hbig
                go_wp2_with fail
                go_round
                case rel => exact ⟨j + 1, by omega, by go_num, HF⟩
                case measure => simp [intOf]; omega
            · obtain rfl : j = cn := by omega
              have HF : Hid (dp = (0, x4, C3)) := Lib.hid (by rw [HDP3.out, if_neg (by rw [bigC_none (fun i hi => HJ.out i (by rw [HL3.out] at hi; exact hi))]; simp)])
              go_wp2_with fail
              go_ret3
              rw [HF.out]
              refine ⟨some ⟨g, 0, none⟩, cap, (by dsimp only; rw [HL3.out]; rfl), ?_, HI.out.be⟩
              have ho := HI.out.own
              dsimp only
              unfold IsAt
              rw [HL3.out]
              exact Reads.of_own ho
end Go.Proofs.YtpkefohcccpncaaGreatDoor
