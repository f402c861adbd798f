/- The program's Do at any event. Begin of the program and of the reference, at any program. -/
import Derived.Test.YtpkefohcccpncaaGreatDoorQAz
import Derived.Test.YtpkefohcccpncaaGreatDoorQAx
namespace Go.Proofs.YtpkefohcccpncaaGreatDoor
open Go.RowKit
set_option linter.unusedSimpArgs false
set_option linter.unusedVariables false

def DoMax (w : World) (va : Int) (cs : List Int) (b : Bool) (e : Ending) (w' : World) : Prop := match b with
  | false => DoOwn w va cs e w'
  | true => e = .returned (.tuple #[.int .i64 0, .slice none 0 0, .int .i64 1]) ∧ Below w.heap.size w w'
theorem foldl_max_gt {M : Int} : ∀ (l : List Int) (a : Int), M < l.foldl max a ↔ (M < a ∨ ∃ x ∈ l, M < x) := by
  intro l
  induction l with
  | nil => intro a; simp
  | cons x r ih =>
    intro a
    rw [List.foldl_cons, ih]
    constructor
    · rintro (h | ⟨y, hy, h⟩)
      · by_cases hx : M < x
        · exact .inr ⟨x, List.mem_cons_self .., hx⟩
        · exact .inl (by omega)
      · exact .inr ⟨y, List.mem_cons_of_mem _ hy, h⟩
    · rintro (h | ⟨y, hy, h⟩)
      · exact .inl (by omega)
      · rcases List.mem_cons.1 hy with rfl | hy
        · exact .inl (by omega)
        · exact .inr ⟨y, hy, h⟩
theorem bigC_max {cs : List Int} (h0 : 0 < cs.length) : decide (1048576 < Lib.maxOf cs) = bigC cs := by
  rw [Bool.eq_iff_iff, decide_eq_true_eq]
  unfold Lib.maxOf bigC
  rw [foldl_max_gt, List.any_eq_true]
  cases cs with
  | nil => simp at h0
  | cons x r =>
    simp only [decide_eq_true_eq]
    constructor
    · rintro (h | h)
      · exact ⟨x, List.mem_cons_self .., h⟩
      · exact h
    · exact fun h => .inr h
theorem maxE_any (g n c : Nat) (cs : List Int) (B : Nat) (w : World) (hown : w.ownsRow B 3 1 (.slice (some ⟨g, 0, none⟩) n c) n (intVs cs)) (hn : cs.length = n) (h0 : 0 < n) (h9 : n ≤ 1000) :
    Calls Tryz.prog 39 #[.slice (some ⟨g, 0, none⟩) n c] w fun e w' => e = .returned (.int .i64 (Lib.maxOf cs)) ∧ w = w' := by
  refine (Tryz.slices_Max_int g 0 n c cs w h0 (by omega) (by omega) (fun j hj => ?_)).mono fun e w' h => ?_
  · rw [Nat.zero_add, hown.cellAt j (by omega), intVs_get (by omega)]
  · obtain ⟨he, hw⟩ := h
    rw [List.take_of_length_le (by omega)] at he
    exact ⟨he, hw.symm⟩
set_option maxRecDepth 100000 in
set_option maxHeartbeats 8000000 in
theorem do_max (p : Prg) (A : Option Addr) (n c : Nat) (v : Int) (CA : Option Addr) (cn cc : Nat) (cs : List Int) (e : Ev) (w : World) (M : Int) (hT : ThsAt w w.heap.size A p.ts) (hn : p.ts.length = n) (hg : GlobP w) (hok : PrgOk p)
    (hC : IsAt w w.heap.size CA cs) (hcn : cs.length = cn) (h0 : (stepsP p v cs).1 = 0) (he : e ∈ (stepsP p v cs).2) (hb : Bd cs M) (hM : M ≤ 1048576) :
    Calls Tryz.prog 12 #[.agg #[.int .i64 p.v, .slice A n c], .int .i64 v, .slice CA cn cc, .agg #[.int .i64 e.th, .int .i64 e.ln, .int .i64 e.nu, .int .i64 e.va, .int .i64 e.nx]] w (DoMax w e.va (doC p cs e) (bigC (doC p cs e))) := by
  obtain ⟨i, k, hat⟩ := ev_place h0 he
  obtain ⟨hck, v0, v1, hbad, hlen, hsteps⟩ := steps_ok h0
  have h6 := placesP_le p
  have hp0 := placesP_pos p hck
  have hcn6 : cn ≤ 6 := by omega
  have hcn0 : 0 < cn := by omega
  obtain ⟨x2, x3⟩ := ev_ix hck hlen hat
  have x1 := hat.lt
  have hlnat := lnOf_at hat.hi hat.hk
  have HBD := Lib.hid hb
  have HDOB := Lib.hid (doC_bd hat hb)
  have HDL := Lib.hid (doC_length p cs e)
  obtain ⟨es, hes⟩ : ∃ es, (stepsP p v cs).2 = es := ⟨_, rfl⟩
  have hr : stepsP p v cs = (0, es) := by rw [← hes, ← h0]
  obtain ⟨el, hel⟩ : ∃ el, es.length = el := ⟨_, rfl⟩
  have hel9 : el ≤ 12 := by
    have := stepsTo_le p v cs (placesP p) (placesP p).length
    rw [← hsteps, hes, hel] at this
    omega
  rw [hes] at he
  have HIN : Hid (es.any (eqEvB · e) = true) := Lib.hid (List.any_eq_true.2 ⟨e, he, (eqEvB_iff _ _).2 rfl⟩)
  have HEL := Lib.hid hel
  have ST : Hid (∀ W, Below w.heap.size w W → Calls Tryz.prog 10 #[.agg #[.int .i64 p.v, .slice A n c], .int .i64 v, .slice CA cn cc] W (StepsPost W (0, es))) := Lib.hid (fun W h =>
    steps_any p A n c v CA cn cc cs W (hT.up h) hn (hg.below h) hok ((hC.below h).more h.size) hcn (by omega) _ hr)
  have PL : Hid (∀ W, Below w.heap.size w W → Calls Tryz.prog 13 #[.agg #[.int .i64 p.v, .slice A n c]] W (PlacesPost W (placesP p))) := Lib.hid (fun W h => places_any p A n c W (hT.up h) hn (hg.below h) hok)
  have CL : Hid (∀ W, Below w.heap.size w W → Calls Tryz.prog 36 #[.slice CA cn cc] W (ClonePost W cs cn)) := Lib.hid (fun W h => clone_any CA cn cc cs W ((hC.below h).more h.size) hcn hcn0 (by omega))
  have CE : Hid (∀ W EA ec, EvsAt W W.heap.size EA es → Calls Tryz.prog 35 #[.slice EA el ec, .agg #[.int .i64 e.th, .int .i64 e.ln, .int .i64 e.nu, .int .i64 e.va, .int .i64 e.nx]] W fun e' w' => e' = .returned (.bool true) ∧ Below W.heap.size W w') := Lib.hid (fun W EA ec h => contEv_any EA el ec es e W h hel (by omega) true HIN.out)
  have HLN : Hid (∀ W, Below w.heap.size w W → ∃ ad LA lc ad2, A = some ad ∧ LA = some ad2 ∧ ad.block < w.heap.size ∧ ad2.block < w.heap.size ∧ W.cell? (ad.add (i * 2)) = some (.string (p.ts[i]'hat.hi).nm) ∧ W.cell? ⟨(ad.add (i * 2)).block, (ad.add (i * 2)).off + 1, none⟩ = some (.slice LA (p.ts[i]'hat.hi).ls.length lc) ∧
      W.cell? (ad2.add (k * 3)) = some (.int .i64 (lnOf p e.th e.ln).k) ∧ W.cell? ⟨(ad2.add (k * 3)).block, (ad2.add (k * 3)).off + 1, none⟩ = some (.int .i64 (lnOf p e.th e.ln).a) ∧ W.cell? ⟨(ad2.add (k * 3)).block, (ad2.add (k * 3)).off + 2, none⟩ = some (.int .i64 (lnOf p e.th e.ln).n)) := Lib.hid (fun W h => by
    obtain ⟨ad, LA, lc, e1, hab, g0, g1, hL⟩ := (hT.below h).at_ hat.hi
    obtain ⟨ad2, e2, hab2, l0, l1, l2⟩ := hL.at_ hat.hk
    rw [hat.ok.th, hat.ok.ln, hlnat]
    exact ⟨ad, LA, lc, ad2, e1, e2, hab, hab2, g0, g1, l0, l1, l2⟩)
  obtain ⟨nl, hnl⟩ : ∃ nl, (p.ts[i]'hat.hi).ls.length = nl := ⟨_, rfl⟩
  have hkn : k < nl := by rw [← hnl]; exact hat.hk
  have hin : i < n := by rw [← hn]; exact hat.hi
  rw [hnl] at HLN
  generalize (p.ts[i]'hat.hi).nm = nm at HLN
  have hth := hat.ok.th
  have hln2 := hat.ok.ln
  have hbi := hb _ x1
  have HDC : Hid (∀ c1 c2, c1 = bump cs (ixOf (placesP p) e.th e.ln) (-1) → c2 = (if 0 ≤ e.nx then bump c1 (ixOf (placesP p) e.th e.nx) 1 else c1) → doC p cs e = (if (lnOf p e.th e.ln).k = 5 then bump c2 (ixOf (placesP p) (lnOf p e.th e.ln).a 0) 1 else c2)) := Lib.hid (fun c1 c2 h1 h2 => by subst h1; subst h2; rfl)
  have hix1 : ixOf (placesP p) e.th e.ln < (placesP p).length := by omega
  have hix2 : 0 ≤ e.nx → ixOf (placesP p) e.th e.nx < (placesP p).length := fun h => by have := x2 h; omega
  have hix3 : (lnOf p e.th e.ln).k = 5 → ixOf (placesP p) (lnOf p e.th e.ln).a 0 < (placesP p).length := fun h => by have := x3 h; omega
  generalize lnOf p e.th e.ln = L at *
  obtain ⟨lk, la, lm⟩ := L
  have hps : (placesP p).length = cn := by omega
  have HPS := Lib.hid hps
  have HCN := Lib.hid hcn
  have HPSR : Hid (∀ W, PlacesPost W (placesP p) = fun e w' => ∃ A c, e = .returned (.slice A cn c) ∧ PlsAt w' w'.heap.size A (placesP p) ∧ Below W.heap.size W w') := Lib.hid (fun W => by unfold PlacesPost; rw [hps])
  have HB0 : Hid (Bd (doC p cs e) (M + 2) ∧ (doC p cs e).length = cn) := Lib.hid ⟨HDOB.out, by rw [HDL.out]; exact hcn⟩
  have hlb : ∀ j, -1000 ≤ cs.getD j 0 ∧ cs.getD j 0 ≤ 1048576 := fun j => by
    by_cases hj : j < cs.length
    · have := hb j hj; omega
    · rw [List.getD_eq_getElem?_getD, List.getElem?_eq_none (by omega)]; simp
  have HLB := Lib.hid hlb
  generalize placesP p = ps at *
  have CT : Hid (∀ (t l d : Int) (ix : Nat) (W : World) (ob pb g B cap : Nat) (PA : Option Addr) (pc : Nat) (cs' : List Int), ixOf ps t l = ix → ix < cn → -10 ≤ d ∧ d ≤ 10 → (-1000000000 ≤ cs'.getD ix 0 ∧ cs'.getD ix 0 ≤ 1000000000) → CntI W ob pb g B cn cap PA cn pc ps cs' →
      Calls Tryz.prog 37 #[.int .i64 t, .int .i64 l, .int .i64 d, .pointer (some ⟨ob, 0, none⟩), .pointer (some ⟨pb, 0, none⟩)] W (CntPost W ob pb g B cn cap PA cn pc ps (bump cs' ix d))) := Lib.hid (fun t l d ix W ob pb g B cap PA pc cs' h1 h2 h3 h4 h5 => by
    have := count_any t l d ob pb g B cn cap PA cn pc ps cs' W h5 (by rw [hps, h1]; exact h2) (by rw [h1]; exact h2) h3 (by rw [h1]; exact h4)
    rw [h1] at this
    exact this)
  obtain ⟨DC, hDC⟩ : ∃ DC, doC p cs e = DC := ⟨_, rfl⟩
  rw [hDC] at HDC HB0 ⊢
  obtain ⟨bg, hbg⟩ : ∃ bg, bigC DC = bg := ⟨_, rfl⟩
  rw [hbg]
  have HBG := Lib.hid hbg
  clear hbg
  obtain ⟨et, eln, en, ea, ex⟩ := e
  dsimp only at *
  subst hth
  subst hln2
  obtain ⟨ix1, hx1⟩ : ∃ ix, ixOf ps (i : Int) (k : Int) = ix := ⟨_, rfl⟩
  obtain ⟨ix2, hx2⟩ : ∃ ix, ixOf ps (i : Int) ex = ix := ⟨_, rfl⟩
  obtain ⟨ix3, hx3⟩ : ∃ ix, ixOf ps la 0 = ix := ⟨_, rfl⟩
  rw [hx1] at HDC hix1
  rw [hx2] at HDC hix2
  rw [hx3] at HDC hix3
  rw [hps] at hix1 hix2 hix3
  have CT1 := Lib.hid (fun W ob pb g B cap PA pc cs' => CT.out i k (-1) ix1 W ob pb g B cap PA pc cs' hx1 hix1 (by omega))
  have CT2 := Lib.hid (fun (h : 0 ≤ ex) W ob pb g B cap PA pc cs' => CT.out i ex 1 ix2 W ob pb g B cap PA pc cs' hx2 (hix2 h) (by omega))
  have CT3 := Lib.hid (fun (h : lk = 5) W ob pb g B cap PA pc cs' => CT.out la 0 1 ix3 W ob pb g B cap PA pc cs' hx3 (hix3 h) (by omega))
  generalize p.v = pv at *
  clear hT hn hg hok hC hcn h0 he hb hat hck hlen hsteps h6 hp0 x2 x3 x1 hlnat hes hr hel hDC hx1 hx2 hx3 hix1 hix2 hix3 hps hlb HDOB HDL HBD CT hbad hnl hbi HIN
  go_enter Tryz.func12, Tryz.ntmps12
  go_wp2_with fail
  refine (ST.out _ (((Below.refl _ _).alloc (Nat.le_refl _) _).alloc (by simp) _)).mono ?_
  rintro e' w2 ⟨EA, ec, rfl, hes2, hb2⟩
  dsimp only at hes2 ⊢
  rw [HEL.out]
  have HES := Lib.hid hes2
  have HB2 : Hid (Below w.heap.size w w2) := Lib.hid ((((Below.refl _ _).alloc (Nat.le_refl _) _).alloc (by simp) _).trans (hb2.mono (by simp <;> omega)))
  have hP2 : Blk w2 w.heap.size 28 #[.int .i64 pv, .slice A n c] := ((Blk.new w _ _).alloc _).below hb2 (by simp <;> omega)
  have hE2 : Blk w2 (w.heap.size + 1) 38 #[.int .i64 i, .int .i64 k, .int .i64 en, .int .i64 ea, .int .i64 ex] := by
    have := Blk.new (w.alloc (.cells #[.int .i64 pv, .slice A n c] 28)) 38 #[.int .i64 i, .int .i64 k, .int .i64 en, .int .i64 ea, .int .i64 ex]
    rw [World.size_alloc] at this
    exact this.below hb2 (by simp)
  have HP2 := Lib.hid hP2
  have HE2 := Lib.hid hE2
  have e0 := hE2.cell 0
  have e1 := hE2.cell 1
  have e2 := hE2.cell 2
  have e3 := hE2.cell 3
  have e4 := hE2.cell 4
  have z2 := hE2.lt
  clear hes2 hb2 hP2 hE2 ST
  go_wp2_with fail
  refine (CE.out w2 EA ec HES.out).mono ?_
  rintro e' w3 ⟨rfl, hb3⟩
  have HB3 := Lib.hid (HB2.out.trans (hb3.mono HB2.out.size))
  have HP3 := Lib.hid (HP2.out.below hb3 HP2.out.lt)
  have HE3 := Lib.hid (HE2.out.below hb3 HE2.out.lt)
  have p0 := HP3.out.cell 0
  have p1 := HP3.out.cell 1
  have z3 := HE3.out.lt
  clear e0 e1 e2 e3 e4 hb3 CE HES HB2 HP2 HE2
  go_wp2_with fail
  refine (PL.out _ HB3.out).mono ?_
  rintro e' w4 ⟨PA, pc, rfl, hpl, hb4⟩
  rw [HPS.out]
  have HPL := Lib.hid hpl
  have HB4 := Lib.hid (HB3.out.trans (hb4.mono HB3.out.size))
  have HP4 := Lib.hid (HP3.out.below hb4 HP3.out.lt)
  have HE4 := Lib.hid (HE3.out.below hb4 HE3.out.lt)
  have z4 := HE4.out.lt
  clear p0 p1 hpl hb4 PL HB3 HP3 HE3
  go_wp2_with fail
  refine (CL.out _ HB4.out).mono ?_
  rintro e' w5 ⟨g, cap, rfl, hown, hb5⟩
  have HOW := Lib.hid hown
  have HB5 := Lib.hid (HB4.out.trans (hb5.mono HB4.out.size))
  have HP5 := Lib.hid (HP4.out.below hb5 HP4.out.lt)
  have HE5 := Lib.hid (HE4.out.below hb5 HE4.out.lt)
  have HPL5 := Lib.hid (show PlsAt w5 w4.heap.size PA ps from Reads.below HPL.out hb5)
  have hgw := hown.lt g rfl
  have z5 := hb5.size
  clear hown hb5 CL HP4 HE4 HPL
  go_upto_region 8 with fail
  refine wp_world (fun W => Hid (DoI w W pv A n c ⟨i, k, en, ea, ex⟩ (w5.heap.size + 1) w5.heap.size g w4.heap.size cn cap PA cn pc ps cs)) (Lib.hid ⟨⟨?_, ?_, ?_, ?_, HPS.out, HCN.out, by omega, by omega⟩, (HP5.out.alloc _).alloc _, (HE5.out.alloc _).alloc _, (HB5.out.alloc HB5.out.size _).alloc (by have := HB5.out.size; simp; omega) _, by omega, by omega⟩) ?_
  · have := Blk.new (w5.alloc (.cells #[.slice PA cn pc] 47)) 30 #[.slice (some ⟨g, 0, none⟩) cn cap]
    rw [World.size_alloc] at this
    exact this
  · exact (Blk.new w5 _ _).alloc _
  · exact (HOW.out.alloc _).alloc _
  · exact Reads.alloc (Reads.alloc HPL5.out z5 _) (by simp; omega) _
  intro W6 HI6
  have e0 := HI6.out.e.cell 0
  have e1 := HI6.out.e.cell 1
  go_wp2_with fail
  refine (CT1.out W6 _ _ g _ cap PA pc cs (by have := HLB.out ix1; omega) HI6.out.cn).mono ?_
  rintro e' w7 ⟨rfl, hc7, hg7⟩
  obtain ⟨C1, hC1⟩ : ∃ C1, bump cs ix1 (-1) = C1 := ⟨_, rfl⟩
  rw [hC1] at hc7
  have HI7 := Lib.hid (HI6.out.next hc7 hg7)
  have HC1 := Lib.hid hC1
  have HL1 := Lib.hid (bump_bd HLB.out ix1 (-1) (by omega) (by omega) (by omega))
  rw [hC1] at HL1
  clear e0 e1 hc7 hg7 HI6 hC1 CT1
  have e0 := HI7.out.e.cell 0
  have e4 := HI7.out.e.cell 4
  obtain ⟨C2, hC2⟩ : ∃ C2, (if 0 ≤ ex then bump C1 ix2 1 else C1) = C2 := ⟨_, rfl⟩
  have HC2 := Lib.hid hC2
  have HL2 : Hid (∀ j, -1000 - 10 - 10 ≤ C2.getD j 0 ∧ C2.getD j 0 ≤ 1048576 + 10 + 10) := Lib.hid (fun j => by
    rw [← hC2]
    split
    · exact bump_bd HL1.out ix2 1 (by omega) (by omega) (by omega) j
    · have := HL1.out j; omega)
  clear hC2
  dsimp only at e0 e4
  go_upto_if 44 with fail
  go_cut [] from 42 to 50 (fun wx => Hid (DoI w wx pv A n c ⟨i, k, en, ea, ex⟩ (w5.heap.size + 1) w5.heap.size g w4.heap.size cn cap PA cn pc ps C2))
  case first =>
    by_cases hx : 0 ≤ ex
    · have d1 : decide (0 ≤ ex) = true := decide_eq_true hx
      have CT2b := Lib.hid (CT2.out hx)
      have HF : Hid (bump C1 ix2 1 = C2) := Lib.hid (by rw [← HC2.out, if_pos hx])
      rw [d1]
      clear hx
      go_wp2_with fail
      refine (CT2b.out w7 _ _ g _ cap PA pc C1 (by have := HL1.out ix2; omega) HI7.out.cn).mono ?_
      rintro e' w8 ⟨rfl, hc8, hg8⟩
      rw [HF.out] at hc8
      have HI8 := Lib.hid (HI7.out.next hc8 hg8)
      clear hc8 hg8 e0 e4
      go_wp2_with fail
      go_meet
      exact HI8
    · have d1 : decide (0 ≤ ex) = false := decide_eq_false hx
      have HF : Hid (C1 = C2) := Lib.hid (by rw [← HC2.out, if_neg hx])
      rw [d1]
      clear hx
      go_wp2_with fail
      go_meet
      exact Lib.hid (by rw [← HF.out]; exact HI7.out)
  case rest =>
    have HI9 := hcut
    clear e0 e4 HI7 hcut CT2
    obtain ⟨ad, LA, lc, ad2, rfl, rfl, hab, hab2, l0, l1, l2, l3, l4⟩ := HLN.out wc HI9.out.be
    have e0 := HI9.out.e.cell 0
    have e1 := HI9.out.e.cell 1
    have p1 := HI9.out.p.cell 1
    dsimp only at e0 e1
    have hzc := HI9.out.be.size
    have hze := HI9.out.e.lt
    have HKA : Hid (∀ o, (wc.alloc o).cell? ⟨w.heap.size, 1, none⟩ = some (.slice (some ad) n c) ∧ (wc.alloc o).cell? ⟨w.heap.size + 1, 0, none⟩ = some (.int .i64 (i : Int)) ∧ (wc.alloc o).cell? ⟨w.heap.size + 1, 1, none⟩ = some (.int .i64 (k : Int)) ∧ (wc.alloc o).cell? (ad.add (i * 2)) = some (.string nm) ∧ (wc.alloc o).cell? ⟨(ad.add (i * 2)).block, (ad.add (i * 2)).off + 1, none⟩ = some (.slice (some ad2) nl lc) ∧ (wc.alloc o).cell? (ad2.add (k * 3)) = some (.int .i64 lk) ∧ (wc.alloc o).cell? ⟨(ad2.add (k * 3)).block, (ad2.add (k * 3)).off + 1, none⟩ = some (.int .i64 la) ∧ (wc.alloc o).cell? ⟨(ad2.add (k * 3)).block, (ad2.add (k * 3)).off + 2, none⟩ = some (.int .i64 lm)) := Lib.hid (fun o => by
      refine ⟨?_, ?_, ?_, ?_, ?_, ?_, ?_, ?_⟩
      all_goals rw [World.cell?_alloc_lt _ _ _ (by (try dsimp only); (try rw [add_block]); omega)]; assumption)
    have i0 : (0 : Int) ≤ (i : Int) := by omega
    have i1 : (i : Int) < (n : Int) := by omega
    have k0 : (0 : Int) ≤ (k : Int) := by omega
    have k1 : (k : Int) < (nl : Int) := by omega
    go_upto_region 11 with fail
    go_region_held3 (fun w' => w'.cell? ⟨w.heap.size, 1, none⟩ = some (.slice (some ad) n c) ∧ w'.cell? ⟨w.heap.size + 1, 0, none⟩ = some (.int .i64 (i : Int)) ∧ w'.cell? ⟨w.heap.size + 1, 1, none⟩ = some (.int .i64 (k : Int)) ∧ w'.cell? (ad.add (i * 2)) = some (.string nm) ∧ w'.cell? ⟨(ad.add (i * 2)).block, (ad.add (i * 2)).off + 1, none⟩ = some (.slice (some ad2) nl lc) ∧ w'.cell? (ad2.add (k * 3)) = some (.int .i64 lk) ∧ w'.cell? ⟨(ad2.add (k * 3)).block, (ad2.add (k * 3)).off + 1, none⟩ = some (.int .i64 la) ∧ w'.cell? ⟨(ad2.add (k * 3)).block, (ad2.add (k * 3)).off + 2, none⟩ = some (.int .i64 lm)) (first | go_keep | exact ⟨p1, e0, e1, l0, l1, l2, l3, l4⟩ | exact HKA.out _) (fail)
    go_upto_if 64 with fail
    refine wp_world (fun W => Hid (DoI w W pv (some ad) n c ⟨i, k, en, ea, ex⟩ (w5.heap.size + 1) w5.heap.size g w4.heap.size cn cap PA cn pc ps C2 ∧ Blk W wc.heap.size 42 #[.int .i64 lk, .int .i64 la, .int .i64 lm])) (Lib.hid ⟨(HI9.out.alloc _).drew, Blk.new wc _ _⟩) ?_
    intro W10 HI10
    have l10 := HI10.out.2.cell 1
    obtain ⟨C3, hC3⟩ : ∃ C3, (if lk = 5 then bump C2 ix3 1 else C2) = C3 := ⟨_, rfl⟩
    have HC3 := Lib.hid hC3
    have HDC3 : Hid (DC = C3) := Lib.hid (by rw [HDC.out C1 C2 HC1.out.symm HC2.out.symm]; exact hC3)
    clear hC3 e0 e1 p1 l0 l1 l2 l3 l4 HKA HLN i0 i1 k0 k1 HI9
    go_cut [] from 62 to 68 (fun wx => Hid (DoI w wx pv (some ad) n c ⟨i, k, en, ea, ex⟩ (w5.heap.size + 1) w5.heap.size g w4.heap.size cn cap PA cn pc ps C3))
    case first =>
      by_cases hx : lk = 5
      · have d1 : (lk == 5) = true := by simpa using hx
        have CT3b := Lib.hid (CT3.out hx)
        have HF : Hid (bump C2 ix3 1 = C3) := Lib.hid (by rw [← HC3.out, if_pos hx])
        rw [d1]
        clear hx
        go_wp2_with fail
        refine (CT3b.out W10 _ _ g _ cap PA pc C2 (by have := HL2.out ix3; omega) HI10.out.1.cn).mono ?_
        rintro e' w8 ⟨rfl, hc8, hg8⟩
        rw [HF.out] at hc8
        have HI8 := Lib.hid (HI10.out.1.next hc8 hg8)
        clear hc8 hg8 l10
        go_wp2_with fail
        go_meet
        exact HI8
      · have d1 : (lk == 5) = false := by simpa using hx
        have HF : Hid (C2 = C3) := Lib.hid (by rw [← HC3.out, if_neg hx])
        rw [d1]
        clear hx
        go_wp2_with fail
        go_meet
        exact Lib.hid (by rw [← HF.out]; exact HI10.out.1)
    case rest =>
      have HI := hcut
      rw [← HDC3.out] at HI
      have o0 := HI.out.cn.o.cell 0
      have e3 := HI.out.e.cell 3
      dsimp only at e3
      have HGB : Hid (decide (1048576 < Lib.maxOf DC) = bg) := Lib.hid (by rw [bigC_max (cs := DC) (by rw [HB0.out.2]; exact hcn0), HBG.out])
      have MX : Hid (Calls Tryz.prog 39 #[.slice (some ⟨g, 0, none⟩) cn cap] wc fun e w' => e = .returned (.int .i64 (Lib.maxOf DC)) ∧ wc = w') := Lib.hid (maxE_any g cn cap DC _ wc HI.out.cn.own HB0.out.2 hcn0 (by omega))
      generalize Lib.maxOf DC = mx at *
      have d2 : decide (1048576 < mx) = bg := HGB.out
      clear l10 HI10 hcut CT3
      rcases bg with _ | _
      · go_wp2_with fail
        refine (MX.out).mono ?_
        rintro e' w' ⟨rfl, rfl⟩
        go_wp2_with fail
        go_quiet (fail)
        go_wp2_with fail
        go_ret3
        refine ⟨some ⟨g, 0, none⟩, cap, (by rw [HB0.out.2]; rfl), ?_, below_drewN HI.out.be _⟩
        rw [HB0.out.2]
        exact own_down HI.out.cn.own HI.out.bb
      · go_wp2_with fail
        refine (MX.out).mono ?_
        rintro e' w' ⟨rfl, rfl⟩
        go_wp2_with fail
        go_ret3
        exact ⟨rfl, HI.out.be⟩

set_option maxRecDepth 100000 in
set_option maxHeartbeats 8000000 in
theorem do_no (p : Prg) (A : Option Addr) (n c : Nat) (v : Int) (CA : Option Addr) (cn cc : Nat) (cs : List Int) (e : Ev) (w : World) (hT : ThsAt w w.heap.size A p.ts) (hn : p.ts.length = n) (hg : GlobP w) (hok : PrgOk p)
    (hC : IsAt w w.heap.size CA cs) (hcn : cs.length = cn) (hc9 : cn ≤ 9223372036854775807) (hno : ¬ ((stepsP p v cs).1 = 0 ∧ (stepsP p v cs).2.any (eqEvB · e) = true)) :
    Calls Tryz.prog 12 #[.agg #[.int .i64 p.v, .slice A n c], .int .i64 v, .slice CA cn cc, .agg #[.int .i64 e.th, .int .i64 e.ln, .int .i64 e.nu, .int .i64 e.va, .int .i64 e.nx]] w (DoPost w (doP p v cs e)) := by
  obtain ⟨es, hes⟩ : ∃ es, (stepsP p v cs).2 = es := ⟨_, rfl⟩
  obtain ⟨er, her⟩ : ∃ er, (stepsP p v cs).1 = er := ⟨_, rfl⟩
  have hr : stepsP p v cs = (er, es) := by rw [← hes, ← her]
  have ST : Hid (∀ W, Below w.heap.size w W → Calls Tryz.prog 10 #[.agg #[.int .i64 p.v, .slice A n c], .int .i64 v, .slice CA cn cc] W (StepsPost W (er, es))) := Lib.hid (fun W h =>
    steps_any p A n c v CA cn cc cs W (hT.up h) hn (hg.below h) hok ((hC.below h).more h.size) hcn hc9 _ hr)
  unfold StepsPost at ST
  have HB2 : Hid (∀ o1 o2, Below w.heap.size w ((w.alloc o1).alloc o2)) := Lib.hid (fun o1 o2 => ((Below.refl _ _).alloc (Nat.le_refl _) _).alloc (by simp) _)
  by_cases h0 : er = 0
  rotate_left
  · have e1 : (er == 0) = false := by simpa using h0
    have e2 : (er != 0) = true := by simpa using h0
    have HF : Hid (doP p v cs e = (er, 0, [])) := Lib.hid (by unfold doP; rw [her, if_pos h0])
    generalize p.v = pv at *
    clear hT hn hok hC hcn hes her hr h0 hno hg
    obtain ⟨x1, x2, x3, x4, x5⟩ := e
    dsimp only
    go_enter Tryz.func12, Tryz.ntmps12
    go_wp2_with (go_at_call 10; go_must (refine (ST.out _ (HB2.out _ _)).mono ?_; rintro e' w2 ⟨EA, ec, rfl, _, hb2⟩; dsimp only; (have HBB := Lib.hid ((HB2.out _ _).trans (hb2.mono (by simp <;> omega)))); clear hb2))
    go_ret3
    rw [HF.out]
    exact DoPost.err rfl HBB.out
  subst h0
  have hany : es.any (eqEvB · e) = false := by
    rcases hb : es.any (eqEvB · e) with _ | _
    · rfl
    · exact absurd ⟨her, by rw [hes]; exact hb⟩ hno
  have hel9 : es.length ≤ 12 := by
    obtain ⟨_, _, _, _, _, hs⟩ := steps_ok her
    have h1 := stepsTo_le p v cs (placesP p) (placesP p).length
    have h6 := placesP_le p
    rw [← hs, hes] at h1
    omega
  have HF : Hid (doP p v cs e = (18, 0, [])) := Lib.hid (by unfold doP; rw [if_neg (by rw [her]; simp), hes, if_pos hany])
  obtain ⟨el, hel⟩ : ∃ el, es.length = el := ⟨_, rfl⟩
  rw [hel] at hel9
  have HEL := Lib.hid hel
  have CE : Hid (∀ W EA ec, EvsAt W W.heap.size EA es → Calls Tryz.prog 35 #[.slice EA el ec, .agg #[.int .i64 e.th, .int .i64 e.ln, .int .i64 e.nu, .int .i64 e.va, .int .i64 e.nx]] W fun e' w' => e' = .returned (.bool false) ∧ Below W.heap.size W w') := Lib.hid (fun W EA ec h => contEv_any EA el ec es e W h hel (by omega) false hany)
  generalize p.v = pv at *
  clear hT hn hok hC hcn hes her hr hno hg hany hel
  obtain ⟨x1, x2, x3, x4, x5⟩ := e
  dsimp only at *
  have HEV0 : Hid (Blk ((w.alloc (.cells #[.int .i64 pv, .slice A n c] 28)).alloc (.cells #[.int .i64 x1, .int .i64 x2, .int .i64 x3, .int .i64 x4, .int .i64 x5] 38)) (w.heap.size + 1) 38 #[.int .i64 x1, .int .i64 x2, .int .i64 x3, .int .i64 x4, .int .i64 x5]) := Lib.hid (by
    have := Blk.new (w.alloc (.cells #[.int .i64 pv, .slice A n c] 28)) 38 #[.int .i64 x1, .int .i64 x2, .int .i64 x3, .int .i64 x4, .int .i64 x5]
    rw [World.size_alloc] at this
    exact this)
  go_enter Tryz.func12, Tryz.ntmps12
  go_wp2_with (first
    | (go_at_call 10; go_must (refine (ST.out _ (HB2.out _ _)).mono ?_; rintro e' w2 ⟨EA, ec, rfl, hes2, hb2⟩; dsimp only at hes2 ⊢; (rw [HEL.out]); (have HES := Lib.hid hes2); (have HBB := Lib.hid ((HB2.out _ _).trans (hb2.mono (by simp <;> omega)))); (have hE2 := HEV0.out.below hb2 (by simp)); (have e0 := hE2.cell 0); (have e1 := hE2.cell 1); (have e2 := hE2.cell 2); (have e3 := hE2.cell 3); (have e4 := hE2.cell 4); clear hes2 hb2 hE2))
    | (go_at_call 35; go_must (refine (CE.out w2 EA ec HES.out).mono ?_; rintro e' w3 ⟨rfl, hb3⟩; (have HB3 := Lib.hid (HBB.out.trans (hb3.mono HBB.out.size))); clear hb3)))
  go_ret3
  rw [HF.out]
  exact DoPost.err rfl HB3.out
theorem gdo_any (p : Prg) (A : Option Addr) (n c : Nat) (v : Int) (CA : Option Addr) (cn cc : Nat) (cs : List Int) (e : Ev) (w : World) (hT : ThsAt w w.heap.size A p.ts) (hn : p.ts.length = n) (hg : GlobP w) (hok : PrgOk p)
    (hC : IsAt w w.heap.size CA cs) (hcn : cs.length = cn) (hc9 : cn ≤ 9223372036854775807) :
    Calls Tryz.prog 12 #[.agg #[.int .i64 p.v, .slice A n c], .int .i64 v, .slice CA cn cc, .agg #[.int .i64 e.th, .int .i64 e.ln, .int .i64 e.nu, .int .i64 e.va, .int .i64 e.nx]] w (DoPost w (doP p v cs e)) := by
  by_cases h : (stepsP p v cs).1 = 0 ∧ (stepsP p v cs).2.any (eqEvB · e) = true
  · obtain ⟨h0, h1⟩ := h
    have he : e ∈ (stepsP p v cs).2 := by
      obtain ⟨x, hx, hxe⟩ := List.any_eq_true.1 h1
      rw [(eqEvB_iff _ _).1 hxe] at hx; exact hx
    obtain ⟨_, _, _, hbad, _, _⟩ := steps_ok h0
    have hbd : Bd cs 1048576 := fun j hj => by
      have h1 := List.any_eq_false.1 hbad _ (List.getElem_mem hj)
      rw [show cs.getD j 0 = cs[j] by simp [List.getD, hj]]
      simp [badC] at h1
      omega
    refine (do_max p A n c v CA cn cc cs e w 1048576 hT hn hg hok hC hcn h0 he hbd (by omega)).mono fun e' w' h => ?_
    have hdp : doP p v cs e = if bigC (doC p cs e) = true then (1, 0, []) else (0, e.va, doC p cs e) := by
      unfold doP; rw [if_neg (by rw [h0]; simp), if_neg (by rw [h1]; simp)]; rfl
    rw [hdp]
    unfold DoMax at h
    rcases hb : bigC (doC p cs e) with _ | _
    · rw [hb] at h
      obtain ⟨A', c', he', ho, hbw⟩ := h
      exact ⟨A', c', he', Reads.of_own ho, hbw⟩
    · rw [hb] at h
      exact DoPost.err h.1 h.2
  · exact do_no p A n c v CA cn cc cs e w hT hn hg hok hC hcn hc9 h
end Go.Proofs.YtpkefohcccpncaaGreatDoor
namespace Go.Proofs.YtpkefohcccpncaaGreatDoor
open Go.RowKit
set_option linter.unusedSimpArgs false
set_option linter.unusedVariables false

theorem begin_bad (p : Prg) (A : Option Addr) (n c : Nat) (w : World) (hT : ThsAt w w.heap.size A p.ts) (hn : p.ts.length = n) (hg : GlobP w) (hok : PrgOk p) (hb : checkP p = false) :
    Calls Tryz.prog 9 #[.agg #[.int .i64 p.v, .slice A n c]] w fun e w' => e = .returned (.tuple #[.int .i64 0, .slice none 0 0, .int .i64 47]) ∧ Below w.heap.size w w' := by
  have CK : Hid (∀ o, Calls Tryz.prog 18 #[.agg #[.int .i64 p.v, .slice A n c]] (w.alloc o) fun e w' => e = .returned (.int .i64 47) ∧ Below (w.alloc o).heap.size (w.alloc o) w') :=
    Lib.hid (fun o => check_any p A n c (w.alloc o) (hT.up ((Below.refl _ _).alloc (Nat.le_refl _) o)) hn (hg.below ((Below.refl _ _).alloc (Nat.le_refl _) o)) hok false hb)
  clear hT hn hg hok hb
  generalize p.v = v at *
  go_enter Tryz.func9, Tryz.ntmps9
  go_wp2_with (go_at_call 18; go_must (refine (CK.out _).mono ?_; rintro e w1 ⟨rfl, hb1⟩; (have HB1 := Lib.hid hb1); clear hb1))
  go_ret3
  exact ⟨rfl, ((Below.refl _ _).alloc (Nat.le_refl _) _).trans (HB1.out.mono (by simp))⟩
set_option maxRecDepth 100000 in
set_option maxHeartbeats 4000000 in
theorem rbegin_own (p : Prg) (A : Option Addr) (n c : Nat) (w : World) (hT : ThsAt w w.heap.size A p.ts) (hn : p.ts.length = n) (hok : PrgOk p) (hb : checkP p = true) :
    Calls Tryz.prog 23 #[.agg #[.int .i64 p.v, .slice A n c]] w (BeginOwn w (startC (placesP p).length)) := by
  have CK : Hid (∀ o, Calls Tryz.prog 19 #[.agg #[.int .i64 p.v, .slice A n c]] (w.alloc o) fun e w' => e = .returned (.int .i64 0) ∧ Below (w.alloc o).heap.size (w.alloc o) w') :=
    Lib.hid (fun o => rcheck_any p A n c (w.alloc o) (hT.up ((Below.refl _ _).alloc (Nat.le_refl _) o)) hn hok true hb)
  have PL : Hid (∀ W, Below w.heap.size w W → Calls Tryz.prog 22 #[.agg #[.int .i64 p.v, .slice A n c]] W (PlacesPost W (placesP p))) :=
    Lib.hid (fun W h => rplaces_any p A n c W (hT.up h) hn hok)
  have h6 := placesP_le p
  have h0 := placesP_pos p hb
  clear hT hn hok hb
  obtain ⟨v, hv⟩ : ∃ v, p.v = v := ⟨_, rfl⟩
  rw [hv] at CK PL ⊢
  clear hv
  generalize placesP p = ps at *
  obtain ⟨m, hm⟩ : ∃ m, ps.length = m := ⟨_, rfl⟩
  rw [hm] at h6 h0 ⊢
  have HM := Lib.hid hm
  clear hm
  obtain ⟨i0, hi, hz0, hz1, hz2⟩ := info_parts infoInt
  have hz2' : i0.bytes * m ≤ 281474976710656 := by rw [hz2]; omega
  have HZ := Lib.hid hz2'
  have HZ1 := Lib.hid hz1
  have HZ0 := Lib.hid hz0
  have HI0 := Lib.hid hi
  clear hz2' hz2 hz1 hz0 hi
  have hm9 : m ≤ maxLen := by unfold maxLen; omega
  have HM9 := Lib.hid hm9
  clear hm9
  go_enter Tryz.func23, Tryz.ntmps23
  go_wp2_with (first
    | (go_at_call 19; go_must (refine (CK.out _).mono ?_; rintro e w1 ⟨rfl, hb1⟩; (have hq1 : Blk w1 w.heap.size 28 #[.int .i64 v, .slice A n c] := (Blk.new w _ _).below hb1 (by simp)); (have q0 := hq1.cell 0); (have q1 := hq1.cell 1); (have z1 : w.heap.size < w1.heap.size := by have := hb1.size; simp at this; omega); (have HB1 : Hid (Below w.heap.size w w1) := Lib.hid (((Below.refl _ _).alloc (Nat.le_refl _) _).trans (hb1.mono (by simp)))); clear hb1 hq1))
    | (go_at_call 22; go_must (refine (PL.out _ HB1.out).mono ?_; rintro e w2 ⟨PA, pc, rfl, _, hb2⟩; (rw [HM.out]); (have z2 : w1.heap.size ≤ w2.heap.size := hb2.size); (have HB2 := Lib.hid (HB1.out.trans (hb2.mono (by omega)))); clear hb2))
    | (at_make; go_must (refine wpList_make_full _ rfl _ _ 30 rfl w2.heap.size 3 i0 (.int .i64 0) 1 Tryz.underlying30 HI0.out HZ0.out HZ1.out .i64 .i64 m m m rfl rfl rfl rfl HZ.out HM9.out (Nat.le_refl _) ?_; intro w3 hown3 hgr3; (replace hown3 : w3.ownsRow w2.heap.size 3 1 (.slice (some ⟨w2.heap.size, 0, none⟩) m m) m (List.replicate m (.int .i64 0)) := by (rw [← toList_madeCells_one]; rw [Nat.mul_one] at hown3; exact hown3)); (have c0 : w3.cell? ⟨w2.heap.size, 0, none⟩ = some (.int .i64 0) := (hown3.cellAt 0 (by omega)).trans (by rw [List.getElem?_replicate, if_pos h0])); (have f0 := hown3.frozenAt 0); (have z3 : w2.heap.size < w3.heap.size := (hown3.lt _ rfl).2); (have HO3 := Lib.hid hown3); (have HG3 := Lib.hid hgr3); clear hown3 hgr3)))
  go_ret3
  have hl := startC_length h0
  have hs := (HO3.out.stored 0 (.int .i64 1)).1
  rw [startC_set h0] at hs
  refine ⟨some ⟨w2.heap.size, 0, none⟩, m, (by rw [hl]; rfl), ?_, (HB2.out.grown HG3.out HB2.out.size (fun k hk => by cases hk)).setCell (p := ⟨w2.heap.size, 0, none⟩) (by have := HB2.out.size; exact this) _⟩
  rw [hl]
  exact own_down hs HB2.out.size
theorem rbegin_bad (p : Prg) (A : Option Addr) (n c : Nat) (w : World) (hT : ThsAt w w.heap.size A p.ts) (hn : p.ts.length = n) (hok : PrgOk p) (hb : checkP p = false) :
    Calls Tryz.prog 23 #[.agg #[.int .i64 p.v, .slice A n c]] w fun e w' => e = .returned (.tuple #[.int .i64 0, .slice none 0 0, .int .i64 47]) ∧ Below w.heap.size w w' := by
  have CK : Hid (∀ o, Calls Tryz.prog 19 #[.agg #[.int .i64 p.v, .slice A n c]] (w.alloc o) fun e w' => e = .returned (.int .i64 47) ∧ Below (w.alloc o).heap.size (w.alloc o) w') :=
    Lib.hid (fun o => rcheck_any p A n c (w.alloc o) (hT.up ((Below.refl _ _).alloc (Nat.le_refl _) o)) hn hok false hb)
  clear hT hn hok hb
  generalize p.v = v at *
  go_enter Tryz.func23, Tryz.ntmps23
  go_wp2_with (go_at_call 19; go_must (refine (CK.out _).mono ?_; rintro e w1 ⟨rfl, hb1⟩; (have HB1 := Lib.hid hb1); clear hb1))
  go_ret3
  exact ⟨rfl, ((Below.refl _ _).alloc (Nat.le_refl _) _).trans (HB1.out.mono (by simp))⟩
/-- the counts in the beginning -/
def beginL (p : Prg) : List Int := if checkP p then startC (placesP p).length else []
def BeginG (w : World) (p : Prg) (e : Ending) (w' : World) : Prop := ∃ A c, e = .returned (.tuple #[.int .i64 0, .slice A (beginL p).length c, .int .i64 (chkR (checkP p))]) ∧ w'.ownsRow w.heap.size 3 1 (.slice A (beginL p).length c) (beginL p).length (intVs (beginL p)) ∧ Below w.heap.size w w'
theorem begin_any (p : Prg) (A : Option Addr) (n c : Nat) (w : World) (hT : ThsAt w w.heap.size A p.ts) (hn : p.ts.length = n) (hg : GlobP w) (hok : PrgOk p) :
    Calls Tryz.prog 9 #[.agg #[.int .i64 p.v, .slice A n c]] w (BeginG w p) := by
  rcases hb : checkP p with _ | _
  · refine (begin_bad p A n c w hT hn hg hok hb).mono fun e w' h => ?_
    unfold BeginG beginL
    rw [hb]
    exact ⟨none, 0, h.1, World.ownsRow_nil _ _ _ _, h.2⟩
  · refine (begin_own p A n c w hT hn hg hok hb).mono fun e w' h => ?_
    unfold BeginG beginL
    rw [hb]
    exact h
theorem rbegin_any (p : Prg) (A : Option Addr) (n c : Nat) (w : World) (hT : ThsAt w w.heap.size A p.ts) (hn : p.ts.length = n) (hok : PrgOk p) :
    Calls Tryz.prog 23 #[.agg #[.int .i64 p.v, .slice A n c]] w (BeginG w p) := by
  rcases hb : checkP p with _ | _
  · refine (rbegin_bad p A n c w hT hn hok hb).mono fun e w' h => ?_
    unfold BeginG beginL
    rw [hb]
    exact ⟨none, 0, h.1, World.ownsRow_nil _ _ _ _, h.2⟩
  · refine (rbegin_own p A n c w hT hn hok hb).mono fun e w' h => ?_
    unfold BeginG beginL
    rw [hb]
    exact h
end Go.Proofs.YtpkefohcccpncaaGreatDoor
