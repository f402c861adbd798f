/- Fails; two rows of counts that are made while dice are cast for a program. The reference's Places, Begin and Place. The reference's Fails; both sides' at counts of any length. -/
import Derived.Test.YtpkefohcccpncaaGreatDoorQAw
import Derived.Test.YtpkefohcccpncaaGreatDoorQAl
import Derived.Test.YtpkefohcccpncaaGreatDoorQAr
import Derived.Test.YtpkefohcccpncaaGreatDoorQAs
import Derived.IntWalk
namespace Go.Proofs.YtpkefohcccpncaaGreatDoor
open Go.RowKit
set_option linter.unusedSimpArgs false
set_option linter.unusedVariables false

def failAt (p : Prg) (cs : List Int) (i : Nat) : Bool := decide (0 < cs.getD i 0) && decide ((lnOf p ((placesP p).getD i (0, 0)).1 ((placesP p).getD i (0, 0)).2).k = 7)
def failsB (p : Prg) (cs : List Int) : Bool := (List.range (placesP p).length).any (failAt p cs)
theorem fails_mono {p : Prg} {few more : List Int} (h : ∀ j, few.getD j 0 ≤ more.getD j 0) (hf : failsB p few = true) : failsB p more = true := by
  unfold failsB at hf ⊢
  rw [List.any_eq_true] at hf ⊢
  obtain ⟨i, hi, hx⟩ := hf
  refine ⟨i, hi, ?_⟩
  unfold failAt at hx ⊢
  simp only [Bool.and_eq_true, decide_eq_true_eq] at hx ⊢
  exact ⟨by have := h i; omega, hx.2⟩
set_option maxRecDepth 100000 in
set_option maxHeartbeats 4000000 in
theorem fails_any (p : Prg) (A : Option Addr) (n c : Nat) (CA : Option Addr) (cn cc : Nat) (cs : List Int) (w : World) (hT : ThsAt w w.heap.size A p.ts) (hn : p.ts.length = n) (hg : GlobP w) (hok : PrgOk p)
    (hC : IsAt w w.heap.size CA cs) (hcn : cs.length = cn) (hl : (placesP p).length = cn) (b : Bool) (hb : failsB p cs = b) :
    Calls Tryz.prog 14 #[.agg #[.int .i64 p.v, .slice A n c], .slice CA cn cc] w fun e w' => e = .returned (.bool b) ∧ Below w.heap.size w w' := by
  have hn9 := hok.n
  rw [hn] at hn9
  have h6 := placesP_le p
  rw [hl] at h6
  have HT := Lib.hid hT
  have HC := Lib.hid hC
  have HCN := Lib.hid hcn
  have HN := Lib.hid hn
  have HL := Lib.hid hl
  have PL : Hid (∀ W, Below w.heap.size w W → Calls Tryz.prog 13 #[.agg #[.int .i64 p.v, .slice A n c]] W (PlacesPost W (placesP p))) := Lib.hid (fun W h => places_any p A n c W (hT.up h) hn (hg.below h) hok)
  have HBT : Hid (∀ i, i < cn → failAt p cs i = true → b = true) := Lib.hid (fun i hi hx => by
    rw [← hb, failsB, List.any_eq_true]
    exact ⟨i, List.mem_range.2 (by omega), hx⟩)
  have HBF : Hid ((∀ i, i < cn → failAt p cs i = false) → b = false) := Lib.hid (fun h => by
    rw [← hb, failsB, List.any_eq_false]
    intro i hi
    rw [h i (by have := List.mem_range.1 hi; omega)]; decide)
  have HPT : Hid (∀ i (hi : i < cn), ∃ (x1 x2 : Nat) (h1 : x1 < p.ts.length) (h2 : x2 < p.ts[x1].ls.length), (placesP p)[i]'(by rw [hl]; exact hi) = (x1, x2) ∧ ∀ (hc : i < cs.length), failAt p cs i = (decide (0 < cs[i]) && decide (p.ts[x1].ls[x2].k = 7))) := Lib.hid (fun i hi => by
    have hi2 : i < (placesP p).length := by rw [hl]; exact hi
    obtain ⟨h1, h2⟩ := place_at (List.getElem_mem hi2)
    refine ⟨_, _, h1, h2, rfl, fun hc => ?_⟩
    unfold failAt
    rw [show (placesP p).getD i (0, 0) = (placesP p)[i] by simp [List.getD, hi2], show cs.getD i 0 = cs[i] by simp [List.getD, hc], lnOf_at h1 h2])
  have HPA : Hid (∀ {PA : Option Addr} {W : World} {B : Nat}, PlsAt W B PA (placesP p) → ∀ i, (h : i < (placesP p).length) → ∃ ad, PA = some ad ∧ ad.block < B ∧ W.cell? (ad.add (i * 2)) = some (.int .i64 ((placesP p)[i].1 : Int)) ∧ W.cell? ⟨(ad.add (i * 2)).block, (ad.add (i * 2)).off + 1, none⟩ = some (.int .i64 ((placesP p)[i].2 : Int))) := Lib.hid (fun h i hi => PlsAt.at_ h hi)
  generalize placesP p = ps at *
  generalize hpv : p.v = pv at *
  clear hT hn hg hok hC hcn hb hpv
  go_enter Tryz.func14, Tryz.ntmps14
  go_wp2_with fail
  refine (PL.out _ ((Below.refl _ _).alloc (Nat.le_refl _) _)).mono ?_
  rintro e w2 ⟨PA, pc, rfl, hpl, hb2⟩
  rw [HL.out]
  have HPL := Lib.hid hpl
  have HB2 : Hid (Below w.heap.size w w2) := Lib.hid (((Below.refl _ _).alloc (Nat.le_refl _) _).trans (hb2.mono (by simp)))
  have HQ2 : Hid (Blk w2 w.heap.size 28 #[.int .i64 pv, .slice A n c]) := Lib.hid ((Blk.new w _ _).below hb2 (by simp))
  have zw2 : w.heap.size < w2.heap.size := HQ2.out.lt
  clear hpl hb2 PL
  have e0 : ((cn : Int) != (cn : Int)) = false := by simp
  go_wp2_with fail
  go_loopw [17] (fun ix wr => ∃ i : Nat, i ≤ cn ∧ ix = .int .i64 i ∧ Hid (Below w2.heap.size w2 wr ∧ ∀ j, j < i → failAt p cs j = false)) (fun ix _ => cn - (intOf ix).toNat)
  case atStart => exact ⟨0, by omega, rfl, Lib.hid ⟨Below.refl _ _, fun j hj => absurd hj (by omega)⟩⟩
  case round =>
    obtain ⟨i, hi9, rfl, HR⟩ := hrel
    obtain ⟨hbw, hno⟩ := HR.out
    have hwl : w2.heap.size ≤ wr.heap.size := hbw.size
    by_cases hlt : i < cn
    · obtain ⟨x1, x2, h1, h2, hx, hfa⟩ := HPT.out i hlt
      have hic : i < cs.length := by rw [HCN.out]; exact hlt
      have HFA := Lib.hid (hfa hic)
      obtain ⟨ad, rfl, hab, g0, g1⟩ := HPA.out (HPL.out.below hbw) i (by rw [HL.out]; exact hlt)
      rw [hx] at g0 g1
      dsimp only at g0 g1
      have hbe : Below w.heap.size w wr := HB2.out.trans (hbw.mono (by omega))
      obtain ⟨ad2, rfl, hab2, c0⟩ := (HC.out.below hbe).at_ hic
      obtain ⟨ad3, LA, lc, rfl, hab3, t0, t1, hL⟩ := (HT.out.below hbe).at_ h1
      obtain ⟨ad4, rfl, hab4, l0, lA, lB⟩ := hL.at_ h2
      have hq := HQ2.out.below hbw zw2
      have hin : x1 < n := by rw [← HN.out]; exact h1
      obtain ⟨nl, hnl⟩ : ∃ nl, p.ts[x1].ls.length = nl := ⟨_, rfl⟩
      have hkn : x2 < nl := by rw [← hnl]; exact h2
      rw [hnl] at t1
      generalize (p.ts[x1]'h1).nm = nm at *
      generalize ((p.ts[x1]'h1).ls[x2]'h2).k = lk at *
      generalize (cs[i]'hic) = ct at *
      have u1 : ∀ o, (wr.alloc o).cell? (ad2.add i) = some (.int .i64 ct) := fun o => by
        rw [World.cell?_alloc_lt _ _ _ (by rw [add_block]; omega)]; exact c0
      have u2 : ∀ o, (wr.alloc o).cell? (ad3.add (x1 * 2)) = some (.string nm) := fun o => by
        rw [World.cell?_alloc_lt _ _ _ (by rw [add_block]; omega)]; exact t0
      have u3 : ∀ o, (wr.alloc o).cell? ⟨(ad3.add (x1 * 2)).block, (ad3.add (x1 * 2)).off + 1, none⟩ = some (.slice (some ad4) nl lc) := fun o => by
        rw [World.cell?_alloc_lt _ _ _ (by dsimp only; rw [add_block]; omega)]; exact t1
      have u4 : ∀ o, (wr.alloc o).cell? (ad4.add (x2 * 3)) = some (.int .i64 lk) := fun o => by
        rw [World.cell?_alloc_lt _ _ _ (by rw [add_block]; omega)]; exact l0
      have u5 : ∀ o, (wr.alloc o).cell? ⟨w.heap.size, 1, none⟩ = some (.slice (some ad3) n c) := fun o => (hq.alloc o).cell 1
      have HBW := Lib.hid hbw
      have HNO := Lib.hid hno
      have i0 : (0 : Int) ≤ (i : Int) := by omega
      have i1 : (i : Int) < (cn : Int) := by omega
      have y0 : (0 : Int) ≤ (x1 : Int) := by omega
      have y1 : (x1 : Int) < (n : Int) := by omega
      have y2 : (0 : Int) ≤ (x2 : Int) := by omega
      have y3 : (x2 : Int) < (nl : Int) := by omega
      clear hx hfa hbw hno HR hq hbe hL hnl c0 t0 t1 l0 lA lB h2 h1 hic
      by_cases hct : 0 < ct
      · have d1 : decide (0 < ct) = true := decide_eq_true hct
        by_cases h7 : lk = 7
        · have d2 : (lk == 7) = true := by simpa using h7
          have HF : Hid (b = true) := Lib.hid (HBT.out i hlt (by rw [HFA.out, d1, decide_eq_true h7]; rfl))
          clear hct h7
          go_wp2_with fail
          go_quiet (fail)
          go_wp2_with fail
          go_ret
          exact ⟨ret_bool HF.out.symm, HB2.out.trans (below_drewN ((HBW.out.mono (by omega)).alloc (by omega) _) _)⟩
        · have d2 : (lk == 7) = false := by simpa using h7
          have HF : Hid (failAt p cs i = false) := Lib.hid (by rw [HFA.out, d1, decide_eq_false h7]; rfl)
          clear hct h7
          go_wp2_with fail
          go_quiet (fail)
          go_wp2_with fail
          go_roundw
          case rel =>
            refine ⟨i + 1, by omega, by go_num, Lib.hid ⟨below_drewN (HBW.out.alloc hwl _) _, fun j hj => ?_⟩⟩
            by_cases e : j = i
            · rw [e]; exact HF.out
            · exact HNO.out j (by omega)
          case measure => simp [intOf]; omega
      · have d1 : decide (0 < ct) = false := decide_eq_false hct
        have HF : Hid (failAt p cs i = false) := Lib.hid (by rw [HFA.out, d1]; rfl)
        clear hct
        go_wp2_with fail
        go_quiet (fail)
        go_wp2_with fail
        go_roundw
        case rel =>
          refine ⟨i + 1, by omega, by go_num, Lib.hid ⟨below_drewN (HBW.out.alloc hwl _) _, fun j hj => ?_⟩⟩
          by_cases e : j = i
          · rw [e]; exact HF.out
          · exact HNO.out j (by omega)
        case measure => simp [intOf]; omega
    · obtain rfl : i = cn := by omega
      have HBW := Lib.hid hbw
      have HF : Hid (b = false) := Lib.hid (HBF.out hno)
      clear hbw hno HR
      go_wp2_with fail
      go_ret
      exact ⟨ret_bool HF.out.symm, HB2.out.trans (HBW.out.mono (by omega))⟩

theorem ThsAt.keep {w w' : World} {B : Nat} {A : Option Addr} {ts : List Th} (h : ThsAt w B A ts) (hk : ∀ p : Addr, p.block < B → w'.cell? p = w.cell? p) : ThsAt w' B A ts := by
  obtain ⟨vs, hl, hr, hls⟩ := h
  refine ⟨vs, hl, hr.keep hk, fun k h h' => ?_⟩
  obtain ⟨LA, c, hv, hLA⟩ := hls k h h'
  exact ⟨LA, c, hv, Reads.keep hLA hk⟩
theorem ThsAt.pickB {A W : World} {b B : Nat} {AD : Option Addr} {ts : List Th} (h : ThsAt A B AD ts) (hB : B ≤ A.heap.size) (hd : DiceOk A b) (hg : A.grownBy W (some b)) : ThsAt W B AD ts := by
  obtain ⟨vs, hvl, hr, hls⟩ := h
  refine ⟨vs, hvl, Reads.pick (W := W) (b := b) hr hg hB fun ad e hn => ?_, fun k h1 h2 => ?_⟩
  · obtain ⟨ad', e', _, hc⟩ := hr.2 hn
    rw [e] at e'; injection e' with e'; subst e'
    obtain ⟨h0, _⟩ := thCells_get ts vs hvl 0 hn
    have hs := hc 0 _ (by simpa using h0)
    have := ne_dice_str hd hs
    rwa [add_block] at this
  · obtain ⟨LA, c, e, hl⟩ := hls k h1 h2
    refine ⟨LA, c, e, Reads.pick (W := W) (b := b) hl hg hB fun ad e hn => ?_⟩
    obtain ⟨ad', e', _, hc⟩ := hl.2 hn
    rw [e] at e'; injection e' with e'; subst e'
    obtain ⟨h0, h1, _⟩ := lnCells_get _ 0 hn
    exact ne_dice_ints hd (hc 0 _ (by simpa using h0)) (hc 1 _ (by simpa using h1))
structure PkM (w W : World) (b pb : Nat) (ts : List Th) (pv : Int) (PA : Option Addr) (pn pc : Nat) : Prop where
  di : DiceOk W b
  be : Below w.heap.size w W
  pr : Blk W pb 28 #[.int .i64 pv, .slice PA pn pc]
  th : ThsAt W pb PA ts
  bl : w.heap.size ≤ b ∧ b < pb
section
variable {w W W' : World} {b pb : Nat} {ts : List Th} {pv : Int} {PA : Option Addr} {pn pc : Nat}
theorem PkM.pki (h : PkM w W b pb ts pv PA pn pc) : PkI w W b pb ts pv PA pn pc := ⟨h.di, h.be, h.pr, h.th.more (Nat.le_of_lt h.pr.lt), h.bl⟩
theorem PkM.pick (h : PkM w W b pb ts pv PA pn pc) (hd : DiceOk W' b) (hg : W.grownBy W' (some b)) : PkM w W' b pb ts pv PA pn pc :=
  ⟨hd, h.be.grown hg h.be.size (fun k hk => by cases hk; exact h.bl.1), h.pr.grown hg (by intro x; injection x; have := h.bl; omega), h.th.pickB (Nat.le_of_lt h.pr.lt) h.di hg, h.bl⟩
theorem PkM.row (h : PkM w W b pb ts pv PA pn pc) {row : Option Nat} (hg : W.grownBy W' row) (hr : ∀ g, row = some g → pb < g) : PkM w W' b pb ts pv PA pn pc := by
  have hbl := h.bl
  have hpl := h.pr.lt
  exact ⟨h.di.grown hg (fun r e => by have := hr r e; omega), h.be.grown hg h.be.size (fun k hk => by have := hr k hk; omega), h.pr.grown hg (fun e => by have := hr pb e.symm; omega),
    h.th.keep (fun q hq => World.cell?_of_block (hg.block _ (by omega) (fun e => by have := hr _ e.symm; omega))), hbl⟩
theorem PkM.below (h : PkM w W b pb ts pv PA pn pc) (hb : Below W.heap.size W W') : PkM w W' b pb ts pv PA pn pc := h.row (grownBy_of_below hb none) (fun g e => by cases e)
theorem PkM.alloc (h : PkM w W b pb ts pv PA pn pc) (o : Obj) : PkM w (W.alloc o) b pb ts pv PA pn pc := h.below ((Below.refl _ _).alloc (Nat.le_refl _) o)
theorem PkM.drewN (h : PkM w W b pb ts pv PA pn pc) (n : Nat) : PkM w (W.drewN n) b pb ts pv PA pn pc := h.below (below_drewN (Below.refl _ _) n)
end
/-- two rows of the call's own, in two blocks -/
structure TwoI (W : World) (b pb : Nat) (fv mv : Value) (few more : List Int) : Prop where
  f : W.ownsRow (pb + 1) 3 1 fv few.length (intVs few)
  m : W.ownsRow (pb + 1) 3 1 mv more.length (intVs more)
  dis : fv.ownBlock = none ∨ fv.ownBlock ≠ mv.ownBlock
  lt : b < pb
section
variable {A W : World} {b pb : Nat} {fv mv fv' mv' : Value} {few more : List Int}
theorem TwoI.row (h : TwoI A b pb fv mv few more) {row : Option Nat} (hg : A.grownBy W row) (hr : ∀ g, row = some g → g ≤ pb) : TwoI W b pb fv mv few more := by
  have key : ∀ (v : Value) (cs : List Int), A.ownsRow (pb + 1) 3 1 v cs.length (intVs cs) → W.ownsRow (pb + 1) 3 1 v cs.length (intVs cs) := fun v cs ho => by
    refine World.ownsRow.kept ho hg ?_
    rcases hv : v.ownBlock with _ | g
    · exact .inl rfl
    · right
      intro e
      have h1 := (World.ownsRow.lt ho g hv).1
      have h2 := hr g e.symm
      omega
  exact ⟨key _ _ h.f, key _ _ h.m, h.dis, h.lt⟩
theorem TwoI.pick (h : TwoI A b pb fv mv few more) (hg : A.grownBy W (some b)) : TwoI W b pb fv mv few more := h.row hg (fun g e => by cases e; have := h.lt; omega)
theorem TwoI.below (h : TwoI A b pb fv mv few more) (hb : Below A.heap.size A W) : TwoI W b pb fv mv few more := h.row (grownBy_of_below hb none) (fun g e => by cases e)
theorem TwoI.alloc (h : TwoI A b pb fv mv few more) (o : Obj) : TwoI (A.alloc o) b pb fv mv few more := h.below ((Below.refl _ _).alloc (Nat.le_refl _) o)
theorem TwoI.addF (h : TwoI A b pb fv mv few more) (x : Int) (hown : W.ownsRow (pb + 1) 3 1 fv' (few.length + 1) (intVs few ++ [.int .i64 x])) (hg : A.grownBy W fv.ownBlock) (hl : fv'.ownBlock = fv.ownBlock ∨ fv'.ownBlock = some A.heap.size) : TwoI W b pb fv' mv (few ++ [x]) more := by
  refine ⟨?_, World.ownsRow.kept h.m hg ?_, ?_, h.lt⟩
  · rw [List.length_append, intVs, List.map_append]; exact hown
  · rcases h.dis with e | e
    · rw [e]
      rcases mv.ownBlock with _ | g
      · exact .inl rfl
      · exact .inr (by simp)
    · exact .inr (fun x => e x.symm)
  · rcases hl with e | e
    · rw [e]; exact h.dis
    · right
      rw [e]
      intro x
      have := (World.ownsRow.lt h.m _ x.symm).2
      omega
theorem TwoI.addM (h : TwoI A b pb fv mv few more) (x : Int) (hown : W.ownsRow (pb + 1) 3 1 mv' (more.length + 1) (intVs more ++ [.int .i64 x])) (hg : A.grownBy W mv.ownBlock) (hl : mv'.ownBlock = mv.ownBlock ∨ mv'.ownBlock = some A.heap.size) : TwoI W b pb fv mv' few (more ++ [x]) := by
  refine ⟨World.ownsRow.kept h.f hg h.dis, ?_, ?_, h.lt⟩
  · rw [List.length_append, intVs, List.map_append]; exact hown
  · rcases hl with e | e
    · rw [e]; exact h.dis
    · by_cases hf : fv.ownBlock = none
      · exact .inl hf
      · right
        rw [e]
        intro x
        have := (World.ownsRow.lt h.f _ x).2
        omega
end
theorem own_isAt {W : World} {B n c : Nat} {A : Option Addr} {cs : List Int} (h : W.ownsRow B 3 1 (.slice A n c) cs.length (intVs cs)) : IsAt W W.heap.size A cs := by
  obtain ⟨A', c', e⟩ := own_form h
  injection e with e1 e2 e3
  subst e2
  exact Reads.of_own h
theorem reads_new1 (W : World) (x : Int) : Reads (W.alloc (.cells #[.int .i64 x] 3)) (W.heap.size + 1) 1 (some ⟨W.heap.size, 0, none⟩) 1 [.int .i64 x] := reads_blk (n := 1) (Blk.new W 3 #[.int .i64 x]) (by omega) rfl
/-- few threads, and more -/
structure MoreOk (few more : List Int) : Prop where
  l : few.length = more.length
  bf : Bd few 2
  bm : Bd more 4
  le : ∀ j, few.getD j 0 ≤ more.getD j 0
theorem Bd.snoc {cs : List Int} {M x : Int} (h : Bd cs M) (h0 : 0 ≤ x) (h1 : x ≤ M) : Bd (cs ++ [x]) M := by
  intro j hj
  by_cases e : j < cs.length
  · have := h j e
    simpa [List.getD, List.getElem?_append_left e] using this
  · have : j = cs.length := by simp at hj; omega
    subst this
    simp [List.getD]; omega
theorem MoreOk.snoc {few more : List Int} (h : MoreOk few more) {x y : Int} (x0 : 0 ≤ x) (x2 : x ≤ 2) (y1 : x ≤ y) (y4 : y ≤ 4) : MoreOk (few ++ [x]) (more ++ [y]) := by
  refine ⟨by simp [h.l], h.bf.snoc x0 x2, h.bm.snoc (by omega) y4, fun j => ?_⟩
  have hl := h.l
  by_cases e : j < few.length
  · have := h.le j
    simpa [List.getD, List.getElem?_append_left e, List.getElem?_append_left (show j < more.length by omega)] using this
  · by_cases e2 : j = few.length
    · have a1 : (few ++ [x]).getD j 0 = x := by subst e2; simp [List.getD]
      have a2 : (more ++ [y]).getD j 0 = y := by
        have : j = more.length := by omega
        subst this; simp [List.getD]
      rw [a1, a2]; exact y1
    · simp only [List.getD, List.getElem?_eq_none (show (few ++ [x]).length ≤ j by simp; omega), List.getElem?_eq_none (show (more ++ [y]).length ≤ j by simp; omega)]
      simp
end Go.Proofs.YtpkefohcccpncaaGreatDoor
namespace Go.Proofs.YtpkefohcccpncaaGreatDoor
open Go.RowKit
set_option linter.unusedSimpArgs false
set_option linter.unusedVariables false

set_option maxRecDepth 100000 in
set_option maxHeartbeats 4000000 in
theorem rplaces_any (p : Prg) (A : Option Addr) (n c : Nat) (w : World) (hT : ThsAt w w.heap.size A p.ts) (hn : p.ts.length = n) (hok : PrgOk p) :
    Calls Tryz.prog 22 #[.agg #[.int .i64 p.v, .slice A n c]] w (PlacesPost w (placesP p)) := by
  have hn9 := hok.n
  rw [hn] at hn9
  have HT := Lib.hid hT
  have HN := Lib.hid hn
  have CK : Hid (∀ o b, checkP p = b → Calls Tryz.prog 19 #[.agg #[.int .i64 p.v, .slice A n c]] (w.alloc o) fun e w' => e = .returned (.int .i64 (chkR b)) ∧ Below (w.alloc o).heap.size (w.alloc o) w') :=
    Lib.hid (fun o b hb => rcheck_any p A n c (w.alloc o) (hT.up ((Below.refl _ _).alloc (Nat.le_refl _) o)) hn hok b hb)
  clear hok hT hn
  rcases hb : checkP p with _ | _
  · have CK2 : Hid (∀ o, Calls Tryz.prog 19 #[.agg #[.int .i64 p.v, .slice A n c]] (w.alloc o) fun e w' => e = .returned (.int .i64 47) ∧ Below (w.alloc o).heap.size (w.alloc o) w') := Lib.hid (fun o => CK.out o false hb)
    have HF : Hid (placesP p = []) := Lib.hid (by unfold placesP; rw [hb]; rfl)
    clear hb CK
    generalize p.v = v at *
    go_enter Tryz.func22, Tryz.ntmps22
    go_wp2_with (go_at_call 19; go_must (refine (CK2.out _).mono ?_; rintro e w1 ⟨rfl, hb1⟩; (have HB1 := Lib.hid hb1); clear hb1))
    go_ret
    rw [HF.out]
    refine ⟨none, 0, rfl, Reads.none_, ((Below.refl _ _).alloc (Nat.le_refl _) _).trans (HB1.out.mono (by simp))⟩
  · have CK2 : Hid (∀ o, Calls Tryz.prog 19 #[.agg #[.int .i64 p.v, .slice A n c]] (w.alloc o) fun e w' => e = .returned (.int .i64 0) ∧ Below (w.alloc o).heap.size (w.alloc o) w') := Lib.hid (fun o => CK.out o true hb)
    have HF : Hid (placesP p = plsTo p.ts n) := Lib.hid (by unfold placesP; rw [if_pos hb, HN.out])
    have HL : Hid (∀ k, lenTo p.ts k ≤ 6) := Lib.hid (check_len hb)
    clear hb CK
    generalize hpv : p.v = v at *
    clear hpv
    go_enter Tryz.func22, Tryz.ntmps22
    go_wp2_with (go_at_call 19; go_must (refine (CK2.out _).mono ?_; rintro e w1 ⟨rfl, hb1⟩; (have hq1 : Blk w1 w.heap.size 28 #[.int .i64 v, .slice A n c] := (Blk.new w _ _).below hb1 (by simp)); (have q1 := hq1.cell 1); (have z1 : w.heap.size < w1.heap.size := by have := hb1.size; simp at this; omega); (have HB1 : Hid (Below w.heap.size w w1) := Lib.hid (((Below.refl _ _).alloc (Nat.le_refl _) _).trans (hb1.mono (by simp)))); (have HQ1 := Lib.hid hq1); clear hb1 hq1))
    obtain ⟨i0, hi, hz0, hz1, hz2⟩ := info_parts infoArr2
    clear q1
    go_loopw [3, 4] (fun s3 s4 wr => ∃ k : Nat, k ≤ n ∧ s4 = .int .i64 k ∧ Hid (wr.ownsRow w1.heap.size 56 2 s3 (lenTo p.ts k) (plCells (plsTo p.ts k)) ∧ Below w1.heap.size w1 wr)) (fun _ s4 _ => n - (intOf s4).toNat)
    case atStart => exact ⟨0, by omega, rfl, Lib.hid ⟨World.ownsRow_nil _ _ _ _, Below.refl _ _⟩⟩
    case round =>
      obtain ⟨wo, rfl⟩ : ∃ wo : World, wo = wr := ⟨_, rfl⟩
      obtain ⟨k, hk, rfl, HR⟩ := hrel
      obtain ⟨hown, hbw⟩ := HR.out
      have zwo : w1.heap.size ≤ wo.heap.size := hbw.size
      have q1 := (HQ1.out.below hbw HQ1.out.lt).cell 1
      by_cases hlt : k < n
      · have hkp : k < p.ts.length := by rw [HN.out]; exact hlt
        have HLL := Lib.hid (lsLen_at hkp)
        have h6 := HL.out (k + 1)
        rw [lenTo] at h6
        have hl6 : lsLen p.ts k ≤ 6 := by omega
        obtain ⟨ln, hln⟩ : ∃ ln, lsLen p.ts k = ln := ⟨_, rfl⟩
        rw [hln] at hl6 h6
        have HLN := Lib.hid hln
        have HOWN := Lib.hid hown
        have HBW := Lib.hid hbw
        clear hln hown hbw HR
        go_wp2_with fail
        clear q1
        go_loopw [3, 5] (fun s3 s5 wr => ∃ j : Nat, j ≤ ln ∧ s5 = .int .i64 j ∧ Hid (wr.ownsRow w1.heap.size 56 2 s3 (lenTo p.ts k + j) (plCells (plsTo p.ts k ++ plsOf k j)) ∧ Below w1.heap.size w1 wr)) (fun _ s5 _ => ln - (intOf s5).toNat)
        case atStart =>
          exact ⟨0, by omega, rfl, Lib.hid ⟨by simpa [plsOf] using HOWN.out, HBW.out⟩⟩
        case round =>
          obtain ⟨j, hj, rfl, HR2⟩ := hrel
          obtain ⟨hown, hbw⟩ := HR2.out
          have zwr : w1.heap.size ≤ wr.heap.size := hbw.size
          have q1 := (HQ1.out.below hbw HQ1.out.lt).cell 1
          obtain ⟨ad, LA, lc, rfl, hab, h0, h1, _⟩ := (HT.out.below (HB1.out.trans (hbw.mono (by omega)))).at_ hkp
          rw [← HLL.out, HLN.out] at h1
          have k0 : (0 : Int) ≤ (k : Int) := by omega
          have k1 : (k : Int) < (n : Int) := by omega
          have HO2 := Lib.hid hown
          have HB2 := Lib.hid hbw
          clear hown hbw h0
          by_cases hjl : j < ln
          · go_wp2_with (at_builtin; go_must (refine wpList_append_own _ rfl _ _ 47 rfl w1.heap.size 56 i0 _ 2 16 Tryz.underlying47 hi hz0 hz1 hz2 rfl (by decide) _ _ _ rfl (HO2.out.alloc _) ⟨wr.heap.size, 0, none⟩ 1 1 [.int .i64 (k : Int), .int .i64 (j : Int)] rfl rfl (cells_new_list wr _ _) (by simp [Value.oneCell']) (by unfold maxLen; omega) (by omega) (by simp; omega) ?_; intro v7 w7 hown7 hgr7 _; obtain ⟨A7, c7, rfl⟩ := own_form hown7; (have HO7 := Lib.hid hown7); (have HG7 := Lib.hid hgr7); clear hown7 hgr7))
            have HREL : Hid (w7.ownsRow w1.heap.size 56 2 (.slice A7 (lenTo p.ts k + j + 1) c7) (lenTo p.ts k + (j + 1)) (plCells (plsTo p.ts k ++ plsOf k (j + 1))) ∧ Below w1.heap.size w1 w7) := Lib.hid (by
              refine ⟨?_, below_own (HB2.out.alloc (by omega) _) (HO2.out.alloc _) HG7.out (by simp; omega)⟩
              have := HO7.out
              rw [plsOf_succ, ← List.append_assoc, plCells_append]
              exact this)
            go_roundw
            case rel => exact ⟨j + 1, by omega, by go_num, HREL⟩
            case measure => simp [intOf]; omega
          · obtain rfl : j = ln := by omega
            have HREL : Hid (∀ s, wr.ownsRow w1.heap.size 56 2 s (lenTo p.ts k + j) (plCells (plsTo p.ts k ++ plsOf k j)) → wr.ownsRow w1.heap.size 56 2 s (lenTo p.ts (k + 1)) (plCells (plsTo p.ts (k + 1)))) := Lib.hid (fun s h => by
              rw [lenTo, plsTo, HLN.out]; exact h)
            go_wp2_with fail
            go_roundw
            case rel => exact ⟨k + 1, by omega, by go_num, Lib.hid ⟨HREL.out _ HO2.out, HB2.out⟩⟩
            case measure => simp [intOf]; omega
      · obtain rfl : k = n := by omega
        obtain ⟨A3, c3, rfl⟩ := own_form hown
        have HOWN := Lib.hid hown
        have HBW := Lib.hid hbw
        clear hown hbw HR
        go_wp2_with fail
        go_ret
        rw [HF.out]
        refine ⟨A3, c3, (by rw [plsTo_length]; rfl), ?_, HB1.out.trans (HBW.out.mono (by omega))⟩
        have := HOWN.out
        rw [← plsTo_length] at this
        exact Reads.of_own this

/-- the number of a place: lines of the threads ahead of it, and its line -/
theorem rplace_any (p : Prg) (A : Option Addr) (n c : Nat) (t : Nat) (l : Int) (w : World) (hT : ThsAt w w.heap.size A p.ts) (hn : p.ts.length = n) (ht : t ≤ n) (h6 : ∀ k, lenTo p.ts k ≤ 6) (h9 : n ≤ 10000000000000) (hl : -1000 ≤ l ∧ l ≤ 1000) :
    Calls Tryz.prog 52 #[.agg #[.int .i64 p.v, .slice A n c], .int .i64 t, .int .i64 l] w fun e w' => e = .returned (.int .i64 (l + (lenTo p.ts t : Nat))) ∧ Below w.heap.size w w' := by
  have HT := Lib.hid hT
  have HN := Lib.hid hn
  have H6 := Lib.hid h6
  clear hT hn h6
  generalize p.v = v at *
  go_enter Tryz.func52, Tryz.ntmps52
  go_wp2_with fail
  go_loopw [7, 8] (fun s7 s8 wr => ∃ k m : Nat, k ≤ t ∧ m ≤ 6 ∧ s8 = .int .i64 k ∧ s7 = .int .i64 (l + (m : Int)) ∧ Hid (lenTo p.ts k = m ∧ wr = w.alloc (.cells #[.int .i64 v, .slice A n c] 28))) (fun _ s8 _ => t - (intOf s8).toNat)
  case atStart => exact ⟨0, 0, by omega, by omega, rfl, by go_num, Lib.hid ⟨rfl, rfl⟩⟩
  case round =>
    obtain ⟨k, m, hk, hm6, rfl, rfl, HR⟩ := hrel
    obtain ⟨hm, rfl⟩ := HR.out
    by_cases hlt : k < t
    · have hkp : k < p.ts.length := by rw [HN.out]; omega
      obtain ⟨ad, LA, lc, rfl, hab, h0, h1, _⟩ := (HT.out.below ((Below.refl _ _).alloc (Nat.le_refl _) (.cells #[.int .i64 v, .slice A n c] 28))).at_ hkp
      have q1 := (Blk.new w 28 #[.int .i64 v, .slice (some ad) n c]).cell 1
      have h7 := H6.out (k + 1)
      have HLT := Lib.hid (show lenTo p.ts (k + 1) = m + p.ts[k].ls.length by rw [lenTo, hm, lsLen_at hkp])
      rw [HLT.out] at h7
      generalize (p.ts[k]'hkp).ls.length = ln at *
      have k0 : (0 : Int) ≤ (k : Int) := by omega
      have k1 : (k : Int) < (n : Int) := by omega
      have s1 : IntKind.i64.wrap (l + (m : Int) + (ln : Int)) = l + (m : Int) + (ln : Int) := IntWalk.i64_in _ (by omega)
      clear hm HR h0
      go_wp2_with fail
      go_roundw
      case rel => exact ⟨k + 1, m + ln, by omega, by omega, by go_num, by first | rfl | (push_cast; congr 1; omega) | (rw [show l + ((m + ln : Nat) : Int) = l + (m : Int) + (ln : Int) by omega]), Lib.hid ⟨HLT.out, by trivial⟩⟩
      case measure => simp [intOf]; omega
    · obtain rfl : k = t := by omega
      have HM := Lib.hid hm
      clear hm HR
      go_wp2_with fail
      go_ret
      exact ⟨ret_int (by rw [HM.out]), (Below.refl _ _).alloc (Nat.le_refl _) _⟩
end Go.Proofs.YtpkefohcccpncaaGreatDoor
namespace Go.Proofs.YtpkefohcccpncaaGreatDoor
open Go.RowKit
set_option linter.unusedSimpArgs false
set_option linter.unusedVariables false

set_option maxRecDepth 100000 in
set_option maxHeartbeats 4000000 in
theorem rfails_ok (p : Prg) (A : Option Addr) (n c : Nat) (CA : Option Addr) (cn cc : Nat) (cs : List Int) (w : World) (hT : ThsAt w w.heap.size A p.ts) (hn : p.ts.length = n) (hok : PrgOk p)
    (hC : IsAt w w.heap.size CA cs) (hcn : cs.length = cn) (hl : (placesP p).length = cn) (b : Bool) (hb : failsB p cs = b) :
    Calls Tryz.prog 26 #[.agg #[.int .i64 p.v, .slice A n c], .slice CA cn cc] w fun e w' => e = .returned (.bool b) ∧ Below w.heap.size w w' := by
  have hn9 := hok.n
  rw [hn] at hn9
  have h6 := placesP_le p
  rw [hl] at h6
  have HT := Lib.hid hT
  have HC := Lib.hid hC
  have HCN := Lib.hid hcn
  have HN := Lib.hid hn
  have HL := Lib.hid hl
  have PL : Hid (∀ W, Below w.heap.size w W → Calls Tryz.prog 22 #[.agg #[.int .i64 p.v, .slice A n c]] W (PlacesPost W (placesP p))) := Lib.hid (fun W h => rplaces_any p A n c W (hT.up h) hn hok)
  have HBT : Hid (∀ i, i < cn → failAt p cs i = true → b = true) := Lib.hid (fun i hi hx => by
    rw [← hb, failsB, List.any_eq_true]
    exact ⟨i, List.mem_range.2 (by omega), hx⟩)
  have HBF : Hid ((∀ i, i < cn → failAt p cs i = false) → b = false) := Lib.hid (fun h => by
    rw [← hb, failsB, List.any_eq_false]
    intro i hi
    rw [h i (by have := List.mem_range.1 hi; omega)]; decide)
  have HPT : Hid (∀ i (hi : i < cn), ∃ (x1 x2 : Nat) (h1 : x1 < p.ts.length) (h2 : x2 < p.ts[x1].ls.length), (placesP p)[i]'(by rw [hl]; exact hi) = (x1, x2) ∧ ∀ (hc : i < cs.length), failAt p cs i = (decide (0 < cs[i]) && decide (p.ts[x1].ls[x2].k = 7))) := Lib.hid (fun i hi => by
    have hi2 : i < (placesP p).length := by rw [hl]; exact hi
    obtain ⟨h1, h2⟩ := place_at (List.getElem_mem hi2)
    refine ⟨_, _, h1, h2, rfl, fun hc => ?_⟩
    unfold failAt
    rw [show (placesP p).getD i (0, 0) = (placesP p)[i] by simp [List.getD, hi2], show cs.getD i 0 = cs[i] by simp [List.getD, hc], lnOf_at h1 h2])
  have HPA : Hid (∀ {PA : Option Addr} {W : World} {B : Nat}, PlsAt W B PA (placesP p) → ∀ i, (h : i < (placesP p).length) → ∃ ad, PA = some ad ∧ ad.block < B ∧ W.cell? (ad.add (i * 2)) = some (.int .i64 ((placesP p)[i].1 : Int)) ∧ W.cell? ⟨(ad.add (i * 2)).block, (ad.add (i * 2)).off + 1, none⟩ = some (.int .i64 ((placesP p)[i].2 : Int))) := Lib.hid (fun h i hi => PlsAt.at_ h hi)
  generalize placesP p = ps at *
  generalize hpv : p.v = pv at *
  clear hT hn hok hC hcn hb hpv
  go_enter Tryz.func26, Tryz.ntmps26
  go_wp2_with fail
  refine (PL.out _ ((Below.refl _ _).alloc (Nat.le_refl _) _)).mono ?_
  rintro e w2 ⟨PA, pc, rfl, hpl, hb2⟩
  rw [HL.out]
  have HPL := Lib.hid hpl
  have HB2 : Hid (Below w.heap.size w w2) := Lib.hid (((Below.refl _ _).alloc (Nat.le_refl _) _).trans (hb2.mono (by simp)))
  have HQ2 : Hid (Blk w2 w.heap.size 28 #[.int .i64 pv, .slice A n c]) := Lib.hid ((Blk.new w _ _).below hb2 (by simp))
  have zw2 : w.heap.size < w2.heap.size := HQ2.out.lt
  clear hpl hb2 PL
  have e0 : ((cn : Int) != (cn : Int)) = false := by simp
  go_wp2_with fail
  go_loopw [6] (fun ix wr => ∃ i : Nat, i ≤ cn ∧ ix = .int .i64 i ∧ Hid (Below w2.heap.size w2 wr ∧ ∀ j, j < i → failAt p cs j = false)) (fun ix _ => cn - (intOf ix).toNat)
  case atStart => exact ⟨0, by omega, rfl, Lib.hid ⟨Below.refl _ _, fun j hj => absurd hj (by omega)⟩⟩
  case round =>
    obtain ⟨i, hi9, rfl, HR⟩ := hrel
    obtain ⟨hbw, hno⟩ := HR.out
    have hwl : w2.heap.size ≤ wr.heap.size := hbw.size
    by_cases hlt : i < cn
    · obtain ⟨x1, x2, h1, h2, hx, hfa⟩ := HPT.out i hlt
      have hic : i < cs.length := by rw [HCN.out]; exact hlt
      have HFA := Lib.hid (hfa hic)
      obtain ⟨ad, rfl, hab, g0, g1⟩ := HPA.out (HPL.out.below hbw) i (by rw [HL.out]; exact hlt)
      rw [hx] at g0 g1
      dsimp only at g0 g1
      have hbe : Below w.heap.size w wr := HB2.out.trans (hbw.mono (by omega))
      obtain ⟨ad2, rfl, hab2, c0⟩ := (HC.out.below hbe).at_ hic
      obtain ⟨ad3, LA, lc, rfl, hab3, t0, t1, hL⟩ := (HT.out.below hbe).at_ h1
      obtain ⟨ad4, rfl, hab4, l0, lA, lB⟩ := hL.at_ h2
      have hq := HQ2.out.below hbw zw2
      have hin : x1 < n := by rw [← HN.out]; exact h1
      obtain ⟨nl, hnl⟩ : ∃ nl, p.ts[x1].ls.length = nl := ⟨_, rfl⟩
      have hkn : x2 < nl := by rw [← hnl]; exact h2
      rw [hnl] at t1
      generalize (p.ts[x1]'h1).nm = nm at *
      generalize ((p.ts[x1]'h1).ls[x2]'h2).k = lk at *
      generalize (cs[i]'hic) = ct at *
      have u5 := hq.cell 1
      have HBW := Lib.hid hbw
      have HNO := Lib.hid hno
      have i0 : (0 : Int) ≤ (i : Int) := by omega
      have i1 : (i : Int) < (cn : Int) := by omega
      have y0 : (0 : Int) ≤ (x1 : Int) := by omega
      have y1 : (x1 : Int) < (n : Int) := by omega
      have y2 : (0 : Int) ≤ (x2 : Int) := by omega
      have y3 : (x2 : Int) < (nl : Int) := by omega
      clear hx hfa hbw hno HR hq hbe hL hnl lA lB h2 h1 hic
      by_cases hct : 0 < ct
      · have d1 : decide (0 < ct) = true := decide_eq_true hct
        by_cases h7 : lk = 7
        · have d2 : (lk == 7) = true := by simpa using h7
          have HF : Hid (b = true) := Lib.hid (HBT.out i hlt (by rw [HFA.out, d1, decide_eq_true h7]; rfl))
          clear hct h7
          go_wp2_with fail
          go_quiet (fail)
          go_wp2_with fail
          go_ret
          exact ⟨ret_bool HF.out.symm, HB2.out.trans (below_drewN (HBW.out.mono (by omega)) _)⟩
        · have d2 : (lk == 7) = false := by simpa using h7
          have HF : Hid (failAt p cs i = false) := Lib.hid (by rw [HFA.out, d1, decide_eq_false h7]; rfl)
          clear hct h7
          go_wp2_with fail
          go_quiet (fail)
          go_wp2_with fail
          go_roundw
          case rel =>
            refine ⟨i + 1, by omega, by go_num, Lib.hid ⟨below_drewN HBW.out _, fun j hj => ?_⟩⟩
            by_cases e : j = i
            · rw [e]; exact HF.out
            · exact HNO.out j (by omega)
          case measure => simp [intOf]; omega
      · have d1 : decide (0 < ct) = false := decide_eq_false hct
        have HF : Hid (failAt p cs i = false) := Lib.hid (by rw [HFA.out, d1]; rfl)
        clear hct
        go_wp2_with fail
        go_quiet (fail)
        go_wp2_with fail
        go_roundw
        case rel =>
          refine ⟨i + 1, by omega, by go_num, Lib.hid ⟨below_drewN HBW.out _, fun j hj => ?_⟩⟩
          by_cases e : j = i
          · rw [e]; exact HF.out
          · exact HNO.out j (by omega)
        case measure => simp [intOf]; omega
    · obtain rfl : i = cn := by omega
      have HBW := Lib.hid hbw
      have HF : Hid (b = false) := Lib.hid (HBF.out hno)
      clear hbw hno HR
      go_wp2_with fail
      go_ret
      exact ⟨ret_bool HF.out.symm, HB2.out.trans (HBW.out.mono (by omega))⟩
set_option maxHeartbeats 2000000 in
theorem rfails_ne (p : Prg) (A : Option Addr) (n c : Nat) (CA : Option Addr) (cn cc : Nat) (w : World) (hT : ThsAt w w.heap.size A p.ts) (hn : p.ts.length = n) (hok : PrgOk p) (hl : (placesP p).length ≠ cn) :
    Calls Tryz.prog 26 #[.agg #[.int .i64 p.v, .slice A n c], .slice CA cn cc] w fun e w' => e = .returned (.bool false) ∧ Below w.heap.size w w' := by
  have PL : Hid (∀ W, Below w.heap.size w W → Calls Tryz.prog 22 #[.agg #[.int .i64 p.v, .slice A n c]] W (PlacesPost W (placesP p))) := Lib.hid (fun W h => rplaces_any p A n c W (hT.up h) hn hok)
  have HB1 : Hid (∀ o, Below w.heap.size w (w.alloc o)) := Lib.hid (fun o => (Below.refl _ _).alloc (Nat.le_refl _) o)
  generalize placesP p = ps at *
  generalize p.v = pv at *
  obtain ⟨m, hm⟩ : ∃ m, ps.length = m := ⟨_, rfl⟩
  rw [hm] at hl
  have HM := Lib.hid hm
  have e0 : ((cn : Int) != (m : Int)) = true := by simp; omega
  clear hT hn hok hl hm
  go_enter Tryz.func26, Tryz.ntmps26
  go_wp2_with (go_at_call 22; go_must (refine (PL.out _ (HB1.out _)).mono ?_; rintro e w2 ⟨PA, pc, rfl, _, hb2⟩; (rw [HM.out]); (have HB2 := Lib.hid ((HB1.out _).trans (hb2.mono (by simp)))); clear hb2))
  go_ret
  exact ⟨rfl, HB2.out⟩
set_option maxHeartbeats 2000000 in
theorem gfails_ne (p : Prg) (A : Option Addr) (n c : Nat) (CA : Option Addr) (cn cc : Nat) (w : World) (hT : ThsAt w w.heap.size A p.ts) (hn : p.ts.length = n) (hg : GlobP w) (hok : PrgOk p) (hl : (placesP p).length ≠ cn) :
    Calls Tryz.prog 14 #[.agg #[.int .i64 p.v, .slice A n c], .slice CA cn cc] w fun e w' => e = .returned (.bool false) ∧ Below w.heap.size w w' := by
  have PL : Hid (∀ W, Below w.heap.size w W → Calls Tryz.prog 13 #[.agg #[.int .i64 p.v, .slice A n c]] W (PlacesPost W (placesP p))) := Lib.hid (fun W h => places_any p A n c W (hT.up h) hn (hg.below h) hok)
  have HB1 : Hid (∀ o, Below w.heap.size w (w.alloc o)) := Lib.hid (fun o => (Below.refl _ _).alloc (Nat.le_refl _) o)
  generalize placesP p = ps at *
  generalize p.v = pv at *
  obtain ⟨m, hm⟩ : ∃ m, ps.length = m := ⟨_, rfl⟩
  rw [hm] at hl
  have HM := Lib.hid hm
  have e0 : ((cn : Int) != (m : Int)) = true := by simp; omega
  clear hT hn hg hok hl hm
  go_enter Tryz.func14, Tryz.ntmps14
  go_wp2_with (go_at_call 13; go_must (refine (PL.out _ (HB1.out _)).mono ?_; rintro e w2 ⟨PA, pc, rfl, _, hb2⟩; (rw [HM.out]); (have HB2 := Lib.hid ((HB1.out _).trans (hb2.mono (by simp)))); clear hb2))
  go_ret
  exact ⟨rfl, HB2.out⟩
/-- does a thread stand at a line that fails? -/
def failsG (p : Prg) (cs : List Int) : Bool := if (placesP p).length = cs.length then failsB p cs else false
theorem rfails_any (p : Prg) (A : Option Addr) (n c : Nat) (CA : Option Addr) (cn cc : Nat) (cs : List Int) (w : World) (hT : ThsAt w w.heap.size A p.ts) (hn : p.ts.length = n) (hok : PrgOk p)
    (hC : IsAt w w.heap.size CA cs) (hcn : cs.length = cn) :
    Calls Tryz.prog 26 #[.agg #[.int .i64 p.v, .slice A n c], .slice CA cn cc] w fun e w' => e = .returned (.bool (failsG p cs)) ∧ Below w.heap.size w w' := by
  by_cases hl : (placesP p).length = cn
  · unfold failsG; rw [if_pos (by omega)]
    exact rfails_ok p A n c CA cn cc cs w hT hn hok hC hcn hl _ rfl
  · unfold failsG; rw [if_neg (by omega)]
    exact rfails_ne p A n c CA cn cc w hT hn hok hl
theorem gfails_any (p : Prg) (A : Option Addr) (n c : Nat) (CA : Option Addr) (cn cc : Nat) (cs : List Int) (w : World) (hT : ThsAt w w.heap.size A p.ts) (hn : p.ts.length = n) (hg : GlobP w) (hok : PrgOk p)
    (hC : IsAt w w.heap.size CA cs) (hcn : cs.length = cn) :
    Calls Tryz.prog 14 #[.agg #[.int .i64 p.v, .slice A n c], .slice CA cn cc] w fun e w' => e = .returned (.bool (failsG p cs)) ∧ Below w.heap.size w w' := by
  by_cases hl : (placesP p).length = cn
  · unfold failsG; rw [if_pos (by omega)]
    exact fails_any p A n c CA cn cc cs w hT hn hg hok hC hcn hl _ rfl
  · unfold failsG; rw [if_neg (by omega)]
    exact gfails_ne p A n c CA cn cc w hT hn hg hok hl
end Go.Proofs.YtpkefohcccpncaaGreatDoor
