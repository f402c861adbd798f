/- odd: a program that may not be valid. -/
import Derived.Test.YtpkefohcccpncaaGreatDoorQAx
import Derived.Test.YtpkefohcccpncaaGreatDoorQAj
import Derived.Test.YtpkefohcccpncaaGreatDoorQAw
import Derived.Deep.DeepCutAuto
import Derived.Deep.CutBlock
import Derived.Deep.RegionLaw
namespace Go.Proofs.YtpkefohcccpncaaGreatDoor
open Go.RowKit
set_option linter.unusedSimpArgs false
set_option linter.unusedVariables false

theorem LnsAt.pickB {A W : World} {b B : Nat} {AD : Option Addr} {xs : List Ln} (h : LnsAt A B AD xs) (hB : B ≤ A.heap.size) (hd : DiceOk A b) (hg : A.grownBy W (some b)) : LnsAt W B AD xs := by
  refine Reads.pick (W := W) (b := b) h hg hB fun ad e hn => ?_
  obtain ⟨ad', e', _, hc⟩ := h.2 hn
  rw [e] at e'; injection e' with e'; subst e'
  obtain ⟨h0, h1, _⟩ := lnCells_get xs 0 hn
  exact ne_dice_ints hd (hc 0 _ (by simpa using h0)) (hc 1 _ (by simpa using h1))
theorem thCells_one : ∀ (ts : List Th) (vs : List Value), (∀ v ∈ vs, v.oneCell' = true) → ∀ u ∈ thCells ts vs, u.oneCell' = true := by
  intro ts
  induction ts with
  | nil => intro vs _ u hu; cases hu
  | cons t ts ih =>
    intro vs hv u hu
    cases vs with
    | nil => cases hu
    | cons v vs =>
      simp only [thCells, List.mem_cons] at hu
      rcases hu with rfl | rfl | hu
      · rfl
      · exact hv _ (List.mem_cons_self ..)
      · exact ih vs (fun x hx => hv x (List.mem_cons_of_mem _ hx)) u hu
theorem lnCells_one (ls : List Ln) : ∀ u ∈ lnCells ls, u.oneCell' = true := by
  intro u hu
  simp only [lnCells, List.mem_flatMap] at hu
  obtain ⟨l, _, h⟩ := hu
  simp only [List.mem_cons, List.mem_nil_iff, or_false] at h
  rcases h with rfl | rfl | rfl <;> rfl
theorem thCells_put : ∀ (ts : List Th) (vs : List Value) (hl : vs.length = ts.length) (i : Nat) (nm : ByteArray) (ls : List Ln) (v : Value) (hi : i < ts.length), ((thCells ts vs).set (i * 2) (.string nm)).set (i * 2 + 1) v = thCells (ts.set i ⟨nm, ls⟩) (vs.set i v) := by
  intro ts
  induction ts with
  | nil => intro vs hl i nm ls v hi; simp at hi
  | cons t ts ih =>
    intro vs hl i nm ls v hi
    cases vs with
    | nil => simp at hl
    | cons u vs =>
      cases i with
      | zero => rfl
      | succ i =>
        rw [show (i + 1) * 2 = i * 2 + 1 + 1 from by omega]
        simp only [thCells, List.set_cons_succ]
        rw [ih vs (by simpa using hl) i nm ls v (by simpa using hi)]
def OddPost (w : World) (b : Nat) (e : Ending) (w' : World) : Prop := ∃ (q : Prg) (A : Option Addr) (c : Nat), e = .returned (.agg #[.int .i64 q.v, .slice A q.ts.length c]) ∧ ThsAt w' w'.heap.size A q.ts ∧ PrgOk q ∧ DiceOk w' b ∧ w.grownBy w' (some b)
/-- what odd holds while it changes its program -/
structure OdI (w W : World) (b LB gp gx gt gl : Nat) (v : Int) (n tc : Nat) (ts : List Th) (vs : List Value) (nm : ByteArray) (ls : List Ln) (ln lc : Nat) : Prop where
  di : DiceOk W b
  gb : w.grownBy W (some b)
  res : Blk W w.heap.size 28 #[.int .i64 0, .slice none 0 0]
  pb : Blk W gp 28 #[.int .i64 v, .slice (some ⟨gt, 0, none⟩) n tc]
  tb : Blk W gx 45 #[.string nm, .slice (some ⟨gl, 0, none⟩) ln lc]
  tho : W.ownsRow (LB + 1) 45 2 (.slice (some ⟨gt, 0, none⟩) n tc) n (thCells ts vs)
  lno : W.ownsRow (LB + 1) 42 3 (.slice (some ⟨gl, 0, none⟩) ln lc) ln (lnCells ls)
  lns : ∀ k (h : k < ts.length) (h' : k < vs.length), ∃ LA c, vs[k] = .slice LA ts[k].ls.length c ∧ LnsAt W LB LA ts[k].ls
  tn : ts.length = n
  vn : vs.length = n
  lsn : ls.length = ln
  lt : b < w.heap.size ∧ w.heap.size < LB ∧ LB = gp ∧ gp < gx ∧ gx ≠ gt
theorem lnSet0 {ls : List Ln} (h : 0 < ls.length) (x : Int) : ∃ ls' : List Ln, (lnCells ls).set 0 (.int .i64 x) = lnCells ls' ∧ ls'.length = ls.length := by
  rcases ls with _ | ⟨l, r⟩
  · simp at h
  · exact ⟨⟨x, l.a, l.n⟩ :: r, rfl, rfl⟩
theorem lnSet1 {ls : List Ln} (h : 0 < ls.length) (x : Int) : ∃ ls' : List Ln, (lnCells ls).set 1 (.int .i64 x) = lnCells ls' ∧ ls'.length = ls.length := by
  rcases ls with _ | ⟨l, r⟩
  · simp at h
  · exact ⟨⟨l.k, x, l.n⟩ :: r, rfl, rfl⟩
theorem lnSet2 {ls : List Ln} (h : 0 < ls.length) (x : Int) : ∃ ls' : List Ln, (lnCells ls).set 2 (.int .i64 x) = lnCells ls' ∧ ls'.length = ls.length := by
  rcases ls with _ | ⟨l, r⟩
  · simp at h
  · exact ⟨⟨l.k, l.a, x⟩ :: r, rfl, rfl⟩
section
variable {w W W' : World} {b LB gp gx gt gl : Nat} {v : Int} {n tc : Nat} {ts : List Th} {vs : List Value} {nm : ByteArray} {ls : List Ln} {ln lc : Nat}
theorem OdI.pick (h : OdI w W b LB gp gx gt gl v n tc ts vs nm ls ln lc) (hd : DiceOk W' b) (hg : W.grownBy W' (some b)) : OdI w W' b LB gp gx gt gl v n tc ts vs nm ls ln lc := by
  have hlt := h.lt
  have ht := h.tho.lt gt rfl
  have hl := h.lno.lt gl rfl
  have hne : ∀ k, k ≠ b → some k ≠ some b := fun k hk e => by injection e with e; exact hk e
  refine ⟨hd, grownBy_trans h.gb hg, h.res.grown hg (hne _ (by omega)), h.pb.grown hg (hne _ (by omega)), h.tb.grown hg (hne _ (by omega)), h.tho.kept hg (.inr (hne gt (by omega))), h.lno.kept hg (.inr (hne gl (by omega))), fun k h1 h2 => ?_, h.tn, h.vn, h.lsn, h.lt⟩
  obtain ⟨LA, c, e, hL⟩ := h.lns k h1 h2
  exact ⟨LA, c, e, hL.pickB (by have := h.pb.lt; omega) h.di hg⟩
theorem OdI.below (h : OdI w W b LB gp gx gt gl v n tc ts vs nm ls ln lc) (hb : Below W.heap.size W W') : OdI w W' b LB gp gx gt gl v n tc ts vs nm ls ln lc := by
  refine ⟨h.di.below hb h.di.lt, grownBy_below h.gb hb, h.res.below hb h.res.lt, h.pb.below hb h.pb.lt, h.tb.below hb h.tb.lt, own_kept_below h.tho hb, own_kept_below h.lno hb, fun k h1 h2 => ?_, h.tn, h.vn, h.lsn, h.lt⟩
  obtain ⟨LA, c, e, hL⟩ := h.lns k h1 h2
  exact ⟨LA, c, e, hL.below (hb.mono (by have := h.pb.lt; have := h.lt; omega))⟩
/-- a write behind LB -/
theorem OdI.far (h : OdI w W b LB gp gx gt gl v n tc ts vs nm ls ln lc) {p : Addr} (hp : LB ≤ p.block) (u : Value) : DiceOk (W.setCell p u) b ∧ w.grownBy (W.setCell p u) (some b) ∧ Blk (W.setCell p u) w.heap.size 28 #[.int .i64 0, .slice none 0 0] ∧
    ∀ k (h : k < ts.length) (h' : k < vs.length), ∃ LA c, vs[k] = .slice LA ts[k].ls.length c ∧ LnsAt (W.setCell p u) LB LA ts[k].ls := by
  have hlt := h.lt
  have hb : Below LB W (W.setCell p u) := (Below.refl _ _).setCell hp u
  refine ⟨h.di.below hb (by omega), grownBy_setCell h.gb (.inr (by omega)) u, h.res.below hb (by omega), fun k h1 h2 => ?_⟩
  obtain ⟨LA, c, e, hL⟩ := h.lns k h1 h2
  exact ⟨LA, c, e, hL.below hb⟩
theorem OdI.setv (h : OdI w W b LB gp gx gt gl v n tc ts vs nm ls ln lc) (v' : Int) : OdI w (W.setCell ⟨gp, 0, none⟩ (.int .i64 v')) b LB gp gx gt gl v' n tc ts vs nm ls ln lc := by
  have hlt := h.lt
  obtain ⟨a1, a2, a3, a4⟩ := h.far (p := ⟨gp, 0, none⟩) (by dsimp only; omega) (.int .i64 v')
  exact ⟨a1, a2, a3, h.pb.set_ 0 _, h.tb.far (by dsimp only; omega) _, own_set (g := gp) h.tho (by omega), own_set (g := gp) h.lno (by omega), a4, h.tn, h.vn, h.lsn, h.lt⟩
theorem OdI.setn (h : OdI w W b LB gp gx gt gl v n tc ts vs nm ls ln lc) (nm' : ByteArray) : OdI w (W.setCell ⟨gx, 0, none⟩ (.string nm')) b LB gp gx gt gl v n tc ts vs nm' ls ln lc := by
  have hlt := h.lt
  obtain ⟨a1, a2, a3, a4⟩ := h.far (p := ⟨gx, 0, none⟩) (by dsimp only; omega) (.string nm')
  refine ⟨a1, a2, a3, h.pb.far (by dsimp only; omega) _, h.tb.set_ 0 _, own_kept_set h.tho (fun e => ?_), own_kept_set h.lno (own_blk_ne h.lno h.tb (by decide)), a4, h.tn, h.vn, h.lsn, h.lt⟩
  have e : some gt = some gx := e
  injection e with e
  exact hlt.2.2.2.2 e.symm
theorem OdI.setl (h : OdI w W b LB gp gx gt gl v n tc ts vs nm ls ln lc) {j : Nat} {u : Value} {ls' : List Ln} (h1 : (lnCells ls).set j u = lnCells ls') (h2 : ls'.length = ls.length) : OdI w (W.setCell ⟨gl, j, none⟩ u) b LB gp gx gt gl v n tc ts vs nm ls' ln lc := by
  have hlt := h.lt
  have hl := h.lno.lt gl rfl
  have hx := own_blk_ne h.lno h.tb (by decide)
  obtain ⟨a1, a2, a3, a4⟩ := h.far (p := ⟨gl, j, none⟩) (by dsimp only; omega) u
  have h3 := (h.lno.stored j u).1
  rw [h1] at h3
  refine ⟨a1, a2, a3, h.pb.far (by dsimp only; omega) _, h.tb.far (fun e => hx (by rw [e]; rfl)) _, own_kept_set h.tho (fun e => own_own_ne h.tho h.lno (by decide) gl e rfl), h3, a4, h.tn, h.vn, by rw [h2]; exact h.lsn, h.lt⟩
theorem OdI.done (h : OdI w W b LB gp gx gt gl v n tc ts vs nm ls ln lc) {i : Nat} (hi : i < n) (hnm : nm.size ≤ 20) (hts : ∀ t ∈ ts, t.ls.length ≤ 6 ∧ t.nm.size ≤ 20) (hn : n ≤ 2) (hln : ln ≤ 6) {Wf : World}
    (hWf : Wf = (((W.setCell ⟨gt, i * 2, none⟩ (.string nm)).setCell ⟨gt, i * 2 + 1, none⟩ (.slice (some ⟨gl, 0, none⟩) ln lc)).setCell ⟨w.heap.size, 0, none⟩ (.int .i64 v)).setCell ⟨w.heap.size, 1, none⟩ (.slice (some ⟨gt, 0, none⟩) n tc)) :
    Blk Wf w.heap.size 28 #[.int .i64 v, .slice (some ⟨gt, 0, none⟩) n tc] ∧ OddPost w b (.returned (.agg #[.int .i64 v, .slice (some ⟨gt, 0, none⟩) n tc])) Wf := by
  have hlt := h.lt
  have hgt := h.tho.lt gt rfl
  have hgl := h.lno.lt gl rfl
  have hit : i < ts.length := by rw [h.tn]; exact hi
  have hvt : vs.length = ts.length := by rw [h.tn, h.vn]
  have hsz : Wf.heap.size = W.heap.size := by rw [hWf]; simp [World.setCell]
  have hne : gt ≠ gl := fun e => own_own_ne h.tho h.lno (by decide) gt rfl (by rw [e]; rfl)
  have ht1 := (((h.tho.stored (i * 2) (.string nm)).1).stored (i * 2 + 1) (.slice (some ⟨gl, 0, none⟩) ln lc)).1
  rw [thCells_put ts vs hvt i nm ls _ hit] at ht1
  have ht2 : Wf.ownsRow (LB + 1) 45 2 (.slice (some ⟨gt, 0, none⟩) n tc) n (thCells (ts.set i ⟨nm, ls⟩) (vs.set i (.slice (some ⟨gl, 0, none⟩) ln lc))) := by
    rw [hWf]; exact own_set (g := w.heap.size) (own_set (g := w.heap.size) ht1 (by omega)) (by omega)
  have hn2 : ∀ {g : Nat}, (Value.slice (some ⟨gl, 0, none⟩) ln lc).ownBlock = some g → g = gl := fun e => by
    have e : some gl = some _ := e
    injection e with e; exact e.symm
  have hl2 : Wf.ownsRow (LB + 1) 42 3 (.slice (some ⟨gl, 0, none⟩) ln lc) ln (lnCells ls) := by
    rw [hWf]
    exact own_set (g := w.heap.size) (own_set (g := w.heap.size) (own_kept_set (own_kept_set h.lno (fun e => hne (hn2 e))) (fun e => hne (hn2 e))) (by omega)) (by omega)
  have hb1 : Below LB W ((W.setCell ⟨gt, i * 2, none⟩ (.string nm)).setCell ⟨gt, i * 2 + 1, none⟩ (.slice (some ⟨gl, 0, none⟩) ln lc)) := ((Below.refl _ _).setCell (p := ⟨gt, i * 2, none⟩) (by dsimp only; omega) _).setCell (p := ⟨gt, i * 2 + 1, none⟩) (by dsimp only; omega) _
  have hb2 : ∀ k, k < LB → k ≠ w.heap.size → Wf.heap[k]? = W.heap[k]? := fun k hk hkw => by
    rw [hWf, Below.heap_setCell _ _ _ _ (by dsimp only; exact hkw), Below.heap_setCell _ _ _ _ (by dsimp only; exact hkw)]
    exact hb1.block k hk
  have hgr : w.grownBy Wf (some b) := by
    rw [hWf]
    exact grownBy_setCell (grownBy_setCell (grownBy_setCell (grownBy_setCell h.gb (.inr (by dsimp only; omega)) _) (.inr (by dsimp only; omega)) _) (.inr (Nat.le_refl _)) _) (.inr (Nat.le_refl _)) _
  have hres : Blk Wf w.heap.size 28 #[.int .i64 v, .slice (some ⟨gt, 0, none⟩) n tc] := by
    rw [hWf]
    exact (((h.res.far (p := ⟨gt, i * 2, none⟩) (by dsimp only; omega) _).far (p := ⟨gt, i * 2 + 1, none⟩) (by dsimp only; omega) _).set_ 0 _).set_ 1 _
  have hdice : DiceOk Wf b := by
    have h1 : DiceOk ((W.setCell ⟨gt, i * 2, none⟩ (.string nm)).setCell ⟨gt, i * 2 + 1, none⟩ (.slice (some ⟨gl, 0, none⟩) ln lc)) b := h.di.below hb1 (by omega)
    have hb3 : ∀ (X : World) (j : Nat) (u : Value), DiceOk X b → DiceOk (X.setCell ⟨w.heap.size, j, none⟩ u) b := fun X j u hd => hd.below (B := w.heap.size) ((Below.refl _ _).setCell (p := ⟨w.heap.size, j, none⟩) (Nat.le_refl _) u) hlt.1
    rw [hWf]
    exact hb3 _ _ _ (hb3 _ _ _ h1)
  refine ⟨hres, ⟨v, ts.set i ⟨nm, ls⟩⟩, some ⟨gt, 0, none⟩, tc, by dsimp only; rw [List.length_set, h.tn], ?_, ⟨by dsimp only; rw [List.length_set, h.tn]; omega, fun t ht => ?_⟩, hdice, hgr⟩
  · refine ⟨vs.set i (.slice (some ⟨gl, 0, none⟩) ln lc), by simp [hvt], ?_, fun k h1 h2 => ?_⟩
    · dsimp only
      rw [List.length_set, h.tn]
      refine own_reads ht2 rfl ?_
      rw [thCells_length _ _ (by simp [hvt]), List.length_set, h.tn]
    · dsimp only
      by_cases e : k = i
      · subst e
        refine ⟨some ⟨gl, 0, none⟩, lc, by simp [h.lsn], ?_⟩
        simp only [List.getElem_set_self]
        unfold LnsAt
        rw [h.lsn]
        exact own_reads hl2 rfl (by rw [lnCells_length, h.lsn])
      · have hk1 : k < ts.length := by simpa using h1
        obtain ⟨LA, c, e1, hL⟩ := h.lns k hk1 (by omega)
        refine ⟨LA, c, by rw [List.getElem_set_ne (Ne.symm e), List.getElem_set_ne (Ne.symm e)]; exact e1, ?_⟩
        rw [List.getElem_set_ne (Ne.symm e)]
        refine Reads.more (B := LB) ?_ (by rw [hsz]; have := h.pb.lt; omega)
        refine ⟨hL.1, fun hn0 => ?_⟩
        obtain ⟨ad, e2, hb, hc⟩ := hL.2 hn0
        have hnw : ad.block ≠ w.heap.size := fun e3 => by
          have h1 := hc 1 _ (by simpa using (lnCells_get ts[k].ls 0 hn0).2.1)
          have e4 : ad.add 1 = ⟨w.heap.size, ad.off + 1, none⟩ := by rw [← e3]; simp [Addr.add]
          rw [e4, h.res.cell (ad.off + 1)] at h1
          rcases ho : ad.off with _ | o
          · rw [ho] at h1; cases h1
          · rw [ho] at h1; simp at h1
        exact ⟨ad, e2, hb, fun j u hu => (World.cell?_of_block (hb2 _ (by rw [add_block]; exact hb) (by rw [add_block]; exact hnw))).trans (hc j u hu)⟩
  · obtain ⟨k, hk, rfl⟩ := List.getElem_of_mem ht
    by_cases e : k = i
    · subst e
      simp only [List.getElem_set_self]
      rw [h.lsn]; exact ⟨by omega, by omega⟩
    · rw [List.getElem_set_ne (Ne.symm e)]
      have := hts _ (List.getElem_mem (by simpa using hk : k < ts.length))
      exact ⟨by omega, by omega⟩
end
set_option maxRecDepth 100000 in
set_option maxHeartbeats 8000000 in
theorem odd_any (w : World) (b : Nat) (hd : DiceOk w b) : Calls Tryz.prog 15 #[.pointer (some ⟨b, 0, none⟩)] w (OddPost w b) := by
  have hbw := hd.lt
  obtain ⟨wr, hwr⟩ : ∃ wr : World, wr = w.alloc (.cells #[.int .i64 0, .slice none 0 0] 28) := ⟨_, rfl⟩
  have DP : Hid (Calls Tryz.prog 8 #[.pointer (some ⟨b, 0, none⟩)] (w.alloc (.cells #[.int .i64 0, .slice none 0 0] 28)) (DpPost (w.alloc (.cells #[.int .i64 0, .slice none 0 0] 28)) b)) := Lib.hid (dprogram_any _ b (hd.below ((Below.refl _ _).alloc (Nat.le_refl _) _) hbw))
  unfold DpPost at DP
  clear hwr
  go_enter Tryz.func15, Tryz.ntmps15
  go_upto_region 2 with (go_at_call 8; go_must (refine (DP.out).mono ?_; rintro e w1 ⟨p, PA, pc, rfl, hth, hok, hdi, hgr⟩; (have HTH := Lib.hid hth); (have HOK := Lib.hid hok); (have HDI := Lib.hid hdi); (have HGR := Lib.hid hgr); clear hth hok hdi hgr))
  obtain ⟨pv, ts⟩ := p
  dsimp only at *
  obtain ⟨n, hn⟩ : ∃ n, ts.length = n := ⟨_, rfl⟩
  have hn1 : 1 ≤ n := by have := HOK.out.n1; dsimp only at this; omega
  have hn2 : n ≤ 2 := by have := HOK.out.n2; dsimp only at this; omega
  have HN := Lib.hid hn
  rw [hn]
  obtain ⟨vs, hvl, hrd, hls⟩ := HTH.out
  rw [hn] at hrd
  have HV := Lib.hid hvl
  have HRD := Lib.hid hrd
  have HLS := Lib.hid hls
  have HB1 : Hid (w.heap.size < w1.heap.size ∧ DiceOk w1 b ∧ w.grownBy w1 (some b) ∧ Blk w1 w.heap.size 28 #[.int .i64 0, .slice none 0 0]) := Lib.hid ⟨by have := HGR.out.size; simp at this; omega, HDI.out, grownBy_trans (grownBy_of_below ((Below.refl _ _).alloc (Nat.le_refl _) _) (some b)) HGR.out, (Blk.new w _ _).grown HGR.out (by intro e; injection e; omega)⟩
  have hvn : vs.length = n := by rw [hvl, hn]
  clear hn hrd hls HDI HGR HTH DP
  obtain ⟨i0, hi, hz0, hz1, hz2⟩ := info_parts infoThread
  have HONE : Hid (∀ u ∈ thCells ts vs, u.oneCell' = true) := Lib.hid (thCells_one ts vs (fun v hv => by
    obtain ⟨k, hk, rfl⟩ := List.getElem_of_mem hv
    obtain ⟨LA, c, e, _⟩ := HLS.out k (by omega) hk
    rw [e]; rfl))
  have hz1w := HB1.out.1
  have HGP : Hid (Blk (w1.alloc (.cells #[.int .i64 pv, .slice PA n pc] 28)) w1.heap.size 28 #[.int .i64 pv, .slice PA n pc]) := Lib.hid (Blk.new w1 _ _)
  have p1 := HGP.out.cell 1
  have HE0 : Hid (((w1.alloc (.cells #[.int .i64 pv, .slice PA n pc] 28)).alloc (.cells #[] 45)).ownsRow (w1.heap.size + 1) 45 2 (.slice (some ⟨w1.heap.size + 1, 0, none⟩) 0 0) 0 []) := Lib.hid (by
    have := World.ownsRow_lit (base := w1.heap.size + 1) (e := 45) (size := 2) (w1.alloc (.cells #[.int .i64 pv, .slice PA n pc] 28)) #[] 0 (by simp) (by unfold maxLen; omega) (by simp)
    rw [World.size_alloc] at this
    exact this)
  have HRD2 : Hid (∀ o1 o2, Reads ((w1.alloc o1).alloc o2) w1.heap.size 2 PA n (thCells ts vs)) := Lib.hid (fun o1 o2 => Reads.alloc (Reads.alloc HRD.out (Nat.le_refl _) o1) (by simp) o2)
  go_upto_region 3 with (at_builtin; go_must (refine wpList_append_any _ rfl _ _ 26 rfl (w1.heap.size + 1) 45 i0 _ 2 40 Tryz.underlying26 hi hz0 hz1 hz2 rfl (by decide) (.slice (some ⟨w1.heap.size + 1, 0, none⟩) 0 0) 0 [] rfl HE0.out w1.heap.size PA n pc (thCells ts vs) rfl (HRD2.out _ _) HONE.out (by unfold maxLen; omega) (by omega) (by simp <;> omega) ?_; intro v7 w7 hown7 hgr7 _; rw [List.nil_append, Nat.zero_add] at hown7; obtain ⟨gt, tc, rfl, hgt1, hgt2⟩ := hown7.form (by omega); (have hb7 : Blk w7 w1.heap.size 28 #[.int .i64 pv, .slice PA n pc] := (HGP.out.alloc _).grown hgr7 (by simp [Value.ownBlock])); (have q1 := hb7.cell 1); (have q2 := hb7.frozen 1); (have HB7 := Lib.hid hb7); (have HO7 := Lib.hid hown7); (have HG7 := Lib.hid hgr7); clear hown7 hgr7 hb7))
  refine wp_world (fun W => Hid (DiceOk W b ∧ w.grownBy W (some b) ∧ Blk W w.heap.size 28 #[.int .i64 0, .slice none 0 0] ∧ Blk W w1.heap.size 28 #[.int .i64 pv, .slice (some ⟨gt, 0, none⟩) n tc] ∧ W.ownsRow (w1.heap.size + 1) 45 2 (.slice (some ⟨gt, 0, none⟩) n tc) n (thCells ts vs) ∧ Below w1.heap.size w1 W)) (Lib.hid ?_) ?_
  · have hbw7 : Below w1.heap.size w1 w7 := ((((Below.refl w1.heap.size w1).alloc (Nat.le_refl _) (.cells #[.int .i64 pv, .slice PA n pc] 28)).alloc (by simp) (.cells #[] 45)).grown HG7.out (by simp <;> omega) (fun k hk => by simp [Value.ownBlock] at hk; omega))
    have hbw8 := hbw7.setCell (p := ⟨w1.heap.size, 1, none⟩) (Nat.le_refl _) (.slice (some ⟨gt, 0, none⟩) n tc)
    exact ⟨HB1.out.2.1.below hbw8 HB1.out.2.1.lt, grownBy_below HB1.out.2.2.1 hbw8, HB1.out.2.2.2.below hbw8 HB1.out.1, HB7.out.set_ 1 _, own_set (g := w1.heap.size) HO7.out (by omega), hbw8⟩
  intro W HW
  obtain ⟨LB, hLB⟩ : ∃ LB, w1.heap.size = LB := ⟨_, rfl⟩
  have HLNS : Hid (∀ k (h : k < ts.length) (h' : k < vs.length), ∃ LA c, vs[k] = .slice LA ts[k].ls.length c ∧ LnsAt W LB LA ts[k].ls) := Lib.hid (fun k h1 h2 => by
    obtain ⟨LA, c, e, hL⟩ := HLS.out k h1 h2
    rw [← hLB]
    exact ⟨LA, c, e, hL.below HW.out.2.2.2.2.2⟩)
  have hLBW : LB ≤ W.heap.size := by rw [← hLB]; exact HW.out.2.2.2.2.2.size
  have hgtW := (HW.out.2.2.2.2.1.lt gt rfl).2
  rw [hLB] at HW hz1w hgt1 ⊢
  have HWX : Hid (DiceOk W b ∧ w.grownBy W (some b) ∧ Blk W w.heap.size 28 #[.int .i64 0, .slice none 0 0] ∧ Blk W LB 28 #[.int .i64 pv, .slice (some ⟨gt, 0, none⟩) n tc] ∧ W.ownsRow (LB + 1) 45 2 (.slice (some ⟨gt, 0, none⟩) n tc) n (thCells ts vs)) := Lib.hid ⟨HW.out.1, HW.out.2.1, HW.out.2.2.1, HW.out.2.2.2.1, HW.out.2.2.2.2.1⟩
  have PK : Hid (Calls Tryz.prog 11 #[.pointer (some ⟨b, 0, none⟩), .int .i64 n] W (PickPost W b n)) := Lib.hid (ppick_any W b HW.out.1 n (by omega) (by omega))
  unfold PickPost at PK
  have p1 := HWX.out.2.2.2.1.cell 1
  clear HW HB1 HB7 HO7 HG7 HE0 HRD2 HGP HRD HLS q1 q2 hLB
  go_upto_region 4 with (go_at_call 11; go_must (refine (PK.out).mono ?_; rintro e W2 ⟨i, rfl, hi9, hd2, hg2⟩; (have HD2 := Lib.hid hd2); (have HG2 := Lib.hid hg2); clear hd2 hg2))
  have hin : i < n := by omega
  have hit : i < ts.length := by rw [HN.out]; exact hin
  have hiv : i < vs.length := by omega
  have hne : ∀ k, k ≠ b → some k ≠ some b := fun k hk e => by injection e with e; exact hk e
  have hz2w : W.heap.size ≤ W2.heap.size := HG2.out.size
  have HW2 : Hid (w.grownBy W2 (some b) ∧ Blk W2 w.heap.size 28 #[.int .i64 0, .slice none 0 0] ∧ Blk W2 LB 28 #[.int .i64 pv, .slice (some ⟨gt, 0, none⟩) n tc] ∧ W2.ownsRow (LB + 1) 45 2 (.slice (some ⟨gt, 0, none⟩) n tc) n (thCells ts vs)) := Lib.hid
    ⟨grownBy_trans HWX.out.2.1 HG2.out, HWX.out.2.2.1.grown HG2.out (hne _ (by omega)), HWX.out.2.2.2.1.grown HG2.out (hne _ (by omega)), HWX.out.2.2.2.2.kept HG2.out (.inr (hne gt (by omega)))⟩
  have HLN2 : Hid (∀ k (h : k < ts.length) (h' : k < vs.length), ∃ LA c, vs[k] = .slice LA ts[k].ls.length c ∧ LnsAt W2 LB LA ts[k].ls) := Lib.hid (fun k h1 h2 => by
    obtain ⟨LA, c, e, hL⟩ := HLNS.out k h1 h2
    exact ⟨LA, c, e, hL.pickB hLBW HWX.out.1 HG2.out⟩)
  obtain ⟨LA, lc0, ev, hLi⟩ := HLN2.out i hit hiv
  obtain ⟨tc0, tc1⟩ := thCells_get ts vs (by omega) i hit
  have t0 := (HW2.out.2.2.2.cellAt (i * 2) (by omega)).trans tc0
  have t1 := ((HW2.out.2.2.2.cellAt (i * 2 + 1) (by omega)).trans tc1).trans (by rw [ev])
  obtain ⟨nm, hnm⟩ : ∃ nm, (ts[i]'hit).nm = nm := ⟨_, rfl⟩
  obtain ⟨ls, hlsd⟩ : ∃ ls, (ts[i]'hit).ls = ls := ⟨_, rfl⟩
  obtain ⟨ln, hln⟩ : ∃ ln, ls.length = ln := ⟨_, rfl⟩
  rw [hnm] at t0
  have hnmE := Lib.hid hnm
  rw [hlsd, hln] at t1
  rw [hlsd] at hLi
  have hl6 : 1 ≤ ln ∧ ln ≤ 6 := by
    have h1 := valid_l6 HOK.out.check (ts[i]'hit) (List.getElem_mem hit)
    have h2 := (check_th HOK.out.check (t := ts[i]'hit) (List.getElem_mem hit)).1
    rw [hlsd, hln] at h1 h2
    omega
  have p1' := HW2.out.2.2.1.cell 1
  have i0' : (0 : Int) ≤ (i : Int) := by omega
  have i1' : (i : Int) < (n : Int) := by omega
  have HLI := Lib.hid hLi
  have HLN := Lib.hid hln
  have hLB2 : LB < W2.heap.size := HW2.out.2.2.1.lt
  obtain ⟨j0, hi', hz0', hz1', hz2'⟩ := info_parts infoLine
  have HX : Hid (Blk (W2.alloc (.cells #[.string nm, .slice LA ln lc0] 45)) W2.heap.size 45 #[.string nm, .slice LA ln lc0]) := Lib.hid (Blk.new W2 _ _)
  have x1 := HX.out.cell 1
  have HE0 : Hid (((W2.alloc (.cells #[.string nm, .slice LA ln lc0] 45)).alloc (.cells #[] 42)).ownsRow (LB + 1) 42 3 (.slice (some ⟨W2.heap.size + 1, 0, none⟩) 0 0) 0 []) := Lib.hid (by
    have := World.ownsRow_lit (base := LB + 1) (e := 42) (size := 3) (W2.alloc (.cells #[.string nm, .slice LA ln lc0] 45)) #[] 0 (by simp; omega) (by unfold maxLen; omega) (by simp)
    rw [World.size_alloc] at this
    exact this)
  have HRD2 : Hid (∀ o1 o2, Reads ((W2.alloc o1).alloc o2) LB 3 LA ln (lnCells ls)) := Lib.hid (fun o1 o2 => by
    have := HLI.out
    unfold LnsAt at this
    rw [HLN.out] at this
    exact Reads.alloc (Reads.alloc this (by omega) o1) (by simp; omega) o2)
  have HONE2 : Hid (∀ u ∈ lnCells ls, u.oneCell' = true) := Lib.hid (lnCells_one ls)
  clear tc0 tc1 ev hLi hnm hlsd hln p1 HONE hi hz0 hz1 hz2 i0
  go_upto_region 6 with (at_builtin; go_must (refine wpList_append_any _ rfl _ _ 43 rfl (LB + 1) 42 j0 _ 3 24 Tryz.underlying43 hi' hz0' hz1' hz2' rfl (by decide) (.slice (some ⟨W2.heap.size + 1, 0, none⟩) 0 0) 0 [] rfl HE0.out LB LA ln lc0 (lnCells ls) rfl (HRD2.out _ _) HONE2.out (by unfold maxLen; omega) (by omega) (by simp <;> omega) ?_; intro v7 w7 hown7 hgr7 _; rw [List.nil_append, Nat.zero_add] at hown7; obtain ⟨gl, lc, rfl, hgl1, hgl2⟩ := hown7.form (by omega); (have hb7 : Blk w7 W2.heap.size 45 #[.string nm, .slice LA ln lc0] := (HX.out.alloc _).grown hgr7 (by simp [Value.ownBlock])); (have q1 := hb7.cell 1); (have q2 := hb7.frozen 1); (have HB7 := Lib.hid hb7); (have HO7 := Lib.hid hown7); (have HG7 := Lib.hid hgr7); clear hown7 hgr7 hb7))
  refine wp_world (fun W5 => Hid (OdI w W5 b LB LB W2.heap.size gt gl pv n tc ts vs nm ls ln lc)) (Lib.hid ?_) ?_
  · have hbw7 : Below W2.heap.size W2 w7 := ((((Below.refl W2.heap.size W2).alloc (Nat.le_refl _) (.cells #[.string nm, .slice LA ln lc0] 45)).alloc (by simp) (.cells #[] 42)).grown HG7.out (by simp <;> omega) (fun k hk => by simp [Value.ownBlock] at hk; omega))
    have hbw8 := hbw7.setCell (p := ⟨W2.heap.size, 1, none⟩) (Nat.le_refl _) (.slice (some ⟨gl, 0, none⟩) ln lc)
    refine ⟨HD2.out.below hbw8 HD2.out.lt, grownBy_below HW2.out.1 hbw8, HW2.out.2.1.below hbw8 HW2.out.2.1.lt, HW2.out.2.2.1.below hbw8 HW2.out.2.2.1.lt, HB7.out.set_ 1 _, own_kept_below HW2.out.2.2.2 hbw8, own_kept_set HO7.out (own_blk_ne HO7.out HB7.out (by decide)), fun k h1 h2 => ?_, HN.out, hvn, HLN.out, by omega⟩
    obtain ⟨LA', c', e', hL'⟩ := HLN2.out k h1 h2
    exact ⟨LA', c', e', hL'.below (hbw8.mono (by omega))⟩
  intro W5 HI5
  obtain ⟨gx, hgx⟩ : ∃ gx, W2.heap.size = gx := ⟨_, rfl⟩
  rw [hgx] at HI5 ⊢
  have HNM12 : Hid (nm.size ≤ 20) := Lib.hid (by
    have := named_len ((valid_of HOK.out.check).nms _ (List.getElem_mem hit))
    rw [hnmE.out] at this
    rw [← size_data]; omega)
  have HTB : Hid (∀ t ∈ ts, t.ls.length ≤ 6 ∧ t.nm.size ≤ 20) := Lib.hid (fun t ht => by
    have h1 := valid_l6 HOK.out.check t ht
    have h2 := named_len ((valid_of HOK.out.check).nms t ht)
    rw [size_data] at h2
    exact ⟨h1, by omega⟩)
  have hln0 : 0 < ls.length := by rw [HLN.out]; omega
  have HLL := Lib.hid hln0
  have HOD := Lib.hid (fun (W : World) (r : Nat) (nn : Int) (h : DiceOk W b) (h1 : 1 ≤ nn) (h2 : nn ≤ 100000) => ppick_any W b h nn h1 h2)
  have P6 : Hid (Calls Tryz.prog 11 #[.pointer (some ⟨b, 0, none⟩), .int .i64 6] W5 (PickPost W5 b 6)) := Lib.hid (ppick_any W5 b HI5.out.di 6 (by omega) (by omega))
  unfold PickPost at P6
  clear hln0 HW2 HLN2 HLI HX HE0 HRD2 HONE2 HB7 HO7 HG7 HLNS HWX HD2 HG2 PK x1 t0 t1 p1' q1 q2
  go_upto_if 30 with (go_at_call 11; go_must (refine (P6.out).mono ?_; rintro e W6 ⟨r, rfl, hr6, hd6, hg6⟩; (obtain ⟨ri, hri⟩ : ∃ ri : Int, ri = (r : Int) := ⟨_, rfl⟩); (rw [← hri]); (have HRI : Hid (ri = 0 ∨ ri = 1 ∨ ri = 2 ∨ ri = 3 ∨ ri = 4 ∨ ri = 5) := Lib.hid (by omega)); clear hri; (have HI6 := Lib.hid (HI5.out.pick hd6 hg6)); clear hd6 hg6))
  have hr := HRI.out
  have hlt := HI6.out.lt
  have hgx9 := HI6.out.tb.lt
  have hgl9 := (HI6.out.lno.lt gl rfl)
  rcases hr with rfl | rfl | rfl | rfl | rfl | rfl
  · have HIA : Hid (∀ o, OdI w (W6.alloc o) b LB LB gx gt gl pv n tc ts vs nm ls ln lc) := Lib.hid (fun o => HI6.out.below ((Below.refl _ _).alloc (Nat.le_refl _) o))
    have PA3 : Hid (∀ o, Calls Tryz.prog 11 #[.pointer (some ⟨b, 0, none⟩), .int .i64 3] (W6.alloc o) (PickPost (W6.alloc o) b 3)) := Lib.hid (fun o => ppick_any _ b (HIA.out o).di 3 (by omega) (by omega))
    unfold PickPost at PA3
    have hne : ∀ k, k ≠ b → some k ≠ some b := fun k hk e => by injection e with e; exact hk e
    have HARR : Hid (Blk (W6.alloc (.cells #[.int .i64 0, .int .i64 9, .int .i64 (-1)] 3)) W6.heap.size 3 #[.int .i64 0, .int .i64 9, .int .i64 (-1)]) := Lib.hid (Blk.new _ _ _)
    go_upto_region 17 with (go_at_call 11; go_must (refine (PA3.out _).mono ?_; rintro e W8 ⟨r2, rfl, hr3, hd8, hg8⟩; (have HI8 := Lib.hid ((HIA.out _).pick hd8 hg8)); (have hb8 := HARR.out.grown hg8 (hne _ (by omega))); (have z0 := hb8.cell 0); (have z1 := hb8.cell 1); (have z2 := hb8.cell 2); (have k0 := HI8.out.pb.cell 0); (have k1 := HI8.out.pb.frozen 0); (obtain ⟨ri2, hri2⟩ : ∃ ri : Int, ri = (r2 : Int) := ⟨_, rfl⟩); (rw [← hri2]); (have hr2 : ri2 = 0 ∨ ri2 = 1 ∨ ri2 = 2 := by omega); clear hd8 hg8 hb8 hri2; rcases hr2 with rfl | rfl | rfl))
    all_goals
      refine wp_world (fun wx => Hid (∃ v' nm' ls', nm'.size ≤ 20 ∧ OdI w wx b LB LB gx gt gl v' n tc ts vs nm' ls' ln lc)) (Lib.hid ⟨_, _, _, HNM12.out, HI8.out.setv _⟩) ?_
      intro W7 hcut
      obtain ⟨v', nm', ls', hnm20, hI⟩ := hcut.out
      have HI7 := Lib.hid hI
      have p0 := hI.pb.cell 0
      have p1 := hI.pb.cell 1
      have x0 := hI.tb.cell 0
      have x1 := hI.tb.cell 1
      obtain ⟨tc0, tc1⟩ := thCells_get ts vs (by omega) i hit
      have t0 := (hI.tho.cellAt (i * 2) (by omega)).trans tc0
      have t1 := ((hI.tho.cellAt (i * 2 + 1) (by omega)).trans tc1)
      have g0 := hI.tho.frozenAt (i * 2)
      have g1 := hI.tho.frozenAt (i * 2 + 1)
      have r0 := hI.res.cell 0
      have r1 := hI.res.cell 1
      have f0 := hI.res.frozen 0
      have f1 := hI.res.frozen 1
      have hlt := hI.lt
      have hgt9 := hI.tho.lt gt rfl
      have hneg : gt ≠ LB := by omega
      have hneg2 : gt ≠ w.heap.size := by omega
      clear hcut hI tc0 tc1
      go_wp2_with fail
      have hd := fun Wf hw => HI7.out.done (Wf := Wf) hin hnm20 HTB.out hn2 hl6.2 hw
      refine bodyPost_ret (results_cell_row (p := 2) (ty := 28) rfl _ _ w.heap.size 28 _ (0, 0) _ rfl (hd _ rfl).1 Tryz.underlying28 rfl (by kernel_rfl)) rfl ?_
      exact (hd _ rfl).2
  · have HIA : Hid (∀ o, OdI w (W6.alloc o) b LB LB gx gt gl pv n tc ts vs nm ls ln lc) := Lib.hid (fun o => HI6.out.below ((Below.refl _ _).alloc (Nat.le_refl _) o))
    have PA3 : Hid (∀ o, Calls Tryz.prog 11 #[.pointer (some ⟨b, 0, none⟩), .int .i64 5] (W6.alloc o) (PickPost (W6.alloc o) b 5)) := Lib.hid (fun o => ppick_any _ b (HIA.out o).di 5 (by omega) (by omega))
    unfold PickPost at PA3
    have hne : ∀ k, k ≠ b → some k ≠ some b := fun k hk e => by injection e with e; exact hk e
    have HARR : Hid (∀ cs, Blk (W6.alloc (.cells cs 9)) W6.heap.size 9 cs) := Lib.hid (fun cs => Blk.new _ _ _)
    go_upto_region 17 with (go_at_call 11; go_must (refine (PA3.out _).mono ?_; rintro e W8 ⟨r2, rfl, hr3, hd8, hg8⟩; (have HI8 := Lib.hid ((HIA.out _).pick hd8 hg8)); (have hb8 := (HARR.out _).grown hg8 (hne _ (by omega))); (have z0 := hb8.cell 0); (have z1 := hb8.cell 1); (have z2 := hb8.cell 2); (have z3 := hb8.cell 3); (have z4 := hb8.cell 4); (have k0 := HI8.out.tb.cell 0); (have k1 := HI8.out.tb.frozen 0); (obtain ⟨ri2, hri2⟩ : ∃ ri : Int, ri = (r2 : Int) := ⟨_, rfl⟩); (rw [← hri2]); (have hr2 : ri2 = 0 ∨ ri2 = 1 ∨ ri2 = 2 ∨ ri2 = 3 ∨ ri2 = 4 := by omega); clear hd8 hg8 hb8 hri2; rcases hr2 with rfl | rfl | rfl | rfl | rfl))
    all_goals
      refine wp_world (fun wx => Hid (∃ v' nm' ls', nm'.size ≤ 20 ∧ OdI w wx b LB LB gx gt gl v' n tc ts vs nm' ls' ln lc)) (Lib.hid ⟨_, _, _, by decide, HI8.out.setn _⟩) ?_
      intro W7 hcut
      obtain ⟨v', nm', ls', hnm20, hI⟩ := hcut.out
      have HI7 := Lib.hid hI
      have p0 := hI.pb.cell 0
      have p1 := hI.pb.cell 1
      have x0 := hI.tb.cell 0
      have x1 := hI.tb.cell 1
      obtain ⟨tc0, tc1⟩ := thCells_get ts vs (by omega) i hit
      have t0 := (hI.tho.cellAt (i * 2) (by omega)).trans tc0
      have t1 := ((hI.tho.cellAt (i * 2 + 1) (by omega)).trans tc1)
      have g0 := hI.tho.frozenAt (i * 2)
      have g1 := hI.tho.frozenAt (i * 2 + 1)
      have r0 := hI.res.cell 0
      have r1 := hI.res.cell 1
      have f0 := hI.res.frozen 0
      have f1 := hI.res.frozen 1
      have hlt := hI.lt
      have hgt9 := hI.tho.lt gt rfl
      have hneg : gt ≠ LB := by omega
      have hneg2 : gt ≠ w.heap.size := by omega
      clear hcut hI tc0 tc1
      go_wp2_with fail
      have hd := fun Wf hw => HI7.out.done (Wf := Wf) hin hnm20 HTB.out hn2 hl6.2 hw
      refine bodyPost_ret (results_cell_row (p := 2) (ty := 28) rfl _ _ w.heap.size 28 _ (0, 0) _ rfl (hd _ rfl).1 Tryz.underlying28 rfl (by kernel_rfl)) rfl ?_
      exact (hd _ rfl).2
  · have x1 := HI6.out.tb.cell 1
    have l0 : (0 : Int) < (ln : Int) := by omega
    have l00 : 0 < ln := by omega
    have P10 : Hid (Calls Tryz.prog 11 #[.pointer (some ⟨b, 0, none⟩), .int .i64 10] W6.drew (PickPost W6.drew b 10)) := Lib.hid (ppick_any W6.drew b (HI6.out.di.drewN 1) 10 (by omega) (by omega))
    unfold PickPost at P10
    obtain ⟨y0, hy0⟩ : ∃ y0, (lnCells ls)[0]? = some (.int .i64 y0) := ⟨_, by simpa using (lnCells_get ls 0 HLL.out).1⟩
    go_wp2_with fail
    go_region_law (go_simp; go_at_call 11; refine (P10.out).mono ?_; rintro e W8 ⟨r2, rfl, hr3, hd8, hg8⟩; (have HI8 := Lib.hid ((HI6.out.below (below_drewN (Below.refl _ _) 1)).pick hd8 hg8)); (have x2 := HI8.out.tb.cell 1); (have k0 := (HI8.out.lno.cellAt 0 (by omega)).trans hy0); (have k1 := HI8.out.lno.frozenAt 0); (have HREL : Hid (∃ v' nm' ls', nm'.size ≤ 20 ∧ OdI w (W8.setCell ⟨gl, 0, none⟩ (.int .i64 (r2 : Int))) b LB LB gx gt gl v' n tc ts vs nm' ls' ln lc) := Lib.hid (let ⟨ls', e1, e2⟩ := lnSet0 HLL.out (r2 : Int); ⟨_, _, _, HNM12.out, HI8.out.setl e1 e2⟩)); clear hd8 hg8)
    all_goals
      go_simp
      go_upto_region 17 with fail
      refine wp_world (fun wx => Hid (∃ v' nm' ls', nm'.size ≤ 20 ∧ OdI w wx b LB LB gx gt gl v' n tc ts vs nm' ls' ln lc)) (HREL) ?_
      intro W7 hcut
      obtain ⟨v', nm', ls', hnm20, hI⟩ := hcut.out
      have HI7 := Lib.hid hI
      have p0 := hI.pb.cell 0
      have p1 := hI.pb.cell 1
      have x0 := hI.tb.cell 0
      have x1 := hI.tb.cell 1
      obtain ⟨tc0, tc1⟩ := thCells_get ts vs (by omega) i hit
      have t0 := (hI.tho.cellAt (i * 2) (by omega)).trans tc0
      have t1 := ((hI.tho.cellAt (i * 2 + 1) (by omega)).trans tc1)
      have g0 := hI.tho.frozenAt (i * 2)
      have g1 := hI.tho.frozenAt (i * 2 + 1)
      have r0 := hI.res.cell 0
      have r1 := hI.res.cell 1
      have f0 := hI.res.frozen 0
      have f1 := hI.res.frozen 1
      have hlt := hI.lt
      have hgt9 := hI.tho.lt gt rfl
      have hneg : gt ≠ LB := by omega
      have hneg2 : gt ≠ w.heap.size := by omega
      clear hcut hI tc0 tc1
      go_wp2_with fail
      have hd := fun Wf hw => HI7.out.done (Wf := Wf) hin hnm20 HTB.out hn2 hl6.2 hw
      refine bodyPost_ret (results_cell_row (p := 2) (ty := 28) rfl _ _ w.heap.size 28 _ (0, 0) _ rfl (hd _ rfl).1 Tryz.underlying28 rfl (by kernel_rfl)) rfl ?_
      exact (hd _ rfl).2
  · have x1 := HI6.out.tb.cell 1
    have l0 : (0 : Int) < (ln : Int) := by omega
    have l00 : 0 < ln := by omega
    have P10 : Hid (Calls Tryz.prog 11 #[.pointer (some ⟨b, 0, none⟩), .int .i64 6] W6.drew (PickPost W6.drew b 6)) := Lib.hid (ppick_any W6.drew b (HI6.out.di.drewN 1) 6 (by omega) (by omega))
    unfold PickPost at P10
    obtain ⟨y0, hy0⟩ : ∃ y0, (lnCells ls)[1]? = some (.int .i64 y0) := ⟨_, by simpa using (lnCells_get ls 0 HLL.out).2.1⟩
    go_wp2_with fail
    go_region_law (go_simp; go_at_call 11; refine (P10.out).mono ?_; rintro e W8 ⟨r2, rfl, hr3, hd8, hg8⟩; (have HI8 := Lib.hid ((HI6.out.below (below_drewN (Below.refl _ _) 1)).pick hd8 hg8)); (have x2 := HI8.out.tb.cell 1); (have k0 := (HI8.out.lno.cellAt 1 (by omega)).trans hy0); (have k1 := HI8.out.lno.frozenAt 1); (have HREL : Hid (∀ x : Int, ∃ v' nm' ls', nm'.size ≤ 20 ∧ OdI w (W8.setCell ⟨gl, 1, none⟩ (.int .i64 x)) b LB LB gx gt gl v' n tc ts vs nm' ls' ln lc) := Lib.hid (fun x => let ⟨ls', e1, e2⟩ := lnSet1 HLL.out x; ⟨_, _, _, HNM12.out, HI8.out.setl e1 e2⟩)); clear hd8 hg8)
    all_goals
      go_simp
      go_upto_region 17 with fail
      refine wp_world (fun wx => Hid (∃ v' nm' ls', nm'.size ≤ 20 ∧ OdI w wx b LB LB gx gt gl v' n tc ts vs nm' ls' ln lc)) (Lib.hid (HREL.out _)) ?_
      intro W7 hcut
      obtain ⟨v', nm', ls', hnm20, hI⟩ := hcut.out
      have HI7 := Lib.hid hI
      have p0 := hI.pb.cell 0
      have p1 := hI.pb.cell 1
      have x0 := hI.tb.cell 0
      have x1 := hI.tb.cell 1
      obtain ⟨tc0, tc1⟩ := thCells_get ts vs (by omega) i hit
      have t0 := (hI.tho.cellAt (i * 2) (by omega)).trans tc0
      have t1 := ((hI.tho.cellAt (i * 2 + 1) (by omega)).trans tc1)
      have g0 := hI.tho.frozenAt (i * 2)
      have g1 := hI.tho.frozenAt (i * 2 + 1)
      have r0 := hI.res.cell 0
      have r1 := hI.res.cell 1
      have f0 := hI.res.frozen 0
      have f1 := hI.res.frozen 1
      have hlt := hI.lt
      have hgt9 := hI.tho.lt gt rfl
      have hneg : gt ≠ LB := by omega
      have hneg2 : gt ≠ w.heap.size := by omega
      clear hcut hI tc0 tc1
      go_wp2_with fail
      have hd := fun Wf hw => HI7.out.done (Wf := Wf) hin hnm20 HTB.out hn2 hl6.2 hw
      refine bodyPost_ret (results_cell_row (p := 2) (ty := 28) rfl _ _ w.heap.size 28 _ (0, 0) _ rfl (hd _ rfl).1 Tryz.underlying28 rfl (by kernel_rfl)) rfl ?_
      exact (hd _ rfl).2
  · have c2 := (HI6.out.lno.cellAt 2 (by omega))
    obtain ⟨nv, hnv⟩ : ∃ nv, (lnCells ls)[2]? = some (.int .i64 nv) := by
      have := (lnCells_get ls 0 HLL.out).2.2
      exact ⟨_, by simpa using this⟩
    rw [hnv] at c2
    have f2 := HI6.out.lno.frozenAt 2
    have x1 := HI6.out.tb.cell 1
    have l0 : (0 : Int) < (ln : Int) := by omega
    have HREL : Hid (∀ x : Int, ∃ v' nm' ls', nm'.size ≤ 20 ∧ OdI w (W6.setCell ⟨gl, 2, none⟩ (.int .i64 x)) b LB LB gx gt gl v' n tc ts vs nm' ls' ln lc) := Lib.hid (fun x => let ⟨ls', e1, e2⟩ := lnSet2 HLL.out x; ⟨_, _, _, HNM12.out, HI6.out.setl e1 e2⟩)
    clear hnv
    go_upto_region 17 with fail
    refine wp_world (fun wx => Hid (∃ v' nm' ls', nm'.size ≤ 20 ∧ OdI w wx b LB LB gx gt gl v' n tc ts vs nm' ls' ln lc)) (Lib.hid (HREL.out _)) ?_
    intro W7 hcut
    obtain ⟨v', nm', ls', hnm20, hI⟩ := hcut.out
    have HI7 := Lib.hid hI
    have p0 := hI.pb.cell 0
    have p1 := hI.pb.cell 1
    have x0 := hI.tb.cell 0
    have x1 := hI.tb.cell 1
    obtain ⟨tc0, tc1⟩ := thCells_get ts vs (by omega) i hit
    have t0 := (hI.tho.cellAt (i * 2) (by omega)).trans tc0
    have t1 := ((hI.tho.cellAt (i * 2 + 1) (by omega)).trans tc1)
    have g0 := hI.tho.frozenAt (i * 2)
    have g1 := hI.tho.frozenAt (i * 2 + 1)
    have r0 := hI.res.cell 0
    have r1 := hI.res.cell 1
    have f0 := hI.res.frozen 0
    have f1 := hI.res.frozen 1
    have hlt := hI.lt
    have hgt9 := hI.tho.lt gt rfl
    have hneg : gt ≠ LB := by omega
    have hneg2 : gt ≠ w.heap.size := by omega
    clear hcut hI tc0 tc1
    go_wp2_with fail
    have hd := fun Wf hw => HI7.out.done (Wf := Wf) hin hnm20 HTB.out hn2 hl6.2 hw
    refine bodyPost_ret (results_cell_row (p := 2) (ty := 28) rfl _ _ w.heap.size 28 _ (0, 0) _ rfl (hd _ rfl).1 Tryz.underlying28 rfl (by kernel_rfl)) rfl ?_
    exact (hd _ rfl).2
  · go_upto_region 17 with fail
    refine wp_world (fun wx => Hid (∃ v' nm' ls', nm'.size ≤ 20 ∧ OdI w wx b LB LB gx gt gl v' n tc ts vs nm' ls' ln lc)) (Lib.hid ⟨_, _, _, HNM12.out, HI6.out⟩) ?_
    intro W7 hcut
    obtain ⟨v', nm', ls', hnm20, hI⟩ := hcut.out
    have HI7 := Lib.hid hI
    have p0 := hI.pb.cell 0
    have p1 := hI.pb.cell 1
    have x0 := hI.tb.cell 0
    have x1 := hI.tb.cell 1
    obtain ⟨tc0, tc1⟩ := thCells_get ts vs (by omega) i hit
    have t0 := (hI.tho.cellAt (i * 2) (by omega)).trans tc0
    have t1 := ((hI.tho.cellAt (i * 2 + 1) (by omega)).trans tc1)
    have g0 := hI.tho.frozenAt (i * 2)
    have g1 := hI.tho.frozenAt (i * 2 + 1)
    have r0 := hI.res.cell 0
    have r1 := hI.res.cell 1
    have f0 := hI.res.frozen 0
    have f1 := hI.res.frozen 1
    have hlt := hI.lt
    have hgt9 := hI.tho.lt gt rfl
    have hneg : gt ≠ LB := by omega
    have hneg2 : gt ≠ w.heap.size := by omega
    clear hcut hI tc0 tc1
    go_wp2_with fail
    have hd := fun Wf hw => HI7.out.done (Wf := Wf) hin hnm20 HTB.out hn2 hl6.2 hw
    refine bodyPost_ret (results_cell_row (p := 2) (ty := 28) rfl _ _ w.heap.size 28 _ (0, 0) _ rfl (hd _ rfl).1 Tryz.underlying28 rfl (by kernel_rfl)) rfl ?_
    exact (hd _ rfl).2

end Go.Proofs.YtpkefohcccpncaaGreatDoor
