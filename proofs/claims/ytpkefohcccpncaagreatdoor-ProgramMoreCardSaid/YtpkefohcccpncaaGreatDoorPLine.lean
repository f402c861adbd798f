/- The reader's step at a line of a thread. -/
import Derived.Test.YtpkefohcccpncaaGreatDoorPPut
import Derived.Test.YtpkefohcccpncaaGreatDoorBytes
import Derived.Deep.DeepCutAuto
import Derived.Deep.CutBlock
import Derived.Deep.RegionLaw
namespace Go.Proofs.YtpkefohcccpncaaGreatDoor
open Go.RowKit
set_option linter.unusedSimpArgs false
set_option linter.unusedVariables false

theorem own_far {w : World} {B e size n : Nat} {v u : Value} {xs : List Value} {p : Addr} {t : TypeId} {cs : Array Value} (hown : w.ownsRow B e size v n xs) (hb : Blk w p.block t cs) (hne : e ≠ t) : (w.setCell p u).ownsRow B e size v n xs :=
  hown.kept (row := some p.block) (grownBy_setCell (World.grownBy.refl _ _) (.inl rfl) _) (.inr (own_blk_ne hown hb hne))
theorem PsI.far {w : World} {B g : Nat} {st : PS} {tv nv : Value} {vs : List Value} {lim : Nat} (h : PsI w B g st tv nv vs lim) {p : Addr} {t : TypeId} {cs : Array Value} (hb : Blk w p.block t cs) (h1 : 9 ≠ t) (h2 : 45 ≠ t) (h3 : 88 ≠ t) (u : Value)
    (h5 : ∀ k (h : k < vs.length) g', vs[k].ownBlock = some g' → g' ≠ p.block) : PsI (w.setCell p u) B g st tv nv vs lim := by
  have hs : (w.setCell p u).heap.size = w.heap.size := by simp [World.setCell]
  refine ⟨h.blk.far (h.blk.ne_ hb h3) u, h.gB, by rw [hs]; exact h.Bw, own_far h.nm hb h1, h.vl, own_far h.th hb h2, fun k h6 h7 => ?_, by rw [hs]; exact h.limw, h.pre, h.last, h.dis⟩
  exact (h.ln k h6 h7).kept (row := some p.block) (grownBy_setCell (World.grownBy.refl _ _) (.inl rfl) _) (.inr (fun e => h5 k h6 _ e rfl))
theorem infoLine : (Tryz.prog.info? 42).map (fun i => (i.zero, i.size, i.bytes)) = some (some (.agg #[.int .i64 0, .int .i64 0, .int .i64 0]), 3, 24) := by kernel_rfl
def LinePost (w : World) (B g : Nat) (r : Option PS) (e : Ending) (w' : World) : Prop :=
  e = .returned (.bool r.isSome) ∧ FrB B g w w' ∧ ∀ st', r = some st' → ∃ tv nv vs lim, PsI w' B g st' tv nv vs lim
/-- bounds of what the reader holds -/
structure PsB (st : PS) (N : Nat) : Prop where
  ts : st.ts.length ≤ N
  ns : st.ns.length ≤ N
  ls : ∀ t ∈ st.ts, t.ls.length ≤ N
set_option maxRecDepth 100000 in
set_option maxHeartbeats 4000000 in
theorem line_any (B g : Nat) (st : PS) (tv nv : Value) (vs : List Value) (lim : Nat) (at_ : Nat) (key rest : ByteArray) (more : Bool) (w : World) (hat : at_ ≤ 5000) (hks : key.size ≤ 5000) (hrs : rest.size ≤ 5000) (hg : GlobP w) (h : PsI w B g st tv nv vs lim) (hB : PsB st 5000) (hne : st.ts ≠ [])
    (r : Option PS) (hr : rdLine st at_ key.data.toList rest.data.toList more = r) :
    Calls Tryz.prog 74 #[.pointer (some ⟨g, 0, none⟩), .int .i64 at_, .string key, .string rest, .bool more] w (LinePost w B g r) := by
  have H := Lib.hid h
  have HG := Lib.hid hg
  have HR := Lib.hid hr
  have HNE := Lib.hid hne
  have HB := Lib.hid hB
  have IX : Hid (∀ o, o = Obj.cells #[.string key] 9 → Calls Tryz.prog 90 #[.slice (some ⟨0, 0, none⟩) 8 8, .func (.func 91) #[] #[.pointer (some ⟨w.heap.size, 0, none⟩)]] (w.alloc o) fun e w' => e = .returned (.int .i64 (kindR key.data.toList)) ∧ Below (w.alloc o).heap.size (w.alloc o) w') := Lib.hid (fun o ho => by
    subst ho
    exact idxWord_any key w.heap.size _ (hg.below ((Below.refl _ _).alloc (Nat.le_refl _) _)) (by rw [cell_of_row _ _ _ _ _ _ (heap_alloc_new w _)]; rfl) (by simp))
  clear h hg hr hne hB
  by_cases hk : kindOf key.data.toList = 0
  · have HF : Hid (r = none) := Lib.hid (by rw [← HR.out]; unfold rdLine; rw [if_pos hk])
    have hkr : kindR key.data.toList = -1 := by unfold kindR; rw [if_pos hk]
    rw [hkr] at IX
    clear hk hkr
    go_enter Tryz.func74, Tryz.ntmps74
    go_wp2_with (go_at_call 90; go_must (refine (IX.out _ rfl).mono ?_; rintro e w1 ⟨rfl, hb1⟩))
    go_ret
    exact ⟨ret_bool (by rw [HF.out]; rfl), ((FrB.refl B g w).alloc H.out.Bw _).trans (FrB.of_below hb1 (by have := H.out.Bw; simp; omega)), fun st' e => by rw [HF.out] at e; cases e⟩
  · obtain ⟨hkk, k1, k7⟩ := kindOf_eq hk
    have hkr : kindR key.data.toList = (kindOf key.data.toList : Int) := by unfold kindR; rw [if_neg hk]
    rw [hkr] at IX
    generalize hkd : kindOf key.data.toList = kk at *
    have HKD := Lib.hid hkd
    clear hk hkr hkk hkd
    go_enter Tryz.func74, Tryz.ntmps74
    go_upto_block 0 with (go_at_call 90; go_must (refine (IX.out _ rfl).mono ?_; rintro e w1 ⟨rfl, hb1⟩; have hz1 := hb1.size; have hq : w1.cell? ⟨0, kk * 2 + 1, none⟩ = some (.int .i64 (argOf kk)) := ((HG.out.below (((Below.refl _ _).alloc (Nat.le_refl _) _).trans (hb1.mono (by simp)))).wd kk (by omega)).2; have hl := (HG.out.below (((Below.refl _ _).alloc (Nat.le_refl _) _).trans (hb1.mono (by simp)))).lt.2.2.1))
    have HB1 : Hid (Below w.heap.size w w1) := Lib.hid (((Below.refl _ _).alloc (Nat.le_refl _) _).trans (hb1.mono (by simp)))
    have hz2 : w.heap.size < w1.heap.size := by simp at hz1; omega
    clear hb1 IX hz1
    go_cut [13] from 17 to 46 (fun s13 wx => ∃ (nm : ByteArray) (a : Int), s13 = .string nm ∧ Hid (r = some { st with ts := putLn st.ts ⟨(kk : Int), a, (at_ : Int)⟩, ns := st.ns ++ [nm.data.toList] } ∧ PsI wx B g st tv nv vs lim ∧ FrB B g w wx ∧ Blk wx w1.heap.size 42 #[.int .i64 kk, .int .i64 a, .int .i64 at_] ∧ GlobP wx))
    case first =>
      have hBw := H.out.Bw
      have HGA : Hid (∀ o, GlobP (w1.alloc o)) := Lib.hid (fun o => HG.out.below (HB1.out.alloc (by omega) o))
      have HFA : Hid (∀ o, FrB B g w (w1.alloc o)) := Lib.hid (fun o => (FrB.of_below HB1.out hBw).alloc (by omega) o)
      have HPA : Hid (∀ o, PsI (w1.alloc o) B g st tv nv vs lim) := Lib.hid (fun o => (H.out.below HB1.out).alloc o)
      by_cases a0 : argOf kk = 0
      · have e0 : ((argOf kk : Int) == 0) = true := by simp [a0]
        cases more
        · have HF : Hid (r = some { st with ts := putLn st.ts ⟨(kk : Int), 0, (at_ : Int)⟩, ns := st.ns ++ [[]] }) := Lib.hid (by
            rw [← HR.out]; unfold rdLine; rw [HKD.out, if_neg (by omega), if_pos a0, if_neg (by decide)])
          clear a0
          go_wp2_with fail
          go_meet
          exact ⟨⟨#[]⟩, 0, rfl, Lib.hid ⟨HF.out, HPA.out _, HFA.out _, Blk.new _ _ _, HGA.out _⟩⟩
        · have HF : Hid (r = none) := Lib.hid (by
            rw [← HR.out]; unfold rdLine; rw [HKD.out, if_neg (by omega), if_pos a0, if_pos rfl])
          clear a0
          go_wp2_with fail
          go_ret
          exact ⟨ret_bool (by rw [HF.out]; rfl), HFA.out _, fun st' e => by rw [HF.out] at e; cases e⟩
      by_cases a3 : argOf kk = 3
      · have e0 : ((argOf kk : Int) == 0) = false := by simp; omega
        have e3 : ((argOf kk : Int) == 3) = true := by simp [a3]
        obtain ⟨b, hb⟩ : ∃ b, namedL rest.data.toList = b := ⟨_, rfl⟩
        have NM : Hid (∀ o, Calls Tryz.prog 44 #[.string rest] (w1.alloc o) fun e w' => e = .returned (.bool b) ∧ w1.alloc o = w') := Lib.hid (fun o => named_any rest _ (by omega) (HGA.out o) b hb)
        cases b
        · have HF : Hid (r = none) := Lib.hid (by
            rw [← HR.out]; unfold rdLine; rw [HKD.out, if_neg (by omega), if_neg a0, if_pos a3, if_neg (by rw [hb]; decide)])
          clear a0 a3 hb
          go_wp2_with (go_at_call 44; go_must (refine (NM.out _).mono ?_; rintro e w' ⟨rfl, rfl⟩))
          go_ret
          exact ⟨ret_bool (by rw [HF.out]; rfl), HFA.out _, fun st' e => by rw [HF.out] at e; cases e⟩
        · have HF : Hid (r = some { st with ts := putLn st.ts ⟨(kk : Int), 0, (at_ : Int)⟩, ns := st.ns ++ [rest.data.toList] }) := Lib.hid (by
            rw [← HR.out]; unfold rdLine; rw [HKD.out, if_neg (by omega), if_neg a0, if_pos a3, if_pos hb])
          clear a0 a3 hb
          go_wp2_with (go_at_call 44; go_must (refine (NM.out _).mono ?_; rintro e w' ⟨rfl, rfl⟩))
          go_meet
          exact ⟨rest, 0, rfl, Lib.hid ⟨HF.out, HPA.out _, HFA.out _, Blk.new _ _ _, HGA.out _⟩⟩
      · have e0 : ((argOf kk : Int) == 0) = false := by simp; omega
        have e3 : ((argOf kk : Int) == 3) = false := by simp; omega
        obtain ⟨b, hb⟩ : ∃ b, numL rest.data.toList = b := ⟨_, rfl⟩
        have NM : Hid (∀ o, Calls Tryz.prog 89 #[.string rest] (w1.alloc o) (NumPost (w1.alloc o) rest.data.toList b)) := Lib.hid (fun o => numberP_any rest _ (by omega) (HGA.out o) b hb)
        cases b
        · have HF : Hid (r = none) := Lib.hid (by
            rw [← HR.out]; unfold rdLine; rw [HKD.out, if_neg (by omega), if_neg a0, if_neg a3, if_neg (by rw [hb]; decide)])
          clear a0 a3 hb
          go_wp2_with (go_at_call 89; go_must (refine (NM.out _).mono ?_; rintro e w2 ⟨n, rfl, hb2, _⟩))
          go_ret
          exact ⟨ret_bool (by rw [HF.out]; rfl), (HFA.out _).trans (FrB.of_below hb2 (by simp; omega)), fun st' e => by rw [HF.out] at e; cases e⟩
        · have HF : Hid (r = some { st with ts := putLn st.ts ⟨(kk : Int), valD rest.data.toList, (at_ : Int)⟩, ns := st.ns ++ [[]] }) := Lib.hid (by
            rw [← HR.out]; unfold rdLine; rw [HKD.out, if_neg (by omega), if_neg a0, if_neg a3, if_pos hb])
          clear a0 a3 hb
          go_wp2_with (go_at_call 89; go_must (refine (NM.out _).mono ?_; rintro e w2 ⟨n, rfl, hb2, hn⟩; (have HN := Lib.hid (hn rfl)); (have q3 : Blk w2 w1.heap.size 42 #[.int .i64 kk, .int .i64 0, .int .i64 at_] := (Blk.new w1 _ _).below hb2 (by simp)); (have q4 := q3.cell 1); (have q5 := q3.frozen 1); (have Q3 := Lib.hid q3); (have HB2 := Lib.hid hb2); clear q3 hb2 hn))
          go_meet
          refine ⟨⟨#[]⟩, n, rfl, Lib.hid ⟨by rw [HF.out, HN.out], ?_, ?_, Q3.out.set_ 1 _, ?_⟩⟩
          · have hp2 := (HPA.out _).below HB2.out
            exact hp2.far (p := ⟨w1.heap.size, 1, none⟩) Q3.out (by decide) (by decide) (by decide) _ (fun k h g' e => by
              have := ((H.out.below HB1.out).ln k h (by rw [← H.out.vl]; exact h)).lt _ e
              simp only []; omega)
          · exact ((HFA.out _).trans (FrB.of_below HB2.out (by simp; omega))).setCell (p := ⟨w1.heap.size, 1, none⟩) (.inr (by simp; omega)) _
          · exact HG.out.below ((HB1.out.alloc (by omega) _).trans (HB2.out.mono (by simp; omega)) |>.setCell (p := ⟨w1.heap.size, 1, none⟩) (by simp; omega) _)
    case rest =>
      obtain ⟨nm, a, rfl, HC⟩ := hcut
      clear hq hl
      obtain ⟨hr, hp, hfr, hlb, hgw⟩ := HC.out
      have HRR := Lib.hid hr
      have HP := Lib.hid hp
      have HFR := Lib.hid hfr
      have HLB := Lib.hid hlb
      have HGW := Lib.hid hgw
      obtain ⟨q0, q1, q2, q3, f0, f1, f2, f3⟩ := hp.cells
      obtain ⟨gt, c, rfl, hgtB, hgtl⟩ := hp.th.form (List.length_pos_iff.2 HNE.out)
      obtain ⟨pre, t, hts⟩ : ∃ pre t, st.ts = pre ++ [t] := ⟨_, _, (List.dropLast_concat_getLast HNE.out).symm⟩
      obtain ⟨ntl, hntl⟩ : ∃ ntl, st.ts.length = ntl + 1 := ⟨pre.length, by rw [hts]; simp⟩
      have hB5 := HB.out.ts
      rw [hntl] at q1 hB5
      clear hr hp hfr hlb hgw q0 q2 q3 f0 f2 f3
      have dw : IntKind.i64.wrap (ntl : Int) = ntl := wrapI64 ntl (by omega)
      have dw2 : IntKind.i64.wrap ((ntl : Int) + 1 - 1) = ntl := by rw [show (ntl : Int) + 1 - 1 = ntl from by omega]; exact dw
      have dlt : ntl < ntl + 1 := by omega
      have dnn : decide ((0 : Int) ≤ ntl) = true := by simp
      go_wp2_with fail
      go_quiet (fail)
      go_wp2_with fail
      refine wp_world (fun W => Hid (PsI W B g st (.slice (some ⟨gt, 0, none⟩) st.ts.length c) nv vs lim ∧ FrB B g w W ∧ Blk W w1.heap.size 42 #[.int .i64 kk, .int .i64 a, .int .i64 at_])) (Lib.hid ⟨HP.out.drewN _, HFR.out.drewN _, HLB.out.drewN _⟩) ?_
      clear hB5 dw dw2 dlt dnn q1 HP HFR HLB HGW HC hgtl
      intro W HW
      obtain ⟨hp, hfr, hlb⟩ := HW.out
      have hpre : pre.length = ntl := by rw [hts] at hntl; simpa using hntl
      obtain ⟨pvs, vn, hvs⟩ : ∃ pvs vn, vs = pvs ++ [vn] := ⟨_, _, (List.dropLast_concat_getLast (by intro e; have := hp.vl; rw [e, hntl] at this; simp at this)).symm⟩
      have hpl : pvs.length = pre.length := by have := hp.vl; rw [hvs, hts] at this; simpa using this
      have hvn : W.ownsRow B 42 3 vn t.ls.length (lnCells t.ls) := by
        have := hp.ln pre.length (by rw [hvs]; simp [hpl]) (by rw [hts]; simp)
        simpa [hvs, hts, hpl, List.getElem_append_right] using this
      obtain ⟨LA, lc, rfl⟩ := own_form hvn
      have htl : t.ls.length ≤ 5000 := HB.out.ls t (by rw [hts]; simp)
      obtain ⟨ln, hln⟩ : ∃ ln, t.ls.length = ln := ⟨_, rfl⟩
      rw [hln] at hvn hvs htl
      have hth := hp.th
      have hcl : W.cell? ⟨gt, ntl * 2 + 1, none⟩ = some (.slice LA ln lc) := by
        rw [hth.cellAt (ntl * 2 + 1) (by rw [hntl]; omega)]
        have h1 := (thCells_get st.ts vs hp.vl ntl (by omega)).2
        rw [h1]
        simp [hvs, ← hpre, ← hpl]
      have b0 := hlb.cell 0
      have b1 := hlb.cell 1
      have b2 := hlb.cell 2
      obtain ⟨i0, hi, hz0, hz1, hz2⟩ := info_parts infoLine
      have HI := Lib.hid hi
      have H0 := Lib.hid hz0
      have H1 := Lib.hid hz1
      have H2 := Lib.hid hz2
      have hBW := hp.Bw
      have hgtB' : B ≤ gt := hgtB
      have hgtW : gt < W.heap.size := (hth.lt gt rfl).2
      have hlbW : w1.heap.size < W.heap.size := hlb.lt
      have hgW : g < W.heap.size := hp.blk.lt
      have HO : Hid (((W.alloc (.cells #[.int .i64 kk, .int .i64 a, .int .i64 at_] 42)).drew).ownsRow B 42 3 (.slice LA ln lc) ln (lnCells t.ls)) := Lib.hid (hvn.alloc _)
      have HRD : Hid (Reads ((W.alloc (.cells #[.int .i64 kk, .int .i64 a, .int .i64 at_] 42)).drew) (W.heap.size + 1) 3 (some ⟨W.heap.size, 0, none⟩) 1 (lnCells [⟨(kk : Int), a, (at_ : Int)⟩])) := Lib.hid
        ⟨rfl, fun _ => ⟨_, rfl, Nat.lt_succ_self _, cells_new_list W 42 (lnCells [⟨(kk : Int), a, (at_ : Int)⟩])⟩⟩
      have HTH : Hid (((W.alloc (.cells #[.int .i64 kk, .int .i64 a, .int .i64 at_] 42)).drew).ownsRow B 45 2 (.slice (some ⟨gt, 0, none⟩) st.ts.length c) st.ts.length (thCells st.ts vs)) := Lib.hid (hth.alloc _)
      have HCELL : Hid ((thCells st.ts vs)[ntl * 2 + 1]? = some (.slice LA ln lc)) := Lib.hid (by
        rw [(thCells_get st.ts vs hp.vl ntl (by omega)).2]
        simp [hvs, ← hpre, ← hpl])
      have HIX : Hid (ntl * 2 + 1 < st.ts.length * 2) := Lib.hid (by rw [hntl]; omega)
      have HP2 := Lib.hid hp
      have HFR2 := Lib.hid hfr
      have HVN := Lib.hid hvn
      have HVS := Lib.hid hvs
      have HTS := Lib.hid hts
      have HPRE := Lib.hid hpre
      have HLN := Lib.hid hln
      have HNTL := Lib.hid hntl
      clear hp hfr hlb hth hvn hvs hts hpre hpl hln hntl hi hz0 hz1 hz2 HW
      go_region_law (refine step_append_any _ rfl (.tmp 64) (.tmp 66) 43 rfl B 42 i0 _ 3 24 Tryz.underlying43 HI.out H0.out H1.out H2.out rfl (by decide) (.slice LA ln lc) ln (lnCells t.ls) (by simp [Act.eval, Act.put]) HO.out (W.heap.size + 1) (some ⟨W.heap.size, 0, none⟩) 1 1 (lnCells [⟨(kk : Int), a, (at_ : Int)⟩]) (by simp [Act.eval, Act.put]) HRD.out (by simp [lnCells, Value.oneCell']) (by unfold maxLen; omega) (by omega) (by simp <;> omega) ?_; intro v7 w7 hown7 hgr7 hd7; obtain ⟨A7, c7, rfl⟩ := own_form hown7; have hth7 := own_kept_grow HTH.out HO.out (by decide) hgr7; have k0 : w7.cell? ⟨gt, ntl * 2 + 1, none⟩ = some (.slice LA ln lc) := (hth7.cellAt (ntl * 2 + 1) HIX.out).trans HCELL.out; have k1 := hth7.frozenAt (ntl * 2 + 1); have HO7 := Lib.hid hown7; have HG7 := Lib.hid hgr7; have HD7 := Lib.hid hd7; clear hown7 hgr7 hd7 hth7)
      all_goals
        go_upto_region 20 with fail
        have hown8 : w7.ownsRow B 42 3 (.slice A7 (ln + 1) c7) (t.ls ++ [(⟨(kk : Int), a, (at_ : Int)⟩ : Ln)]).length (lnCells (t.ls ++ [⟨(kk : Int), a, (at_ : Int)⟩])) := by
          have := HO7.out
          rw [lnCells_append, List.length_append, HLN.out]; exact this
        have hput := PsI.put (HP2.out.below (((Below.refl _ _).alloc (Nat.le_refl _) (.cells #[.int .i64 kk, .int .i64 a, .int .i64 at_] 42)).drew)) HTS.out HVS.out rfl ⟨(kk : Int), a, (at_ : Int)⟩ hown8 HG7.out HD7.out
        rw [HPRE.out] at hput
        refine wp_world (fun W2 => Hid ((∃ tv' vs', PsI W2 B g { st with ts := putLn st.ts ⟨(kk : Int), a, (at_ : Int)⟩ } tv' nv vs' lim) ∧ FrB B g w W2)) (Lib.hid ⟨⟨_, _, hput.1⟩, ((HFR2.out.alloc hBW (.cells #[.int .i64 kk, .int .i64 a, .int .i64 at_] 42)).drewN 1).trans hput.2⟩) ?_
        clear hput hown8 HO7 HG7 HD7 HP2 HFR2 HTH HO HRD HVN HVS HCELL HIX b0 b1 b2 k0 k1 hcl
        intro W2 HW2
        obtain ⟨⟨tv2, vs2, hp2⟩, hfr2⟩ := HW2.out
        have hb2w := hp2.Bw
        obtain ⟨q0, q1, q2, q3, f0, f1, f2, f3⟩ := hp2.cells
        obtain ⟨NA, nc, rfl⟩ := own_form hp2.nm
        have hnl := HB.out.ns
        obtain ⟨i1, hi1, hz3, hz4, hz5⟩ := info_parts infoString
        have hgW2 : g < W2.heap.size := hp2.blk.lt
        have HP3 := Lib.hid hp2
        have HFR3 := Lib.hid hfr2
        have HNM : Hid (W2.ownsRow B 9 1 (.slice NA st.ns.length nc) st.ns.length (st.ns.map fun x => Value.string ⟨x.toArray⟩)) := Lib.hid hp2.nm
        have HGN : Hid (some g ≠ (Value.slice NA st.ns.length nc).ownBlock) := Lib.hid (fun e => PsI.g_ne hp2.nm hp2.gB e.symm)
        clear hp2 hfr2 HW2
        go_wp2_with (at_builtin; go_must (refine wpList_append_own _ rfl _ _ 60 rfl B 9 i1 _ 1 16 Tryz.underlying60 hi1 hz3 hz4 hz5 rfl (by decide) _ _ _ rfl (HNM.out.alloc _) ⟨W2.heap.size, 0, none⟩ 1 1 [.string nm] rfl rfl (cells_new_list W2 _ _) (by simp [Value.oneCell']) (by unfold maxLen; omega) (by omega) (by simp; omega) ?_; intro v9 w9 hown9 hgr9 _; obtain ⟨A9, c9, rfl⟩ := own_form hown9; (have hk9 : Blk w9 g 88 _ := (HP3.out.blk.alloc _).grown hgr9 HGN.out); (have k9 := hk9.cell 3); (have k8 := hk9.frozen 3); (have HO9 := Lib.hid hown9); (have HG9 := Lib.hid hgr9); clear hown9 hgr9 hk9))
        go_ret
        have hown10 : w9.ownsRow B 9 1 (.slice A9 (st.ns.length + 1) c9) (st.ns ++ [nm.data.toList]).length ((st.ns ++ [nm.data.toList]).map fun x => Value.string ⟨x.toArray⟩) := by
          have := HO9.out
          rw [List.length_append, List.map_append]; exact this
        have hname := PsI.name (HP3.out.below ((Below.refl _ _).alloc (Nat.le_refl _) (.cells #[.string nm] 9))) hown10 HG9.out
        exact ⟨ret_bool (by rw [HRR.out]; rfl), (HFR3.out.alloc hb2w _).trans hname.2, fun st' e => by
          rw [HRR.out] at e; injection e with e; subst e
          exact ⟨_, _, _, _, hname.1⟩⟩
end Go.Proofs.YtpkefohcccpncaaGreatDoor
