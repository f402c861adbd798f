/- The walk of ProgramSteps. -/
import Derived.Test.YtpkefohcccpncaaGreatDoorQBc
import Derived.Deep.RegionHeld3
import Derived.Deep.DeepCutAuto
namespace Go.Proofs.YtpkefohcccpncaaGreatDoor
open Go.RowKit
set_option linter.unusedSimpArgs false
set_option linter.unusedVariables false

def StrsAt (w : World) (B : Nat) (L : List ByteArray) : Prop := ∀ j (h : j < L.length), w.cell? ⟨B, j, none⟩ = some (.string L[j])
theorem strsAt_new (w : World) (L : List ByteArray) (ca : Array Value) (h : ca = (L.map Value.string).toArray) : StrsAt (w.alloc (.cells ca 9)) w.heap.size L := fun j hj => by
  subst h
  rw [cell_of_row _ _ _ _ _ _ (heap_alloc_new w _)]
  simp [hj]
theorem StrsAt.below {w w' : World} {B : Nat} {L : List ByteArray} (h : StrsAt w B L) {b : Nat} (hb : Below b w w') (hB : B < b) : StrsAt w' B L := fun j hj => (hb.cell (p := ⟨B, j, none⟩) hB).trans (h j hj)
/-- what Parse leaves, in one shape -/
def resQ : Nat ⊕ Prg → Prg
  | .inl _ => ⟨0, []⟩
  | .inr p => p
def resN : Nat ⊕ Prg → Int
  | .inl n => n
  | .inr _ => 0
def resE : Nat ⊕ Prg → Int
  | .inl _ => 47
  | .inr _ => 0
def PsrPost (w : World) (q : Prg) (n er : Int) (e : Ending) (w' : World) : Prop := Below w.heap.size w w' ∧ ∃ (A : Option Addr) (c : Nat), e = .returned (.tuple #[.agg #[.int .i64 q.v, .slice A q.ts.length c], .int .i64 n, .int .i64 er]) ∧ ThsAt w' w'.heap.size A q.ts
theorem psr_of {w : World} {R : Nat ⊕ Prg} {e : Ending} {w' : World} (h : ParPost w R e w') : PsrPost w (resQ R) (resN R) (resE R) e w' := by
  obtain ⟨hb, h⟩ := h
  rcases R with m | q
  · exact ⟨hb, none, 0, h, ThsAt.nil⟩
  · obtain ⟨A, c, he, ht⟩ := h
    exact ⟨hb, A, c, he, ht⟩
theorem resQ_ok (l : List UInt8) : PrgOk (resQ (parseP l)) := by
  rcases hR : parseP l with m | q
  · exact ⟨by simp [resQ], by simp [resQ]⟩
  · exact prgOk_of (parse_checks l q hR)
set_option maxRecDepth 100000 in
set_option maxHeartbeats 16000000 in
theorem psteps_any (A : Option Addr) (n c : Nat) (raw : Prg) (RA : Option Addr) (rn rc : Nat) (data : ByteArray) (at_ by_ value : Int) (hy0 : 0 ≤ by_) (hy1 : by_ ≤ 255) (CA : Option Addr) (cn cc : Nat) (cs : List Int) (hcl : cs.length = cn) (hcn : cn ≤ 9223372036854775807) (e : Ev) (w : World) (hg : GlobP w) (hA : SeedsArg w A n c)
    (hrn : raw.ts.length = rn) (hrn9 : rn ≤ 9223372036854775807) (hdn : data.size ≤ 9223372036854775807) (hR : ThsAt w w.heap.size RA raw.ts) (hC : IsAt w w.heap.size CA cs) (hok : PrgOk raw) :
    Calls Tryz.prog 5 #[.slice A n c, .agg #[.int .i64 raw.v, .slice RA rn rc], .string data, .int .i64 at_, .int .u8 by_, .int .i64 value, .slice CA cn cc, .agg #[.int .i64 e.th, .int .i64 e.ln, .int .i64 e.nu, .int .i64 e.va, .int .i64 e.nx]] w fun e w' => e = .returned (.bool true) ∧ Below w.heap.size w w' := by
  have HG := Lib.hid hg
  have HA := Lib.hid hA
  have HRW := Lib.hid hR
  have HCW := Lib.hid hC
  have HRO := Lib.hid hok
  have HRN := Lib.hid hrn
  have HCL := Lib.hid hcl
  clear hg hA hR hC hok hrn hcl
  have hb2 : ∀ o1 o2, Below w.heap.size w ((w.alloc o1).alloc o2) := fun o1 o2 => ((Below.refl _ _).alloc (Nat.le_refl _) _).alloc (by simp) _
  have HB2 := Lib.hid hb2
  clear hb2
  have SA : Hid (∀ o1 o2, Calls Tryz.prog 6 #[] ((w.alloc o1).alloc o2) fun e w' => e = .returned (.bool true) ∧ Below ((w.alloc o1).alloc o2).heap.size ((w.alloc o1).alloc o2) w') := Lib.hid (fun o1 o2 => sane_any _ (HG.out.below (HB2.out o1 o2)))
  have NE : Hid (∀ W, Below w.heap.size w W → Calls Tryz.prog 7 #[.slice A n c] W (PNewPost W)) := Lib.hid (fun W h => pnew_arg W A n c (HA.out.up h))
  by_cases hbig : rn ≤ 4 ∧ data.size ≤ 200 ∧ cn ≤ 8
  rotate_left
  · have hB : Hid (decide (4 < (rn : Int)) = true ∨ (decide (4 < (rn : Int)) = false ∧ decide (200 < (data.size : Int)) = true) ∨ (decide (4 < (rn : Int)) = false ∧ decide (200 < (data.size : Int)) = false ∧ decide (8 < (cn : Int)) = true)) := Lib.hid (by
      simp only [decide_eq_true_eq, decide_eq_false_iff_not]; omega)
    clear hbig NE HA
    go_enter Tryz.func5, Tryz.ntmps5
    go_wp2_with fail
    refine (SA.out _ _).mono ?_
    rintro e w1 ⟨rfl, hb1⟩
    have HB1 := Lib.hid ((HB2.out _ _).trans (hb1.mono (by simp; omega)))
    have r1 := (((Blk.new w 28 #[.int .i64 raw.v, .slice RA rn rc]).below ((Below.refl _ _).alloc (Nat.le_refl _) (.cells #[.int .i64 e.th, .int .i64 e.ln, .int .i64 e.nu, .int .i64 e.va, .int .i64 e.nx] 38)) (by simp)).below hb1 (by simp; omega)).cell 1
    clear hb1 SA
    rcases hB.out with h1 | ⟨h1, h2⟩ | ⟨h1, h2, h3⟩
    all_goals
      clear hB
      go_wp2_with fail
      go_ret
      exact ⟨rfl, HB1.out⟩
  obtain ⟨h4, h2, h8⟩ := hbig
  obtain rfl : raw.ts.length = rn := HRN.out
  clear HRN
  have d1 : decide (4 < (raw.ts.length : Int)) = false := by simp; omega
  have d2 : decide (200 < (data.size : Int)) = false := by simp; omega
  have d3 : decide (8 < (cn : Int)) = false := by simp; omega
  go_enter Tryz.func5, Tryz.ntmps5
  go_wp2_with fail
  refine (SA.out _ _).mono ?_
  rintro e' w1 ⟨rfl, hb1⟩
  have HB1 := Lib.hid ((HB2.out _ _).trans (hb1.mono (by simp; omega)))
  have HR1 : Hid (Blk w1 w.heap.size 28 #[.int .i64 raw.v, .slice RA raw.ts.length rc]) := Lib.hid (((Blk.new w 28 #[.int .i64 raw.v, .slice RA raw.ts.length rc]).below ((Below.refl _ _).alloc (Nat.le_refl _) (.cells #[.int .i64 e.th, .int .i64 e.ln, .int .i64 e.nu, .int .i64 e.va, .int .i64 e.nx] 38)) (by simp)).below hb1 (by simp; omega))
  have HE1 : Hid (Blk w1 (w.heap.size + 1) 38 #[.int .i64 e.th, .int .i64 e.ln, .int .i64 e.nu, .int .i64 e.va, .int .i64 e.nx]) := Lib.hid (by
    have := (Blk.new (w.alloc (.cells #[.int .i64 raw.v, .slice RA raw.ts.length rc] 28)) 38 #[.int .i64 e.th, .int .i64 e.ln, .int .i64 e.nu, .int .i64 e.va, .int .i64 e.nx]).below hb1 (by simp)
    simpa using this)
  have r1 := HR1.out.cell 1
  have hz1 : w.heap.size + 1 < w1.heap.size := HE1.out.lt
  clear hb1 SA HB2
  go_wp2_with fail
  refine (NE.out _ HB1.out).mono ?_
  rintro e' w2 ⟨rfl, hd2, hb2⟩
  have HB2 := Lib.hid (HB1.out.trans (hb2.mono HB1.out.size))
  have HR2 := Lib.hid (HR1.out.below hb2 HR1.out.lt)
  have HE2 := Lib.hid (HE1.out.below hb2 HE1.out.lt)
  have HD2 := Lib.hid hd2
  have hz2 := hb2.size
  clear hd2 hb2 NE r1 d1 d2 d3 HA
  obtain ⟨b, hbb⟩ : ∃ b, w1.heap.size = b := ⟨_, rfl⟩
  rw [hbb]
  rw [hbb] at HD2
  go_wp2_with fail
  refine (dprogram_any _ _ HD2.out).mono ?_
  rintro e' w3 ⟨p, PA, pc, rfl, hp3, hok3, hd3, hg3⟩
  have hbe3 := HB2.out.grown hg3 HB2.out.size (fun k hk => by cases hk; omega)
  have HPO := Lib.hid (prgOk_of hok3.check)
  have HPC := Lib.hid hok3.check
  have HI3 : Hid (DiceOk (w3.alloc (.cells #[.int .i64 p.v, .slice PA p.ts.length pc] 28)) b ∧ Below w.heap.size w (w3.alloc (.cells #[.int .i64 p.v, .slice PA p.ts.length pc] 28)) ∧ Blk (w3.alloc (.cells #[.int .i64 p.v, .slice PA p.ts.length pc] 28)) w3.heap.size 28 #[.int .i64 p.v, .slice PA p.ts.length pc] ∧ Blk (w3.alloc (.cells #[.int .i64 p.v, .slice PA p.ts.length pc] 28)) w.heap.size 28 #[.int .i64 raw.v, .slice RA raw.ts.length rc] ∧
      Blk (w3.alloc (.cells #[.int .i64 p.v, .slice PA p.ts.length pc] 28)) (w.heap.size + 1) 38 #[.int .i64 e.th, .int .i64 e.ln, .int .i64 e.nu, .int .i64 e.va, .int .i64 e.nx] ∧ ThsAt (w3.alloc (.cells #[.int .i64 p.v, .slice PA p.ts.length pc] 28)) w3.heap.size PA p.ts ∧ ThsAt (w3.alloc (.cells #[.int .i64 p.v, .slice PA p.ts.length pc] 28)) w.heap.size RA raw.ts) := Lib.hid (by
    have ha : Below w3.heap.size w3 (w3.alloc (.cells #[.int .i64 p.v, .slice PA p.ts.length pc] 28)) := (Below.refl _ _).alloc (Nat.le_refl _) _
    have hne : ∀ k, k ≠ b → some k ≠ some b := fun k hk e => by injection e with e; exact hk e
    have g1 := HR2.out.grown hg3 (hne _ (by omega))
    have g2 := HE2.out.grown hg3 (hne _ (by omega))
    exact ⟨hd3.below ha hd3.lt, hbe3.trans (ha.mono hbe3.size), Blk.new _ _ _, g1.below ha g1.lt, g2.below ha g2.lt, hp3.below ha, HRW.out.below (hbe3.trans (ha.mono hbe3.size))⟩)
  have hb3 := hd3.lt
  clear hp3 hok3 hd3 hg3 hbe3 HB2 HR2 HE2 HD2 HB1 HR1 HE1
  go_wp2_with fail
  have HPZ : Hid (w3.heap.size < (w3.alloc (.cells #[.int .i64 p.v, .slice PA p.ts.length pc] 28)).heap.size) := Lib.hid HI3.out.2.2.1.lt
  generalize w3.alloc (.cells #[.int .i64 p.v, .slice PA p.ts.length pc] 28) = W3 at HI3 HPZ ⊢
  generalize w3.heap.size = pb at HI3 HPZ hb3 ⊢
  have OD : Hid (Calls Tryz.prog 15 #[.pointer (some ⟨b, 0, none⟩)] W3.drew (OddPost W3.drew b)) := Lib.hid (odd_any _ b (HI3.out.1.below (Below.refl _ _).drew HI3.out.1.lt))
  have HR0 : Hid (W3.drew.grownBy W3.drew (some b)) := Lib.hid (World.grownBy.refl _ _)
  have KS : Hid (∀ W, W3.drew.grownBy W (some b) → W.cell? ⟨pb, 0, none⟩ = some (.int .i64 p.v) ∧ W.cell? ⟨pb, 1, none⟩ = some (.slice PA p.ts.length pc) ∧ W.cell? ⟨w.heap.size, 0, none⟩ = some (.int .i64 raw.v) ∧ W.cell? ⟨w.heap.size, 1, none⟩ = some (.slice RA raw.ts.length rc)) := Lib.hid (fun W h => by
    have hne : ∀ k, k ≠ b → some k ≠ some b := fun k hk e => by injection e with e; exact hk e
    have g1 := (HI3.out.2.2.1.below (Below.refl _ _).drew HI3.out.2.2.1.lt).grown h (hne _ (by omega))
    have g2 := (HI3.out.2.2.2.1.below (Below.refl _ _).drew HI3.out.2.2.2.1.lt).grown h (hne _ (by omega))
    exact ⟨g1.cell 0, g1.cell 1, g2.cell 0, g2.cell 1⟩)
  obtain ⟨k0, k1, k2, k3⟩ := KS.out _ HR0.out
  go_region_held3 (fun W' => W'.cell? ⟨pb, 0, none⟩ = some (.int .i64 p.v) ∧ W'.cell? ⟨pb, 1, none⟩ = some (.slice PA p.ts.length pc) ∧ W'.cell? ⟨w.heap.size, 0, none⟩ = some (.int .i64 raw.v) ∧ W'.cell? ⟨w.heap.size, 1, none⟩ = some (.slice RA raw.ts.length rc))
    (first | (refine KS.out _ ?_; first | exact HR0.out | exact HX5.out | exact HX6.out _))
    ((go_at_call 15; refine (OD.out).mono ?_; rintro e' w5 ⟨q, QA, qc, rfl, hq5, hokq, hd5, hg5⟩; (have HQO := Lib.hid hokq); (have HX5 := Lib.hid hg5); (have HX6 : Hid (∀ o, W3.drew.grownBy (w5.alloc o) (some b)) := Lib.hid (fun o => grownBy_alloc HX5.out o)); (have HD5 := Lib.hid hd5); (have HQ5 := Lib.hid hq5); clear hokq hg5 hd5 hq5))
  have HI : Hid (SpI w (w5.alloc (.cells #[.int .i64 p.v, .slice PA p.ts.length pc, .int .i64 q.v, .slice QA q.ts.length qc, .int .i64 raw.v, .slice RA raw.ts.length rc] 28)) b pb w5.heap.size p q raw PA QA RA pc qc rc e) := Lib.hid (by
    have hne : ∀ k, k ≠ b → some k ≠ some b := fun k hk e => by injection e with e; exact hk e
    obtain ⟨i1, i2, i3, i4, i5, i6, i7⟩ := HI3.out
    have hz0 := i2.size
    have ha : Below w5.heap.size w5 (w5.alloc (.cells #[.int .i64 p.v, .slice PA p.ts.length pc, .int .i64 q.v, .slice QA q.ts.length qc, .int .i64 raw.v, .slice RA raw.ts.length rc] 28)) := (Below.refl _ _).alloc (Nat.le_refl _) _
    have hd : Below W3.heap.size W3 W3.drew := (Below.refl _ _).drew
    have hz5 : W3.heap.size ≤ w5.heap.size := HX5.out.size
    have hp := HPZ.out
    have bp := (i3.below hd i3.lt).grown HX5.out (hne _ (by omega))
    have be := (i5.below hd i5.lt).grown HX5.out (hne _ (by omega))
    have tp : ThsAt w5 pb PA p.ts := (i6.below (hd.mono (by omega))).pickB (Nat.le_of_lt hp) (i1.below hd i1.lt) HX5.out
    have tr : ThsAt w5 w.heap.size RA raw.ts := (i7.below (hd.mono (by omega))).pickB hz0 (i1.below hd i1.lt) HX5.out
    refine ⟨HD5.out.below ha HD5.out.lt, ?_, bp.below ha bp.lt, Blk.new _ _ _, be.below ha be.lt, (tp.more (by omega)).below ha, HQ5.out.below ha, (tr.more (by omega)).below ha, by omega⟩
    exact ((i2.drew).grown HX5.out hz0 (fun k hk => by cases hk; omega)).trans (ha.mono (by omega)))
  go_wp2_with fail
  refine wp_world (fun W => Hid (SpI w W b pb w5.heap.size p q raw PA QA RA pc qc rc e)) HI ?_
  intro W6 HW6
  clear HI HI3 HPZ HX5 HX6 HD5 HQ5 OD HR0 KS k0 k1 k2 k3 hz1 hz2 hb3 HRW
  generalize w5.heap.size = ga at HW6 ⊢
  have HC6 : Hid (∀ W, SpI w W b pb ga p q raw PA QA RA pc qc rc e → IsAt W W.heap.size CA cs) := Lib.hid (fun W h => (HCW.out.below h.be).more h.be.size)
  clear HCW
  go_loopw [88] (fun s88 wr => ∃ k : Nat, k ≤ 3 ∧ s88 = .int .i64 k ∧ Hid (SpI w wr b pb ga p q raw PA QA RA pc qc rc e)) (fun s88 _ => 3 - (intOf s88).toNat)
  case atStart => exact ⟨0, by omega, rfl, HW6⟩
  case round => as_aux_lemma =>
    clear HW6
    obtain ⟨wo, rfl⟩ : ∃ wo : World, wo = wr := ⟨_, rfl⟩
    obtain ⟨k, hk, rfl, HR⟩ := hrel
    by_cases hlt : k < 3
    rotate_left
    · obtain rfl : k = 3 := by omega
      clear HQO HRO
      have q0 := HR.out.pr.cell 0
      have q1 := HR.out.pr.cell 1
      have RTB : Hid (Calls Tryz.prog 17 #[.agg #[.int .i64 p.v, .slice PA p.ts.length pc]] wo (RTextPost wo p true)) := Lib.hid (rtext_any p PA _ pc wo (HR.out.tp.more (Nat.le_of_lt HR.out.ar.lt)) rfl HPO.out true HPC.out)
      have HBo := Lib.hid HR.out.be
      have PAG : Hid (∀ W (s : ByteArray), Below w.heap.size w W → s.size ≤ 4096 → Calls Tryz.prog 29 #[.string s] W (ParPost W (parseP s.data.toList))) := Lib.hid (fun W s h hs => parse_any s W hs (HG.out.below h))
      have PAR : Hid (∀ W (s : ByteArray), s.size ≤ 4096 → Calls Tryz.prog 30 #[.string s] W (ParPost W (parseP s.data.toList))) := Lib.hid (fun W s hs => rparse_any s W hs)
      go_wp2_with fail
      refine (RTB.out).mono ?_
      rintro e' w4 ⟨hb4, t, rfl, ht⟩
      have hts : t.size ≤ 980 ∧ 0 < t.size := by
        obtain ⟨h1, h2⟩ := textP_len HPC.out
        have ht2 : t.data.toList = textP p := ht
        rw [← ht2] at h1 h2
        rw [← size_data]
        exact ⟨h1, List.length_pos_iff.2 h2⟩
      obtain ⟨hts1, hts0⟩ := hts
      have HB4 : Hid (Below w.heap.size w w4) := Lib.hid (HBo.out.trans (hb4.mono HBo.out.size))
      have hz4 := HB4.out.size
      clear ht hb4 RTB q0 q1 HR HPO HPC HC6 HCL HBo
      obtain ⟨C, cap, hconv, hC⟩ := conv_pack w4 t
      have HC := Lib.hid hC
      clear hC
      obtain ⟨j, hj⟩ := Int.eq_ofNat_of_zero_le (Int.emod_nonneg at_ (show (t.size : Int) ≠ 0 by omega))
      have hjl : j < t.size := by
        have := Int.emod_lt_of_pos at_ (show (0 : Int) < t.size by omega)
        omega
      have MO : Hid (∀ W : World, Calls Tryz.prog 28 #[.int .i64 at_, .int .i64 (t.size : Int)] W fun e w' => e = .returned (.int .i64 (j : Int)) ∧ W = w') := Lib.hid (fun W => by
        have := pmod_any W at_ t.size (by omega) (by omega)
        rw [hj] at this
        exact this)
      obtain ⟨vj, hcj⟩ := HC.out.cell hjl
      have hfz := HC.out.frozen hjl
      clear hj
      go_upto_region 63 with (go_at_call 28; go_must (refine (MO.out _).mono ?_; rintro e' w' ⟨rfl, rfl⟩))
      refine wp_world (fun X => Hid (BytesAt X w4.heap.size (t.data.toList.set j (UInt8.ofNat by_.toNat)) ∧ Below w.heap.size w X)) (Lib.hid ⟨?_, ?_⟩) ?_
      · exact BytesAt.set_ HC.out.at_ (show j < t.data.toList.length from hjl) hy0 hy1
      · exact (((HB4.out.alloc hz4 _).setCell (p := ⟨w4.heap.size, j, none⟩) hz4 _)).drew
      intro X HX
      obtain ⟨s2, hs2⟩ : ∃ s2 : ByteArray, s2.data.toList = t.data.toList.set j (UInt8.ofNat by_.toNat) := ⟨⟨(t.data.toList.set j (UInt8.ofNat by_.toNat)).toArray⟩, rfl⟩
      have hs2l : s2.size = t.size := by rw [← size_data, hs2, List.length_set, size_data]
      have hs24 : s2.size ≤ 980 := by omega
      have HB7 := Lib.hid HX.out.2
      have HBY := Lib.hid HX.out.1
      have HS2 := Lib.hid hs2
      have hX6 : w4.heap.size < X.heap.size := by
        have := HX.out.1 j (by rw [List.length_set]; exact hjl)
        by_cases h : w4.heap.size < X.heap.size
        · exact h
        · exfalso; simp only [World.cell?, Array.getElem?_eq_none (Nat.le_of_not_lt h)] at this; cases this
      clear hs2 hs2l hconv hcj hfz HC HX
      have HSX : Hid (∀ W : World, BytesAt W w4.heap.size (t.data.toList.set j (UInt8.ofNat by_.toNat)) → (Go.convert 22 9 (.slice (some ⟨w4.heap.size, 0, none⟩) t.size cap)).run Tryz.prog W = .ok (.string s2) W) := Lib.hid (fun W h => BytesAt.back (w := W) h cap (n := t.size) (by rw [List.length_set, size_data]) HS2.out)
      have HK2 : Hid (∀ o, (Go.convert 22 9 (.slice (some ⟨w4.heap.size, 0, none⟩) t.size cap)).run Tryz.prog ((X.alloc o).drew) = .ok (.string s2) ((X.alloc o).drew)) := Lib.hid (fun o => HSX.out ((X.alloc o).drew) (by
        have := HBY.out.below ((Below.refl _ _).alloc (Nat.le_refl _) o) hX6
        exact this))
      obtain ⟨h2, hh2⟩ : ∃ h2 : Nat, t.size / 2 = h2 := ⟨_, rfl⟩
      have hq0 : (t.size : Int).tdiv 2 = (h2 : Int) := by rw [Int.tdiv_eq_ediv_of_nonneg (by omega)]; omega
      have hq1 : IntKind.i64.wrap ((t.size : Int).tdiv 2) = (h2 : Int) := by rw [hq0]; simp [IntKind.wrap, IntKind.bits, IntKind.signed]; omega
      have hq2 : IntKind.i64.wrap (h2 : Int) = (h2 : Int) := by simp [IntKind.wrap, IntKind.bits, IntKind.signed]; omega
      have j0 : (0 : Int) ≤ (h2 : Int) := by omega
      have j1 : (h2 : Int) ≤ (t.size : Int) := by omega
      have hback := HSX.out X.drew (by have := HBY.out; exact this)
      have u1 : ¬ 9223372036854775807 < t.size + (⟨#[116, 104, 114, 101, 97, 100, 32, 120, 10, 115, 116, 111, 112, 10, 101, 110, 100, 10]⟩ : ByteArray).size := by show ¬ 9223372036854775807 < t.size + 18; omega
      have u2 : ¬ 9223372036854775807 < t.size + (⟨#[120]⟩ : ByteArray).size := by show ¬ 9223372036854775807 < t.size + 1; omega
      have u3 : ¬ 9223372036854775807 < t.size + 18 := by omega
      have u4 : ¬ 9223372036854775807 < t.size + 1 := by omega
      clear hh2
      refine wp_region_held_drew (S := (fun w' => (Go.convert 22 9 (.slice (some ⟨w4.heap.size, 0, none⟩) t.size cap)).run Tryz.prog w' = .ok (.string s2) w')) (by kernel_rfl) ?_ (fun hHeld => ?_)
      · exact HSX.out _ HBY.out
      refine wpAnyH_take (i := 0) (oi := ?o1) (v := ?v1) (by rw [List.getElem?_toArray]; (repeat rw [List.getElem?_cons_succ]); exact List.getElem?_cons_zero) (by kernel_rfl) (by kernel_rfl) (by kernel_rfl) (by intro _ _ _ h; exact h) (Or.inl ⟨by rfl, ?hy1⟩) (by assumption) ?rest1
      case hy1 => ((intro W hSw); (try dsimp only at hSw); go_simp; (first | done | with_reducible rfl))
      (try simp only [Act.put, List.setIfInBounds_toArray, List.set_cons_zero, List.set_cons_succ])
      refine wpAnyH_take (i := 1) (oi := ?o2) (v := ?v2) (by rw [List.getElem?_toArray]; (repeat rw [List.getElem?_cons_succ]); exact List.getElem?_cons_zero) (by kernel_rfl) (by kernel_rfl) (by kernel_rfl) (by intro _ _ _ h; exact h) (Or.inl ⟨by rfl, ?hy2⟩) (by assumption) ?rest2
      case hy2 => ((intro W hSw); (try dsimp only at hSw); go_simp; (first | done | with_reducible rfl))
      (try simp only [Act.put, List.setIfInBounds_toArray, List.set_cons_zero, List.set_cons_succ])
      refine wpAnyH_take (i := 2) (oi := ?o3) (v := ?v3) (by rw [List.getElem?_toArray]; (repeat rw [List.getElem?_cons_succ]); exact List.getElem?_cons_zero) (by kernel_rfl) (by kernel_rfl) (by kernel_rfl) (by intro _ _ _ h; exact h) (Or.inl ⟨by rfl, ?hy3⟩) (by assumption) ?rest3
      case hy3 => ((intro W hSw); (try dsimp only at hSw); go_simp; (first | done | with_reducible rfl))
      (try simp only [Act.put, List.setIfInBounds_toArray, List.set_cons_zero, List.set_cons_succ])
      refine wpAnyH_take (i := 3) (oi := ?o4) (v := ?v4) (by rw [List.getElem?_toArray]; (repeat rw [List.getElem?_cons_succ]); exact List.getElem?_cons_zero) (by kernel_rfl) (by kernel_rfl) (by kernel_rfl) (by intro _ _ _ h; exact h) (Or.inl ⟨by rfl, ?hy4⟩) (by assumption) ?rest4
      case hy4 => ((intro W hSw); (try dsimp only at hSw); go_simp; (first | done | with_reducible rfl))
      (try simp only [Act.put, List.setIfInBounds_toArray, List.set_cons_zero, List.set_cons_succ])
      refine wpAnyH_take (i := 4) (oi := ?o5) (v := ?v5) (by rw [List.getElem?_toArray]; (repeat rw [List.getElem?_cons_succ]); exact List.getElem?_cons_zero) (by kernel_rfl) (by kernel_rfl) (by kernel_rfl) (by intro _ _ _ h; exact h) (Or.inl ⟨by rfl, ?hy5⟩) (by assumption) ?rest5
      case hy5 => ((intro W hSw); (try dsimp only at hSw); go_simp; (first | done | with_reducible rfl))
      (try simp only [Act.put, List.setIfInBounds_toArray, List.set_cons_zero, List.set_cons_succ])
      refine wpAnyH_take (i := 5) (oi := ?o6) (v := ?v6) (by rw [List.getElem?_toArray]; (repeat rw [List.getElem?_cons_succ]); exact List.getElem?_cons_zero) (by kernel_rfl) (by kernel_rfl) (by kernel_rfl) (by intro _ _ _ h; exact h) (Or.inl ⟨by rfl, ?hy6⟩) (by assumption) ?rest6
      case hy6 => ((intro W hSw); (try dsimp only at hSw); go_simp; (first | done | with_reducible rfl))
      (try simp only [Act.put, List.setIfInBounds_toArray, List.set_cons_zero, List.set_cons_succ])
      refine wpAnyH_take (i := 6) (oi := ?o7) (v := ?v7) (by rw [List.getElem?_toArray]; (repeat rw [List.getElem?_cons_succ]); exact List.getElem?_cons_zero) (by kernel_rfl) (by kernel_rfl) (by kernel_rfl) (by intro _ _ _ h; exact h) (Or.inl ⟨by rfl, ?hy7⟩) (by assumption) ?rest7
      case hy7 => ((intro W hSw); (try dsimp only at hSw); go_simp; (first | done | with_reducible rfl))
      (try simp only [Act.put, List.setIfInBounds_toArray, List.set_cons_zero, List.set_cons_succ])
      refine wpAnyH_take (i := 7) (oi := ?o8) (v := ?v8) (by rw [List.getElem?_toArray]; (repeat rw [List.getElem?_cons_succ]); exact List.getElem?_cons_zero) (by kernel_rfl) (by kernel_rfl) (by kernel_rfl) (by intro _ _ _ h; exact h) (Or.inl ⟨by rfl, ?hy8⟩) (by assumption) ?rest8
      case hy8 => ((intro W hSw); (try dsimp only at hSw); go_simp; (first | done | with_reducible rfl))
      (try simp only [Act.put, List.setIfInBounds_toArray, List.set_cons_zero, List.set_cons_succ])
      refine wpAnyH_take (i := 8) (oi := ?o9) (v := ?v9) (by rw [List.getElem?_toArray]; (repeat rw [List.getElem?_cons_succ]); exact List.getElem?_cons_zero) (by kernel_rfl) (by kernel_rfl) (by kernel_rfl) (by intro _ _ _ h; exact h) (Or.inl ⟨by rfl, ?hy9⟩) (by assumption) ?rest9
      case hy9 => ((intro W hSw); (try dsimp only at hSw); go_simp; (first | done | with_reducible rfl))
      (try simp only [Act.put, List.setIfInBounds_toArray, List.set_cons_zero, List.set_cons_succ])
      refine wpAnyH_take (i := 9) (oi := ?o10) (v := ?v10) (by rw [List.getElem?_toArray]; (repeat rw [List.getElem?_cons_succ]); exact List.getElem?_cons_zero) (by kernel_rfl) (by kernel_rfl) (by kernel_rfl) (by intro _ _ _ h; exact h) (Or.inl ⟨by rfl, ?hy10⟩) (by assumption) ?rest10
      case hy10 => ((intro W hSw); (try dsimp only at hSw); go_simp; (first | done | with_reducible rfl))
      (try simp only [Act.put, List.setIfInBounds_toArray, List.set_cons_zero, List.set_cons_succ])
      refine wpAnyH_take (i := 10) (oi := ?o11) (v := ?v11) (by rw [List.getElem?_toArray]; (repeat rw [List.getElem?_cons_succ]); exact List.getElem?_cons_zero) (by kernel_rfl) (by kernel_rfl) (by kernel_rfl) (by intro _ _ _ h; exact h) (Or.inl ⟨by rfl, ?hy11⟩) (by assumption) ?rest11
      case hy11 => ((intro W hSw); (try dsimp only at hSw); go_simp; (first | done | with_reducible rfl))
      (try simp only [Act.put, List.setIfInBounds_toArray, List.set_cons_zero, List.set_cons_succ])
      refine wpAnyH_take (i := 11) (oi := ?o12) (v := ?v12) (by rw [List.getElem?_toArray]; (repeat rw [List.getElem?_cons_succ]); exact List.getElem?_cons_zero) (by kernel_rfl) (by kernel_rfl) (by kernel_rfl) (by intro _ _ _ h; exact h) (Or.inl ⟨by rfl, ?hy12⟩) (by assumption) ?rest12
      case hy12 => ((intro W hSw); (try dsimp only at hSw); go_simp; (first | done | with_reducible rfl))
      (try simp only [Act.put, List.setIfInBounds_toArray, List.set_cons_zero, List.set_cons_succ])
      refine wpAnyH_take (i := 12) (oi := ?o13) (v := ?v13) (by rw [List.getElem?_toArray]; (repeat rw [List.getElem?_cons_succ]); exact List.getElem?_cons_zero) (by kernel_rfl) (by kernel_rfl) (by kernel_rfl) (by intro _ _ _ h; exact h) (Or.inl ⟨by rfl, ?hy13⟩) (by assumption) ?rest13
      case hy13 => ((intro W hSw); (try dsimp only at hSw); go_simp; (first | done | with_reducible rfl))
      (try simp only [Act.put, List.setIfInBounds_toArray, List.set_cons_zero, List.set_cons_succ])
      refine wpAnyH_take (i := 15) (oi := ?o16) (v := ?v16) (by rw [List.getElem?_toArray]; (repeat rw [List.getElem?_cons_succ]); exact List.getElem?_cons_zero) (by kernel_rfl) (by kernel_rfl) (by kernel_rfl) (by intro _ _ _ h; exact h) (Or.inl ⟨by rfl, ?hy16⟩) (by assumption) ?rest16
      case hy16 => ((intro W hSw); (try dsimp only at hSw); go_simp; (first | done | with_reducible rfl))
      (try simp only [Act.put, List.setIfInBounds_toArray, List.set_cons_zero, List.set_cons_succ])
      obtain ⟨s4, hs4⟩ : ∃ s4 : ByteArray, t ++ ⟨#[116, 104, 114, 101, 97, 100, 32, 120, 10, 115, 116, 111, 112, 10, 101, 110, 100, 10]⟩ = s4 := ⟨_, rfl⟩
      obtain ⟨s6, hs6⟩ : ∃ s6 : ByteArray, t ++ ⟨#[120]⟩ = s6 := ⟨_, rfl⟩
      obtain ⟨s5, hs5⟩ : ∃ s5 : ByteArray, t.extract 0 h2 = s5 := ⟨_, rfl⟩
      rw [hs4, hs5, hs6]
      have HS4 : Hid (s4.size ≤ 1000) := Lib.hid (by rw [← hs4, ByteArray.size_append]; show t.size + 18 ≤ 1000; omega)
      have HS5 : Hid (s5.size ≤ 1000) := Lib.hid (by rw [← hs5]; simp only [ByteArray.size_extract]; omega)
      have HS6 : Hid (s6.size ≤ 1000) := Lib.hid (by rw [← hs6, ByteArray.size_append]; show t.size + 1 ≤ 1000; omega)
      clear hs4 hs5 hs6 u1 u2 u3 u4 hq0 hq1 hq2 j0 j1 hback
      refine wpAnyH_ready (rs := [13]) (by kernel_rfl) (by simp) ?_
      refine AllReadyH.cons (o := ?o99) (by rw [List.getElem?_toArray]; (repeat rw [List.getElem?_cons_succ]); exact List.getElem?_cons_zero) (fun K hK => ?_) AllReadyH.nil
      rw [if_pos (by rfl)]
      refine wp_build_vals 60 9 7 _ rfl [.string t, .string s2, .string data, .string s4, .string s5, .string s6, .string ⟨#[118, 97, 108, 117, 101, 115, 32, 49, 10]⟩] Tryz.underlying60 (by kernel_rfl) (by kernel_rfl) rfl (by decide) (by decide) (by intro v hv; simp only [List.mem_cons, List.not_mem_nil, or_false] at hv; rcases hv with rfl | rfl | rfl | rfl | rfl | rfl | rfl <;> rfl) ?hparts ?_
      case hparts => (first | (go_simp; done) | (simp [Act.eval]; done) | rfl)
      refine hK.out _ _ ?_ (fun hHeld2 => ?_)
      · exact HK2.out _
      clear hK K hHeld
      have hHeld := hHeld2
      clear hHeld2
      (try simp only [Act.put, List.setIfInBounds_toArray, List.set_cons_zero, List.set_cons_succ])
      refine wpAnyH_take (i := 14) (oi := ?o20) (v := ?v20) (by rw [List.getElem?_toArray]; (repeat rw [List.getElem?_cons_succ]); exact List.getElem?_cons_zero) (by kernel_rfl) (by kernel_rfl) (by kernel_rfl) (by intro _ _ _ h; exact h) (Or.inl ⟨by rfl, ?hy20⟩) (by assumption) ?rest20
      case hy20 => ((intro W hSw); (try dsimp only at hSw); go_simp; (first | done | with_reducible rfl))
      (try simp only [Act.put, List.setIfInBounds_toArray, List.set_cons_zero, List.set_cons_succ])
      refine wpAnyH_done (by kernel_rfl) ?_ _
      clear hHeld
      go_wp2_with fail
      obtain ⟨L, hL⟩ : ∃ L : List ByteArray, L = [t, s2, data, s4, s5, s6, ⟨#[118, 97, 108, 117, 101, 115, 32, 49, 10]⟩] := ⟨_, rfl⟩
      have hLl : L.length = 7 := by rw [hL]; rfl
      have hLs : ∀ s ∈ L, s.size ≤ 1000 := by
        intro s hs'
        rw [hL] at hs'
        simp only [List.mem_cons, List.not_mem_nil, or_false] at hs'
        rcases hs' with rfl | rfl | rfl | rfl | rfl | rfl | rfl
        · omega
        · omega
        · omega
        · exact HS4.out
        · exact HS5.out
        · exact HS6.out
        · decide
      have hz8 := HB7.out.size
      refine wp_world (fun W => Hid (StrsAt W X.heap.size L ∧ X.heap.size < W.heap.size ∧ Below w.heap.size w W)) (Lib.hid ⟨?_, ?_, ?_⟩) ?_
      · rw [hL]; first | exact strsAt_new X _ _ rfl | exact strsAt_new X.drew _ _ rfl
      · simp
      · first | exact (HB7.out.alloc HB7.out.size _).drew | exact HB7.out.drew.alloc HB7.out.size _
      intro W8 HW8
      have HLL := Lib.hid hLl
      have HLS := Lib.hid hLs
      rw [show X.drew.heap.size = X.heap.size from rfl]
      clear hL hLl hLs HSX HK2 HBY HB7 MO HS4 HS5 HS6 HS2
      go_loopw [329] (fun s329 wr => ∃ k2 : Nat, k2 ≤ 7 ∧ s329 = .int .i64 k2 ∧ Hid (StrsAt wr X.heap.size L ∧ X.heap.size < wr.heap.size ∧ Below w.heap.size w wr)) (fun s329 _ => 7 - (intOf s329).toNat)
      case atStart => exact ⟨0, by omega, rfl, HW8⟩
      case round => as_aux_lemma =>
        clear HW8
        obtain ⟨wv, rfl⟩ : ∃ wv : World, wv = wr := ⟨_, rfl⟩
        obtain ⟨k2, hk2, rfl, HR⟩ := hrel
        by_cases hlt2 : k2 < 7
        rotate_left
        · obtain rfl : k2 = 7 := by omega
          have HBW := Lib.hid HR.out.2.2
          clear HR
          go_wp2_with fail
          go_ret
          exact ⟨rfl, HBW.out⟩
        obtain ⟨hst, hxw, hbw⟩ := HR.out
        have hcell := hst k2 (by rw [HLL.out]; exact hlt2)
        have hsz := HLS.out _ (List.getElem_mem (show k2 < L.length by rw [HLL.out]; exact hlt2))
        generalize (L[k2]'(by rw [HLL.out]; exact hlt2)) = x at hcell hsz
        have HST := Lib.hid hst
        have HBW := Lib.hid hbw
        have PX : Hid (Calls Tryz.prog 29 #[.string x] wv (PsrPost wv (resQ (parseP x.data.toList)) (resN (parseP x.data.toList)) (resE (parseP x.data.toList)))) := Lib.hid ((PAG.out wv x hbw (by omega)).mono fun e w' h => psr_of h)
        have PY : Hid (∀ W, Calls Tryz.prog 30 #[.string x] W (PsrPost W (resQ (parseP x.data.toList)) (resN (parseP x.data.toList)) (resE (parseP x.data.toList)))) := Lib.hid (fun W => (PAR.out W x (by omega)).mono fun e w' h => psr_of h)
        have HRO := Lib.hid (resQ_ok x.data.toList)
        generalize resQ (parseP x.data.toList) = rq at PX PY HRO
        generalize resN (parseP x.data.toList) = rn at PX PY
        generalize resE (parseP x.data.toList) = re at PX PY
        unfold PsrPost at PX PY
        have hzv := hbw.size
        clear hst hbw HR PAG PAR
        go_wp2_with fail
        refine (PX.out).mono ?_
        rintro e' w5 ⟨hb5, QA, qc, rfl, hq5⟩
        have HST5 := Lib.hid (HST.out.below hb5 hxw)
        have HB5 := Lib.hid (HBW.out.trans (hb5.mono hzv))
        have HQ5 := Lib.hid hq5
        have hz5 : wv.heap.size ≤ w5.heap.size := hb5.size
        obtain ⟨ql, hql⟩ : ∃ ql, rq.ts.length = ql := ⟨_, rfl⟩
        have HQL := Lib.hid hql
        clear hb5 hq5 PX hcell HST HBW
        go_wp2_with fail
        obtain ⟨W6, hW6⟩ : ∃ W6, w5.alloc (.cells #[.int .i64 rq.v, .slice QA ql qc] 28) = W6 := ⟨_, rfl⟩
        have hbA : Below w5.heap.size w5 W6 := by rw [← hW6]; exact (Below.refl _ _).alloc (Nat.le_refl _) _
        have hkA : Blk W6 w5.heap.size 28 #[.int .i64 rq.v, .slice QA ql qc] := by rw [← hW6]; exact Blk.new _ _ _
        rw [hW6]
        refine (PY.out W6).mono ?_
        rintro e' w7 ⟨hb7, KA, kc, rfl, hk7⟩
        rw [HQL.out]
        have hz6 : wv.heap.size ≤ W6.heap.size := Nat.le_trans hz5 hbA.size
        have hzA : w5.heap.size < w7.heap.size := Nat.lt_of_lt_of_le hkA.lt hb7.size
        obtain ⟨W8, hW8⟩ : ∃ W8, w7.alloc (.cells #[.int .i64 rq.v, .slice KA ql kc] 28) = W8 := ⟨_, rfl⟩
        have hbB : Below w7.heap.size w7 W8 := by rw [← hW8]; exact (Below.refl _ _).alloc (Nat.le_refl _) _
        have hkB : Blk W8 w7.heap.size 28 #[.int .i64 rq.v, .slice KA ql kc] := by rw [← hW8]; exact Blk.new _ _ _
        have hkA8 := (hkA.below hb7 hkA.lt).below hbB hzA
        have x0 := hkA8.cell 0
        have x1 := hkA8.cell 1
        have x2 := hkB.cell 0
        have x3 := hkB.cell 1
        have HST8 : Hid (StrsAt W8 X.heap.size L) := Lib.hid (((HST5.out.below hbA (by omega)).below hb7 (by omega)).below hbB (by omega))
        have hb68 : Below W6.heap.size W6 W8 := hb7.trans (hbB.mono hb7.size)
        have hb58 : Below w5.heap.size w5 W8 := hbA.trans (hb68.mono hbA.size)
        have HB8 : Hid (Below w.heap.size w W8) := Lib.hid (HB5.out.trans (hb58.mono (by omega)))
        have HSM : Hid (Calls Tryz.prog 21 #[.agg #[.int .i64 rq.v, .slice QA ql qc], .agg #[.int .i64 rq.v, .slice KA ql kc]] W8 fun e w' => e = .returned (.bool true) ∧ Below W8.heap.size W8 w') := Lib.hid (rsameP_any rq rq QA KA ql ql qc kc W8 ((HQ5.out.up hbA).up hb68) (hk7.up hbB) HQL.out HQL.out HRO.out true (sameP_self rq))
        have hz8' : X.heap.size < W8.heap.size := by have := hb58.size; omega
        have e1 : (rn != rn) = false := by simp
        have e2 : (re != re) = false := by simp
        clear hbA hkA hb7 hk7 hbB hkB hkA8 hb68 hb58 HST5 HB5 HQ5 PY HRO hW6
        go_wp2_with fail
        (try rw [hW8])
        clear x0 x1 x2 x3 hW8
        refine (HSM.out).mono ?_
        rintro e' w9 ⟨rfl, hb9⟩
        have HST9 : Hid (StrsAt w9 X.heap.size L) := Lib.hid (HST8.out.below hb9 hz8')
        have HB9 : Hid (Below w.heap.size w w9) := Lib.hid (HB8.out.trans (hb9.mono (by have := HB8.out.size; omega)))
        have hz9 : X.heap.size < w9.heap.size := Nat.lt_of_lt_of_le hz8' hb9.size
        clear hb9 HST8 HB8 HSM
        go_wp2_with fail
        go_roundw
        case rel => exact ⟨k2 + 1, by omega, by go_num, Lib.hid ⟨HST9.out, hz9, HB9.out⟩⟩
        case measure => simp [intOf]; omega
    obtain ⟨x, XA, xc, hxo, hx⟩ := SpI.prog (w := w) (b := b) (pb := pb) (ga := ga) (PA := PA) (QA := QA) (RA := RA) (pc := pc) (qc := qc) (rc := rc) (e := e) HPO.out HQO.out HRO.out hlt
    have HXO := Lib.hid hxo
    obtain ⟨c0, c1, hxt⟩ := hx wo HR.out
    have HX0 : Hid (SpX w (wo.alloc (.cells #[.int .i64 x.v, .slice XA x.ts.length xc] 28)) b pb ga p q raw PA QA RA pc qc rc e wo.heap.size x XA xc) := Lib.hid (SpX.mk_ HR.out hxt _ rfl)
    clear hxo hx hxt HR
    go_wp2_with fail
    generalize wo.alloc (.cells #[.int .i64 x.v, .slice XA x.ts.length xc] 28) = W7 at HX0 ⊢
    generalize wo.heap.size = gx at HX0 ⊢
    have HX7 := HX0
    clear HX0 c0 c1
    have TX : Hid (∀ W, SpX w W b pb ga p q raw PA QA RA pc qc rc e gx x XA xc → Calls Tryz.prog 16 #[.agg #[.int .i64 x.v, .slice XA x.ts.length xc]] W (RTextPost W x (checkP x))) := Lib.hid (fun W h => gtext_any x XA _ xc W h.th rfl (HG.out.below h.i.be) HXO.out _ rfl)
    have RT : Hid (∀ W, SpX w W b pb ga p q raw PA QA RA pc qc rc e gx x XA xc → Calls Tryz.prog 17 #[.agg #[.int .i64 x.v, .slice XA x.ts.length xc]] W (RTextPost W x (checkP x))) := Lib.hid (fun W h => rtext_any x XA _ xc W h.th rfl HXO.out _ rfl)
    refine (TX.out _ HX7.out).mono ?_
    rintro e' w8 ⟨hb8, s1, rfl, hs1⟩
    have HX8 := Lib.hid (HX7.out.below hb8)
    clear hb8 HX7 TX
    obtain ⟨x0, x1, -, -⟩ := HX8.out.cells
    go_wp2_with fail
    refine (RT.out _ HX8.out).mono ?_
    rintro e' w9 ⟨hb9, s2, rfl, hs2⟩
    obtain rfl : s2 = s1 := bytes_ext (by rw [hs1, hs2])
    have HX9 := Lib.hid (HX8.out.below hb9)
    clear hb9 HX8 RT hs1 hs2 x0 x1
    obtain ⟨x0, x1, x2, x3⟩ := HX9.out.cells
    have CK : Hid (∀ W, SpX w W b pb ga p q raw PA QA RA pc qc rc e gx x XA xc → Calls Tryz.prog 18 #[.agg #[.int .i64 x.v, .slice XA x.ts.length xc]] W fun e w' => e = .returned (.int .i64 (chkR (checkP x))) ∧ Below W.heap.size W w') := Lib.hid (fun W h => check_any x XA _ xc W h.th rfl (HG.out.below h.i.be) HXO.out _ rfl)
    have RCK : Hid (∀ W, SpX w W b pb ga p q raw PA QA RA pc qc rc e gx x XA xc → Calls Tryz.prog 19 #[.agg #[.int .i64 x.v, .slice XA x.ts.length xc]] W fun e w' => e = .returned (.int .i64 (chkR (checkP x))) ∧ Below W.heap.size W w') := Lib.hid (fun W h => rcheck_any x XA _ xc W h.th rfl HXO.out _ rfl)
    have SMG : Hid (∀ W, SpX w W b pb ga p q raw PA QA RA pc qc rc e gx x XA xc → Calls Tryz.prog 20 #[.agg #[.int .i64 x.v, .slice XA x.ts.length xc], .agg #[.int .i64 p.v, .slice PA p.ts.length pc]] W fun e w' => e = .returned (.bool (sameP x p)) ∧ Below W.heap.size W w') := Lib.hid (fun W h => sameP_any x p XA PA _ _ xc pc W h.th (h.i.tp.more (Nat.le_of_lt h.i.ar.lt)) rfl rfl HXO.out _ rfl)
    have SMR : Hid (∀ W, SpX w W b pb ga p q raw PA QA RA pc qc rc e gx x XA xc → Calls Tryz.prog 21 #[.agg #[.int .i64 x.v, .slice XA x.ts.length xc], .agg #[.int .i64 p.v, .slice PA p.ts.length pc]] W fun e w' => e = .returned (.bool (sameP x p)) ∧ Below W.heap.size W w') := Lib.hid (fun W h => rsameP_any x p XA PA _ _ xc pc W h.th (h.i.tp.more (Nat.le_of_lt h.i.ar.lt)) rfl rfl HXO.out _ rfl)
    generalize sameP x p = sb at SMG SMR
    generalize hce : chkR (checkP x) = ce at CK RCK ⊢
    have e1 : (ce != ce) = false := by simp
    have e2 : (s2.toList != s2.toList) = false := by simp
    have e3 : (sb != sb) = false := by simp
    have KS : Hid (∀ W, SpX w W b pb ga p q raw PA QA RA pc qc rc e gx x XA xc → W.cell? ⟨gx, 0, none⟩ = some (.int .i64 x.v) ∧ W.cell? ⟨gx, 1, none⟩ = some (.slice XA x.ts.length xc) ∧ W.cell? ⟨pb, 0, none⟩ = some (.int .i64 p.v) ∧ W.cell? ⟨pb, 1, none⟩ = some (.slice PA p.ts.length pc)) := Lib.hid (fun W h => h.cells)
    go_upto_region 12 with fail
    go_cut [125] from 102 to 125 (fun s125 wx => s125 = .bool false ∧ Hid (SpX w wx b pb ga p q raw PA QA RA pc qc rc e gx x XA xc))
    case first => as_aux_lemma =>
      have HD9 : Hid (SpX w w9.drew b pb ga p q raw PA QA RA pc qc rc e gx x XA xc) := Lib.hid (HX9.out.drewN 1)
      clear HX9
      go_region_held3 (fun W' => W'.cell? ⟨gx, 0, none⟩ = some (.int .i64 x.v) ∧ W'.cell? ⟨gx, 1, none⟩ = some (.slice XA x.ts.length xc) ∧ W'.cell? ⟨pb, 0, none⟩ = some (.int .i64 p.v) ∧ W'.cell? ⟨pb, 1, none⟩ = some (.slice PA p.ts.length pc))
        (first | (refine KS.out _ ?_; first | exact HD9.out | exact HX10.out | exact HX11.out | exact HX12.out | exact HX13.out))
        (first
          | (go_at_call 18; refine (CK.out _ HD9.out).mono ?_; rintro e' w10 ⟨rfl, hb10⟩; (have HX10 := Lib.hid (HD9.out.below hb10)); clear hb10)
          | (go_at_call 19; refine (RCK.out _ HX10.out).mono ?_; rintro e' w11 ⟨rfl, hb11⟩; (have HX11 := Lib.hid (HX10.out.below hb11)); clear hb11)
          | (go_at_call 20; refine (SMG.out _ HX11.out).mono ?_; rintro e' w12 ⟨rfl, hb12⟩; (have HX12 := Lib.hid (HX11.out.below hb12)); clear hb12)
          | (go_at_call 21; refine (SMR.out _ HX12.out).mono ?_; rintro e' w13 ⟨rfl, hb13⟩; (have HX13 := Lib.hid (HX12.out.below hb13)); clear hb13))
      go_wp2_with fail
      go_meet
      exact ⟨rfl, HX13⟩
    case rest => as_aux_lemma =>
      obtain ⟨wd, rfl⟩ : ∃ wd : World, wd = wc := ⟨_, rfl⟩
      obtain ⟨rfl, hcut⟩ := hcut
      clear HX9 CK RCK SMG SMR KS x0 x1 x2 x3 e1 e2 e3
      obtain ⟨x0, x1, -, -⟩ := hcut.out.cells
      have PLG : Hid (∀ W, SpX w W b pb ga p q raw PA QA RA pc qc rc e gx x XA xc → Calls Tryz.prog 13 #[.agg #[.int .i64 x.v, .slice XA x.ts.length xc]] W (PlacesPost W (placesP x))) := Lib.hid (fun W h => places_any x XA _ xc W h.th rfl (HG.out.below h.i.be) HXO.out)
      have PLR : Hid (∀ W, SpX w W b pb ga p q raw PA QA RA pc qc rc e gx x XA xc → Calls Tryz.prog 22 #[.agg #[.int .i64 x.v, .slice XA x.ts.length xc]] W (PlacesPost W (placesP x))) := Lib.hid (fun W h => rplaces_any x XA _ xc W h.th rfl HXO.out)
      have hpl9 := placesP_le x
      generalize placesP x = ps at PLG PLR hpl9
      obtain ⟨pl, hpl⟩ : ∃ pl, ps.length = pl := ⟨_, rfl⟩
      have HPL := Lib.hid hpl
      rw [hpl] at hpl9
      clear hpl
      have KS : Hid (∀ W, SpX w W b pb ga p q raw PA QA RA pc qc rc e gx x XA xc → W.cell? ⟨gx, 0, none⟩ = some (.int .i64 x.v) ∧ W.cell? ⟨gx, 1, none⟩ = some (.slice XA x.ts.length xc)) := Lib.hid (fun W h => ⟨h.cells.1, h.cells.2.1⟩)
      go_wp2_with fail
      go_cut [25, 26] from 126 to 129 (fun s25 s26 wx => ∃ (FA KA : Option Addr) (fc kc : Nat), s25 = .slice FA pl fc ∧ s26 = .slice KA pl kc ∧ Hid (SpX w wx b pb ga p q raw PA QA RA pc qc rc e gx x XA xc ∧ PlsAt wx wx.heap.size FA ps ∧ PlsAt wx wx.heap.size KA ps))
      case first => as_aux_lemma =>
        have HD9 : Hid (SpX w wd.drew b pb ga p q raw PA QA RA pc qc rc e gx x XA xc) := Lib.hid (hcut.out.drewN 1)
        clear hcut
        go_wp2_with fail
        go_region_held3 (fun W' => W'.cell? ⟨gx, 0, none⟩ = some (.int .i64 x.v) ∧ W'.cell? ⟨gx, 1, none⟩ = some (.slice XA x.ts.length xc))
          (first | (refine KS.out _ ?_; first | exact HD9.out | exact HX10.out | exact HX11.out))
          (first
            | (go_at_call 13; refine (PLG.out _ HD9.out).mono ?_; rintro e' w10 ⟨FA, fc, rfl, hf10, hb10⟩; rw [HPL.out]; (have HX10 := Lib.hid (HD9.out.below hb10)); (have HF10 := Lib.hid hf10); clear hb10 hf10)
            | (go_at_call 22; refine (PLR.out _ HX10.out).mono ?_; rintro e' w11 ⟨KA, kc, rfl, hk11, hb11⟩; rw [HPL.out]; (have HX11 := Lib.hid (HX10.out.below hb11)); (have HK11 := Lib.hid hk11); (have HF11 : Hid (PlsAt w11 w11.heap.size FA ps) := Lib.hid ((Reads.below HF10.out hb11).more hb11.size)); clear hb11 hk11))
        go_wp2_with fail
        go_meet
        exact ⟨FA, KA, fc, kc, rfl, rfl, Lib.hid ⟨HX11.out, HF11.out, HK11.out⟩⟩
      case rest => as_aux_lemma =>
        obtain ⟨FA, KA, fc, kc, rfl, rfl, HP⟩ := hcut
        obtain ⟨we, rfl⟩ : ∃ we : World, we = wc := ⟨_, rfl⟩
        clear PLG PLR KS x0 x1
        have e1 : ((pl : Int) != (pl : Int)) = false := by simp
        go_wp2_with fail
        clear e1
        go_loopw [137] (fun s137 wr => ∃ j r : Nat, j ≤ pl ∧ s137 = .int .i64 j ∧ Hid (wr = we.drewN r)) (fun s137 _ => pl - (intOf s137).toNat)
        case atStart => exact ⟨0, 0, by omega, rfl, Lib.hid rfl⟩
        case round => as_aux_lemma =>
          obtain ⟨j, r, hj, rfl, HQ⟩ := hrel
          have hw := HQ.out
          subst hw
          by_cases hjl : j < pl
          · obtain ⟨ad1, rfl, _, y1, y2⟩ := (PlsAt.at_ (HP.out.2.1) (k := j) (by rw [HPL.out]; exact hjl))
            obtain ⟨ad2, rfl, _, y3, y4⟩ := (PlsAt.at_ (HP.out.2.2) (k := j) (by rw [HPL.out]; exact hjl))
            generalize ((ps[j]'(by rw [HPL.out]; exact hjl)).1 : Int) = u1 at *
            generalize ((ps[j]'(by rw [HPL.out]; exact hjl)).2 : Int) = u2 at *
            have ne := neArr u1 u2 u1 u2
            rw [show (!(u1 == u1 && u2 == u2)) = false by simp] at ne
            have j0 : (0 : Int) ≤ (j : Int) := by omega
            have j1 : (j : Int) < (pl : Int) := by omega
            go_wp2_with fail
            go_quiet (fail)
            go_wp2_with fail
            go_roundw
            case rel => exact ⟨j + 1, _, by omega, by go_num, Lib.hid rfl⟩
            case measure => simp [intOf]; omega
          · obtain rfl : j = pl := by omega
            clear HQ
            have HX := Lib.hid (HP.out.1.drewN r)
            generalize we.drewN r = W8 at HX ⊢
            clear HP HPL
            obtain ⟨x0, x1, -, -⟩ := HX.out.cells
            have BGG : Hid (∀ W, SpX w W b pb ga p q raw PA QA RA pc qc rc e gx x XA xc → Calls Tryz.prog 9 #[.agg #[.int .i64 x.v, .slice XA x.ts.length xc]] W (BeginG W x)) := Lib.hid (fun W h => begin_any x XA _ xc W h.th rfl (HG.out.below h.i.be) HXO.out)
            have BGR : Hid (∀ W, SpX w W b pb ga p q raw PA QA RA pc qc rc e gx x XA xc → Calls Tryz.prog 23 #[.agg #[.int .i64 x.v, .slice XA x.ts.length xc]] W (BeginG W x)) := Lib.hid (fun W h => rbegin_any x XA _ xc W h.th rfl HXO.out)
            have hbl9 : (beginL x).length ≤ 7 := by
              have := placesP_le x
              unfold beginL
              split
              · simp only [startC, List.length_cons, List.length_replicate]; omega
              · simp
            unfold BeginG at BGG BGR
            generalize beginL x = bs at BGG BGR hbl9
            generalize chkR (checkP x) = ce2 at BGG BGR
            obtain ⟨bl, hbl⟩ : ∃ bl, bs.length = bl := ⟨_, rfl⟩
            rw [hbl] at hbl9
            have HBL := Lib.hid hbl
            clear hbl
            go_wp2_with fail
            refine (BGG.out _ HX.out).mono ?_
            rintro e' w10 ⟨GA, gc, rfl, -, hb10⟩
            rw [HBL.out]
            have HX10 := Lib.hid (HX.out.below hb10)
            clear hb10 HX BGG x0 x1
            obtain ⟨x0, x1, -, -⟩ := HX10.out.cells
            go_wp2_with fail
            refine (BGR.out _ HX10.out).mono ?_
            rintro e' w11 ⟨YA, yc, rfl, hy11, hb11⟩
            rw [HBL.out] at hy11 ⊢
            have HX11 := Lib.hid (HX10.out.below hb11)
            have HY11 : Hid (w11.ownsRow (gx + 1) 3 1 (.slice YA bl yc) bl (intVs bs)) := Lib.hid (own_mono hy11 HX10.out.bx.lt)
            have HYL : Hid (∀ k, (Value.slice YA bl yc).ownBlock = some k → k < w11.heap.size) := Lib.hid (fun k h => (hy11.lt k h).2)
            clear hb11 hy11 HX10 BGR x0 x1
            have e1 : ((bl : Int) != (bl : Int)) = false := by simp
            have e2 : (ce2 != ce2) = false := by simp
            obtain ⟨i0, hi0, hz0, hz1, hz2⟩ := info_parts infoInt
            have hgx := HX11.out.bx.lt
            go_upto_region 28 with (at_builtin; go_must (refine wpList_append_any _ rfl _ _ 30 rfl w11.heap.size 3 i0 _ 1 8 Tryz.underlying30 hi0 hz0 hz1 hz2 rfl (by decide) (.slice (some ⟨w11.heap.size, 0, none⟩) 0 0) 0 [] rfl (World.ownsRow_lit w11 #[] 0 (Nat.le_refl _) (by unfold maxLen; omega) rfl) w11.heap.size YA bl yc (intVs bs) rfl (by have := (own_isAt (by rw [HBL.out]; exact HY11.out) : IsAt w11 w11.heap.size YA bs); unfold IsAt at this; rw [HBL.out] at this; exact Reads.below this ((Below.refl _ _).alloc (Nat.le_refl _) _)) (by unfold intVs; intro u hu; obtain ⟨x, _, rfl⟩ := List.mem_map.1 hu; rfl) (by unfold maxLen; omega) (by omega) (by simp) ?_; intro v7 w12 hown7 hgr7 hl7; (rw [Nat.zero_add] at hown7); obtain ⟨SA, sc, rfl⟩ := own_form hown7; (have HO7 := Lib.hid hown7); (have HG7 := Lib.hid hgr7); clear hown7 hgr7 hl7))
            have HX12 : Hid (SpX w w12 b pb ga p q raw PA QA RA pc qc rc e gx x XA xc) := Lib.hid (HX11.out.below (((Below.refl _ _).alloc (Nat.le_refl _) _).trans (below_grownS HG7.out (by simp) (by simp))))
            have HY12 : Hid (w12.ownsRow (gx + 1) 3 1 (.slice YA bl yc) bl (intVs bs)) := Lib.hid ((HY11.out.alloc _).kept HG7.out (by
              rcases hyb : (Value.slice YA bl yc).ownBlock with _ | k
              · exact .inl rfl
              · have h1 := (HY11.out.lt k hyb).1
                have h2 := HX11.out.i.bl
                have h3 := HX11.out.lx
                have h4 := HYL.out k hyb
                exact .inr (fun e => by
                  have e3 : k = w11.heap.size := by simpa [Value.ownBlock] using e
                  omega)))
            obtain ⟨gs, hgs⟩ : ∃ gs, w11.heap.size = gs := ⟨_, rfl⟩
            rw [hgs] at HYL HO7 hgx
            have HS12 : Hid (∃ zs : List Int, zs.length = bl ∧ w12.ownsRow gs 3 1 (.slice SA bl sc) bl (intVs zs)) := Lib.hid ⟨bs, HBL.out, by simpa using HO7.out⟩
            clear HX11 HY11 HO7 HG7 hgs e1 e2 hi0 hz0 hz1 hz2
            go_wp2_with fail
            go_loopw [182] (fun s182 wr => ∃ j : Nat, j ≤ bl ∧ s182 = .int .i64 j ∧ Hid (SpX w wr b pb ga p q raw PA QA RA pc qc rc e gx x XA xc ∧ wr.ownsRow (gx + 1) 3 1 (.slice YA bl yc) bl (intVs bs) ∧ ∃ zs : List Int, zs.length = bl ∧ wr.ownsRow gs 3 1 (.slice SA bl sc) bl (intVs zs))) (fun s182 _ => bl - (intOf s182).toNat)
            case atStart => exact ⟨0, by omega, rfl, Lib.hid ⟨HX12.out, HY12.out, HS12.out⟩⟩
            case round => as_aux_lemma =>
              clear HX12 HY12 HS12
              obtain ⟨wi, rfl⟩ : ∃ wi : World, wi = wr := ⟨_, rfl⟩
              obtain ⟨j, hj, rfl, HR⟩ := hrel
              by_cases hjl : j < bl
              · obtain ⟨hx, hy, zs, hzl, hs⟩ := HR.out
                obtain ⟨g, cap, eS, hg1, -⟩ := hs.form (by omega)
                injection eS with eS1 eS2 eS3
                subst eS1
                subst eS3
                have hbl := hx.i.bl
                have hlx := hx.lx
                have PK : Hid (Calls Tryz.prog 11 #[.pointer (some ⟨b, 0, none⟩), .int .i64 3] wi (PickPost wi b 3)) := Lib.hid (ppick_any _ b hx.i.di 3 (by omega) (by omega))
                have HX := Lib.hid hx
                have HY := Lib.hid hy
                have HS := Lib.hid hs
                have HZ := Lib.hid hzl
                have j0 : (0 : Int) ≤ (j : Int) := by omega
                have j1 : (j : Int) < (bl : Int) := by omega
                clear hx hy hs hzl HR
                go_wp2_with fail
                refine (PK.out).mono ?_
                rintro e' w13 ⟨r, rfl, -, hd13, hg13⟩
                have HX13 := Lib.hid (HX.out.pick hd13 hg13)
                have HY13 : Hid (w13.ownsRow (gx + 1) 3 1 (.slice YA bl yc) bl (intVs bs)) := Lib.hid (HY.out.kept hg13 (by
                  rcases hyb : (Value.slice YA bl yc).ownBlock with _ | k
                  · exact .inl rfl
                  · exact .inr (by have := (HY.out.lt k hyb).1; intro e; injection e with e; omega)))
                have HS13 := Lib.hid (HS.out.kept hg13 (.inr (by simp only [Value.ownBlock]; intro e; injection e with e; omega)))
                have c0 : w13.cell? ⟨g, j, none⟩ = some (.int .i64 (zs.getD j 0)) := by
                  rw [HS13.out.cellAt j (by omega), intVs_get (by rw [HZ.out]; exact hjl)]
                have f0 := HS13.out.frozenAt j
                clear hd13 hg13 HX HY HS PK
                go_wp2_with fail
                have HX14 : Hid (SpX w (w13.setCell ⟨g, j, none⟩ (.int .i64 (r : Int))) b pb ga p q raw PA QA RA pc qc rc e gx x XA xc) := Lib.hid (HX13.out.past ((Below.refl _ _).setCell (by dsimp only; omega) _))
                have HY14 : Hid ((w13.setCell ⟨g, j, none⟩ (.int .i64 (r : Int))).ownsRow (gx + 1) 3 1 (.slice YA bl yc) bl (intVs bs)) := Lib.hid (HY13.out.kept (HS13.out.stored j (.int .i64 (r : Int))).2 (by
                  rcases hyb : (Value.slice YA bl yc).ownBlock with _ | k2
                  · exact .inl rfl
                  · exact .inr (by have := HYL.out k2 hyb; intro e; injection e with e; omega)))
                have HS14 := Lib.hid (HS13.out.stored j (.int .i64 (r : Int))).1
                go_roundw
                case rel => exact ⟨j + 1, by omega, by go_num, Lib.hid ⟨HX14.out, HY14.out, zs.set j (r : Int), by rw [List.length_set]; exact HZ.out, by
                  have := HS14.out
                  rw [show (intVs zs).set j (.int .i64 (r : Int)) = intVs (zs.set j (r : Int)) by simp [intVs]] at this
                  exact this⟩⟩
                case measure => simp [intOf]; omega
              · obtain rfl : bl = j := by omega
                obtain ⟨hx, hy, zs, hzl, hs⟩ := HR.out
                have hyi : IsAt wi wi.heap.size YA bs := own_isAt (by rw [HBL.out]; exact hy)
                have hsi : IsAt wi wi.heap.size SA zs := own_isAt (by rw [hzl]; exact hs)
                have hci := HC6.out _ hx.i
                obtain ⟨W9, hW9⟩ : ∃ W9, wi.alloc (.cells #[.slice YA bl yc, .slice SA bl sc, .slice CA cn cc] 30) = W9 := ⟨_, rfl⟩
                have hb9 : Below wi.heap.size wi W9 := by rw [← hW9]; exact (Below.refl _ _).alloc (Nat.le_refl _) _
                have hk9 : Blk W9 wi.heap.size 30 #[.slice YA bl yc, .slice SA bl sc, .slice CA cn cc] := by rw [← hW9]; exact Blk.new _ _ _
                have FX : Hid (∀ W, Below W9.heap.size W9 W → SpX w W b pb ga p q raw PA QA RA pc qc rc e gx x XA xc) := Lib.hid (fun W h => (hx.below hb9).below h)
                have FV : Hid (∀ i, i < 3 → ∃ (VA : Option Addr) (vn vc : Nat) (vs : List Int), vs.length = vn ∧ vn ≤ 8 ∧ ∀ W, Below W9.heap.size W9 W → W.cell? ⟨wi.heap.size, i, none⟩ = some (.slice VA vn vc) ∧ IsAt W W.heap.size VA vs) := Lib.hid (fun i hi => by
                  have h3 : i = 0 ∨ i = 1 ∨ i = 2 := by omega
                  have hup : ∀ {AA : Option Addr} {ls : List Int} {W : World}, IsAt wi wi.heap.size AA ls → Below W9.heap.size W9 W → IsAt W W.heap.size AA ls := fun h hW => (((h.below hb9).more hb9.size).below hW).more hW.size
                  rcases h3 with rfl | rfl | rfl
                  · exact ⟨YA, bl, yc, bs, HBL.out, by omega, fun W h => ⟨(hk9.below h hk9.lt).cell 0, hup hyi h⟩⟩
                  · exact ⟨SA, bl, sc, zs, hzl, by omega, fun W h => ⟨(hk9.below h hk9.lt).cell 1, hup hsi h⟩⟩
                  · exact ⟨CA, cn, cc, cs, HCL.out, by omega, fun W h => ⟨(hk9.below h hk9.lt).cell 2, hup hci h⟩⟩)
                clear hx hy hzl hs hyi hsi hci hb9 hk9 HR
                have STG : Hid (∀ W v VA vn vc vs, Below W9.heap.size W9 W → IsAt W W.heap.size VA vs → vs.length = vn → vn ≤ 8 → Calls Tryz.prog 10 #[.agg #[.int .i64 x.v, .slice XA x.ts.length xc], .int .i64 v, .slice VA vn vc] W (StepsPost W (stepsP x v vs))) := Lib.hid (fun W v VA vn vc vs h hV hl h8 => steps_any x XA _ xc v VA vn vc vs W (FX.out W h).th rfl (HG.out.below (FX.out W h).i.be) HXO.out hV hl (by omega) _ rfl)
                have STR : Hid (∀ W v VA vn vc vs, Below W9.heap.size W9 W → IsAt W W.heap.size VA vs → vs.length = vn → vn ≤ 8 → Calls Tryz.prog 24 #[.agg #[.int .i64 x.v, .slice XA x.ts.length xc], .int .i64 v, .slice VA vn vc] W (StepsPost W (stepsP x v vs))) := Lib.hid (fun W v VA vn vc vs h hV hl h8 => rsteps_any x XA _ xc v VA vn vc vs W (FX.out W h).th rfl HXO.out hV hl (by omega) _ rfl)
                have DOG : Hid (∀ W v VA vn vc vs z, Below W9.heap.size W9 W → IsAt W W.heap.size VA vs → vs.length = vn → vn ≤ 8 → Calls Tryz.prog 12 #[.agg #[.int .i64 x.v, .slice XA x.ts.length xc], .int .i64 v, .slice VA vn vc, .agg #[.int .i64 z.th, .int .i64 z.ln, .int .i64 z.nu, .int .i64 z.va, .int .i64 z.nx]] W (DoPost W (doP x v vs z))) := Lib.hid (fun W v VA vn vc vs z h hV hl h8 => gdo_any x XA _ xc v VA vn vc vs z W (FX.out W h).th rfl (HG.out.below (FX.out W h).i.be) HXO.out hV hl (by omega))
                have DOR : Hid (∀ W v VA vn vc vs z, Below W9.heap.size W9 W → IsAt W W.heap.size VA vs → vs.length = vn → vn ≤ 8 → Calls Tryz.prog 27 #[.agg #[.int .i64 x.v, .slice XA x.ts.length xc], .int .i64 v, .slice VA vn vc, .agg #[.int .i64 z.th, .int .i64 z.ln, .int .i64 z.nu, .int .i64 z.va, .int .i64 z.nx]] W (DoPost W (doP x v vs z))) := Lib.hid (fun W v VA vn vc vs z h hV hl h8 => rdo_any x XA _ xc v VA vn vc vs z W (FX.out W h).th rfl HXO.out hV hl (by omega))
                have FAG : Hid (∀ W VA vn vc vs, Below W9.heap.size W9 W → IsAt W W.heap.size VA vs → vs.length = vn → Calls Tryz.prog 14 #[.agg #[.int .i64 x.v, .slice XA x.ts.length xc], .slice VA vn vc] W fun e w' => e = .returned (.bool (failsG x vs)) ∧ Below W.heap.size W w') := Lib.hid (fun W VA vn vc vs h hV hl => gfails_any x XA _ xc VA vn vc vs W (FX.out W h).th rfl (HG.out.below (FX.out W h).i.be) HXO.out hV hl)
                have FAR : Hid (∀ W VA vn vc vs, Below W9.heap.size W9 W → IsAt W W.heap.size VA vs → vs.length = vn → Calls Tryz.prog 26 #[.agg #[.int .i64 x.v, .slice XA x.ts.length xc], .slice VA vn vc] W fun e w' => e = .returned (.bool (failsG x vs)) ∧ Below W.heap.size W w') := Lib.hid (fun W VA vn vc vs h hV hl => rfails_any x XA _ xc VA vn vc vs W (FX.out W h).th rfl HXO.out hV hl)
                go_wp2_with fail
                try rw [hW9]
                clear hW9
                generalize wi.heap.size = g4 at FV ⊢
                go_loopw [196] (fun s196 wr => ∃ i : Nat, i ≤ 3 ∧ s196 = .int .i64 i ∧ Hid (Below W9.heap.size W9 wr)) (fun s196 _ => 3 - (intOf s196).toNat)
                case atStart => exact ⟨0, by omega, rfl, Lib.hid (Below.refl _ _)⟩
                case round => as_aux_lemma =>
                  obtain ⟨wq, rfl⟩ : ∃ wq : World, wq = wr := ⟨_, rfl⟩
                  obtain ⟨i, hi, rfl, HBq⟩ := hrel
                  by_cases hil : i < 3
                  rotate_left
                  · obtain rfl : i = 3 := by omega
                    have HXq := Lib.hid (FX.out _ HBq.out).i
                    clear FX FV STG STR DOG DOR FAG FAR HBq
                    go_wp2_with fail
                    go_roundw
                    case rel => exact ⟨k + 1, by omega, by go_num, HXq⟩
                    case measure => simp [intOf]; omega
                  have di : decide ((i : Int) < 3) = true := by simp; omega
                  obtain ⟨VA, vn, vc, vs, hvl, hv8, hv⟩ := FV.out i hil
                  have HV := Lib.hid hv
                  have HVL := Lib.hid hvl
                  have c0 := (hv wq HBq.out).1
                  obtain ⟨WA, hWA⟩ : ∃ WA, wq.alloc (.cells #[.int .i64 value, .int .i64 0, .int .i64 1] 3) = WA := ⟨_, rfl⟩
                  have HBA : Hid (Below W9.heap.size W9 WA) := Lib.hid (by rw [← hWA]; exact HBq.out.alloc HBq.out.size _)
                  have hkA : Blk WA wq.heap.size 3 #[.int .i64 value, .int .i64 0, .int .i64 1] := by rw [← hWA]; exact Blk.new _ _ _
                  have HZ : Hid (∀ m, m < 3 → ∃ v : Int, ∀ W, Below WA.heap.size WA W → W.cell? ⟨wq.heap.size, m, none⟩ = some (.int .i64 v)) := Lib.hid (fun m hm => by
                    have h3 : m = 0 ∨ m = 1 ∨ m = 2 := by omega
                    rcases h3 with rfl | rfl | rfl
                    · exact ⟨value, fun W h => (hkA.below h hkA.lt).cell 0⟩
                    · exact ⟨0, fun W h => (hkA.below h hkA.lt).cell 1⟩
                    · exact ⟨1, fun W h => (hkA.below h hkA.lt).cell 2⟩)
                  clear hv hvl hkA
                  go_wp2_with fail
                  try rw [hWA]
                  clear hWA c0
                  generalize wq.heap.size = g5 at HZ ⊢
                  (try rw [di])
                  clear di
                  go_loopw [203] (fun s203 wr => ∃ m : Nat, m ≤ 3 ∧ s203 = .int .i64 m ∧ Hid (Below WA.heap.size WA wr)) (fun s203 _ => 3 - (intOf s203).toNat)
                  case atStart => exact ⟨0, by omega, rfl, Lib.hid (Below.refl _ _)⟩
                  case round => as_aux_lemma =>
                    obtain ⟨wz, rfl⟩ : ∃ wz : World, wz = wr := ⟨_, rfl⟩
                    obtain ⟨m, hm, rfl, HBz⟩ := hrel
                    have HB9z : Hid (Below W9.heap.size W9 wz) := Lib.hid (HBA.out.trans (HBz.out.mono HBA.out.size))
                    by_cases hml : m < 3
                    rotate_left
                    · obtain rfl : m = 3 := by omega
                      clear FX FV STG STR DOG DOR FAG FAR HBq HV HBz HZ
                      go_wp2_with fail
                      go_roundw
                      case rel => exact ⟨i + 1, by omega, by go_num, HB9z⟩
                      case measure => simp [intOf]; omega
                    have dm : decide ((m : Int) < 3) = true := by simp; omega
                    obtain ⟨v, hv⟩ := HZ.out m hml
                    have c0 := hv wz HBz.out
                    have XP : Hid (∃ q : Nat, q = 0) := Lib.hid ⟨0, rfl⟩
                    clear XP HZ
                    obtain ⟨x0, x1, -, -⟩ := (FX.out _ HB9z.out).cells
                    have hel9 := stepsP_le x v vs
                    have SG : Hid (∀ W, Below W9.heap.size W9 W → Calls Tryz.prog 10 #[.agg #[.int .i64 x.v, .slice XA x.ts.length xc], .int .i64 v, .slice VA vn vc] W (StepsPost W (stepsP x v vs))) := Lib.hid (fun W h => STG.out W v VA vn vc vs h (HV.out W h).2 HVL.out hv8)
                    have SR : Hid (∀ W, Below W9.heap.size W9 W → Calls Tryz.prog 24 #[.agg #[.int .i64 x.v, .slice XA x.ts.length xc], .int .i64 v, .slice VA vn vc] W (StepsPost W (stepsP x v vs))) := Lib.hid (fun W h => STR.out W v VA vn vc vs h (HV.out W h).2 HVL.out hv8)
                    have FG : Hid (∀ W, Below W9.heap.size W9 W → Calls Tryz.prog 14 #[.agg #[.int .i64 x.v, .slice XA x.ts.length xc], .slice VA vn vc] W fun e w' => e = .returned (.bool (failsG x vs)) ∧ Below W.heap.size W w') := Lib.hid (fun W h => FAG.out W VA vn vc vs h (HV.out W h).2 HVL.out)
                    have FR : Hid (∀ W, Below W9.heap.size W9 W → Calls Tryz.prog 26 #[.agg #[.int .i64 x.v, .slice XA x.ts.length xc], .slice VA vn vc] W fun e w' => e = .returned (.bool (failsG x vs)) ∧ Below W.heap.size W w') := Lib.hid (fun W h => FAR.out W VA vn vc vs h (HV.out W h).2 HVL.out)
                    generalize failsG x vs = fb at FG FR
                    unfold StepsPost at SG SR
                    generalize stepsP x v vs = R at SG SR hel9
                    obtain ⟨er, es⟩ := R
                    dsimp only at SG SR hel9
                    obtain ⟨el, hel⟩ : ∃ el, es.length = el := ⟨_, rfl⟩
                    rw [hel] at hel9
                    have HEL := Lib.hid hel
                    clear hel hv
                    go_wp2_with fail
                    refine (SG.out _ HB9z.out).mono ?_
                    rintro e' w15 ⟨EA, ec, rfl, hE, hb15⟩
                    rw [HEL.out]
                    have HB15 : Hid (Below W9.heap.size W9 w15) := Lib.hid (HB9z.out.trans (hb15.mono HB9z.out.size))
                    have HBz15 := Lib.hid hb15
                    have HE := Lib.hid hE
                    clear hb15 hE SG x0 x1 c0
                    obtain ⟨x0, x1, -, -⟩ := (FX.out _ HB15.out).cells
                    go_wp2_with fail
                    refine (SR.out _ HB15.out).mono ?_
                    rintro e' w16 ⟨TA, tc, rfl, hT, hb16⟩
                    rw [HEL.out]
                    have HB16 : Hid (Below W9.heap.size W9 w16) := Lib.hid (HB15.out.trans (hb16.mono HB15.out.size))
                    have HBz16 : Hid (Below wz.heap.size wz w16) := Lib.hid (HBz15.out.trans (hb16.mono HBz15.out.size))
                    have HE16 : Hid (EvsAt w16 w16.heap.size EA es) := Lib.hid ((Reads.below HE.out hb16).more hb16.size)
                    have HT16 := Lib.hid hT
                    have SE : Hid (∀ W, Below w16.heap.size w16 W → Calls Tryz.prog 25 #[.slice EA el ec, .slice TA el tc] W fun e w' => e = .returned (.bool true) ∧ ∃ q, w' = W.drewN q) := Lib.hid (fun W h => rsameEv_any EA TA el el ec tc es es W w16.heap.size w16.heap.size (Reads.below HE16.out h) (Reads.below HT16.out h) HEL.out HEL.out (by omega) _ (sameEvs_self es))
                    clear hb16 hT HE HB15 HBz15 SR x0 x1
                    have e1 : (er != er) = false := by simp
                    have e2 : (fb != fb) = false := by simp
                    have KS : Hid (∀ W, Below W9.heap.size W9 W → W.cell? ⟨gx, 0, none⟩ = some (.int .i64 x.v) ∧ W.cell? ⟨gx, 1, none⟩ = some (.slice XA x.ts.length xc)) := Lib.hid (fun W h => ⟨(FX.out W h).cells.1, (FX.out W h).cells.2.1⟩)
                    go_upto_region 41 with fail
                    go_cut [238] from 221 to 238 (fun s238 wx => s238 = .bool false ∧ Hid (Below w16.heap.size w16 wx))
                    case first => as_aux_lemma =>
                      have HD0 : Hid (Below w16.heap.size w16 w16.drew) := Lib.hid (Below.refl _ _).drew
                      have HD0' : Hid (Below W9.heap.size W9 w16.drew) := Lib.hid HB16.out.drew
                      obtain ⟨x0, x1⟩ := KS.out _ HD0'.out
                      go_wp2_with fail
                      go_region_held3 (fun W' => W'.cell? ⟨gx, 0, none⟩ = some (.int .i64 x.v) ∧ W'.cell? ⟨gx, 1, none⟩ = some (.slice XA x.ts.length xc))
                        (first | (refine KS.out _ ?_; first | exact HD0'.out | exact HD1'.out | exact HD2'.out | exact HD3'.out))
                        (first
                          | (go_at_call 25; refine (SE.out _ HD0.out).mono ?_; rintro e' w17 ⟨rfl, q17, e17⟩; (have HD1 : Hid (Below w16.heap.size w16 w17) := Lib.hid (by rw [e17]; exact below_drewN HD0.out q17)); (have HD1' : Hid (Below W9.heap.size W9 w17) := Lib.hid (by rw [e17]; exact below_drewN HD0'.out q17)); clear e17)
                          | (go_at_call 14; refine (FG.out _ HD1'.out).mono ?_; rintro e' w18 ⟨rfl, hb18⟩; (have HD2 : Hid (Below w16.heap.size w16 w18) := Lib.hid (HD1.out.trans (hb18.mono HD1.out.size))); (have HD2' : Hid (Below W9.heap.size W9 w18) := Lib.hid (HD1'.out.trans (hb18.mono HD1'.out.size))); clear hb18)
                          | (go_at_call 26; refine (FR.out _ HD2'.out).mono ?_; rintro e' w19 ⟨rfl, hb19⟩; (have HD3 : Hid (Below w16.heap.size w16 w19) := Lib.hid (HD2.out.trans (hb19.mono HD2.out.size))); (have HD3' : Hid (Below W9.heap.size W9 w19) := Lib.hid (HD2'.out.trans (hb19.mono HD2'.out.size))); clear hb19))
                      go_wp2_with fail
                      go_meet
                      exact ⟨rfl, HD3⟩
                    case rest => as_aux_lemma =>
                      obtain ⟨rfl, HW⟩ := hcut
                      obtain ⟨w20, rfl⟩ : ∃ w20 : World, w20 = wc := ⟨_, rfl⟩
                      have HB20 : Hid (Below W9.heap.size W9 w20) := Lib.hid (HB16.out.trans (HW.out.mono HB16.out.size))
                      have HBz20 : Hid (Below wz.heap.size wz w20) := Lib.hid (HBz16.out.trans (HW.out.mono HBz16.out.size))
                      have HT20 : Hid (EvsAt w20 w20.heap.size TA es) := Lib.hid ((Reads.below HT16.out HW.out).more HW.out.size)
                      clear HW HE16 HT16 HB16 HBz16 SE FG FR e1 e2 KS HB9z
                      have hev := (FX.out _ HB20.out).i.ev
                      have z0 := hev.cell 0
                      have z1 := hev.cell 1
                      have z2 := hev.cell 2
                      have z3 := hev.cell 3
                      have z4 := hev.cell 4
                      obtain ⟨i1, hi1, hy0, hy1, hy2⟩ := info_parts infoEvent
                      clear hev
                      go_wp2_with (at_builtin; go_must (refine wpList_append_any _ rfl _ _ 34 rfl w20.heap.size 38 i1 _ 5 40 Tryz.underlying34 hi1 hy0 hy1 hy2 rfl (by decide) (.slice (some ⟨w20.heap.size, 0, none⟩) 1 1) 1 [.int .i64 e.th, .int .i64 e.ln, .int .i64 e.nu, .int .i64 e.va, .int .i64 e.nx] rfl (World.ownsRow_lit w20 #[.int .i64 e.th, .int .i64 e.ln, .int .i64 e.nu, .int .i64 e.va, .int .i64 e.nx] 1 (Nat.le_refl _) (by unfold maxLen; omega) rfl) w20.heap.size TA el tc (evCells es) rfl (by have := HT20.out; unfold EvsAt at this; rw [HEL.out] at this; exact Reads.below this ((Below.refl _ _).alloc (Nat.le_refl _) _)) (evCells_one _) (by unfold maxLen; omega) (by omega) (by simp) ?_; intro v7 w21 hown7 hgr7 hl7; obtain ⟨LA, lc, rfl⟩ := own_form hown7; (have HO7 := Lib.hid hown7); (have HG7 := Lib.hid hgr7); clear hown7 hgr7 hl7))
                      have HL21 : Hid (EvsAt w21 w21.heap.size LA (e :: es)) := Lib.hid (by
                        have h := Reads.of_own HO7.out
                        unfold EvsAt
                        rw [show (e :: es).length = 1 + el by rw [List.length_cons, HEL.out, Nat.add_comm]]
                        exact h)
                      have HB20s : Hid (Below w20.heap.size w20 w21) := Lib.hid (((Below.refl _ _).alloc (Nat.le_refl _) _).trans (below_grownS HG7.out (by simp) (by simp)))
                      have HB21 : Hid (Below W9.heap.size W9 w21) := Lib.hid (HB20.out.trans (HB20s.out.mono HB20.out.size))
                      have HBz21 : Hid (Below wz.heap.size wz w21) := Lib.hid (HBz20.out.trans (HB20s.out.mono HBz20.out.size))
                      obtain ⟨wl, hwl⟩ : ∃ wl, 1 + el = wl := ⟨_, rfl⟩
                      have hwn : (e :: es).length = wl := by rw [List.length_cons, HEL.out, ← hwl, Nat.add_comm]
                      obtain ⟨ws, hws⟩ : ∃ ws, e :: es = ws := ⟨_, rfl⟩
                      rw [hws] at HL21 hwn
                      have HWL := Lib.hid hwn
                      have hwl9 : wl ≤ 13 := by omega
                      have HWI : Hid ((1 : Int) + (el : Int) = ((wl : Nat) : Int)) := Lib.hid (by omega)
                      have HWJ := Lib.hid hwl
                      clear hwn hws hwl HO7 HG7 HB20s HB20 HBz20 HT20 z0 z1 z2 z3 z4 hi1 hy0 hy1 hy2
                      (try go_wp2_with fail)
                      rw [HWJ.out, HWI.out]
                      clear HWI HWJ
                      (try rw [dm])
                      clear dm
                      go_loopw [244] (fun s244 wr => ∃ j3 : Nat, j3 ≤ wl ∧ s244 = .int .i64 j3 ∧ Hid (Below w21.heap.size w21 wr)) (fun s244 _ => wl - (intOf s244).toNat)
                      case atStart => exact ⟨0, by omega, rfl, Lib.hid (Below.refl _ _)⟩
                      case round => as_aux_lemma =>
                        obtain ⟨wy, rfl⟩ : ∃ wy : World, wy = wr := ⟨_, rfl⟩
                        obtain ⟨j3, hj3, rfl, HBy⟩ := hrel
                        have HB9y : Hid (Below W9.heap.size W9 wy) := Lib.hid (HB21.out.trans (HBy.out.mono HB21.out.size))
                        have HBzy : Hid (Below wz.heap.size wz wy) := Lib.hid (HBz21.out.trans (HBy.out.mono HBz21.out.size))
                        by_cases hjl : j3 < wl
                        rotate_left
                        · obtain rfl : wl = j3 := by omega
                          clear FX FV STG STR DOG DOR FAG FAR HV HB9y HB21 HBz21 HBy HL21
                          go_wp2_with fail
                          go_roundw
                          case rel => exact ⟨m + 1, by omega, by go_num, Lib.hid (HBz.out.trans (HBzy.out.mono HBz.out.size))⟩
                          case measure => simp [intOf]; omega
                        have dj : decide ((j3 : Int) < (wl : Int)) = true := by simp; omega
                        obtain ⟨ad, rfl, hab, g0, g1, g2, g3, g4⟩ := (EvsAt.at_ (Reads.below HL21.out HBy.out) (k := j3) (by rw [HWL.out]; exact hjl))
                        generalize (ws[j3]'(by rw [HWL.out]; exact hjl)) = z at *
                        obtain ⟨zt, zl, zn, za, zx⟩ := z
                        dsimp only at g0 g1 g2 g3 g4
                        obtain ⟨W22, hW22⟩ : ∃ W22, wy.alloc (.cells #[.int .i64 zt, .int .i64 zl, .int .i64 zn, .int .i64 za, .int .i64 zx] 38) = W22 := ⟨_, rfl⟩
                        have HBy22 : Hid (Below wy.heap.size wy W22) := Lib.hid (by rw [← hW22]; exact (Below.refl _ _).alloc (Nat.le_refl _) _)
                        have HB22 : Hid (Below W9.heap.size W9 W22) := Lib.hid (HB9y.out.trans (HBy22.out.mono HB9y.out.size))
                        have hz22 : Blk W22 wy.heap.size 38 #[.int .i64 zt, .int .i64 zl, .int .i64 zn, .int .i64 za, .int .i64 zx] := by rw [← hW22]; exact Blk.new _ _ _
                        have HZB : Hid (∀ W, Below W22.heap.size W22 W → Blk W wy.heap.size 38 #[.int .i64 zt, .int .i64 zl, .int .i64 zn, .int .i64 za, .int .i64 zx]) := Lib.hid (fun W h => hz22.below h hz22.lt)
                        have z0 := hz22.cell 0
                        have z1 := hz22.cell 1
                        have z2 := hz22.cell 2
                        have z3 := hz22.cell 3
                        have z4 := hz22.cell 4
                        obtain ⟨x0, x1, -, -⟩ := (FX.out _ HB22.out).cells
                        have hdl9 := doP_le x v vs ⟨zt, zl, zn, za, zx⟩
                        have DG : Hid (∀ W, Below W9.heap.size W9 W → Calls Tryz.prog 12 #[.agg #[.int .i64 x.v, .slice XA x.ts.length xc], .int .i64 v, .slice VA vn vc, .agg #[.int .i64 zt, .int .i64 zl, .int .i64 zn, .int .i64 za, .int .i64 zx]] W (DoPost W (doP x v vs ⟨zt, zl, zn, za, zx⟩))) := Lib.hid (fun W h => DOG.out W v VA vn vc vs ⟨zt, zl, zn, za, zx⟩ h (HV.out W h).2 HVL.out hv8)
                        have DR : Hid (∀ W, Below W9.heap.size W9 W → Calls Tryz.prog 27 #[.agg #[.int .i64 x.v, .slice XA x.ts.length xc], .int .i64 v, .slice VA vn vc, .agg #[.int .i64 zt, .int .i64 zl, .int .i64 zn, .int .i64 za, .int .i64 zx]] W (DoPost W (doP x v vs ⟨zt, zl, zn, za, zx⟩))) := Lib.hid (fun W h => DOR.out W v VA vn vc vs ⟨zt, zl, zn, za, zx⟩ h (HV.out W h).2 HVL.out hv8)
                        unfold DoPost at DG DR
                        generalize doP x v vs ⟨zt, zl, zn, za, zx⟩ = R2 at DG DR hdl9
                        obtain ⟨er2, va2, ds⟩ := R2
                        dsimp only at DG DR hdl9
                        obtain ⟨dl, hdl⟩ : ∃ dl, ds.length = dl := ⟨_, rfl⟩
                        rw [hdl] at hdl9
                        have HDL := Lib.hid hdl
                        clear hdl hz22
                        go_wp2_with fail
                        (try rw [hW22])
                        refine (DG.out _ HB22.out).mono ?_
                        rintro e' w23 ⟨D1, dc1, rfl, hd1, hb23⟩
                        rw [HDL.out]
                        have HB23 : Hid (Below W9.heap.size W9 w23) := Lib.hid (HB22.out.trans (hb23.mono HB22.out.size))
                        have HBy23 : Hid (Below wy.heap.size wy w23) := Lib.hid (HBy22.out.trans (hb23.mono HBy22.out.size))
                        have hz23 := HZB.out _ hb23
                        have HD1 := Lib.hid hd1
                        clear hd1 hb23 hW22 x0 x1 z0 z1 z2 z3 z4 g0 g1 g2 g3 g4 DG HZB HB22 HBy22
                        have z0 := hz23.cell 0
                        have z1 := hz23.cell 1
                        have z2 := hz23.cell 2
                        have z3 := hz23.cell 3
                        have z4 := hz23.cell 4
                        obtain ⟨x0, x1, -, -⟩ := (FX.out _ HB23.out).cells
                        clear hz23
                        go_wp2_with fail
                        refine (DR.out _ HB23.out).mono ?_
                        rintro e' w24 ⟨D2, dc2, rfl, hd2, hb24⟩
                        rw [HDL.out]
                        have HBy24 : Hid (Below wy.heap.size wy w24) := Lib.hid (HBy23.out.trans (hb24.mono HBy23.out.size))
                        have HD1' : Hid (IsAt w24 w24.heap.size D1 ds) := Lib.hid ((Reads.below HD1.out hb24).more hb24.size)
                        have HD2 := Lib.hid hd2
                        clear hd2 hb24 x0 x1 z0 z1 z2 z3 z4 DR HD1 HB23 HBy23
                        have e1 : (va2 != va2) = false := by simp
                        have e2 : (er2 != er2) = false := by simp
                        have e3 : ((dl : Int) != (dl : Int)) = false := by simp
                        go_wp2_with fail
                        clear e1 e2 e3
                        (try rw [dj])
                        clear dj
                        go_loopw [283] (fun s283 wr => ∃ j4 r : Nat, j4 ≤ dl ∧ s283 = .int .i64 j4 ∧ Hid (wr = w24.drewN r)) (fun s283 _ => dl - (intOf s283).toNat)
                        case atStart => exact ⟨0, 0, by omega, rfl, Lib.hid rfl⟩
                        case round => as_aux_lemma =>
                          obtain ⟨j4, r, hj4, rfl, HQ⟩ := hrel
                          have hw := HQ.out
                          subst hw
                          by_cases hjl4 : j4 < dl
                          · obtain ⟨ad1, rfl, _, y1⟩ := (IsAt.at_ HD1'.out (k := j4) (by rw [HDL.out]; exact hjl4))
                            obtain ⟨ad2, rfl, _, y2⟩ := (IsAt.at_ HD2.out (k := j4) (by rw [HDL.out]; exact hjl4))
                            generalize (ds[j4]'(by rw [HDL.out]; exact hjl4)) = u1 at *
                            have e1 : (u1 != u1) = false := by simp
                            have j0 : (0 : Int) ≤ (j4 : Int) := by omega
                            have j1 : (j4 : Int) < (dl : Int) := by omega
                            go_wp2_with fail
                            go_quiet (fail)
                            go_wp2_with fail
                            go_roundw
                            case rel => exact ⟨j4 + 1, _, by omega, by go_num, Lib.hid rfl⟩
                            case measure => simp [intOf]; omega
                          · obtain rfl : dl = j4 := by omega
                            clear HQ
                            go_wp2_with fail
                            go_roundw
                            case rel => exact ⟨j3 + 1, by omega, by go_num, Lib.hid (below_drewN (HBy.out.trans (HBy24.out.mono HBy.out.size)) r)⟩
                            case measure => simp [intOf]; omega
end Go.Proofs.YtpkefohcccpncaaGreatDoor
