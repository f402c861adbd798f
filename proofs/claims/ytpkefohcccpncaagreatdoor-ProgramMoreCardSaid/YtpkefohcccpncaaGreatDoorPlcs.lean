/- Places of a program; Begin; both. -/
import Derived.Test.YtpkefohcccpncaaGreatDoorEv
namespace Go.Proofs.YtpkefohcccpncaaGreatDoor
open Go.RowKit
set_option linter.unusedSimpArgs false
set_option linter.unusedVariables false

theorem infoArr2 : (Tryz.prog.info? 56).map (fun i => (i.zero, i.size, i.bytes)) = some (some (.agg #[.int .i64 0, .int .i64 0]), 2, 16) := by kernel_rfl
def PlsAt (w : World) (B : Nat) (A : Option Addr) (ps : List (Nat × Nat)) : Prop := Reads w B 2 A ps.length (plCells ps)
theorem PlsAt.at_ {w : World} {B : Nat} {A : Option Addr} {xs : List (Nat × Nat)} (h : PlsAt w B A xs) {k : Nat} (hk : k < xs.length) :
    ∃ ad, A = some ad ∧ ad.block < B ∧ w.cell? (ad.add (k * 2)) = some (.int .i64 (xs[k].1 : Int)) ∧ w.cell? ⟨(ad.add (k * 2)).block, (ad.add (k * 2)).off + 1, none⟩ = some (.int .i64 (xs[k].2 : Int)) := by
  obtain ⟨ad, e, hb, hc⟩ := h.2 (by omega)
  obtain ⟨h0, h1⟩ := plCells_get xs k hk
  refine ⟨ad, e, hb, hc _ _ h0, ?_⟩
  rw [← add_off ad _ 0]; exact hc _ _ h1
def PlacesPost (w : World) (ps : List (Nat × Nat)) (e : Ending) (w' : World) : Prop := ∃ A c, e = .returned (.slice A ps.length c) ∧ PlsAt w' w'.heap.size A ps ∧ Below w.heap.size w w'
set_option maxRecDepth 100000 in
set_option maxHeartbeats 4000000 in
theorem places_any (p : Prg) (A : Option Addr) (n c : Nat) (w : World) (hT : ThsAt w w.heap.size A p.ts) (hn : p.ts.length = n) (hg : GlobP w) (hok : PrgOk p) :
    Calls Tryz.prog 13 #[.agg #[.int .i64 p.v, .slice A n c]] w (PlacesPost w (placesP p)) := by
  have hn9 := hok.n
  rw [hn] at hn9
  have HOK := Lib.hid hok
  have HT := Lib.hid hT
  have HG := Lib.hid hg
  have HN := Lib.hid hn
  have CK : Hid (∀ o b, checkP p = b → Calls Tryz.prog 18 #[.agg #[.int .i64 p.v, .slice A n c]] (w.alloc o) fun e w' => e = .returned (.int .i64 (chkR b)) ∧ Below (w.alloc o).heap.size (w.alloc o) w') :=
    Lib.hid (fun o b hb => check_any p A n c (w.alloc o) (hT.up ((Below.refl _ _).alloc (Nat.le_refl _) o)) hn (hg.below ((Below.refl _ _).alloc (Nat.le_refl _) o)) hok b hb)
  clear hok hT hg hn
  rcases hb : checkP p with _ | _
  · have CK2 : Hid (∀ o, Calls Tryz.prog 18 #[.agg #[.int .i64 p.v, .slice A n c]] (w.alloc o) fun e w' => e = .returned (.int .i64 47) ∧ Below (w.alloc o).heap.size (w.alloc o) w') := Lib.hid (fun o => CK.out o false hb)
    have HF : Hid (placesP p = []) := Lib.hid (by unfold placesP; rw [hb]; rfl)
    clear hb CK
    generalize p.v = v at *
    go_enter Tryz.func13, Tryz.ntmps13
    go_wp2_with (go_at_call 18; go_must (refine (CK2.out _).mono ?_; rintro e w1 ⟨rfl, hb1⟩; (have HB1 := Lib.hid hb1); clear hb1))
    go_ret
    rw [HF.out]
    refine ⟨none, 0, rfl, Reads.none_, ((Below.refl _ _).alloc (Nat.le_refl _) _).trans (HB1.out.mono (by simp))⟩
  · have CK2 : Hid (∀ o, Calls Tryz.prog 18 #[.agg #[.int .i64 p.v, .slice A n c]] (w.alloc o) fun e w' => e = .returned (.int .i64 0) ∧ Below (w.alloc o).heap.size (w.alloc o) w') := Lib.hid (fun o => CK.out o true hb)
    have HF : Hid (placesP p = plsTo p.ts n) := Lib.hid (by unfold placesP; rw [if_pos hb, HN.out])
    have HL : Hid (∀ k, lenTo p.ts k ≤ 6) := Lib.hid (check_len hb)
    clear hb CK
    generalize hpv : p.v = v at *
    clear hpv
    go_enter Tryz.func13, Tryz.ntmps13
    go_wp2_with (go_at_call 18; go_must (refine (CK2.out _).mono ?_; rintro e w1 ⟨rfl, hb1⟩; (have hq1 : Blk w1 w.heap.size 28 #[.int .i64 v, .slice A n c] := (Blk.new w _ _).below hb1 (by simp)); (have q0 := hq1.cell 0); (have q1 := hq1.cell 1); (have z1 : w.heap.size < w1.heap.size := by have := hb1.size; simp at this; omega); (have HB1 := Lib.hid hb1); clear hb1))
    obtain ⟨i0, hi, hz0, hz1, hz2⟩ := info_parts infoArr2
    go_loopw [3, 14] (fun s3 i wr => ∃ k : Nat, k ≤ n ∧ i = .int .i64 k ∧ Hid (wr.ownsRow w1.heap.size 56 2 s3 (lenTo p.ts k) (plCells (plsTo p.ts k)) ∧ Below w1.heap.size w1 wr)) (fun _ i _ => n - (intOf i).toNat)
    case atStart => exact ⟨0, by omega, rfl, Lib.hid ⟨World.ownsRow_nil _ _ _ _, Below.refl _ _⟩⟩
    case round =>
      obtain ⟨wo, rfl⟩ : ∃ wo : World, wo = wr := ⟨_, rfl⟩
      obtain ⟨k, hk, rfl, HR⟩ := hrel
      obtain ⟨hown, hbw⟩ := HR.out
      have zwo : w1.heap.size ≤ wo.heap.size := hbw.size
      by_cases hlt : k < n
      · have hkp : k < p.ts.length := by rw [HN.out]; exact hlt
        obtain ⟨ad, LA, lc, rfl, hab, h0, h1, hL⟩ := (HT.out.below ((((Below.refl _ _).alloc (Nat.le_refl _) _).trans (HB1.out.mono (by simp))).trans (hbw.mono (by omega)))).at_ hkp
        have HLL := Lib.hid (lsLen_at hkp)
        have h6 := HL.out (k + 1)
        rw [lenTo] at h6
        have hl6 : lsLen p.ts k ≤ 6 := by omega
        generalize ht : p.ts[k]'hkp = t at *
        obtain ⟨nm, ls⟩ := t
        dsimp only at *
        obtain ⟨ln, hln⟩ : ∃ ln, lsLen p.ts k = ln := ⟨_, rfl⟩
        rw [← HLL.out] at h1
        rw [hln] at h1 hl6 h6
        have HLN := Lib.hid hln
        have HOWN := Lib.hid hown
        have HBW := Lib.hid hbw
        clear hln hown hbw ht hL
        go_wp2
        go_loopw [3, 22] (fun s3 i wr => ∃ j : Nat, j ≤ ln ∧ i = .int .i64 j ∧ Hid (wr.ownsRow w1.heap.size 56 2 s3 (lenTo p.ts k + j) (plCells (plsTo p.ts k ++ plsOf k j)) ∧ Below w1.heap.size w1 wr)) (fun _ i _ => ln - (intOf i).toNat)
        case atStart =>
          exact ⟨0, by omega, rfl, Lib.hid ⟨by simpa [plsOf] using HOWN.out.alloc _, HBW.out.alloc (by omega) _⟩⟩
        case round =>
          clear h0 h1 q0 q1
          obtain ⟨j, hj, rfl, HR2⟩ := hrel
          obtain ⟨hown, hbw⟩ := HR2.out
          have zwr : w1.heap.size ≤ wr.heap.size := hbw.size
          have HO2 := Lib.hid hown
          have HB2 := Lib.hid hbw
          clear hown hbw
          by_cases hjl : j < ln
          · go_wp2_with (at_builtin; go_must (refine wpList_append_own _ rfl _ _ 47 rfl w1.heap.size 56 i0 _ 2 16 Tryz.underlying47 hi hz0 hz1 hz2 rfl (by decide) _ _ _ rfl (HO2.out.alloc _) ⟨wr.heap.size, 0, none⟩ 1 1 [.int .i64 (k : Int), .int .i64 (j : Int)] rfl rfl (cells_new_list wr _ _) (by simp [Value.oneCell']) (by unfold maxLen; omega) (by omega) (by simp; omega) ?_; intro v7 w7 hown7 hgr7 _; obtain ⟨A7, c7, rfl⟩ := own_form hown7; (have HO7 := Lib.hid hown7); (have HG7 := Lib.hid hgr7); clear hown7 hgr7))
            have HREL : Hid (w7.ownsRow w1.heap.size 56 2 (.slice A7 (lenTo p.ts k + j + 1) c7) (lenTo p.ts k + (j + 1)) (plCells (plsTo p.ts k ++ plsOf k (j + 1))) ∧ Below w1.heap.size w1 w7) := Lib.hid (by
              refine ⟨?_, below_own (HB2.out.alloc (by omega) _) (HO2.out.alloc _) HG7.out (by simp; omega)⟩
              have := HO7.out
              rw [plsOf_succ, ← List.append_assoc, plCells_append]
              exact this)
            go_roundw
            case rel => exact ⟨j + 1, by omega, by go_num, HREL⟩
            case measure => simp [intOf]; omega
          · obtain rfl : j = ln := by omega
            have HREL : Hid (∀ s, wr.ownsRow w1.heap.size 56 2 s (lenTo p.ts k + j) (plCells (plsTo p.ts k ++ plsOf k j)) → wr.ownsRow w1.heap.size 56 2 s (lenTo p.ts (k + 1)) (plCells (plsTo p.ts (k + 1)))) := Lib.hid (fun s h => by
              rw [lenTo, plsTo, HLN.out]; exact h)
            go_wp2
            go_roundw
            case rel => exact ⟨k + 1, by omega, by go_num, Lib.hid ⟨HREL.out _ HO2.out, HB2.out⟩⟩
            case measure => simp [intOf]; omega
      · obtain rfl : k = n := by omega
        obtain ⟨A3, c3, rfl⟩ := own_form hown
        have HOWN := Lib.hid hown
        have HBW := Lib.hid hbw
        clear hown hbw
        go_wp2
        go_ret
        rw [HF.out]
        refine ⟨A3, c3, (by rw [plsTo_length]; rfl), ?_, (((Below.refl _ _).alloc (Nat.le_refl _) _).trans (HB1.out.mono (by simp))).trans (HBW.out.mono (by omega))⟩
        have := HOWN.out
        rw [← plsTo_length] at this
        exact Reads.of_own this
end Go.Proofs.YtpkefohcccpncaaGreatDoor
