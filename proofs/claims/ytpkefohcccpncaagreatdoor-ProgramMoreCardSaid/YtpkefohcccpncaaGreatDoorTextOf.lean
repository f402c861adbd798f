/- The text of a line. -/
import Derived.Test.YtpkefohcccpncaaGreatDoorCheck
import Derived.Test.YtpkefohcccpncaaGreatDoorPrgBack
import Derived.Deep.QuietTactic
import Derived.BigQuiet
namespace Go.Proofs.YtpkefohcccpncaaGreatDoor
open Go.RowKit
set_option linter.unusedSimpArgs false
set_option linter.unusedVariables false

theorem append_data (a b : ByteArray) : (a ++ b).data.toList = a.data.toList ++ b.data.toList := by simp
theorem named_len {x : List UInt8} (h : namedL x = true) : x.length ≤ 12 := by
  simp only [namedL, wordL, Bool.and_eq_true, decide_eq_true_eq] at h
  omega
def StrPost (w : World) (l : List UInt8) (e : Ending) (w' : World) : Prop := ∃ s : ByteArray, e = .returned (.string s) ∧ s.data.toList = l ∧ Below w.heap.size w w'
theorem below_boxes {w : World} (a b c : Obj) (n : Nat) : Below w.heap.size w ((((w.alloc a).alloc b).alloc c).drewN n) :=
  below_drewN ((((Below.refl _ _).alloc (Nat.le_refl _) _).alloc (by simp) _).alloc (by simp; omega) _) n
set_option maxHeartbeats 4000000 in
theorem textOf_any (p : Prg) (A : Option Addr) (n c : Nat) (w : World) (hT : ThsAt w w.heap.size A p.ts) (hn : p.ts.length = n) (hn9 : n ≤ 1000000) (hg : GlobP w) (m : Nat) (l : Ln) (hl : LnOk p m l) :
    Calls Tryz.prog 41 #[.agg #[.int .i64 p.v, .slice A n c], .agg #[.int .i64 l.k, .int .i64 l.a, .int .i64 l.n]] w (StrPost w (lineT p l)) := by
  have HL := Lib.hid hl
  have HG := Lib.hid hg
  have HT := Lib.hid hT
  have HN := Lib.hid hn
  have l3 := hg.lt.2.2.1
  have W := hg.wd
  have k1 := hl.k1
  have k7 := hl.k7
  have kn := hl.kn
  have a0 := hl.a0
  have a9 := hl.a9
  obtain ⟨lk, la, lm⟩ := l
  dsimp only at *
  obtain ⟨kk, rfl⟩ : ∃ kk : Nat, lk = kk := ⟨_, kn⟩
  obtain ⟨u, rfl⟩ := Int.eq_ofNat_of_zero_le a0
  simp only [Int.toNat_natCast] at k1 k7
  generalize hpv : p.v = v at *
  have IT : ∀ W : World, Calls Tryz.prog 40 #[.int .i64 (u : Int)] W fun e w' => e = .returned (.string ⟨(Lib.decDigits u).toArray⟩) ∧ w' = W := fun W => Tryz.strconv_Itoa_small u (by omega) W
  have hdl : (Lib.decDigits u).length ≤ 7 := by rw [Lib.decDigits_length]; exact nDigits_le 6 u (by omega)
  have HDT : Hid (Lib.itoa (u : Int) = Lib.decDigits u) := Lib.hid (Lib.itoa_nonneg u)
  have hsz : (⟨(Lib.decDigits u).toArray⟩ : ByteArray).size ≤ 7 := hdl
  obtain ⟨du, hdu⟩ : ∃ du : ByteArray, du = ⟨(Lib.decDigits u).toArray⟩ := ⟨_, rfl⟩
  rw [← hdu] at IT hsz
  have HDU : Hid (du.data.toList = Lib.itoa (u : Int)) := Lib.hid (by rw [hdu, Lib.itoa_nonneg])
  have HIT := Lib.hid IT
  clear IT hdl hdu HDT hpv hl hg hT hn kn a0
  rcases kinds7 k1 k7 with rfl | rfl | rfl | rfl | rfl | rfl | rfl
  · have q0 : w.cell? ⟨0, 2, none⟩ = some (.string ⟨#[115, 101, 116]⟩) := (W 1 (by omega)).1
    have q1 : w.cell? ⟨0, 3, none⟩ = some (.int .i64 1) := (W 1 (by omega)).2
    have HR : Hid (∀ s : ByteArray, s.data.toList = [115, 101, 116, 32] ++ Lib.itoa (u : Int) → s.data.toList = lineT p ⟨((1 : Nat) : Int), u, lm⟩) := Lib.hid (fun s h => h)
    clear W k1 k7
    go_enter Tryz.func41, Tryz.ntmps41
    go_wp2_with fail
    go_quiet ((go_at_call 40; refine Calls.quiet_of_same (HIT.out _)))
    go_wp2
    go_ret
    exact ⟨_, rfl, HR.out _ (by simp only [append_data, HDU.out]; rfl), below_boxes _ _ _ _⟩
  · have q0 : w.cell? ⟨0, 4, none⟩ = some (.string ⟨#[119, 104, 101, 110]⟩) := (W 2 (by omega)).1
    have q1 : w.cell? ⟨0, 5, none⟩ = some (.int .i64 1) := (W 2 (by omega)).2
    have HR : Hid (∀ s : ByteArray, s.data.toList = [119, 104, 101, 110, 32] ++ Lib.itoa (u : Int) → s.data.toList = lineT p ⟨((2 : Nat) : Int), u, lm⟩) := Lib.hid (fun s h => h)
    clear W k1 k7
    go_enter Tryz.func41, Tryz.ntmps41
    go_wp2_with fail
    go_quiet ((go_at_call 40; refine Calls.quiet_of_same (HIT.out _)))
    go_wp2
    go_ret
    exact ⟨_, rfl, HR.out _ (by simp only [append_data, HDU.out]; rfl), below_boxes _ _ _ _⟩
  · have q0 : w.cell? ⟨0, 6, none⟩ = some (.string ⟨#[106, 117, 109, 112]⟩) := (W 3 (by omega)).1
    have q1 : w.cell? ⟨0, 7, none⟩ = some (.int .i64 2) := (W 3 (by omega)).2
    have HR : Hid (∀ s : ByteArray, s.data.toList = [106, 117, 109, 112, 32] ++ Lib.itoa (u : Int) → s.data.toList = lineT p ⟨((3 : Nat) : Int), u, lm⟩) := Lib.hid (fun s h => h)
    clear W k1 k7
    go_enter Tryz.func41, Tryz.ntmps41
    go_wp2_with fail
    go_quiet ((go_at_call 40; refine Calls.quiet_of_same (HIT.out _)))
    go_wp2
    go_ret
    exact ⟨_, rfl, HR.out _ (by simp only [append_data, HDU.out]; rfl), below_boxes _ _ _ _⟩
  · have q0 : w.cell? ⟨0, 8, none⟩ = some (.string ⟨#[109, 97, 121, 98, 101]⟩) := (W 4 (by omega)).1
    have q1 : w.cell? ⟨0, 9, none⟩ = some (.int .i64 2) := (W 4 (by omega)).2
    have HR : Hid (∀ s : ByteArray, s.data.toList = [109, 97, 121, 98, 101, 32] ++ Lib.itoa (u : Int) → s.data.toList = lineT p ⟨((4 : Nat) : Int), u, lm⟩) := Lib.hid (fun s h => h)
    clear W k1 k7
    go_enter Tryz.func41, Tryz.ntmps41
    go_wp2_with fail
    go_quiet ((go_at_call 40; refine Calls.quiet_of_same (HIT.out _)))
    go_wp2
    go_ret
    exact ⟨_, rfl, HR.out _ (by simp only [append_data, HDU.out]; rfl), below_boxes _ _ _ _⟩
  · have q0 : w.cell? ⟨0, 10, none⟩ = some (.string ⟨#[115, 112, 97, 119, 110]⟩) := (W 5 (by omega)).1
    have q1 : w.cell? ⟨0, 11, none⟩ = some (.int .i64 3) := (W 5 (by omega)).2
    obtain ⟨t, ht, hnm⟩ := HL.out.at3 rfl
    obtain ⟨hul, hut⟩ := List.getElem?_eq_some_iff.1 ht
    simp only [Int.toNat_natCast] at hul hut
    have hun : u < n := by rw [← HN.out]; exact hul
    obtain ⟨ad, LA, lc, rfl, hab, h0, h1, hLn⟩ := HT.out.at_ hul
    rw [hut] at h0
    have h0' : ∀ a b c : Obj, (((w.alloc a).alloc b).alloc c).cell? (ad.add (u * 2)) = some (.string t.nm) := fun a b c =>
      ((((Below.refl _ _).alloc (Nat.le_refl _) a).alloc (by simp) b).alloc (by simp; omega) c : Below w.heap.size w _).cell (p := ad.add (u * 2)) (by rw [add_block]; exact hab) |>.trans h0
    have hn12 : t.nm.size ≤ 12 := named_len hnm
    have HR : Hid (∀ s : ByteArray, s.data.toList = [115, 112, 97, 119, 110, 32] ++ t.nm.data.toList → s.data.toList = lineT p ⟨((5 : Nat) : Int), u, lm⟩) := Lib.hid (fun s h => by
      rw [h]
      show _ = kwOf 5 ++ 32 :: ((p.ts[((u : Nat) : Int).toNat]?.map fun t => t.nm.data.toList).getD [])
      rw [ht]; rfl)
    clear W k1 k7 h1 hLn ht hut hul
    generalize t.nm = nm at *
    go_enter Tryz.func41, Tryz.ntmps41
    go_wp2_with fail
    go_quiet (fail)
    go_wp2
    go_ret
    exact ⟨_, rfl, HR.out _ (by simp only [append_data]; rfl), below_boxes _ _ _ _⟩
  · have q0 : w.cell? ⟨0, 12, none⟩ = some (.string ⟨#[115, 116, 111, 112]⟩) := (W 6 (by omega)).1
    have q1 : w.cell? ⟨0, 13, none⟩ = some (.int .i64 0) := (W 6 (by omega)).2
    clear W k1 k7
    go_enter Tryz.func41, Tryz.ntmps41
    go_wp2
    go_ret
    exact ⟨_, rfl, rfl, below_boxes _ _ _ 0⟩
  · have q0 : w.cell? ⟨0, 14, none⟩ = some (.string ⟨#[102, 97, 105, 108]⟩) := (W 7 (by omega)).1
    have q1 : w.cell? ⟨0, 15, none⟩ = some (.int .i64 0) := (W 7 (by omega)).2
    clear W k1 k7
    go_enter Tryz.func41, Tryz.ntmps41
    go_wp2
    go_ret
    exact ⟨_, rfl, rfl, below_boxes _ _ _ 0⟩
end Go.Proofs.YtpkefohcccpncaaGreatDoor
