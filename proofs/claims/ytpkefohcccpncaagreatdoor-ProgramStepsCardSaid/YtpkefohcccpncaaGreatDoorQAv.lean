/- maker, and what is known of its program. The sanity check. The programs that the dice make, as plain data: they are checked. What stands in memory while the dice make a program. Dice: numbers from a list of seeds. -/
import Derived.Test.YtpkefohcccpncaaGreatDoorQAs
import Derived.Test.YtpkefohcccpncaaGreatDoorQAo
import Derived.Test.YtpkefohcccpncaaGreatDoorQAg
import Derived.Deep.RegionHeld3
import Derived.Test.YtpkefohcccpncaaGreatDoorQAa
import Derived.Test.YtpkefohcccpncaaGreatDoorQAi
namespace Go.Proofs.YtpkefohcccpncaaGreatDoor
open Go.RowKit
set_option linter.unusedSimpArgs false
set_option linter.unusedVariables false

def mkMain : ByteArray := ⟨#[109, 97, 105, 110]⟩
def mkA : ByteArray := ⟨#[97]⟩
def mkTs : List Th := [⟨mkMain, [⟨5, 1, 3⟩, ⟨3, 0, 4⟩]⟩, ⟨mkA, [⟨6, 0, 7⟩]⟩]
def mkP : Prg := ⟨1, mkTs⟩
theorem mk_check : checkP mkP = true := by decide
theorem mk_ok : PrgOk mkP := ⟨by decide, by
  intro t ht
  have : t = ⟨mkMain, [⟨5, 1, 3⟩, ⟨3, 0, 4⟩]⟩ ∨ t = ⟨mkA, [⟨6, 0, 7⟩]⟩ := by simpa [mkP, mkTs] using ht
  rcases this with rfl | rfl
  · exact ⟨by simp, by show (4 : Nat) ≤ _; omega⟩
  · exact ⟨by simp, by show (1 : Nat) ≤ _; omega⟩⟩
theorem reads_blk {W : World} {g : Nat} {t : TypeId} {cs : Array Value} {B size n : Nat} (h : Blk W g t cs) (hg : g < B) (hl : cs.toList.length = n * size) : Reads W B size (some ⟨g, 0, none⟩) n cs.toList := by
  refine ⟨hl, fun _ => ⟨_, rfl, hg, fun j u hu => ?_⟩⟩
  have e : ((⟨g, 0, none⟩ : Addr).add j) = ⟨g, j, none⟩ := by
    unfold Addr.add
    by_cases h0 : j = 0 <;> simp [h0]
  rw [e, h.cell j]
  simpa using hu
def MakerPost (w : World) (e : Ending) (w' : World) : Prop := ∃ A, e = .returned (.agg #[.int .i64 1, .slice A 2 2]) ∧ ThsAt w' w'.heap.size A mkTs ∧ Below w.heap.size w w'
theorem mk_ths {W : World} {g l1 l2 B : Nat} (h : Blk W g 45 #[.string mkMain, .slice (some ⟨l1, 0, none⟩) 2 2, .string mkA, .slice (some ⟨l2, 0, none⟩) 1 1]) (h1 : Blk W l1 42 #[.int .i64 5, .int .i64 1, .int .i64 3, .int .i64 3, .int .i64 0, .int .i64 4]) (h2 : Blk W l2 42 #[.int .i64 6, .int .i64 0, .int .i64 7])
    (hg : g < B) (b1 : l1 < B) (b2 : l2 < B) : ThsAt W B (some ⟨g, 0, none⟩) mkTs := by
  refine ⟨[.slice (some ⟨l1, 0, none⟩) 2 2, .slice (some ⟨l2, 0, none⟩) 1 1], rfl, reads_blk (n := 2) h hg rfl, fun k hk hk' => ?_⟩
  have : k = 0 ∨ k = 1 := by simp [mkTs] at hk; omega
  rcases this with rfl | rfl
  · exact ⟨some ⟨l1, 0, none⟩, 2, rfl, reads_blk (n := 2) h1 b1 rfl⟩
  · exact ⟨some ⟨l2, 0, none⟩, 1, rfl, reads_blk (n := 1) h2 b2 rfl⟩
set_option maxHeartbeats 1000000 in
theorem maker_any (w : World) : Calls Tryz.prog 31 #[] w (MakerPost w) := by
  go_enter Tryz.func31, Tryz.ntmps31
  go_wp2
  have b0 : Blk ((((w.alloc (.cells #[.int .i64 1, .slice (some ⟨w.heap.size + 1 + 1 + 1, 0, none⟩) 2 2] 28)).alloc (.cells #[.int .i64 5, .int .i64 1, .int .i64 3, .int .i64 3, .int .i64 0, .int .i64 4] 42)).alloc (.cells #[.int .i64 6, .int .i64 0, .int .i64 7] 42)).alloc (.cells #[.string mkMain, .slice (some ⟨w.heap.size + 1, 0, none⟩) 2 2, .string mkA, .slice (some ⟨w.heap.size + 1 + 1, 0, none⟩) 1 1] 45)) w.heap.size 28 #[.int .i64 1, .slice (some ⟨w.heap.size + 1 + 1 + 1, 0, none⟩) 2 2] := (((Blk.new w _ _).alloc _).alloc _).alloc _
  have b1 : ∀ o0 o2 o3, Blk ((((w.alloc o0).alloc (.cells #[.int .i64 5, .int .i64 1, .int .i64 3, .int .i64 3, .int .i64 0, .int .i64 4] 42)).alloc o2).alloc o3) (w.heap.size + 1) 42 #[.int .i64 5, .int .i64 1, .int .i64 3, .int .i64 3, .int .i64 0, .int .i64 4] := fun o0 o2 o3 => by
    have := ((Blk.new (w.alloc o0) 42 #[.int .i64 5, .int .i64 1, .int .i64 3, .int .i64 3, .int .i64 0, .int .i64 4]).alloc o2).alloc o3
    simpa only [World.size_alloc] using this
  have b2 : ∀ o0 o1 o3, Blk ((((w.alloc o0).alloc o1).alloc (.cells #[.int .i64 6, .int .i64 0, .int .i64 7] 42)).alloc o3) (w.heap.size + 1 + 1) 42 #[.int .i64 6, .int .i64 0, .int .i64 7] := fun o0 o1 o3 => by
    have := (Blk.new ((w.alloc o0).alloc o1) 42 #[.int .i64 6, .int .i64 0, .int .i64 7]).alloc o3
    simpa only [World.size_alloc] using this
  have b3 : ∀ o0 o1 o2 cs, Blk ((((w.alloc o0).alloc o1).alloc o2).alloc (.cells cs 45)) (w.heap.size + 1 + 1 + 1) 45 cs := fun o0 o1 o2 cs => by
    have := Blk.new (((w.alloc o0).alloc o1).alloc o2) 45 cs
    simpa only [World.size_alloc] using this
  refine bodyPost_ret (results_cell_row (p := 0) (ty := 28) rfl _ _ w.heap.size 28 _ (0, 0) _ rfl b0 Tryz.underlying28 rfl (by kernel_rfl)) rfl ?_
  exact ⟨_, rfl, mk_ths (b3 _ _ _ _) (b1 _ _ _) (b2 _ _ _) (by simp) (by simp <;> omega) (by simp <;> omega), ((((Below.refl _ _).alloc (Nat.le_refl _) _).alloc (by simp) _).alloc (by simp; omega) _).alloc (by simp; omega) _⟩
end Go.Proofs.YtpkefohcccpncaaGreatDoor
namespace Go.Proofs.YtpkefohcccpncaaGreatDoor
open Go.RowKit
set_option linter.unusedSimpArgs false
set_option linter.unusedVariables false

def mkTxt : ByteArray := ⟨#[118, 97, 108, 117, 101, 115, 32, 49, 10, 116, 104, 114, 101, 97, 100, 32, 109, 97, 105, 110, 10, 115, 112, 97, 119, 110, 32, 97, 10, 106, 117, 109, 112, 32, 48, 10, 101, 110, 100, 10, 116, 104, 114, 101, 97, 100, 32, 97, 10, 115, 116, 111, 112, 10, 101, 110, 100, 10]⟩
theorem mk_parse : parseP mkTxt.data.toList = .inr mkP := by kernel_rfl
theorem mk_text : textP mkP = mkTxt.data.toList := by kernel_rfl
theorem mk_steps : stepsP mkP 0 (startC (placesP mkP).length) = (0, [⟨0, 0, 3, 0, 1⟩]) := by kernel_rfl
theorem mk_places : (placesP mkP).length = 3 := by kernel_rfl
set_option maxRecDepth 100000 in
set_option maxHeartbeats 4000000 in
theorem sane_any (w : World) (hg : GlobP w) : Calls Tryz.prog 6 #[] w fun e w' => e = .returned (.bool true) ∧ Below w.heap.size w w' := by
  have HG := Lib.hid hg
  clear hg
  have MK : Hid (∀ W, Calls Tryz.prog 31 #[] W (MakerPost W)) := Lib.hid maker_any
  have TX : Hid (∀ W A, Below w.heap.size w W → ThsAt W W.heap.size A mkTs → Calls Tryz.prog 16 #[.agg #[.int .i64 1, .slice A 2 2]] W (fun e w' => Below W.heap.size W w' ∧ ∃ s : ByteArray, e = .returned (.tuple #[.string s, .int .i64 0]) ∧ s.data.toList = textP mkP)) := Lib.hid (fun W A h hT => (text_any mkP A 2 2 W hT rfl (HG.out.below h) mk_ok true mk_check).mono fun e w' ⟨hb, s, he, hs⟩ => ⟨hb, s, he, hs rfl⟩)
  have PA : Hid (∀ W, Below w.heap.size w W → Calls Tryz.prog 29 #[.string mkTxt] W (fun e w' => Below W.heap.size W w' ∧ ∃ A c, e = .returned (.tuple #[.agg #[.int .i64 1, .slice A 2 c], .int .i64 0, .int .i64 0]) ∧ ThsAt w' w'.heap.size A mkTs)) := Lib.hid (fun W h => by
    have := parse_any mkTxt W (by decide) (HG.out.below h)
    rw [mk_parse] at this
    exact this)
  have BG : Hid (∀ W A, Below w.heap.size w W → ThsAt W W.heap.size A mkTs → Calls Tryz.prog 9 #[.agg #[.int .i64 1, .slice A 2 2]] W (BeginPost W [1, 0, 0])) := Lib.hid (fun W A h hT => by
    have := begin_ok mkP A 2 2 W hT rfl (HG.out.below h) mk_ok mk_check
    rw [mk_places] at this
    exact this)
  have ST : Hid (∀ W A CA cc, Below w.heap.size w W → ThsAt W W.heap.size A mkTs → IsAt W W.heap.size CA [1, 0, 0] → Calls Tryz.prog 10 #[.agg #[.int .i64 1, .slice A 2 2], .int .i64 0, .slice CA 3 cc] W (StepsPost W (0, [⟨0, 0, 3, 0, 1⟩]))) := Lib.hid (fun W A CA cc h hT hC =>
    steps_any mkP A 2 2 0 CA 3 cc [1, 0, 0] W hT rfl (HG.out.below h) mk_ok hC rfl (by omega) _ mk_steps)
  go_enter Tryz.func6, Tryz.ntmps6
  go_wp2_with fail
  refine (MK.out _).mono ?_
  rintro e w1 ⟨M1, rfl, hm1, hb1⟩
  have HM1 := Lib.hid hm1
  have HB1 := Lib.hid hb1
  clear hm1 hb1
  go_wp2_with fail
  refine (TX.out _ M1 HB1.out HM1.out).mono ?_
  rintro e w2 ⟨hb2, ts, rfl, hts⟩
  obtain rfl : ts = mkTxt := bytes_ext (by rw [hts]; exact mk_text)
  have HB2 := Lib.hid (HB1.out.trans (hb2.mono HB1.out.size))
  clear hb2 hts HB1 HM1
  go_wp2_with fail
  refine (PA.out _ HB2.out).mono ?_
  rintro e w3 ⟨hb3, A3, c3, rfl, hp3⟩
  have HB3 := Lib.hid (HB2.out.trans (hb3.mono HB2.out.size))
  have HP3 := Lib.hid hp3
  have hz3 : w.heap.size ≤ w3.heap.size := HB3.out.size
  clear hb3 hp3 HB2
  go_wp2_with fail
  refine (MK.out _).mono ?_
  rintro e w4 ⟨M4, rfl, hm4, hb4⟩
  have HM4 := Lib.hid hm4
  have HP4 : Hid (ThsAt w4 w4.heap.size A3 mkTs ∧ Below w.heap.size w w4 ∧ Blk w4 w3.heap.size 28 #[.int .i64 1, .slice A3 2 c3]) := Lib.hid ⟨(HP3.out.up ((Below.refl _ _).alloc (Nat.le_refl _) _)).up hb4, (HB3.out.alloc hz3 _).trans (hb4.mono (by simp; omega)), (Blk.new w3 _ _).below hb4 (by simp)⟩
  clear hm4 hb4 HP3 HB3
  go_wp2_with fail
  refine (BG.out _ M4 HP4.out.2.1 HM4.out).mono ?_
  rintro e w5 ⟨CA, cc, rfl, hc5, hb5⟩
  have HC5 := Lib.hid hc5
  have HP5 : Hid (ThsAt w5 w5.heap.size A3 mkTs ∧ Below w.heap.size w w5 ∧ Blk w5 w3.heap.size 28 #[.int .i64 1, .slice A3 2 c3]) := Lib.hid ⟨HP4.out.1.up hb5, HP4.out.2.1.trans (hb5.mono HP4.out.2.1.size), HP4.out.2.2.below hb5 HP4.out.2.2.lt⟩
  clear hc5 hb5 HP4 HM4
  go_wp2_with fail
  refine (MK.out _).mono ?_
  rintro e w6 ⟨M6, rfl, hm6, hb6⟩
  have HM6 := Lib.hid hm6
  have HC6 : Hid (IsAt w6 w6.heap.size CA [1, 0, 0]) := Lib.hid ((HC5.out.below hb6).more hb6.size)
  have HP6 : Hid (ThsAt w6 w6.heap.size A3 mkTs ∧ Below w.heap.size w w6 ∧ Blk w6 w3.heap.size 28 #[.int .i64 1, .slice A3 2 c3]) := Lib.hid ⟨HP5.out.1.up hb6, HP5.out.2.1.trans (hb6.mono HP5.out.2.1.size), HP5.out.2.2.below hb6 HP5.out.2.2.lt⟩
  clear hm6 hb6 HP5 HC5
  go_wp2_with fail
  refine (ST.out _ M6 CA cc HP6.out.2.1 HM6.out HC6.out).mono ?_
  rintro e w7 ⟨EA, ec, rfl, he7, hb7⟩
  have HE7 := Lib.hid he7
  have HP7 : Hid (ThsAt w7 w7.heap.size A3 mkTs ∧ Below w.heap.size w w7 ∧ Blk w7 w3.heap.size 28 #[.int .i64 1, .slice A3 2 c3]) := Lib.hid ⟨HP6.out.1.up hb7, HP6.out.2.1.trans (hb7.mono HP6.out.2.1.size), HP6.out.2.2.below hb7 HP6.out.2.2.lt⟩
  clear he7 hb7 HP6 HM6 HC6
  go_wp2_with fail
  have hq0 := HP7.out.2.2.cell 0
  have hq1 := HP7.out.2.2.cell 1
  obtain ⟨ea, rfl, hab, hcell⟩ := HE7.out.2 (by decide)
  have hnx := hcell 4 (.int .i64 1) rfl
  rw [add_off ea 0 3, show ea.add 0 = ea from by simp [Addr.add]] at hnx
  clear hcell HE7
  have SM : Hid (∀ W M, Below w7.heap.size w7 W → ThsAt W W.heap.size M mkTs → Calls Tryz.prog 20 #[.agg #[.int .i64 1, .slice A3 2 c3], .agg #[.int .i64 1, .slice M 2 2]] W fun e w' => e = .returned (.bool true) ∧ Below W.heap.size W w') := Lib.hid (fun W M h hM =>
    sameP_any mkP mkP A3 M 2 2 c3 2 W (HP7.out.1.up h) hM rfl rfl mk_ok true (sameP_self mkP))
  have hs2 : (mkTxt.toList == ([118, 97, 108, 117, 101, 115, 32, 49, 10, 116, 104, 114, 101, 97, 100, 32, 109, 97, 105, 110, 10, 115, 112, 97, 119, 110, 32, 97, 10, 106, 117, 109, 112, 32, 48, 10, 101, 110, 100, 10, 116, 104, 114, 101, 97, 100, 32, 97, 10, 115, 116, 111, 112, 10, 101, 110, 100, 10] : List UInt8)) = true := by kernel_rfl
  have HL3 : Hid (w3.heap.size < w7.heap.size) := Lib.hid HP7.out.2.2.lt
  have HQ : Hid (∀ W, Below w7.heap.size w7 W → W.cell? ⟨w3.heap.size, 0, none⟩ = some (.int .i64 1) ∧ W.cell? ⟨w3.heap.size, 1, none⟩ = some (.slice A3 2 c3) ∧ W.cell? ⟨ea.block, ea.off + 4, none⟩ = some (.int .i64 1)) := Lib.hid (fun W h => ⟨(h.cell (p := ⟨w3.heap.size, 0, none⟩) HL3.out).trans hq0, (h.cell (p := ⟨w3.heap.size, 1, none⟩) HL3.out).trans hq1, (h.cell (p := ⟨ea.block, ea.off + 4, none⟩) hab).trans hnx⟩)
  go_region_held3 (fun w' => w'.cell? ⟨w3.heap.size, 0, none⟩ = some (.int .i64 1) ∧ w'.cell? ⟨w3.heap.size, 1, none⟩ = some (.slice A3 2 c3) ∧ w'.cell? ⟨ea.block, ea.off + 4, none⟩ = some (.int .i64 1)) (first | go_keep | exact HQ.out _ HB8.out | exact HQ.out _ HB9.out)
    (first
      | (go_at_call 31; refine (MK.out _).mono ?_; rintro e w8 ⟨M8, rfl, hm8, hb8⟩; (have HM8 := Lib.hid hm8); (have HB8 : Hid (Below w7.heap.size w7 w8) := Lib.hid ⟨hb8.os, hb8.tape, hb8.output, hb8.size, hb8.block⟩); clear hm8 hb8)
      | (go_at_call 20; refine (SM.out _ M8 HB8.out HM8.out).mono ?_; rintro e w9 ⟨rfl, hb9⟩; (have HB9 : Hid (Below w7.heap.size w7 w9) := Lib.hid (HB8.out.trans (hb9.mono HB8.out.size))); clear hb9))
  go_wp2
  go_ret
  exact ⟨rfl, HP7.out.2.1.trans (HB9.out.mono HP7.out.2.1.size)⟩
end Go.Proofs.YtpkefohcccpncaaGreatDoor
namespace Go.Proofs.YtpkefohcccpncaaGreatDoor
open Go.RowKit
set_option linter.unusedSimpArgs false
set_option linter.unusedVariables false

def mostD (v cnt nT : Int) (k : Nat) : Int := if argOf k = 1 then v else if argOf k = 2 then cnt else if argOf k = 3 then nT else 1
structure LnGood (v cnt nT : Int) (num : Nat) (l : Ln) : Prop where
  k1 : 1 ≤ l.k
  k7 : l.k ≤ 7
  a0 : 0 ≤ l.a
  a1 : l.a < mostD v cnt nT l.k.toNat
  n : l.n = (num : Int)
/-- lines made behind a line with number num -/
def LnsGood (v cnt nT : Int) : Nat → List Ln → Prop
  | _, [] => True
  | num, l :: r => LnGood v cnt nT (num + 1) l ∧ LnsGood v cnt nT (num + 1) r
theorem LnsGood.snoc {v cnt nT : Int} : ∀ {ls : List Ln} {num : Nat} {l : Ln}, LnsGood v cnt nT num ls → LnGood v cnt nT (num + ls.length + 1) l → LnsGood v cnt nT num (ls ++ [l]) := by
  intro ls
  induction ls with
  | nil => intro num l _ h2; exact ⟨h2, trivial⟩
  | cons x xs ih =>
    intro num l h1 h2
    refine ⟨h1.1, ih h1.2 ?_⟩
    rw [show num + 1 + xs.length + 1 = num + (x :: xs).length + 1 from by simp; omega]
    exact h2
def dname (k : Nat) : ByteArray := if k = 0 then ⟨#[109, 97, 105, 110]⟩ else ⟨#[119, 111, 114, 107]⟩
structure ThGood (v nT : Int) (num k : Nat) (t : Th) : Prop where
  nm : t.nm = dname k
  l1 : 1 ≤ t.ls.length
  l3 : t.ls.length ≤ 3
  ls : LnsGood v t.ls.length nT (num + 1) t.ls
/-- threads made, the first with name k, behind a line with number num -/
def ThsGood (v nT : Int) : Nat → Nat → List Th → Prop
  | _, _, [] => True
  | num, k, t :: r => ThGood v nT num k t ∧ ThsGood v nT (num + t.ls.length + 2) (k + 1) r
theorem ThsGood.snoc {v nT : Int} : ∀ {ts : List Th} {num k : Nat} {t : Th}, ThsGood v nT num k ts → ThGood v nT (num + lensum ts + 2 * ts.length) (k + ts.length) t → ThsGood v nT num k (ts ++ [t]) := by
  intro ts
  induction ts with
  | nil => intro num k t _ h2; exact ⟨by simpa [lensum] using h2, trivial⟩
  | cons x xs ih =>
    intro num k t h1 h2
    refine ⟨h1.1, ih h1.2 ?_⟩
    rw [show num + x.ls.length + 2 + lensum xs + 2 * xs.length = num + lensum (x :: xs) + 2 * (x :: xs).length from by simp [lensum]; omega, show k + 1 + xs.length = k + (x :: xs).length from by simp; omega]
    exact h2
theorem okLines_good {p : Prg} {t : Th} : ∀ {ls : List Ln} {num : Nat}, LnsGood p.v t.ls.length p.ts.length num ls → okLines p t num ls = true := by
  intro ls
  induction ls with
  | nil => intro num _; rfl
  | cons x xs ih =>
    intro num h
    obtain ⟨h1, h2⟩ := h
    rw [okLines, ih h2, Bool.and_true]
    have e : mostP p t x.k.toNat = mostD p.v t.ls.length p.ts.length x.k.toNat := rfl
    simp only [okLine, Bool.and_eq_true, decide_eq_true_eq]
    exact ⟨⟨⟨⟨h1.k1, h1.k7⟩, h1.a0⟩, by rw [e]; exact h1.a1⟩, h1.n⟩
theorem dname_named (k : Nat) : namedL (dname k).data.toList = true := by
  unfold dname; split <;> decide
theorem check_good {p : Prg} (v1 : 1 ≤ p.v) (v2 : p.v ≤ 2) (h1 : 1 ≤ p.ts.length) (h2 : p.ts.length ≤ 2) (h : ThsGood p.v p.ts.length 1 0 p.ts) : checkP p = true := by
  have hd : decide (1 ≤ p.v) = true ∧ decide (p.v ≤ 8) = true ∧ decide (p.ts.length ≠ 0) = true := by
    refine ⟨by simpa using v1, by simp; omega, by simp; intro e; rw [e] at h1; simp at h1⟩
  unfold checkP
  rw [hd.1, hd.2.1, hd.2.2, Bool.true_and, Bool.true_and, Bool.true_and]
  obtain ⟨v, ts⟩ := p
  have okt : ∀ (c num k : Nat) (ns : List (List UInt8)) (t : Th), c ≤ 3 → ThGood v ts.length num k t → ns.contains (dname k).data.toList = false → okTh ⟨v, ts⟩ c num ns t = true := by
    intro c num k ns t hc ht hns
    have := ht.l1
    have := ht.l3
    have e1 := okLines_good (p := ⟨v, ts⟩) (t := t) ht.ls
    simp only [okTh, Bool.and_eq_true, decide_eq_true_eq, Bool.not_eq_true']
    exact ⟨⟨⟨⟨by omega, by omega⟩, by rw [ht.nm]; exact dname_named k⟩, by rw [ht.nm]; exact hns⟩, e1⟩
  match ts, h1, h2, h, okt with
  | [t], _, _, h, okt =>
    simp only [okThs, Bool.and_true]
    exact okt 0 1 0 [] t (by omega) h.1 rfl
  | [t, u], _, _, h, okt =>
    simp only [okThs, Bool.and_true, Bool.and_eq_true]
    have := h.1.l3
    refine ⟨okt 0 1 0 [] t (by omega) h.1 rfl, okt (0 + t.ls.length) (1 + t.ls.length + 2) 1 _ u (by omega) h.2.1 ?_⟩
    rw [h.1.nm]; decide
end Go.Proofs.YtpkefohcccpncaaGreatDoor
namespace Go.Proofs.YtpkefohcccpncaaGreatDoor
open Go.RowKit
set_option linter.unusedSimpArgs false
set_option linter.unusedVariables false

theorem own_base {w : World} {B B' e size n : Nat} {v : Value} {xs : List Value} (h : w.ownsRow B' e size v n xs) (hb : B ≤ B') : w.ownsRow B e size v n xs := by
  refine ⟨h.1, ?_⟩
  rcases h.2 with h2 | ⟨g, cap, cur, h1, h2, h3⟩
  · exact .inl h2
  · exact .inr ⟨g, cap, cur, h1, Nat.le_trans hb h2, h3⟩
/-- threads made: their rows lie between B and lim -/
structure DcI (w : World) (B lim : Nat) (ts : List Th) (tv : Value) (vs : List Value) : Prop where
  vl : vs.length = ts.length
  th : w.ownsRow B 45 2 tv ts.length (thCells ts vs)
  ln : ∀ k (h : k < vs.length) (h' : k < ts.length), w.ownsRow B 42 3 vs[k] ts[k].ls.length (lnCells ts[k].ls)
  thl : ∀ g, tv.ownBlock = some g → g < lim
  lnl : ∀ k (h : k < vs.length), ∀ g, vs[k].ownBlock = some g → g < lim
theorem own_keepB {A W : World} {row : Option Nat} {B lim e size n : Nat} {v : Value} {xs : List Value} (h : A.ownsRow B e size v n xs) (hl : ∀ g, v.ownBlock = some g → g < lim) (hg : A.grownBy W row) (hr : ∀ r, row = some r → r < B ∨ lim ≤ r) : W.ownsRow B e size v n xs := by
  refine h.kept hg ?_
  rcases ho : v.ownBlock with _ | k
  · exact .inl rfl
  · right; intro e
    have h1 := (h.lt k ho).1
    have h2 := hl k ho
    rcases hr k e.symm with h3 | h3 <;> omega
theorem DcI.keep {A W : World} {row : Option Nat} {B lim : Nat} {ts : List Th} {tv : Value} {vs : List Value} (h : DcI A B lim ts tv vs) (hg : A.grownBy W row) (hr : ∀ r, row = some r → r < B ∨ lim ≤ r) : DcI W B lim ts tv vs :=
  ⟨h.vl, own_keepB h.th h.thl hg hr, fun k h1 h2 => own_keepB (h.ln k h1 h2) (h.lnl k h1) hg hr, h.thl, h.lnl⟩
theorem DcI.relim {w : World} {B lim : Nat} {ts : List Th} {tv : Value} {vs : List Value} (h : DcI w B lim ts tv vs) : DcI w B w.heap.size ts tv vs :=
  ⟨h.vl, h.th, h.ln, fun g hg => (h.th.lt g hg).2, fun k h1 g hg => by
    have h2 : k < ts.length := by rw [← h.vl]; exact h1
    exact ((h.ln k h1 h2).lt g hg).2⟩
theorem DcI.nil (w : World) (B : Nat) : DcI w B w.heap.size [] (.slice none 0 0) [] :=
  ⟨rfl, World.ownsRow_nil _ _ _ _, (fun k h => absurd h (by simp)), (fun g h => by cases h), (fun k h => absurd h (by simp))⟩
/-- a thread more -/
theorem DcI.snoc {A W : World} {B lim : Nat} {ts : List Th} {tv tv' lv : Value} {vs : List Value} {t : Th} (h : DcI A B lim ts tv vs) (hlv : A.ownsRow lim 42 3 lv t.ls.length (lnCells t.ls)) (hB : B ≤ lim)
    (hown : W.ownsRow B 45 2 tv' (ts ++ [t]).length (thCells ts vs ++ [.string t.nm, lv])) (hg : A.grownBy W tv.ownBlock) : DcI W B W.heap.size (ts ++ [t]) tv' (vs ++ [lv]) := by
  have hvl := h.vl
  have hlv' : W.ownsRow B 42 3 lv t.ls.length (lnCells t.ls) := own_kept_grow (own_base hlv hB) h.th (by decide) hg
  have hln : ∀ k (h1 : k < (vs ++ [lv]).length) (h2 : k < (ts ++ [t]).length), W.ownsRow B 42 3 (vs ++ [lv])[k] (ts ++ [t])[k].ls.length (lnCells (ts ++ [t])[k].ls) := by
    intro k h1 h2
    by_cases e : k < vs.length
    · have := own_kept_grow (h.ln k e (by omega)) h.th (by decide) hg
      simp only [List.getElem_append_left e, List.getElem_append_left (show k < ts.length by omega)]
      exact this
    · obtain rfl : k = vs.length := by simp at h1; omega
      have a1 : (vs ++ [lv])[vs.length]'(by simp) = lv := by simp
      have a2 : (ts ++ [t])[vs.length]'(by simp [hvl]) = t := by simp [hvl]
      simp only [a1, a2]
      exact hlv'
  refine ⟨by simp [hvl], by rw [thCells_snoc _ _ _ _ hvl]; exact hown, hln, fun g hg => (hown.lt g hg).2, fun k h1 g hg => ?_⟩
  exact ((hln k h1 (by simp at h1 ⊢; omega)).lt g hg).2
theorem DcI.ths {w : World} {B lim : Nat} {ts : List Th} {A : Option Addr} {c : Nat} {vs : List Value} (h : DcI w B lim ts (.slice A ts.length c) vs) : ThsAt w w.heap.size A ts := by
  refine ⟨vs, h.vl, own_reads h.th rfl (thCells_length _ _ h.vl), fun k h1 h2 => ?_⟩
  have hl := h.ln k h2 h1
  obtain ⟨LA, lc, hv⟩ := own_form hl
  exact ⟨LA, lc, hv, own_reads hl hv (lnCells_length _)⟩
/-- while a thread's lines are made: its own block, its row of lines, the threads ahead of it, the program, the names -/
structure DcK (W : World) (p0 p1 nb tb B : Nat) (nm : ByteArray) (v : Int) (lv tv : Value) (ls : List Ln) (ts : List Th) (vs : List Value) : Prop where
  lo : W.ownsRow tb 42 3 lv ls.length (lnCells ls)
  th : Blk W tb 45 #[.string nm, lv]
  dc : DcI W B tb ts tv vs
  b0 : Blk W p0 28 #[.int .i64 0, .slice none 0 0]
  b1 : Blk W p1 28 #[.int .i64 v, tv]
  b2 : Blk W nb 9 #[.string (dname 0), .string (dname 1)]
  lt : p0 < B ∧ p1 < B ∧ nb < B ∧ B ≤ tb
theorem DcK.keep {A W : World} {p0 p1 nb tb B : Nat} {nm : ByteArray} {v : Int} {lv tv : Value} {ls : List Ln} {ts : List Th} {vs : List Value} (h : DcK A p0 p1 nb tb B nm v lv tv ls ts vs) {row : Option Nat} (hg : A.grownBy W row)
    (hr : ∀ r, row = some r → (r < p0 ∧ r < p1 ∧ r < nb) ∨ A.heap.size ≤ r) : DcK W p0 p1 nb tb B nm v lv tv ls ts vs := by
  have hlt := h.lt
  have htb := h.th.lt
  have ne : ∀ g, (g = p0 ∨ g = p1 ∨ g = nb ∨ tb ≤ g) → g < A.heap.size → some g ≠ row := fun g hg' hgl e => by
    have := hr g e.symm; omega
  refine ⟨h.lo.kept hg ?_, h.th.grown hg (ne _ (by omega) htb), h.dc.keep hg (fun r e => ?_), h.b0.grown hg (ne _ (by omega) h.b0.lt), h.b1.grown hg (ne _ (by omega) h.b1.lt), h.b2.grown hg (ne _ (by omega) h.b2.lt), hlt⟩
  · rcases ho : lv.ownBlock with _ | g
    · exact .inl rfl
    · right
      have := h.lo.lt g ho
      exact ne g (by omega) this.2
  · rcases hr r e with h1 | h1
    · left; omega
    · right; omega
theorem DcK.alloc {A : World} {p0 p1 nb tb B : Nat} {nm : ByteArray} {v : Int} {lv tv : Value} {ls : List Ln} {ts : List Th} {vs : List Value} (h : DcK A p0 p1 nb tb B nm v lv tv ls ts vs) (o : Obj) : DcK (A.alloc o) p0 p1 nb tb B nm v lv tv ls ts vs :=
  h.keep (grownBy_alloc (World.grownBy.refl A none) o) (fun r e => by cases e)
/-- a cell of a block behind the thread's own that is no row of lines is written -/
theorem DcK.far {A : World} {p0 p1 nb tb B : Nat} {nm : ByteArray} {v : Int} {lv tv : Value} {ls : List Ln} {ts : List Th} {vs : List Value} (h : DcK A p0 p1 nb tb B nm v lv tv ls ts vs) {g : Nat} (hg : tb < g) (hl : lv.ownBlock ≠ some g) (i : Nat) (u : Value) : DcK (A.setCell ⟨g, i, none⟩ u) p0 p1 nb tb B nm v lv tv ls ts vs := by
  have hlt := h.lt
  have e1 := grownBy_setCell (p := ⟨g, i, none⟩) (World.grownBy.refl A (some g)) (.inl rfl) u
  refine ⟨h.lo.kept e1 (.inr hl), h.th.far (by dsimp only; omega) u, h.dc.keep e1 (fun r e => by cases e; right; omega), h.b0.far (by dsimp only; omega) u, h.b1.far (by dsimp only; omega) u, h.b2.far (by dsimp only; omega) u, hlt⟩
theorem grownBy_past {a b c : World} {r row : Option Nat} (h : a.grownBy b r) (k : b.grownBy c row) (hr : ∀ g, row = some g → a.heap.size ≤ g) : a.grownBy c r :=
  ⟨k.os.trans h.os, k.tape.trans h.tape, k.output.trans h.output, Nat.le_trans h.size k.size, fun i hi hn => (k.block i (Nat.lt_of_lt_of_le hi h.size) (fun e => by have := hr i e.symm; omega)).trans (h.block i hi hn)⟩
/-- a line more -/
theorem DcK.snoc {A W : World} {p0 p1 nb tb B : Nat} {nm : ByteArray} {v : Int} {lv lv' tv : Value} {ls : List Ln} {ts : List Th} {vs : List Value} (h : DcK A p0 p1 nb tb B nm v lv tv ls ts vs) (l : Ln)
    (hown : W.ownsRow tb 42 3 lv' (ls ++ [l]).length (lnCells (ls ++ [l]))) (hg : A.grownBy W lv.ownBlock) : DcK (W.setCell ⟨tb, 1, none⟩ lv') p0 p1 nb tb B nm v lv' tv (ls ++ [l]) ts vs := by
  have hlt := h.lt
  have hth := h.th.lt
  have hne := own_blk_ne h.lo h.th (by decide)
  have hlo : ∀ g, lv.ownBlock = some g → tb < g := fun g e => by
    have := (h.lo.lt g e).1
    rcases Nat.lt_or_ge tb g with h1 | h1
    · exact h1
    · exact absurd (by rw [e]; congr 1; omega) hne
  have th9 : Blk W tb 45 #[.string nm, lv] := h.th.grown hg (fun e => hne e.symm)
  have hne9 := own_blk_ne hown th9 (by decide)
  have e1 := grownBy_setCell (p := ⟨tb, 1, none⟩) (World.grownBy.refl W (some tb)) (.inl rfl) lv'
  refine ⟨hown.kept e1 (.inr hne9), th9.set_ 1 lv', (h.dc.keep hg (fun r e => .inr (by have := hlo r e; omega))).keep e1 (fun r e => by cases e; right; omega), (h.b0.grown hg ?_).far (by dsimp only; omega) _, (h.b1.grown hg ?_).far (by dsimp only; omega) _, (h.b2.grown hg ?_).far (by dsimp only; omega) _, hlt⟩
  all_goals
    intro e
    have := hlo _ e.symm
    omega
end Go.Proofs.YtpkefohcccpncaaGreatDoor
namespace Go.Proofs.YtpkefohcccpncaaGreatDoor
open Go.RowKit
set_option linter.unusedSimpArgs false
set_option linter.unusedVariables false

structure DiceAt (w : World) (b : Nat) (A : Option Addr) (n c : Nat) (zs : List Int) (at_ : Nat) : Prop where
  blk : w.heap[b]? = some (.cells #[.slice A n c, .int .i64 at_] 65 (0, 0))
  rd : ∀ k, k < n → ∃ ad : Addr, A = some ad ∧ ad.block < b ∧ w.cell? (ad.add k) = some (.int .u8 (zs.getD k 0)) ∧ 0 ≤ zs.getD k 0 ∧ zs.getD k 0 ≤ 255
  le : at_ ≤ n
  small : n ≤ 200
theorem DiceAt.c0 {w : World} {b : Nat} {A : Option Addr} {n c : Nat} {zs : List Int} {at_ : Nat} (h : DiceAt w b A n c zs at_) :
    w.cell? ⟨b, 0, none⟩ = some (.slice A n c) ∧ w.cell? ⟨b, 1, none⟩ = some (.int .i64 at_) ∧ w.frozen? ⟨b, 1, none⟩ = false := by
  simp [World.cell?, World.frozen?, h.blk]
def DiceOk (w : World) (b : Nat) : Prop := ∃ (A : Option Addr) (n c : Nat) (zs : List Int) (at_ : Nat), DiceAt w b A n c zs at_
theorem DiceOk.grown {w w' : World} {b : Nat} {row : Option Nat} (h : DiceOk w b) (hg : w.grownBy w' row) (hr : ∀ r, row = some r → b < r) : DiceOk w' b := by
  obtain ⟨A, n, c, zs, at_, h⟩ := h
  have hlt : b < w.heap.size := by
    rcases Nat.lt_or_ge b w.heap.size with hlt | hge
    · exact hlt
    · have := h.blk; rw [Array.getElem?_eq_none hge] at this; cases this
  refine ⟨A, n, c, zs, at_, (hg.block b hlt (fun e => by have := hr _ e.symm; omega)).trans h.blk, fun k hk => ?_, h.le, h.small⟩
  obtain ⟨ad, e, hl, hc, hz⟩ := h.rd k hk
  refine ⟨ad, e, hl, ?_, hz⟩
  rw [← hc]
  exact World.cell?_of_block (hg.block _ (by rw [add_block]; omega) (fun e => by rw [add_block] at e; have := hr _ e.symm; omega))
theorem DiceOk.drewN {w : World} {b : Nat} (h : DiceOk w b) (n : Nat) : DiceOk (w.drewN n) b := by
  obtain ⟨A, m, c, zs, at_, h⟩ := h
  exact ⟨A, m, c, zs, at_, h.blk, h.rd, h.le, h.small⟩
theorem DiceOk.below {w w' : World} {b B : Nat} (h : DiceOk w b) (hb : Below B w w') (hB : b < B) : DiceOk w' b := by
  obtain ⟨A, n, c, zs, at_, h⟩ := h
  refine ⟨A, n, c, zs, at_, (hb.block b hB).trans h.blk, fun k hk => ?_, h.le, h.small⟩
  obtain ⟨ad, e, hl, hc, hz⟩ := h.rd k hk
  exact ⟨ad, e, hl, (hb.cell (by rw [add_block]; omega)).trans hc, hz⟩
theorem DiceOk.lt {w : World} {b : Nat} (h : DiceOk w b) : b < w.heap.size := by
  obtain ⟨A, n, c, zs, at_, h⟩ := h
  rcases Nat.lt_or_ge b w.heap.size with hlt | hge
  · exact hlt
  · have := h.blk; rw [Array.getElem?_eq_none hge] at this; cases this
def PickPost (w : World) (b : Nat) (n : Int) (e : Ending) (w' : World) : Prop := ∃ r : Nat, e = .returned (.int .i64 (r : Int)) ∧ (r : Int) < n ∧ DiceOk w' b ∧ w.grownBy w' (some b)
set_option maxHeartbeats 1000000 in
theorem ppick_any (w : World) (b : Nat) (hd : DiceOk w b) (n : Int) (h1 : 1 ≤ n) (hn : n ≤ 100000) :
    Calls Tryz.prog 11 #[.pointer (some ⟨b, 0, none⟩), .int .i64 n] w (PickPost w b n) := by
  have HD := Lib.hid hd
  obtain ⟨A, m, c, zs, at_, h⟩ := hd
  obtain ⟨h0, h1', f1⟩ := h.c0
  have hsm := h.small
  by_cases hlt : at_ < m
  · obtain ⟨ad, rfl, hb, hc, z0, z1⟩ := h.rd at_ hlt
    have H := Lib.hid h
    clear h
    generalize zs.getD at_ 0 = x at hc z0 z1
    have g1 : decide ((m : Int) ≤ at_) = false := by simp; omega
    have g2 : ∀ q, ((w.drewN q).setCell ⟨b, 1, none⟩ (.int .i64 ((at_ : Int) + 1))).cell? ⟨b, 0, none⟩ = some (.slice (some ad) m c) := fun q => (World.cell?_setCell_other _ _ _ _ (by intro e; cases e)).trans h0
    have g3 : ∀ q, ((w.drewN q).setCell ⟨b, 1, none⟩ (.int .i64 ((at_ : Int) + 1))).cell? (ad.add at_) = some (.int .u8 x) := fun q => (World.cell?_setCell_other _ _ _ _ (by intro e; have := congrArg Addr.block e; rw [add_block] at this; simp at this; omega)).trans hc
    have g4 : ∀ q, ((w.drewN q).setCell ⟨b, 1, none⟩ (.int .i64 ((at_ : Int) + 1))).cell? ⟨b, 1, none⟩ = some (.int .i64 ((at_ : Int) + 1)) := fun q => World.cell?_setCell_same _ _ _ h1'
    have dw : IntKind.i64.wrap (at_ : Int) = at_ := wrapI64 at_ (by omega)
    have dw1 : IntKind.i64.wrap ((at_ : Int) + 1 - 1) = at_ := by rw [show (at_ : Int) + 1 - 1 = at_ from by omega]; exact dw
    go_enter Tryz.func11, Tryz.ntmps11
    go_wp2_with fail
    go_quiet (fail)
    go_wp2_with fail
    go_quiet (fail)
    go_wp2_with fail
    go_ret
    obtain ⟨r, hr⟩ := Int.eq_ofNat_of_zero_le (Int.emod_nonneg x (show n ≠ 0 by omega))
    have hrn := Int.emod_lt_of_pos x (show 0 < n by omega)
    refine ⟨r, by rw [← hr]; rfl, by omega, ?_, grownBy_drewN (grownBy_setCell (p := ⟨b, 1, none⟩) (grownBy_drewN (World.grownBy.refl _ _) _) (.inl rfl) _) _⟩
    have h := H.out
    refine DiceOk.drewN (w := (w.drewN _).setCell _ _) ⟨some ad, m, c, zs, at_ + 1, blk_set (w := w.drewN _) (i := 1) _ h.blk, fun k hk => ?_, by omega, hsm⟩ _
    obtain ⟨ad', e, hl, hc', hz⟩ := h.rd k hk
    exact ⟨ad', e, hl, (World.cell?_setCell_other _ _ _ _ (by intro e; have := congrArg Addr.block e; rw [add_block] at this; simp at this; omega)).trans hc', hz⟩
  · have g1 : decide ((m : Int) ≤ at_) = true := by simp; omega
    have H := Lib.hid h
    clear h
    go_enter Tryz.func11, Tryz.ntmps11
    go_wp2_with fail
    go_quiet (fail)
    go_wp2_with fail
    go_ret
    exact ⟨0, rfl, by omega, HD.out.drewN _, grownBy_drewN (World.grownBy.refl _ _) _⟩
def PNewPost (w : World) (e : Ending) (w' : World) : Prop := e = .returned (.pointer (some ⟨w.heap.size, 0, none⟩)) ∧ DiceOk w' w.heap.size ∧ Below w.heap.size w w'
theorem pnew_any (w : World) (A : Option Addr) (n c : Nat) (zs : List Int) (hn : n ≤ c) (hc63 : c ≤ 9223372036854775807)
    (hr : ∀ k, k < n → ∃ ad : Addr, A = some ad ∧ ad.block < w.heap.size ∧ w.cell? (ad.add k) = some (.int .u8 (zs.getD k 0)) ∧ 0 ≤ zs.getD k 0 ∧ zs.getD k 0 ≤ 255) :
    Calls Tryz.prog 7 #[.slice A n c] w (PNewPost w) := by
  by_cases h : n ≤ 200
  · have g : decide (200 < (n : Int)) = false := by simp; omega
    go_enter Tryz.func7, Tryz.ntmps7
    go_wp2
    go_ret
    refine ⟨rfl, ⟨A, n, c, zs, 0, heap_alloc_new w _, fun k hk => ?_, by omega, h⟩, (Below.refl _ _).alloc (Nat.le_refl _) _⟩
    obtain ⟨ad, e, hl, hc, hz⟩ := hr k hk
    exact ⟨ad, e, hl, (World.cell?_alloc_lt w _ _ (by rw [add_block]; omega)).trans hc, hz⟩
  · have g : decide (200 < (n : Int)) = true := by simp; omega
    obtain ⟨ad, rfl, hl0, _⟩ := hr 0 (by omega)
    go_enter Tryz.func7, Tryz.ntmps7
    go_wp2
    go_ret
    refine ⟨rfl, ⟨some ad, 200, c, zs, 0, heap_alloc_new w _, fun k hk => ?_, by omega, Nat.le_refl _⟩, (Below.refl _ _).alloc (Nat.le_refl _) _⟩
    obtain ⟨ad', e, hl, hc, hz⟩ := hr k (by omega)
    exact ⟨ad', e, hl, (World.cell?_alloc_lt w _ _ (by rw [add_block]; omega)).trans hc, hz⟩
theorem pmod_any (w : World) (x n : Int) (h1 : 1 ≤ n) (hn : n ≤ 100000) :
    Calls Tryz.prog 28 #[.int .i64 x, .int .i64 n] w fun e w' => e = .returned (.int .i64 (x % n)) ∧ w = w' := by
  have b1 : x.tmod n < n := Int.tmod_lt_of_pos x (by omega)
  have b2 : -n < x.tmod n := tmod_gt x n h1
  have HE : Hid (x % n = if x.tmod n < 0 then x.tmod n + n else x.tmod n) := Lib.hid (by
    rw [Int.tmod_eq_emod]
    have := Int.emod_nonneg x (show n ≠ 0 by omega)
    have := Int.emod_lt_of_pos x (show 0 < n by omega)
    split <;> split <;> omega)
  by_cases hneg : x.tmod n < 0
  · go_enter Tryz.func28, Tryz.ntmps28
    go_wp2
    go_ret
    exact ⟨ret_int (by rw [HE.out, if_pos hneg]), rfl⟩
  · go_enter Tryz.func28, Tryz.ntmps28
    go_wp2
    go_ret
    exact ⟨ret_int (by rw [HE.out, if_neg (by omega)]), rfl⟩
end Go.Proofs.YtpkefohcccpncaaGreatDoor
