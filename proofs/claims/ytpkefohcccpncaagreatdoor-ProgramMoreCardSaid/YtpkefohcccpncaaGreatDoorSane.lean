/- The sanity check. -/
import Derived.Test.YtpkefohcccpncaaGreatDoorMaker
import Derived.Test.YtpkefohcccpncaaGreatDoorParse
import Derived.Test.YtpkefohcccpncaaGreatDoorSameP
import Derived.Deep.RegionHeld3
namespace Go.Proofs.YtpkefohcccpncaaGreatDoor
open Go.RowKit
set_option linter.unusedSimpArgs false
set_option linter.unusedVariables false

def mkTxt : ByteArray := ⟨#[118, 97, 108, 117, 101, 115, 32, 49, 10, 116, 104, 114, 101, 97, 100, 32, 109, 97, 105, 110, 10, 115, 112, 97, 119, 110, 32, 97, 10, 106, 117, 109, 112, 32, 48, 10, 101, 110, 100, 10, 116, 104, 114, 101, 97, 100, 32, 97, 10, 115, 116, 111, 112, 10, 101, 110, 100, 10]⟩
theorem mk_parse : parseP mkTxt.data.toList = .inr mkP := by kernel_rfl
theorem mk_text : textP mkP = mkTxt.data.toList := by kernel_rfl
theorem mk_steps : stepsP mkP 0 (startC (placesP mkP).length) = (0, [⟨0, 0, 3, 0, 1⟩]) := by kernel_rfl
theorem mk_places : (placesP mkP).length = 3 := by kernel_rfl
set_option maxRecDepth 100000 in
set_option maxHeartbeats 4000000 in
theorem sane_any (w : World) (hg : GlobP w) : Calls Tryz.prog 6 #[] w fun e w' => e = .returned (.bool true) ∧ Below w.heap.size w w' := by
  have HG := Lib.hid hg
  clear hg
  have MK : Hid (∀ W, Calls Tryz.prog 31 #[] W (MakerPost W)) := Lib.hid maker_any
  have TX : Hid (∀ W A, Below w.heap.size w W → ThsAt W W.heap.size A mkTs → Calls Tryz.prog 16 #[.agg #[.int .i64 1, .slice A 2 2]] W (fun e w' => Below W.heap.size W w' ∧ ∃ s : ByteArray, e = .returned (.tuple #[.string s, .int .i64 0]) ∧ s.data.toList = textP mkP)) := Lib.hid (fun W A h hT => (text_any mkP A 2 2 W hT rfl (HG.out.below h) mk_ok true mk_check).mono fun e w' ⟨hb, s, he, hs⟩ => ⟨hb, s, he, hs rfl⟩)
  have PA : Hid (∀ W, Below w.heap.size w W → Calls Tryz.prog 29 #[.string mkTxt] W (fun e w' => Below W.heap.size W w' ∧ ∃ A c, e = .returned (.tuple #[.agg #[.int .i64 1, .slice A 2 c], .int .i64 0, .int .i64 0]) ∧ ThsAt w' w'.heap.size A mkTs)) := Lib.hid (fun W h => by
    have := parse_any mkTxt W (by decide) (HG.out.below h)
    rw [mk_parse] at this
    exact this)
  have BG : Hid (∀ W A, Below w.heap.size w W → ThsAt W W.heap.size A mkTs → Calls Tryz.prog 9 #[.agg #[.int .i64 1, .slice A 2 2]] W (BeginPost W [1, 0, 0])) := Lib.hid (fun W A h hT => by
    have := begin_ok mkP A 2 2 W hT rfl (HG.out.below h) mk_ok mk_check
    rw [mk_places] at this
    exact this)
  have ST : Hid (∀ W A CA cc, Below w.heap.size w W → ThsAt W W.heap.size A mkTs → IsAt W W.heap.size CA [1, 0, 0] → Calls Tryz.prog 10 #[.agg #[.int .i64 1, .slice A 2 2], .int .i64 0, .slice CA 3 cc] W (StepsPost W (0, [⟨0, 0, 3, 0, 1⟩]))) := Lib.hid (fun W A CA cc h hT hC =>
    steps_any mkP A 2 2 0 CA 3 cc [1, 0, 0] W hT rfl (HG.out.below h) mk_ok hC rfl (by omega) _ mk_steps)
  go_enter Tryz.func6, Tryz.ntmps6
  go_wp2_with fail
  refine (MK.out _).mono ?_
  rintro e w1 ⟨M1, rfl, hm1, hb1⟩
  have HM1 := Lib.hid hm1
  have HB1 := Lib.hid hb1
  clear hm1 hb1
  go_wp2_with fail
  refine (TX.out _ M1 HB1.out HM1.out).mono ?_
  rintro e w2 ⟨hb2, ts, rfl, hts⟩
  obtain rfl : ts = mkTxt := bytes_ext (by rw [hts]; exact mk_text)
  have HB2 := Lib.hid (HB1.out.trans (hb2.mono HB1.out.size))
  clear hb2 hts HB1 HM1
  go_wp2_with fail
  refine (PA.out _ HB2.out).mono ?_
  rintro e w3 ⟨hb3, A3, c3, rfl, hp3⟩
  have HB3 := Lib.hid (HB2.out.trans (hb3.mono HB2.out.size))
  have HP3 := Lib.hid hp3
  have hz3 : w.heap.size ≤ w3.heap.size := HB3.out.size
  clear hb3 hp3 HB2
  go_wp2_with fail
  refine (MK.out _).mono ?_
  rintro e w4 ⟨M4, rfl, hm4, hb4⟩
  have HM4 := Lib.hid hm4
  have HP4 : Hid (ThsAt w4 w4.heap.size A3 mkTs ∧ Below w.heap.size w w4 ∧ Blk w4 w3.heap.size 28 #[.int .i64 1, .slice A3 2 c3]) := Lib.hid ⟨(HP3.out.up ((Below.refl _ _).alloc (Nat.le_refl _) _)).up hb4, (HB3.out.alloc hz3 _).trans (hb4.mono (by simp; omega)), (Blk.new w3 _ _).below hb4 (by simp)⟩
  clear hm4 hb4 HP3 HB3
  go_wp2_with fail
  refine (BG.out _ M4 HP4.out.2.1 HM4.out).mono ?_
  rintro e w5 ⟨CA, cc, rfl, hc5, hb5⟩
  have HC5 := Lib.hid hc5
  have HP5 : Hid (ThsAt w5 w5.heap.size A3 mkTs ∧ Below w.heap.size w w5 ∧ Blk w5 w3.heap.size 28 #[.int .i64 1, .slice A3 2 c3]) := Lib.hid ⟨HP4.out.1.up hb5, HP4.out.2.1.trans (hb5.mono HP4.out.2.1.size), HP4.out.2.2.below hb5 HP4.out.2.2.lt⟩
  clear hc5 hb5 HP4 HM4
  go_wp2_with fail
  refine (MK.out _).mono ?_
  rintro e w6 ⟨M6, rfl, hm6, hb6⟩
  have HM6 := Lib.hid hm6
  have HC6 : Hid (IsAt w6 w6.heap.size CA [1, 0, 0]) := Lib.hid ((HC5.out.below hb6).more hb6.size)
  have HP6 : Hid (ThsAt w6 w6.heap.size A3 mkTs ∧ Below w.heap.size w w6 ∧ Blk w6 w3.heap.size 28 #[.int .i64 1, .slice A3 2 c3]) := Lib.hid ⟨HP5.out.1.up hb6, HP5.out.2.1.trans (hb6.mono HP5.out.2.1.size), HP5.out.2.2.below hb6 HP5.out.2.2.lt⟩
  clear hm6 hb6 HP5 HC5
  go_wp2_with fail
  refine (ST.out _ M6 CA cc HP6.out.2.1 HM6.out HC6.out).mono ?_
  rintro e w7 ⟨EA, ec, rfl, he7, hb7⟩
  have HE7 := Lib.hid he7
  have HP7 : Hid (ThsAt w7 w7.heap.size A3 mkTs ∧ Below w.heap.size w w7 ∧ Blk w7 w3.heap.size 28 #[.int .i64 1, .slice A3 2 c3]) := Lib.hid ⟨HP6.out.1.up hb7, HP6.out.2.1.trans (hb7.mono HP6.out.2.1.size), HP6.out.2.2.below hb7 HP6.out.2.2.lt⟩
  clear he7 hb7 HP6 HM6 HC6
  go_wp2_with fail
  have hq0 := HP7.out.2.2.cell 0
  have hq1 := HP7.out.2.2.cell 1
  obtain ⟨ea, rfl, hab, hcell⟩ := HE7.out.2 (by decide)
  have hnx := hcell 4 (.int .i64 1) rfl
  rw [add_off ea 0 3, show ea.add 0 = ea from by simp [Addr.add]] at hnx
  clear hcell HE7
  have SM : Hid (∀ W M, Below w7.heap.size w7 W → ThsAt W W.heap.size M mkTs → Calls Tryz.prog 20 #[.agg #[.int .i64 1, .slice A3 2 c3], .agg #[.int .i64 1, .slice M 2 2]] W fun e w' => e = .returned (.bool true) ∧ Below W.heap.size W w') := Lib.hid (fun W M h hM =>
    sameP_any mkP mkP A3 M 2 2 c3 2 W (HP7.out.1.up h) hM rfl rfl mk_ok true (sameP_self mkP))
  have hs2 : (mkTxt.toList == ([118, 97, 108, 117, 101, 115, 32, 49, 10, 116, 104, 114, 101, 97, 100, 32, 109, 97, 105, 110, 10, 115, 112, 97, 119, 110, 32, 97, 10, 106, 117, 109, 112, 32, 48, 10, 101, 110, 100, 10, 116, 104, 114, 101, 97, 100, 32, 97, 10, 115, 116, 111, 112, 10, 101, 110, 100, 10] : List UInt8)) = true := by kernel_rfl
  have HL3 : Hid (w3.heap.size < w7.heap.size) := Lib.hid HP7.out.2.2.lt
  have HQ : Hid (∀ W, Below w7.heap.size w7 W → W.cell? ⟨w3.heap.size, 0, none⟩ = some (.int .i64 1) ∧ W.cell? ⟨w3.heap.size, 1, none⟩ = some (.slice A3 2 c3) ∧ W.cell? ⟨ea.block, ea.off + 4, none⟩ = some (.int .i64 1)) := Lib.hid (fun W h => ⟨(h.cell (p := ⟨w3.heap.size, 0, none⟩) HL3.out).trans hq0, (h.cell (p := ⟨w3.heap.size, 1, none⟩) HL3.out).trans hq1, (h.cell (p := ⟨ea.block, ea.off + 4, none⟩) hab).trans hnx⟩)
  go_region_held3 (fun w' => w'.cell? ⟨w3.heap.size, 0, none⟩ = some (.int .i64 1) ∧ w'.cell? ⟨w3.heap.size, 1, none⟩ = some (.slice A3 2 c3) ∧ w'.cell? ⟨ea.block, ea.off + 4, none⟩ = some (.int .i64 1)) (first | go_keep | exact HQ.out _ HB8.out | exact HQ.out _ HB9.out)
    (first
      | (go_at_call 31; refine (MK.out _).mono ?_; rintro e w8 ⟨M8, rfl, hm8, hb8⟩; (have HM8 := Lib.hid hm8); (have HB8 : Hid (Below w7.heap.size w7 w8) := Lib.hid ⟨hb8.os, hb8.tape, hb8.output, hb8.size, hb8.block⟩); clear hm8 hb8)
      | (go_at_call 20; refine (SM.out _ M8 HB8.out HM8.out).mono ?_; rintro e w9 ⟨rfl, hb9⟩; (have HB9 : Hid (Below w7.heap.size w7 w9) := Lib.hid (HB8.out.trans (hb9.mono HB8.out.size))); clear hb9))
  go_wp2
  go_ret
  exact ⟨rfl, HP7.out.2.1.trans (HB9.out.mono HP7.out.2.1.size)⟩
end Go.Proofs.YtpkefohcccpncaaGreatDoor
