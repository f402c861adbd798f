/- The walk of TokenExact. -/
import Derived.Test.YtnibnkblkabalaaDoorExLaw
import Derived.Test.YtnibnkblkabalaaDoorRNum
import Derived.Test.YtnibnkblkabalaaDoorBytes
import Derived.Deep.DeepCutAuto
namespace Go.Proofs.YtnibnkblkabalaaDoor
open Go.RowKit
set_option linter.unusedSimpArgs false
set_option linter.unusedVariables false

theorem Toks.drewN {w : World} {A : Option Addr} {xs : List Tok} (h : Toks w w.heap.size A xs) (n : Nat) : Toks (w.drewN n) (w.drewN n).heap.size A xs := Reads.drewN h n
structure ExBoth (s : ByteArray) (ys : List Tok) (N LN E : Nat) (js : ByteArray) : Prop where
  sc : ∀ W, Glob W → Calls Tryd.prog 13 #[.string s] W (ScanBy W ys N LN E)
  rsc : ∀ W, Calls Tryd.prog 14 #[.string s] W (ScanBy W ys N LN E)
  same : ∀ W A A' c c', Toks W W.heap.size A ys → Toks W W.heap.size A' ys → Calls Tryd.prog 15 #[.slice A N c, .slice A' N c'] W fun e w' => e = .returned (.bool true) ∧ ∃ n, w' = W.drewN n
  jo : ∀ W A c, Toks W W.heap.size A ys → Calls Tryd.prog 18 #[.slice A N c] W fun e w' => e = .returned (.string js) ∧ Below W.heap.size W w'
  rjo : ∀ W A c, Toks W W.heap.size A ys → Calls Tryd.prog 19 #[.slice A N c] W fun e w' => e = .returned (.string js) ∧ ∃ n, w' = W.drewN n
theorem exBoth (s : ByteArray) (hs : s.size ≤ 1000) : ∃ (ys : List Tok) (N LN E : Nat) (js : ByteArray), ExBoth s ys N LN E js := by
  obtain ⟨b1, b2⟩ := scanR_bd s hs
  have h1 := fun W hW => scanTok_ref s W (by omega) hW
  have h2 := fun W => rscan_any s W (by omega)
  generalize scanR (s.size + 1) s.data.toList 1 false [] = R at h1 h2 b1 b2
  refine ⟨toksOf R, (toksOf R).length, lnOf R, errOf R, ⟨(joinL false (toksOf R)).toArray⟩, ⟨fun W hW => (h1 W hW).mono fun e w' h => .of h rfl rfl rfl rfl, fun W => (h2 W).mono fun e w' h => .of h rfl rfl rfl rfl, fun W A A' c c' hA hA' => ?_, fun W A c h => ?_, fun W A c h => ?_⟩⟩
  · exact rsame_any A A' c c' _ _ W W.heap.size hA hA' (by omega) (by omega) rfl
  · exact join_any A c _ W W.heap.size (Nat.le_refl _) h (by omega) (by omega)
  · exact rjoin_any A c _ W W.heap.size h (by omega) (by omega)

def StrsAt (w : World) (B : Nat) (L : List ByteArray) : Prop := ∀ j (h : j < L.length), w.cell? ⟨B, j, none⟩ = some (.string L[j])
theorem strsAt_new (w : World) (L : List ByteArray) (ca : Array Value) (h : ca = (L.map Value.string).toArray) : StrsAt (w.alloc (.cells ca 9)) w.heap.size L := fun j hj => by
  subst h
  rw [cell_of_row _ _ _ _ _ _ (heap_alloc_new w _)]
  simp [hj]
theorem StrsAt.below {w w' : World} {B : Nat} {L : List ByteArray} (h : StrsAt w B L) {b : Nat} (hb : Below b w w') (hB : B < b) : StrsAt w' B L := fun j hj => (hb.cell (p := ⟨B, j, none⟩) hB).trans (h j hj)
def IntsAt (w : World) (B : Nat) (L : List Int) : Prop := ∀ j (h : j < L.length), w.cell? ⟨B, j, none⟩ = some (.int .i64 L[j])
theorem intsAt_new (w : World) (L : List Int) (ca : Array Value) (h : ca = (L.map (Value.int .i64)).toArray) : IntsAt (w.alloc (.cells ca 3)) w.heap.size L := fun j hj => by
  subst h
  rw [cell_of_row _ _ _ _ _ _ (heap_alloc_new w _)]
  simp [hj]
theorem IntsAt.below {w w' : World} {B : Nat} {L : List Int} (h : IntsAt w B L) {b : Nat} (hb : Below b w w') (hB : B < b) : IntsAt w' B L := fun j hj => (hb.cell (p := ⟨B, j, none⟩) hB).trans (h j hj)
theorem txt_le (xs : List Tok) (h : ∀ j (h : j < xs.length), xs[j].t.size ≤ 100) : txt xs ≤ 100 * xs.length := by
  induction xs with
  | nil => exact Nat.zero_le _
  | cons x r ih =>
    have h0 : x.t.data.toList.length ≤ 100 := h 0 (by simp)
    have := ih fun j hj => h (j + 1) (by simp; omega)
    rw [txt_cons, List.length_cons]; omega

set_option maxRecDepth 100000 in
set_option maxHeartbeats 3000000 in
theorem tokenExact_any (A : Option Addr) (n c : Nat) (hn : n ≤ 9223372036854775807) (raw : ByteArray) (hraw : raw.size ≤ 9223372036854775807) (at_ by_ num : Int) (hy0 : 0 ≤ by_) (hy1 : by_ ≤ 255) (hm0 : -9223372036854775808 ≤ num) (hm1 : num ≤ 9223372036854775807)
    (TA : Option Addr) (tn tc : Nat) (htn : tn ≤ 9223372036854775807) (xs : List Tok) (hxl : xs.length = tn) (w : World) (hT : Toks w w.heap.size TA xs) (hxs : ∀ j (h : j < xs.length), xs[j].t.size ≤ 9223372036854775807) (hg : Glob w) (hA : IntsArg w A n) :
    Calls Tryd.prog 3 #[.slice A n c, .string raw, .int .i64 at_, .int .u8 by_, .int .i64 num, .slice TA tn tc] w fun e w' => e = .returned (.bool true) ∧ Below w.heap.size w w' := by
  have HG := Lib.hid hg
  have HA := Lib.hid hA
  have HN := Lib.hid hn
  have HT := Lib.hid hT
  have HXL := Lib.hid hxl
  have HXS := Lib.hid hxs
  clear hg hA hn hT hxl hxs
  by_cases hf : n ≤ 400 ∧ raw.size ≤ 400 ∧ tn ≤ 40
  · obtain ⟨hf, hr, ht⟩ := hf
    have FW : Hid (∀ W : World, Calls Tryd.prog 9 #[.slice A n c] W fun e w' => e = .returned (.bool true) ∧ W = w') := Lib.hid (fun W => by
      have := few_any W A n c HN.out; rw [decide_eq_true hf] at this; exact this)
    have r1 : decide (400 < (raw.size : Int)) = false := by simp; omega
    have t1 : decide (40 < (tn : Int)) = false := by simp; omega
    go_enter Tryd.func3, Tryd.ntmps3
    go_wp2_with (first
      | (go_at_call 8; go_must (refine (awake14_any _ HG.out).mono ?_; rintro e w1 ⟨rfl, hb1⟩))
      | (go_at_call 9; go_must (refine (FW.out _).mono ?_; rintro e w' ⟨rfl, rfl⟩)))
    have HT1 := Lib.hid (HT.out.up hb1)
    go_loop [47] (fun i => ∃ k : Nat, k ≤ tn ∧ i = .int .i64 k ∧ (∀ j (h : j < xs.length), j < k → xs[j].t.size ≤ 100)) (fun i => tn - (intOf i).toNat)
    case atStart => exact ⟨0, by omega, rfl, fun j h hj => absurd hj (by omega)⟩
    case round =>
      obtain ⟨k, hk, rfl, hall⟩ := hrel
      have HAL := Lib.hid hall
      clear hall
      by_cases hlt : k < tn
      · obtain ⟨ad, rfl, hab, h0, h1, h2⟩ := Toks.at_ HT1.out (k := k) (by rw [HXL.out]; exact hlt)
        have hsz := HXS.out k (by rw [HXL.out]; exact hlt)
        have HQ : Hid (∀ q, (xs[k]'(by rw [HXL.out]; exact hlt)).t.size ≤ q → ∀ j (h : j < xs.length), j < k + 1 → j = k → xs[j].t.size ≤ q) := Lib.hid (fun q hq j h hj e => by subst e; exact hq)
        generalize (xs[k]'(by rw [HXL.out]; exact hlt)).t = tx at *
        by_cases hlong : tx.size ≤ 100
        · have d1 : decide (100 < (tx.size : Int)) = false := by simp; omega
          go_wp2
          go_round
          case rel =>
            refine ⟨k + 1, by omega, by go_num, fun j h hj => ?_⟩
            by_cases e : j = k
            · exact HQ.out 100 hlong j h hj e
            · exact HAL.out j h (by omega)
          case measure => simp [intOf]; omega
        · have d1 : decide (100 < (tx.size : Int)) = true := by simp; omega
          go_wp2
          go_ret
          exact ⟨rfl, hb1⟩
      · obtain rfl : k = tn := by omega
        have hjl : (joinL false xs).length ≤ 10000 := by
          have h1 := joinL_len xs false
          have h2 := txt_le xs fun j h => HAL.out j h (by rw [← HXL.out]; exact h)
          have := HXL.out
          omega
        have HAL2 := HAL
        go_upto_if 66 with (first
          | (go_at_call 10; go_must (refine (new_arg _ _ _ _ hf (HA.out.below hb1)).mono ?_; rintro e w2 ⟨rfl, hd, hb2⟩))
          | (go_at_call 11; go_must (refine (text_new (B := w1.heap.size) _ hd (Nat.le_refl _) hb2.size).mono ?_; rintro e w3 ⟨own, rfl, hs, hd3, hb3⟩; (obtain ⟨C, cap, hconv, hC⟩ := conv_pack w3 own); (have HC := Lib.hid hC); clear hC)))
        have hB3 := hb1.trans ((hb2.mono hb1.size).trans (hb3.mono hb1.size))
        have hl3 : w.heap.size ≤ w3.heap.size := hB3.size
        have HD3 := Lib.hid hd3
        have hl1 : w.heap.size ≤ w1.heap.size := hb1.size
        have HG0 := HG
        clear hb1 hb2 hb3 hd hd3 HG HA HN FW HT1 HAL HAL2
        go_cut [] from 27 to 73 (fun wx => (∃ l : List UInt8, l.length = own.size ∧ BytesAt wx w3.heap.size l) ∧ Below w.heap.size w wx ∧ DeckOk wx w1.heap.size)
        case first =>
          by_cases hpos : 0 < own.size
          · obtain ⟨j, hj⟩ := Int.eq_ofNat_of_zero_le (Int.emod_nonneg (at_.tmod own.size + own.size) (by omega : (own.size : Int) ≠ 0))
            have hjl : j < own.size := by
              have := Int.emod_lt_of_pos (at_.tmod own.size + own.size) (by omega : (0 : Int) < own.size)
              omega
            have MO : Hid (∀ W : World, Calls Tryd.prog 12 #[.int .i64 at_, .int .i64 (own.size : Int)] W fun e w' => e = .returned (.int .i64 (j : Int)) ∧ W = w') := Lib.hid (fun W => by
              have := mod_any W at_ own.size (by omega) (by omega); rw [hj] at this; exact this)
            obtain ⟨vj, hcj⟩ := HC.out.cell hjl
            have hfz := HC.out.frozen hjl
            clear hj
            go_wp2_with (go_at_call 12; go_must (refine (MO.out _).mono ?_; rintro e w' ⟨rfl, rfl⟩))
            go_meet
            exact ⟨⟨_, by rw [List.length_set]; rfl, BytesAt.set_ HC.out.at_ (show j < own.data.toList.length from hjl) hy0 hy1⟩, (((hB3.alloc hl3 _).setCell (p := ⟨w3.heap.size, j, none⟩) hl3 _)).drew, HD3.out.below ((((Below.refl w3.heap.size w3).alloc (Nat.le_refl _) _).setCell (p := ⟨w3.heap.size, j, none⟩) (Nat.le_refl _) _)).drew HD3.out.lt⟩
          · go_wp2_with fail
            go_meet
            exact ⟨⟨own.data.toList, rfl, fun i h => absurd h (by show ¬ i < own.size; omega)⟩, (hB3.alloc hl3 _).drew, HD3.out.below ((Below.refl w3.heap.size w3).alloc (Nat.le_refl _) _).drew HD3.out.lt⟩
        case rest =>
          obtain ⟨⟨l, hl, hby⟩, hB5, hd5⟩ := hcut
          clear hconv HC HD3
          obtain ⟨s2, hs2⟩ : ∃ s2 : ByteArray, s2.data.toList = l := ⟨⟨l.toArray⟩, rfl⟩
          have hs2l : s2.size ≤ 195 := by rw [show s2.size = own.size by rw [← hl, ← hs2]; rfl]; exact hs
          have hback := hby.back cap hl hs2
          have HD5 := Lib.hid hd5
          have HB5 := Lib.hid hB5
          clear hl hby hs2 hd5 hB5
          obtain ⟨L, hL⟩ : ∃ L : List ByteArray, L = [raw, own, s2, own ++ raw, ⟨#[48]⟩ ++ own, ⟨#[45]⟩] := ⟨_, rfl⟩
          have hLl : L.length = 6 := by rw [hL]; rfl
          have hLs : ∀ s ∈ L, s.size ≤ 1000 := by
            intro s hs'
            rw [hL] at hs'
            have e1 : (⟨#[48]⟩ : ByteArray).size = 1 := rfl
            have e2 : (⟨#[45]⟩ : ByteArray).size = 1 := rfl
            simp only [List.mem_cons, List.not_mem_nil, or_false] at hs'
            rcases hs' with rfl | rfl | rfl | rfl | rfl | rfl <;> (try simp only [ByteArray.size_append]) <;> omega
          have HL := Lib.hid hL
          have HLL := Lib.hid hLl
          have HLS := Lib.hid hLs
          clear hL hLl hLs
          go_wp2_with fail
          go_loopw [85] (fun i wr => ∃ k : Nat, k ≤ 6 ∧ i = .int .i64 k ∧ StrsAt wr wc.heap.size L ∧ wc.heap.size < wr.heap.size ∧ Below wc.heap.size wc wr) (fun i _ => 6 - (intOf i).toNat)
          case atStart =>
            refine ⟨0, by omega, rfl, ?_, ?_, (Below.refl _ _).alloc (Nat.le_refl _) _⟩
            · rw [HL.out]; exact strsAt_new wc _ _ rfl
            · show wc.heap.size < (wc.heap.push _).size; simp
          case round =>
            obtain ⟨k2, hk2, rfl, hst, hlt0, hbw⟩ := hrel
            by_cases hlt2 : k2 < 6
            · have hcell := hst k2 (by rw [HLL.out]; exact hlt2)
              have hsz := HLS.out _ (List.getElem_mem (show k2 < L.length by rw [HLL.out]; exact hlt2))
              generalize (L[k2]'(by rw [HLL.out]; exact hlt2)) = s at hcell hsz
              obtain ⟨ys, N, LN, E, js, hex⟩ := exBoth s hsz
              have HEX := Lib.hid hex
              have HGr := Lib.hid (HG0.out.below (HB5.out.trans (hbw.mono HB5.out.size)))
              have HST := Lib.hid hst
              have HBW := Lib.hid hbw
              clear hex hst hbw
              go_wp2_with (first
                | (go_at_call 13; go_must (refine (HEX.out.sc _ HGr.out).mono ?_; rintro e w6 ⟨hb6, XA, xc, rfl, hX⟩; (have HX := Lib.hid hX); clear hX))
                | (go_at_call 14; go_must (refine (HEX.out.rsc _).mono ?_; rintro e w7 ⟨hb7, YA, yc, rfl, hY⟩; (have HX7 := Lib.hid (HX.out.up hb7)); (have HY := Lib.hid hY); clear hY))
                | (go_at_call 15; (with_reducible refine (HEX.out.same _ XA YA xc yc HX7.out HY.out).mono ?_); rintro e w' ⟨rfl, q, rfl⟩)
                | (go_at_call 16; go_must (refine (word_any s _ (by omega)).mono ?_; rintro e w' ⟨rfl, rfl⟩))
                | (go_at_call 17; go_must (refine (rword_any s _ (by omega)).mono ?_; rintro e w' ⟨rfl, rfl⟩))
                | (go_at_call 18; (with_reducible refine (HEX.out.jo _ YA yc (HY.out.drewN q)).mono ?_); rintro e w8 ⟨rfl, hb8⟩)
                | (go_at_call 19; (with_reducible refine (HEX.out.rjo _ YA yc ((HY.out.drewN q).up hb8)).mono ?_); rintro e w' ⟨rfl, q2, rfl⟩))
              go_roundw
              case rel =>
                have h1 := hb6.trans ((below_drewN (hb7.mono hb6.size) q).trans (below_drewN (hb8.mono (Nat.le_trans hb6.size hb7.size)) q2))
                exact ⟨k2 + 1, by omega, by go_num, HST.out.below h1 hlt0, Nat.lt_of_lt_of_le hlt0 h1.size, HBW.out.trans (h1.mono (by omega))⟩
              case measure => simp [intOf]; omega
            · obtain rfl : k2 = 6 := by omega
              have hdr : DeckOk wr w1.heap.size := HD5.out.below hbw HD5.out.lt
              have HBr := Lib.hid (HB5.out.trans (hbw.mono HB5.out.size))
              have HGr := Lib.hid (HG0.out.below HBr.out)
              have hlr : w.heap.size ≤ wr.heap.size := HBr.out.size
              clear hst hbw
              go_wp2_with (go_at_call 20; go_must (refine (next_any _ _ hdr 1000 (by omega) (by omega)).mono ?_; rintro e wn ⟨r, rfl, hr0, hr1, hdn, hgr⟩; (have HGR := Lib.hid hgr); clear hgr hdn hdr))
              have HBn := Lib.hid (HBr.out.trans (below_grown HGR.out hl1 hlr))
              have hln : w.heap.size ≤ wn.heap.size := HBn.out.size
              obtain ⟨NL, hNL⟩ : ∃ NL : List Int, NL = [num, r, 9999999, 10000000, -1] := ⟨_, rfl⟩
              have HNL : Hid (NL.length = 5) := Lib.hid (by rw [hNL]; rfl)
              have HNS : Hid (∀ x ∈ NL, -9223372036854775808 ≤ x ∧ x ≤ 9223372036854775807) := Lib.hid (by
                intro x hx
                rw [hNL] at hx
                simp only [List.mem_cons, List.not_mem_nil, or_false] at hx
                rcases hx with rfl | rfl | rfl | rfl | rfl <;> omega)
              have HNE := Lib.hid hNL
              clear hNL
              go_wp2_with fail
              go_loopw [135] (fun i wr => ∃ k : Nat, k ≤ 5 ∧ i = .int .i64 k ∧ IntsAt wr wn.heap.size NL ∧ wn.heap.size < wr.heap.size ∧ Below wn.heap.size wn wr) (fun i _ => 5 - (intOf i).toNat)
              case atStart =>
                refine ⟨0, by omega, rfl, ?_, ?_, (Below.refl _ _).alloc (Nat.le_refl _) _⟩
                · rw [HNE.out]; exact intsAt_new wn _ _ rfl
                · show wn.heap.size < (wn.heap.push _).size; simp
              case round =>
                obtain ⟨k3, hk3, rfl, hst, hlt3, hbw⟩ := hrel
                have HST := Lib.hid hst
                have HBW := Lib.hid hbw
                clear hst hbw
                by_cases hlt2 : k3 < 5
                · have hcell := HST.out k3 (by rw [HNL.out]; exact hlt2)
                  have hsz := HNS.out _ (List.getElem_mem (show k3 < NL.length by rw [HNL.out]; exact hlt2))
                  generalize (NL[k3]'(by rw [HNL.out]; exact hlt2)) = x at hcell hsz
                  obtain ⟨x0, x1⟩ := hsz
                  have HGq := Lib.hid (HG0.out.below (HBn.out.trans (HBW.out.mono hln)))
                  obtain ⟨tx, htx⟩ : ∃ tx : ByteArray, tx = ⟨(numText x).toArray⟩ := ⟨_, rfl⟩
                  have N1 : Hid (Calls Tryd.prog 21 #[.int .i64 x] wr fun e w' => e = .returned (.string tx) ∧ Below wr.heap.size wr w') := Lib.hid (by rw [htx]; exact numberTok_any x wr HGq.out x0 x1)
                  have N2 : Hid (∀ W : World, Calls Tryd.prog 22 #[.int .i64 x] W fun e w' => e = .returned (.string tx) ∧ Below W.heap.size W w') := Lib.hid (fun W => by rw [htx]; exact rnum_any x.toNat x W (Nat.le_refl _) x0 x1)
                  clear htx
                  go_wp2_with (first
                    | (go_at_call 21; go_must (refine N1.out.mono ?_; rintro e w6 ⟨rfl, hb6⟩))
                    | (go_at_call 22; go_must (refine (N2.out _).mono ?_; rintro e w7 ⟨rfl, hb7⟩)))
                  go_roundw
                  case rel =>
                    have h1 := hb6.trans (hb7.mono hb6.size)
                    exact ⟨k3 + 1, by omega, by go_num, HST.out.below h1 hlt3, Nat.lt_of_lt_of_le hlt3 h1.size, HBW.out.trans (h1.mono (by omega))⟩
                  case measure => simp [intOf]; omega
                · obtain rfl : k3 = 5 := by omega
                  have HBf := Lib.hid (HBn.out.trans (HBW.out.mono hln))
                  have hlf : w.heap.size ≤ wr.heap.size := HBf.out.size
                  obtain ⟨js, hjs⟩ : ∃ js : ByteArray, js = ⟨(joinL false xs).toArray⟩ := ⟨_, rfl⟩
                  have J1 : Hid (Calls Tryd.prog 18 #[.slice TA k tc] wr fun e w' => e = .returned (.string js) ∧ Below wr.heap.size wr w') := Lib.hid (by
                    have := join_any TA tc xs wr w.heap.size hlf (HT.out.below HBf.out) (by rw [HXL.out]; omega) (by omega)
                    rw [← hjs, HXL.out] at this; exact this)
                  have J2 : Hid (∀ W : World, Below wr.heap.size wr W → Calls Tryd.prog 19 #[.slice TA k tc] W fun e w' => e = .returned (.string js) ∧ ∃ n, w' = W.drewN n) := Lib.hid (fun W hW => by
                    have := rjoin_any TA tc xs W w.heap.size (HT.out.below (HBf.out.trans (hW.mono hlf))) (by rw [HXL.out]; omega) (by omega)
                    rw [← hjs, HXL.out] at this; exact this)
                  clear hjs
                  go_wp2_with (first
                    | (go_at_call 18; go_must (refine J1.out.mono ?_; rintro e w6 ⟨rfl, hb6⟩))
                    | (go_at_call 19; go_must (refine (J2.out _ hb6).mono ?_; rintro e w' ⟨rfl, q2, rfl⟩)))
                  go_ret
                  exact ⟨rfl, below_drewN (HBf.out.trans (hb6.mono hlf)) _⟩
  · by_cases hf1 : n ≤ 400
    · have FW : Hid (∀ W : World, Calls Tryd.prog 9 #[.slice A n c] W fun e w' => e = .returned (.bool true) ∧ W = w') := Lib.hid (fun W => by
        have := few_any W A n c HN.out; rw [decide_eq_true hf1] at this; exact this)
      by_cases hr : raw.size ≤ 400
      · have r1 : decide (400 < (raw.size : Int)) = false := by simp; omega
        have t1 : decide (40 < (tn : Int)) = true := by simp; omega
        go_enter Tryd.func3, Tryd.ntmps3
        go_wp2_with (first
          | (go_at_call 8; (with_reducible refine (awake14_any _ HG.out).mono ?_); rintro e w1 ⟨rfl, hb1⟩)
          | (go_at_call 8; (with_reducible refine (awake14_any _ (HG.out.below hb1)).mono ?_); rintro e w2 ⟨rfl, hb2⟩)
          | (go_at_call 9; go_must (refine (FW.out _).mono ?_; rintro e w' ⟨rfl, rfl⟩)))
        go_ret
        exact ⟨rfl, hb1.trans (hb2.mono hb1.size)⟩
      · have r1 : decide (400 < (raw.size : Int)) = true := by simp; omega
        go_enter Tryd.func3, Tryd.ntmps3
        go_wp2_with (first
          | (go_at_call 8; (with_reducible refine (awake14_any _ HG.out).mono ?_); rintro e w1 ⟨rfl, hb1⟩)
          | (go_at_call 8; (with_reducible refine (awake14_any _ (HG.out.below hb1)).mono ?_); rintro e w2 ⟨rfl, hb2⟩)
          | (go_at_call 9; go_must (refine (FW.out _).mono ?_; rintro e w' ⟨rfl, rfl⟩)))
        go_ret
        exact ⟨rfl, hb1.trans (hb2.mono hb1.size)⟩
    · have FW : Hid (∀ W : World, Calls Tryd.prog 9 #[.slice A n c] W fun e w' => e = .returned (.bool false) ∧ W = w') := Lib.hid (fun W => by
        have := few_any W A n c HN.out; rw [decide_eq_false hf1] at this; exact this)
      go_enter Tryd.func3, Tryd.ntmps3
      go_wp2_with (first
        | (go_at_call 8; (with_reducible refine (awake14_any _ HG.out).mono ?_); rintro e w1 ⟨rfl, hb1⟩)
        | (go_at_call 8; (with_reducible refine (awake14_any _ (HG.out.below hb1)).mono ?_); rintro e w2 ⟨rfl, hb2⟩)
        | (go_at_call 9; go_must (refine (FW.out _).mono ?_; rintro e w' ⟨rfl, rfl⟩)))
      go_ret
      exact ⟨rfl, hb1.trans (hb2.mono hb1.size)⟩
end Go.Proofs.YtnibnkblkabalaaDoor
