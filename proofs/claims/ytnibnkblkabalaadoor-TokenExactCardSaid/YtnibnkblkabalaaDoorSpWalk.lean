/- The walk of TokenSpaces. -/
import Derived.Test.YtnibnkblkabalaaDoorFront
import Derived.Test.YtnibnkblkabalaaDoorSpaces
namespace Go.Proofs.YtnibnkblkabalaaDoor
open Go.RowKit
set_option linter.unusedSimpArgs false
set_option linter.unusedVariables false

def toksOf : SRes → List Tok
  | .ok ts => ts
  | .er _ _ => []
def errOf : SRes → Nat
  | .ok _ => 0
  | .er _ e => e
/-- tokens in new memory or an error, of a length and an error number that have names of their own -/
def ScanAny (w : World) (R : SRes) (n e0 : Nat) (e : Ending) (w' : World) : Prop :=
  Below w.heap.size w w' ∧ ∃ A c, ∃ ln : Int, e = .returned (.tuple #[.slice A n c, .int .i64 ln, .int .i64 (e0 : Int)]) ∧ Toks w' w'.heap.size A (toksOf R)
theorem ScanAny.of {w : World} {R : SRes} {n e0 : Nat} {e : Ending} {w' : World} (h : ScanPost w R e w') (hn : (toksOf R).length = n) (he : errOf R = e0) : ScanAny w R n e0 e w' := by
  subst hn; subst he
  obtain ⟨hb, hp⟩ := h
  cases R with
  | er ln er =>
    obtain rfl := hp
    exact ⟨hb, none, 0, ln, rfl, Reads.none_⟩
  | ok ts =>
    obtain ⟨v, rfl, hown⟩ := hp
    obtain ⟨A, c, rfl⟩ := own_form hown
    exact ⟨hb, A, c, 0, rfl, reads_own hown rfl⟩
theorem Toks.up {w w' : World} {A : Option Addr} {xs : List Tok} (h : Toks w w.heap.size A xs) (hb : Below w.heap.size w w') : Toks w' w'.heap.size A xs := Reads.more (Reads.below h hb) hb.size
theorem sim_parts {R Q : SRes} (h : SimR R Q) : (toksOf R).length = (toksOf Q).length ∧ joinL false (toksOf R) = joinL false (toksOf Q) ∧ errOf R = errOf Q := by
  cases R <;> cases Q
  · exact ⟨strip_len h, joinL_strip _ _ _ h, rfl⟩
  · exact h.elim
  · exact h.elim
  · exact ⟨rfl, rfl, h⟩
theorem scan_join_len {l : List UInt8} {R : SRes} (h : ScanOk l 1 false [] R) : (toksOf R).length ≤ 2 * l.length ∧ (joinL false (toksOf R)).length ≤ 5 * l.length := by
  cases R with
  | er ln er => exact ⟨Nat.zero_le _, Nat.zero_le _⟩
  | ok xs =>
    obtain ⟨new, hnew, _, _, hlen, htx⟩ := h
    rw [List.nil_append] at hnew
    subst hnew
    rw [b2n_f] at hlen
    have := joinL_len xs false
    exact ⟨hlen, by show (joinL false xs).length ≤ _; omega⟩

set_option maxRecDepth 100000 in
set_option maxHeartbeats 2000000 in
theorem tokenSpaces_any (A : Option Addr) (n c : Nat) (hn : n ≤ 9223372036854775807) (w : World) (hg : Glob w) (hA : IntsArg w A n) :
    Calls Tryd.prog 5 #[.slice A n c] w fun e w' => e = .returned (.bool true) ∧ Below w.heap.size w w' := by
  have HG := Lib.hid hg
  have HA := Lib.hid hA
  have HN := Lib.hid hn
  clear hg hA hn
  by_cases hf : n ≤ 400
  · have FW : Hid (∀ W : World, Calls Tryd.prog 9 #[.slice A n c] W fun e w' => e = .returned (.bool true) ∧ W = w') := Lib.hid (fun W => by
      have := few_any W A n c HN.out; rw [decide_eq_true hf] at this; exact this)
    go_enter Tryd.func5, Tryd.ntmps5
    go_wp2_with (first
      | (go_at_call 8; go_must (refine (awake14_any _ HG.out).mono ?_; rintro e w1 ⟨rfl, hb1⟩))
      | (go_at_call 9; go_must (refine (FW.out _).mono ?_; rintro e w' ⟨rfl, rfl⟩))
      | (go_at_call 10; go_must (refine (new_arg _ _ _ _ hf (HA.out.below hb1)).mono ?_; rintro e w2 ⟨rfl, hd, hb2⟩))
      | (go_at_call 11; go_must (refine (text_new (B := w1.heap.size) _ hd (Nat.le_refl _) hb2.size).mono ?_; rintro e w3 ⟨s, rfl, hs, hd3, hb3⟩)))
    have hG3 : Glob w3 := HG.out.below (hb1.trans ((hb2.mono hb1.size).trans (hb3.mono hb1.size)))
    have HG3 := Lib.hid hG3
    have hB3 := hb1.trans ((hb2.mono hb1.size).trans (hb3.mono hb1.size))
    have hl3 : w.heap.size ≤ w3.heap.size := hB3.size
    clear hG3 hb1 hb2 hb3 hd hd3
    have hok := scanR_ok (s.size + 1) s.data.toList 1 false [] (Nat.lt_succ_self _) (by rw [b2n_f]; show 0 + 2 * s.size + 0 ≤ 1024; omega)
    have hsim : ∀ G, (wideL s.data.toList).length < G → SimR (scanR (s.size + 1) s.data.toList 1 false []) (scanR G (wideL s.data.toList) 2 false []) := fun G hG =>
      spaces_law s.data.toList.length s.data.toList [] [] 1 2 false (s.size + 1) G (Nat.le_refl _) rfl (by rw [b2n_f]; show 0 + 2 * s.size + 0 ≤ 1024; omega) (Nat.lt_succ_self _) hG
    have hlen := scan_join_len hok
    have hscan := scanTok_ref s w3 (by omega) HG3.out
    have hwl := wideL_len s.data.toList
    have hsl : s.data.toList.length = s.size := rfl
    rw [hsl] at hwl hlen
    generalize hR : scanR (s.size + 1) s.data.toList 1 false [] = R at hsim hlen hscan
    obtain ⟨N, hN⟩ : ∃ N, (toksOf R).length = N := ⟨_, rfl⟩
    obtain ⟨E, hE⟩ : ∃ E, errOf R = E := ⟨_, rfl⟩
    obtain ⟨s5, hs5⟩ : ∃ s5 : ByteArray, s5.data.toList = joinL false (toksOf R) := ⟨⟨(joinL false (toksOf R)).toArray⟩, rfl⟩
    have hs5' : (⟨(joinL false (toksOf R)).toArray⟩ : ByteArray) = s5 := by rw [← hs5]
    -- the scan of the wide text
    have SW : Hid (∀ (W : World) (a : ByteArray), Glob W → a.data.toList = wideL s.data.toList → ∃ Q : SRes, Calls Tryd.prog 13 #[.string (⟨#[35, 32, 104, 101, 97, 100, 10]⟩ ++ a)] W (ScanAny W Q N E) ∧ (toksOf Q).length = N ∧ joinL false (toksOf Q) = joinL false (toksOf R)) := Lib.hid (fun W a hW ha => by
      have hal : a.size = (wideL s.data.toList).length := by rw [← ha]; rfl
      have hda : ((⟨#[35, 32, 104, 101, 97, 100, 10]⟩ : ByteArray) ++ a).data.toList = [35, 32, 104, 101, 97, 100, 10] ++ wideL s.data.toList := by rw [ByteArray.data_append, Array.toList_append, ha]
      have hsz : ((⟨#[35, 32, 104, 101, 97, 100, 10]⟩ : ByteArray) ++ a).size = 7 + a.size := by rw [ByteArray.size_append]; rfl
      have h1 := scanTok_ref ((⟨#[35, 32, 104, 101, 97, 100, 10]⟩ : ByteArray) ++ a) W (by omega) hW
      rw [hda, hsz, show 7 + a.size + 1 = (a.size + 6) + 2 from by omega, scanR_head] at h1
      obtain ⟨q1, q2, q3⟩ := sim_parts (hsim (a.size + 6) (by omega))
      exact ⟨_, h1.mono fun e w' h => ScanAny.of h (q1.symm.trans hN) (q3.symm.trans hE), q1.symm.trans hN, q2.symm⟩)
    have JO : Hid (∀ (W : World) (XA : Option Addr) (xc : Nat) (ts : List Tok), Toks W W.heap.size XA ts → ts.length = N → joinL false ts = joinL false (toksOf R) → Calls Tryd.prog 18 #[.slice XA N xc] W fun e w' => e = .returned (.string s5) ∧ Below W.heap.size W w') := Lib.hid (fun W XA xc ts hT hlt hj => by
      have := join_any XA xc ts W W.heap.size (Nat.le_refl _) hT (by omega) (by rw [hj]; omega)
      rw [hj, hs5', hlt] at this; exact this)
    have SX : Hid (Calls Tryd.prog 13 #[.string s] w3 (ScanAny w3 R N E)) := Lib.hid (hscan.mono fun e w' h => ScanAny.of h hN hE)
    have HNE := Lib.hid hN
    clear hok hsim hlen hscan hR hN hE hs5 hs5' hwl hsl
    go_wp2_with (go_at_call 13; go_must (refine SX.out.mono ?_; rintro e w4 ⟨hb4, XA, xc, ln, rfl, hX⟩))
    have hl4 : w3.heap.size ≤ w4.heap.size := hb4.size
    have hB4 := hB3.trans (hb4.mono hl3)
    have HG4 := Lib.hid (HG3.out.below hb4)
    have HX := Lib.hid hX
    clear hX hb4 HG3 SX
    go_loop [8, 9] (fun v i => ∃ (k : Nat) (a : ByteArray), k ≤ s.size ∧ i = .int .i64 k ∧ v = .string a ∧ a.data.toList = wideL (s.data.toList.take k)) (fun _ i => s.size - (intOf i).toNat)
    case atStart => exact ⟨0, ⟨#[]⟩, by omega, rfl, rfl, rfl⟩
    case round =>
      obtain ⟨k, a, hk, rfl, rfl, ha⟩ := hrel
      have hal : a.size ≤ 2730 := by
        have h1 := wideL_len (s.data.toList.take k)
        rw [← ha, List.length_take] at h1
        have : a.data.toList.length = a.size := rfl
        omega
      by_cases hlt : k < s.size
      · have hex : (s.extract k (k + 1)).data.toList = [s[k]] := by
          rw [Lib.extract_data, show k + 1 - k = 1 from by omega, List.drop_eq_getElem_cons (show k < s.data.toList.length from hlt)]; rfl
        have HS : Hid (wideL (s.data.toList.take (k + 1)) = a.data.toList ++ (if s[k].toNat = 10 then preL else []) ++ [s[k]]) := Lib.hid (by rw [take_snoc s k hlt, wideL_snoc, ha])
        have HEX := Lib.hid hex
        clear ha hex
        by_cases h10 : s[k].toNat = 10
        · have c10 : ((s[k].toNat : Int) == 10) = true := by simp [h10]
          have HS2 : Hid (wideL (s.data.toList.take (k + 1)) = a.data.toList ++ preL ++ [s[k]]) := Lib.hid (by rw [HS.out, if_pos h10])
          clear h10 HS
          go_wp2
          go_round
          case rel => exact ⟨k + 1, _, by omega, by go_num, rfl, by rw [HS2.out]; simp only [ByteArray.data_append, Array.toList_append, HEX.out]; rfl⟩
          case measure => simp [intOf]; omega
        · have c10 : ((s[k].toNat : Int) == 10) = false := by simp; omega
          have HS2 : Hid (wideL (s.data.toList.take (k + 1)) = a.data.toList ++ [s[k]]) := Lib.hid (by rw [HS.out, if_neg h10, List.append_nil])
          clear h10 HS
          go_wp2
          go_round
          case rel => exact ⟨k + 1, _, by omega, by go_num, rfl, by rw [HS2.out]; simp only [ByteArray.data_append, Array.toList_append, HEX.out]⟩
          case measure => simp [intOf]; omega
      · have hae : a.data.toList = wideL s.data.toList := by rw [ha, List.take_of_length_le (show s.data.toList.length ≤ k from by show s.size ≤ k; omega)]
        obtain ⟨Q, hQ, hq1, hq2⟩ := SW.out w4 a HG4.out hae
        have HQ := Lib.hid hQ
        have HQ1 := Lib.hid hq1
        have HQ2 := Lib.hid hq2
        clear ha hae hQ hq1 hq2
        go_wp2_with (first
          | (go_at_call 13; go_must (refine HQ.out.mono ?_; rintro e w5 ⟨hb5, YA, yc, lm, rfl, hY⟩; (have HY := Lib.hid hY); clear hY))
          | (go_at_call 18; (with_reducible refine (JO.out _ XA xc (toksOf R) (HX.out.up hb5) HNE.out rfl).mono ?_); rintro e w6 ⟨rfl, hb6⟩)
          | (go_at_call 18; (with_reducible refine (JO.out _ YA yc (toksOf Q) (HY.out.up hb6) HQ1.out HQ2.out).mono ?_); rintro e w7 ⟨rfl, hb7⟩))
        go_ret
        have hl5 := hb5.size
        have hl6 := hb6.size
        exact ⟨rfl, hB4.trans ((hb5.mono (by omega)).trans ((hb6.mono (by omega)).trans (hb7.mono (by omega))))⟩
  · have FW : Hid (∀ W : World, Calls Tryd.prog 9 #[.slice A n c] W fun e w' => e = .returned (.bool false) ∧ W = w') := Lib.hid (fun W => by
      have := few_any W A n c HN.out; rw [decide_eq_false hf] at this; exact this)
    go_enter Tryd.func5, Tryd.ntmps5
    go_wp2_with (first
      | (go_at_call 8; (with_reducible refine (awake14_any _ HG.out).mono ?_); rintro e w1 ⟨rfl, hb1⟩)
      | (go_at_call 8; (with_reducible refine (awake14_any _ (HG.out.below hb1)).mono ?_); rintro e w2 ⟨rfl, hb2⟩)
      | (go_at_call 9; go_must (refine (FW.out _).mono ?_; rintro e w' ⟨rfl, rfl⟩)))
    go_ret
    exact ⟨rfl, hb1.trans (hb2.mono hb1.size)⟩
end Go.Proofs.YtnibnkblkabalaaDoor
