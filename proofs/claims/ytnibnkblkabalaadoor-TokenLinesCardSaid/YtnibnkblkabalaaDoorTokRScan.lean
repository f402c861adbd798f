/- The reference's Scan. -/
import Derived.Test.YtnibnkblkabalaaDoorTokSpec
namespace Go.Proofs.YtnibnkblkabalaaDoor
open Go.RowKit
set_option linter.unusedSimpArgs false
set_option linter.unusedVariables false

theorem infoToken : (Tryd.prog.info? 27).map (fun i => (i.zero, i.size, i.bytes)) = some (some (.agg #[.int .i64 0, .string ⟨#[]⟩, .int .i64 0]), 3, 32) := by kernel_rfl

/-- what a scan leaves: the tokens in new memory, or an error -/
def ScanPost (w : World) (r : SRes) (e : Ending) (w' : World) : Prop :=
  Below w.heap.size w w' ∧ match r with
  | .er ln er => e = .returned (.tuple #[.slice none 0 0, .int .i64 ln, .int .i64 er])
  | .ok ts => ∃ v, e = .returned (.tuple #[v, .int .i64 0, .int .i64 0]) ∧ w'.ownsRow w.heap.size 27 3 v ts.length (tokCells ts)

section
variable {s : ByteArray} {k ln : Nat} {sb : Bool} {ts : List Tok}
theorem scanR_end : scanR (s.size + 1 - s.size) (s.data.toList.drop s.size) ln sb ts = if (withEnd sb ts ln).length > 1024 then .er ln 1 else .ok (withEnd sb ts ln) := by
  have h : s.data.toList.drop s.size = [] := by simp
  rw [h, show s.size + 1 - s.size = 0 + 1 from by omega]; simp [scanR]
theorem drop_cons (hk : k < s.size) : s.data.toList.drop k = s[k] :: s.data.toList.drop (k + 1) := List.drop_eq_getElem_cons (l := s.data.toList) (by simpa using hk)
theorem scanR_nl (hk : k < s.size) (h : s[k].toNat = 10) : scanR (s.size + 1 - k) (s.data.toList.drop k) ln sb ts = if (withEnd sb ts ln).length > 1024 then .er ln 1 else scanR (s.size + 1 - (k + 1)) (s.data.toList.drop (k + 1)) (ln + 1) false (withEnd sb ts ln) := by
  rw [drop_cons hk, show s.size + 1 - k = (s.size + 1 - (k + 1)) + 1 from by omega]
  simp only [scanR, List.headD_cons, h, List.tail_cons, if_true]
  simp
theorem scanR_fuel : ∀ (f g : Nat) (l : List UInt8) (ln : Nat) (sb : Bool) (ts : List Tok), l.length < f → l.length < g → scanR f l ln sb ts = scanR g l ln sb ts := by
  intro f
  induction f with
  | zero => intro g l _ _ _ h; omega
  | succ f ih =>
    intro g l ln sb ts hf hg
    obtain ⟨g, rfl⟩ : ∃ g', g = g' + 1 := ⟨g - 1, by omega⟩
    simp only [scanR]
    by_cases hl : l = []
    · rw [if_pos hl, if_pos hl]
    · rw [if_neg hl, if_neg hl]
      have hpos : 0 < l.length := List.length_pos_iff.2 hl
      by_cases h10 : (l.headD 0).toNat = 10
      · rw [if_pos h10, if_pos h10, ih g _ _ _ _ (by simp; omega) (by simp; omega)]
      · rw [if_neg h10, if_neg h10]
        by_cases h0 : (oneL l).1 = 0
        · rw [if_pos h0, if_pos h0]
        · rw [if_neg h0, if_neg h0]
          rw [ih g (l.drop (oneL l).1) _ true _ (by simp; omega) (by simp; omega), ih g (l.drop (oneL l).1) _ sb _ (by simp; omega) (by simp; omega)]
theorem scanR_tok (hk : k < s.size) (h : s[k].toNat ≠ 10) (t : ByteArray) (ht : t.data.toList = s.data.toList.drop k) : scanR (s.size + 1 - k) (s.data.toList.drop k) ln sb ts =
    if (oneL t.data.toList).1 = 0 then .er ln 12
    else if (oneL t.data.toList).2 > 0 then
      (if ts.length + 1 > 1024 then .er ln 1 else scanR (s.size + 1 - (k + (oneL t.data.toList).1)) (s.data.toList.drop (k + (oneL t.data.toList).1)) ln true (ts ++ [mkTok (oneL t.data.toList).2 (t.data.toList.take (oneL t.data.toList).1) ln]))
    else scanR (s.size + 1 - (k + (oneL t.data.toList).1)) (s.data.toList.drop (k + (oneL t.data.toList).1)) ln sb ts := by
  have e : s.size + 1 - k = (s.size - k) + 1 := by omega
  rw [ht, e]
  have hh : (s.data.toList.drop k).headD 0 = s[k] := by rw [drop_cons hk]; rfl
  have hne : s.data.toList.drop k ≠ [] := by rw [drop_cons hk]; simp
  have hl1 : (oneL (s.data.toList.drop k)).1 ≤ s.size - k := by have := oneL_le (s.data.toList.drop k); simpa using this
  simp only [scanR, hh, if_neg h, if_neg hne, List.drop_drop]
  by_cases h0 : (oneL (s.data.toList.drop k)).1 = 0
  · rw [if_pos h0, if_pos h0]
  · rw [if_neg h0, if_neg h0]
    have hf : ∀ (a b : Nat) (sb : Bool) (us : List Tok), a = s.size - k → b = s.size + 1 - (k + (oneL (s.data.toList.drop k)).1) → scanR a (s.data.toList.drop (k + (oneL (s.data.toList.drop k)).1)) ln sb us = scanR b (s.data.toList.drop (k + (oneL (s.data.toList.drop k)).1)) ln sb us := by
      intro a b sb us ha hb
      exact scanR_fuel _ _ _ _ _ _ (by simp; omega) (by simp; omega)
    rw [hf _ _ true _ rfl rfl, hf _ _ sb _ rfl rfl]
end

theorem withEnd_false (ts : List Tok) (ln : Nat) : withEnd false ts ln = ts := rfl
theorem withEnd_true (ts : List Tok) (ln : Nat) : withEnd true ts ln = ts ++ [endTok ln] := rfl
theorem scanPost_er {w w' : World} {ln er : Nat} {r : SRes} (hr : .er ln er = r) (hb : Below w.heap.size w w') : ScanPost w r (.returned (.tuple #[.slice none 0 0, .int .i64 ln, .int .i64 er])) w' := by
  subst hr; exact ⟨hb, rfl⟩

set_option maxRecDepth 100000 in
set_option maxHeartbeats 4000000 in
theorem rscan_any (s : ByteArray) (w : World) (hs : s.size ≤ 4096) :
    Calls Tryd.prog 14 #[.string s] w (ScanPost w (scanR (s.size + 1) s.data.toList 1 false [])) := by
  have hsz : s.data.toList.length = s.size := by simp
  obtain ⟨i0, hi, hz0, hz1, hz2⟩ := info_parts infoToken
  go_enter Tryd.func14, Tryd.ntmps14
  go_wp2
  go_loopw [5, 6, 7, 8] (fun o l sm a wr => ∃ (k ln : Nat) (sb : Bool) (ts : List Tok), l = .int .i64 ln ∧ sm = .bool sb ∧ a = .int .i64 k ∧ wr.ownsRow w.heap.size 27 3 o ts.length (tokCells ts) ∧ Below w.heap.size w wr ∧ ln ≤ k + 1 ∧ ts.length ≤ 1024 ∧
    ((k ≤ s.size ∧ scanR (s.size + 1 - k) (s.data.toList.drop k) ln sb ts = scanR (s.size + 1) s.data.toList 1 false []) ∨ (k = s.size + 1 ∧ SRes.ok ts = scanR (s.size + 1) s.data.toList 1 false []))) (fun _ _ _ a _ => s.size + 1 - (intOf a).toNat)
  case atStart => exact ⟨0, 1, false, [], rfl, rfl, rfl, World.ownsRow_nil _ _ _ _, Below.refl _ _, by omega, by simp, .inl ⟨by omega, rfl⟩⟩
  case round =>
    obtain ⟨k, ln, sb, ts, rfl, rfl, rfl, hown, hbe, hln, htl, hg⟩ := hrel
    obtain ⟨A, c, rfl⟩ := own_form hown
    have hbs := hbe.size
    by_cases hle : k ≤ s.size
    · have hg1 : scanR (s.size + 1 - k) (s.data.toList.drop k) ln sb ts = scanR (s.size + 1) s.data.toList 1 false [] := by
        rcases hg with ⟨_, h⟩ | ⟨h, _⟩
        · exact h
        · omega
      clear hg
      by_cases hend : k = s.size
      · subst hend
        rw [scanR_end] at hg1
        have HG := Lib.hid hg1
        clear hg1
        have hse : ((s.size : Int) == (s.size : Int)) = true := by simp
        rcases sb with _ | _
        · have HG2 : Hid (SRes.ok ts = scanR (s.size + 1) s.data.toList 1 false []) := Lib.hid (by rw [← HG.out]; first | rw [withEnd_false, if_neg (by omega)] | rw [withEnd_true, if_neg (by simp; omega)])
          clear HG
          go_wp2
          go_roundw
          case rel => exact ⟨s.size + 1, ln + 1, false, ts, by go_num, rfl, by go_num, hown, hbe, by omega, htl, .inr ⟨rfl, HG2.out⟩⟩
          case measure => simp [intOf] <;> omega
        · by_cases hlim : ts.length + 1 ≤ 1024
          · have HG2 : Hid (SRes.ok (ts ++ [endTok ln]) = scanR (s.size + 1) s.data.toList 1 false []) := Lib.hid (by rw [← HG.out]; first | rw [withEnd_false, if_neg (by omega)] | rw [withEnd_true, if_neg (by simp; omega)])
            clear HG
            go_wp2_with (at_builtin; go_must (refine wpList_append_own _ rfl _ _ 23 rfl w.heap.size 27 i0 _ 3 32 Tryd.underlying23 hi hz0 hz1 hz2 rfl (by decide) _ _ _ rfl (hown.alloc _) ⟨wr.heap.size, 0, none⟩ 1 1 (tokCells [endTok ln]) rfl rfl (cells_new_list wr _ _) (by simp [tokCells, Tok.cells, Value.oneCell']) (by unfold maxLen; omega) (by omega) (by simp; omega) ?_; intro v1 w1 hown1 hgr1 _; obtain ⟨A1, c1, rfl⟩ := own_form hown1))
            go_roundw
            case rel => exact ⟨s.size + 1, ln + 1, false, ts ++ [endTok ln], by go_num, rfl, by go_num, by simpa [tokCells_append] using hown1, below_own (hbe.alloc hbs _) (hown.alloc _) hgr1 (by simp; omega), by omega, by simpa using hlim, .inr ⟨rfl, HG2.out⟩⟩
            case measure => simp [intOf] <;> omega
          · have HG2 : Hid (SRes.er ln 1 = scanR (s.size + 1) s.data.toList 1 false []) := Lib.hid (by rw [← HG.out]; rw [withEnd_true, if_pos (by simp; omega)])
            clear HG
            go_wp2_with (at_builtin; go_must (refine wpList_append_own _ rfl _ _ 23 rfl w.heap.size 27 i0 _ 3 32 Tryd.underlying23 hi hz0 hz1 hz2 rfl (by decide) _ _ _ rfl (hown.alloc _) ⟨wr.heap.size, 0, none⟩ 1 1 (tokCells [endTok ln]) rfl rfl (cells_new_list wr _ _) (by simp [tokCells, Tok.cells, Value.oneCell']) (by unfold maxLen; omega) (by omega) (by simp; omega) ?_; intro v1 w1 hown1 hgr1 _; obtain ⟨A1, c1, rfl⟩ := own_form hown1))
            go_ret3
            exact scanPost_er HG2.out (below_own (hbe.alloc hbs _) (hown.alloc _) hgr1 (by simp; omega))
      · have hlt : k < s.size := by omega
        have hne : ((k : Int) == (s.size : Int)) = false := by simp; omega
        clear hend
        by_cases h10 : s[k].toNat = 10
        · rw [scanR_nl hlt h10] at hg1
          have HG := Lib.hid hg1
          have g10 : ((s[k].toNat : Int) == 10) = true := by simp [h10]
          clear hg1 h10
          rcases sb with _ | _
          · have HG2 : Hid (scanR (s.size + 1 - (k + 1)) (s.data.toList.drop (k + 1)) (ln + 1) false ts = scanR (s.size + 1) s.data.toList 1 false []) := Lib.hid (by rw [← HG.out]; first | rw [withEnd_false, if_neg (by omega)] | rw [withEnd_true, if_neg (by simp; omega)])
            clear HG
            go_wp2
            go_roundw
            case rel => exact ⟨k + 1, ln + 1, false, ts, by go_num, rfl, by go_num, hown, hbe, by omega, htl, .inl ⟨by omega, HG2.out⟩⟩
            case measure => simp [intOf] <;> omega
          · by_cases hlim : ts.length + 1 ≤ 1024
            · have HG2 : Hid (scanR (s.size + 1 - (k + 1)) (s.data.toList.drop (k + 1)) (ln + 1) false (ts ++ [endTok ln]) = scanR (s.size + 1) s.data.toList 1 false []) := Lib.hid (by rw [← HG.out]; first | rw [withEnd_false, if_neg (by omega)] | rw [withEnd_true, if_neg (by simp; omega)])
              clear HG
              go_wp2_with (at_builtin; go_must (refine wpList_append_own _ rfl _ _ 23 rfl w.heap.size 27 i0 _ 3 32 Tryd.underlying23 hi hz0 hz1 hz2 rfl (by decide) _ _ _ rfl (hown.alloc _) ⟨wr.heap.size, 0, none⟩ 1 1 (tokCells [endTok ln]) rfl rfl (cells_new_list wr _ _) (by simp [tokCells, Tok.cells, Value.oneCell']) (by unfold maxLen; omega) (by omega) (by simp; omega) ?_; intro v1 w1 hown1 hgr1 _; obtain ⟨A1, c1, rfl⟩ := own_form hown1))
              go_roundw
              case rel => exact ⟨k + 1, ln + 1, false, ts ++ [endTok ln], by go_num, rfl, by go_num, by simpa [tokCells_append] using hown1, below_own (hbe.alloc hbs _) (hown.alloc _) hgr1 (by simp; omega), by omega, by simpa using hlim, .inl ⟨by omega, HG2.out⟩⟩
              case measure => simp [intOf] <;> omega
            · have HG2 : Hid (SRes.er ln 1 = scanR (s.size + 1) s.data.toList 1 false []) := Lib.hid (by rw [← HG.out]; rw [withEnd_true, if_pos (by simp; omega)])
              clear HG
              go_wp2_with (at_builtin; go_must (refine wpList_append_own _ rfl _ _ 23 rfl w.heap.size 27 i0 _ 3 32 Tryd.underlying23 hi hz0 hz1 hz2 rfl (by decide) _ _ _ rfl (hown.alloc _) ⟨wr.heap.size, 0, none⟩ 1 1 (tokCells [endTok ln]) rfl rfl (cells_new_list wr _ _) (by simp [tokCells, Tok.cells, Value.oneCell']) (by unfold maxLen; omega) (by omega) (by simp; omega) ?_; intro v1 w1 hown1 hgr1 _; obtain ⟨A1, c1, rfl⟩ := own_form hown1))
              go_ret3
              exact scanPost_er HG2.out (below_own (hbe.alloc hbs _) (hown.alloc _) hgr1 (by simp; omega))
        · obtain ⟨t, ht, htd⟩ : ∃ t, t = s.extract k s.size ∧ t.data.toList = s.data.toList.drop k := ⟨_, rfl, Lib.extract_to_end s k⟩
          have hts : t.size = s.size - k := by rw [← size_data, htd]; simp
          rw [scanR_tok hlt h10 t htd] at hg1
          have HG := Lib.hid hg1
          have g10 : ((s[k].toNat : Int) == 10) = false := by simp; omega
          have HT := Lib.hid ht
          clear hg1 h10 ht htd
          have hol : (oneL t.data.toList).1 ≤ s.size - k := by have := oneL_le t.data.toList; rw [size_data] at this; omega
          have hok := oneL_kind t.data.toList
          clear hts
          generalize hgo : oneL t.data.toList = ok at *
          obtain ⟨n, kd⟩ := ok
          have HO := Lib.hid hgo
          clear hgo
          simp only at hol hok
          have tsz : t.size ≤ 9223372036854775807 := by rw [HT.out, ByteArray.size_extract]; omega
          have tpos : 0 < t.size := by rw [HT.out, ByteArray.size_extract]; omega
          have ONE : ∀ W : World, Calls Tryd.prog 26 #[.string (s.extract k s.size)] W fun e w' => e = .returned (.tuple #[.int .i64 n, .int .i64 kd]) ∧ W = w' := by
            intro W; have := rone_any t W tsz tpos; rw [HO.out, HT.out] at this; exact this
          have HONE := Lib.hid ONE
          clear ONE tsz tpos
          by_cases hn0 : n = 0
          · subst hn0
            have HG2 : Hid (SRes.er ln 12 = scanR (s.size + 1) s.data.toList 1 false []) := Lib.hid (by rw [← HG.out]; rfl)
            clear HG
            go_wp2_with (go_at_call 26; go_must (refine (HONE.out _).mono ?_; rintro e w' ⟨rfl, rfl⟩))
            go_ret3
            exact scanPost_er HG2.out hbe
          · have hn1 : ((n : Int) == 0) = false := by simp; omega
            have hnp : 0 < n := by omega
            have hkn : ((k : Int) + (n : Int)).toNat = k + n := by omega
            have HKN := Lib.hid hkn
            clear hkn
            by_cases hk0 : kd = 0
            · subst hk0
              have HG2 : Hid (scanR (s.size + 1 - (k + n)) (s.data.toList.drop (k + n)) ln sb ts = scanR (s.size + 1) s.data.toList 1 false []) := Lib.hid (by rw [← HG.out]; simp [hn0])
              clear HG hn0
              go_wp2_with (go_at_call 26; go_must (refine (HONE.out _).mono ?_; rintro e w' ⟨rfl, rfl⟩))
              go_roundw
              case rel => exact ⟨k + n, ln, sb, ts, rfl, rfl, by go_num, hown, hbe, by omega, htl, .inl ⟨by omega, HG2.out⟩⟩
              case measure => simp only [intOf, Int.toNat_natCast, HKN.out]; omega
            · have htk : mkTok kd (t.data.toList.take n) ln = ⟨kd, s.extract k (k + n), ln⟩ := by
                have : (⟨(t.data.toList.take n).toArray⟩ : ByteArray) = s.extract k (k + n) := bytes_ext (by rw [HT.out, Lib.extract_to_end, Lib.extract_data]; simp)
                simp only [mkTok, this]
              have hkp : 0 < kd := by omega
              by_cases hlim : ts.length + 1 ≤ 1024
              · have HG2 : Hid (scanR (s.size + 1 - (k + n)) (s.data.toList.drop (k + n)) ln true (ts ++ [⟨kd, s.extract k (k + n), ln⟩]) = scanR (s.size + 1) s.data.toList 1 false []) := Lib.hid (by rw [← HG.out, htk]; rw [if_neg hn0, if_pos hkp, if_neg (by omega)])
                clear HG hn0 hk0 htk
                go_wp2_with (first | (go_at_call 26; go_must (refine (HONE.out _).mono ?_; rintro e w' ⟨rfl, rfl⟩)) | (at_builtin; go_must (refine wpList_append_own _ rfl _ _ 23 rfl w.heap.size 27 i0 _ 3 32 Tryd.underlying23 hi hz0 hz1 hz2 rfl (by decide) _ _ _ rfl (hown.alloc _) ⟨wr.heap.size, 0, none⟩ 1 1 (tokCells [⟨kd, s.extract k (k + n), ln⟩]) rfl rfl (cells_new_list wr _ _) (by simp [tokCells, Tok.cells, Value.oneCell']) (by unfold maxLen; omega) (by omega) (by simp; omega) ?_; intro v1 w1 hown1 hgr1 _; obtain ⟨A1, c1, rfl⟩ := own_form hown1)))
                go_roundw
                case rel => exact ⟨k + n, ln, true, ts ++ [⟨kd, s.extract k (k + n), ln⟩], rfl, rfl, by go_num, by simpa [tokCells_append] using hown1, below_own (hbe.alloc hbs _) (hown.alloc _) hgr1 (by simp; omega), by omega, by simpa using hlim, .inl ⟨by omega, HG2.out⟩⟩
                case measure => simp only [intOf, Int.toNat_natCast, HKN.out]; omega
              · have HG2 : Hid (SRes.er ln 1 = scanR (s.size + 1) s.data.toList 1 false []) := Lib.hid (by rw [← HG.out]; rw [if_neg hn0, if_pos hkp, if_pos (by omega)])
                clear HG hn0 hk0 htk
                go_wp2_with (first | (go_at_call 26; go_must (refine (HONE.out _).mono ?_; rintro e w' ⟨rfl, rfl⟩)) | (at_builtin; go_must (refine wpList_append_own _ rfl _ _ 23 rfl w.heap.size 27 i0 _ 3 32 Tryd.underlying23 hi hz0 hz1 hz2 rfl (by decide) _ _ _ rfl (hown.alloc _) ⟨wr.heap.size, 0, none⟩ 1 1 (tokCells [⟨kd, s.extract k (k + n), ln⟩]) rfl rfl (cells_new_list wr _ _) (by simp [tokCells, Tok.cells, Value.oneCell']) (by unfold maxLen; omega) (by omega) (by simp; omega) ?_; intro v1 w1 hown1 hgr1 _; obtain ⟨A1, c1, rfl⟩ := own_form hown1)))
                go_ret3
                exact scanPost_er HG2.out (below_own (hbe.alloc hbs _) (hown.alloc _) hgr1 (by simp; omega))
    · have hk : k = s.size + 1 := by omega
      have hg1 : SRes.ok ts = scanR (s.size + 1) s.data.toList 1 false [] := by
        rcases hg with ⟨h, _⟩ | ⟨_, h⟩
        · omega
        · exact h
      have HG := Lib.hid hg1
      clear hg1 hg hk
      go_wp2
      go_ret3
      rw [← HG.out]
      exact ⟨hbe, _, rfl, hown⟩
end Go.Proofs.YtnibnkblkabalaaDoor
