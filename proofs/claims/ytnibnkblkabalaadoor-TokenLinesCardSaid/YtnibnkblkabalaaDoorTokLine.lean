/- The scanner of the package token: a line. -/
import Derived.Test.YtnibnkblkabalaaDoorTokFirst
namespace Go.Proofs.YtnibnkblkabalaaDoor
open Go.RowKit
set_option linter.unusedSimpArgs false
set_option linter.unusedVariables false

theorem ScAt.below {w w' : World} {base g ln er : Nat} {ts : List Tok} (h : ScAt w base g ts ln er) (hb : Below w.heap.size w w') : ScAt w' base g ts ln er := by
  obtain ⟨hbg, v, hg, hown⟩ := h
  have hlt := (Array.getElem?_eq_some_iff.1 hg).1
  exact ⟨hbg, v, (hb.block g hlt).trans hg, hown.kept (row := none) (grownBy_of_below hb none) (by cases v.ownBlock <;> simp)⟩
theorem ScAt.cells {w : World} {base g ln er : Nat} {ts : List Tok} (h : ScAt w base g ts ln er) :
    w.cell? ⟨g, 1, none⟩ = some (.int .i64 ln) ∧ w.cell? ⟨g, 2, none⟩ = some (.int .i64 er) ∧ w.frozen? ⟨g, 1, none⟩ = false ∧ w.frozen? ⟨g, 2, none⟩ = false := by
  obtain ⟨hbg, v, hg, hown⟩ := h
  have hb : Blk w g _ _ := hg
  exact ⟨hb.cell 1, hb.cell 2, hb.frozen 1, hb.frozen 2⟩
theorem ScAt.lt {w : World} {base g ln er : Nat} {ts : List Tok} (h : ScAt w base g ts ln er) : g < w.heap.size := by
  obtain ⟨hbg, v, hg, hown⟩ := h
  exact (Array.getElem?_eq_some_iff.1 hg).1
theorem ScAt.setErr {w : World} {base g ln er : Nat} {ts : List Tok} (h : ScAt w base g ts ln er) (e : Nat) : ScAt (w.setCell ⟨g, 2, none⟩ (.int .i64 e)) base g ts ln e := by
  obtain ⟨hbg, v, hg, hown⟩ := h
  exact ⟨hbg, _, blk_set (i := 2) _ hg, hown.kept (row := some g) (grownBy_setCell (p := ⟨g, 2, none⟩) (World.grownBy.refl _ _) (.inl rfl) _) (.inr (Ne.symm (scAt_below_ne hg hown)))⟩
theorem ScAt.setLine {w : World} {base g ln er : Nat} {ts : List Tok} (h : ScAt w base g ts ln er) (e : Nat) : ScAt (w.setCell ⟨g, 1, none⟩ (.int .i64 e)) base g ts e er := by
  obtain ⟨hbg, v, hg, hown⟩ := h
  exact ⟨hbg, _, blk_set (i := 1) _ hg, hown.kept (row := some g) (grownBy_setCell (p := ⟨g, 1, none⟩) (World.grownBy.refl _ _) (.inl rfl) _) (.inr (Ne.symm (scAt_below_ne hg hown)))⟩

theorem put_ok (base g : Nat) (ts : List Tok) (ln : Nat) (kd : Nat) (s : ByteArray) (w : World) (hw : base ≤ w.heap.size) (h : ScAt w base g ts ln 0) (hl : ts.length < 1024) :
    Calls Tryd.prog 40 #[.pointer (some ⟨g, 0, none⟩), .int .i64 kd, .string s] w (PutPost w base g (ts ++ [⟨kd, s, ln⟩]) ln 0) := by
  have := put_any base g ts ln kd s w hw h (by omega)
  rwa [if_neg (by omega)] at this
theorem put_full (base g : Nat) (ts : List Tok) (ln : Nat) (kd : Nat) (s : ByteArray) (w : World) (hw : base ≤ w.heap.size) (h : ScAt w base g ts ln 0) (hl : ts.length = 1024) :
    Calls Tryd.prog 40 #[.pointer (some ⟨g, 0, none⟩), .int .i64 kd, .string s] w (PutPost w base g ts ln 1) := by
  have := put_any base g ts ln kd s w hw h (by omega)
  rwa [if_pos hl] at this

def trimL (l : List UInt8) : List UInt8 := Lib.trimLeftS l [32, 9]
theorem trimL_le (l : List UInt8) : (trimL l).length ≤ l.length := List.Sublist.length_le (List.dropWhile_sublist _)
theorem infoAscii : (Tryd.prog.info? 83).map (fun i => (i.zero, i.size)) = some (some (.agg (Array.replicate 256 (.bool false))), 256) := by kernel_rfl
theorem trim_any (s : ByteArray) (w : World) : Calls Tryd.prog 38 #[.string s, .string ⟨#[32, 9]⟩] w fun e w' => e = .returned (.string ⟨(trimL s.data.toList).toArray⟩) ∧ Below w.heap.size w w' :=
  Any.strings_TrimLeft_laid Tryd.lays161 infoAscii s ⟨#[32, 9]⟩ w (by decide) (by
    intro j b h
    match j, h with
    | 0, h => simp at h; subst h; decide
    | 1, h => simp at h; subst h; decide)

/-- the scan of a line: the tokens, and the error -/
def scanL : Nat → List UInt8 → Nat → Bool → List Tok → List Tok × Nat
  | 0, _, _, _, ts => (ts, 0)
  | f + 1, l, ln, sm, ts =>
    if trimL l = [] then (if sm then (if ts.length = 1024 then (ts, 1) else (ts ++ [endTok ln], 0)) else (ts, 0))
    else if (firstL (trimL l)).1 = 0 then (ts, 12)
    else if ts.length = 1024 then (ts, 1)
    else scanL f ((trimL l).drop (firstL (trimL l)).2) ln true (ts ++ [mkTok (firstL (trimL l)).1 ((trimL l).take (firstL (trimL l)).2) ln])

theorem firstL_bd (l : List UInt8) (hl : l ≠ []) : (firstL l).2 ≤ l.length ∧ ((firstL l).1 ≠ 0 → 0 < (firstL l).2) := by
  have h1 := runL_le partB l
  have hpos : 0 < l.length := List.length_pos_iff.2 hl
  have hw : wordL (l.take (runL partB l)) = true → 0 < runL partB l := by
    intro h; rcases Nat.eq_zero_or_pos (runL partB l) with h0 | h0
    · rw [h0] at h; simp [wordL] at h
    · exact h0
  have hn : numL (l.take (runL partB l)) = true → 0 < runL partB l := by
    intro h; rcases Nat.eq_zero_or_pos (runL partB l) with h0 | h0
    · rw [h0] at h; simp [numL] at h
    · exact h0
  have hp : Lib.hasPrefix l [45, 62] = true → 2 ≤ l.length := by
    intro h
    have := List.IsPrefix.length_le (List.isPrefixOf_iff_prefix.1 h)
    simpa using this
  unfold firstL
  split
  · rename_i h; exact ⟨h1, fun _ => hw h⟩
  split
  · rename_i h; exact ⟨h1, fun _ => hn h⟩
  split
  · rename_i h; exact ⟨hp h.2, fun _ => by decide⟩
  split
  · exact ⟨hpos, fun _ => by decide⟩
  · exact ⟨by simp, fun h => absurd rfl h⟩

theorem scanL_fuel : ∀ (f g : Nat) (l : List UInt8) (ln : Nat) (sm : Bool) (ts : List Tok), l.length < f → l.length < g → scanL f l ln sm ts = scanL g l ln sm ts := by
  intro f
  induction f with
  | zero => intro g l _ _ _ h; omega
  | succ f ih =>
    intro g l ln sm ts hf hg
    obtain ⟨g, rfl⟩ : ∃ g', g = g' + 1 := ⟨g - 1, by omega⟩
    simp only [scanL]
    have ht := trimL_le l
    by_cases hl : trimL l = []
    · rw [if_pos hl, if_pos hl]
    · rw [if_neg hl, if_neg hl]
      by_cases h0 : (firstL (trimL l)).1 = 0
      · rw [if_pos h0, if_pos h0]
      · rw [if_neg h0, if_neg h0]
        obtain ⟨hb1, hb2⟩ := firstL_bd (trimL l) hl
        have hb3 := hb2 h0
        rw [ih g _ ln true _ (by simp; omega) (by simp; omega)]

theorem okept_below {e : TypeId} {b : Option Nat} {w w' : World} (h : Below w.heap.size w w') : Lib.OthersKept e b w w' := fun k o hk _ _ => (h.block k (Array.getElem?_eq_some_iff.1 hk).1).trans hk

def strSize : Value → Nat
  | .string s => s.size
  | _ => 0

def LinePost (w : World) (base g : Nat) (ln : Nat) (r : List Tok × Nat) (e : Ending) (w' : World) : Prop :=
  e = .returned (.tuple #[]) ∧ ScAt w' base g r.1 ln r.2 ∧ Below base w w' ∧ r.1.length ≤ 1024 ∧ Lib.OthersKept 27 (some g) w w'

theorem strSize_string (s : ByteArray) : strSize (.string s) = s.size := rfl

set_option maxRecDepth 100000 in
set_option maxHeartbeats 4000000 in
theorem scan_any (base g : Nat) (ts0 : List Tok) (ln : Nat) (s : ByteArray) (w : World) (hw : base ≤ w.heap.size) (h : ScAt w base g ts0 ln 0) (hl : ts0.length ≤ 1024) (hs : s.size ≤ 4096) (m : Int) (hm : w.cell? ⟨2, 0, none⟩ = some (.int .i64 m)) :
    Calls Tryd.prog 25 #[.pointer (some ⟨g, 0, none⟩), .string s] w (LinePost w base g ln (scanL (s.size + 1) (Lib.cut s.data.toList [35]).1 ln false ts0)) := by
  obtain ⟨cs, hcs⟩ : ∃ cs : ByteArray, cs = ⟨(Lib.cut s.data.toList [35]).1.toArray⟩ := ⟨_, rfl⟩
  have hcd : cs.data.toList = (Lib.cut s.data.toList [35]).1 := by rw [hcs]
  have hcl : cs.size ≤ s.size := by
    rw [← size_data, hcd, ← size_data s]; unfold Lib.cut; split
    · exact List.length_take_le' _ _
    · simp
  have CUT : Hid (∀ W : World, W.cell? ⟨2, 0, none⟩ = some (.int .i64 m) → Calls Tryd.prog 37 #[.string s, .string ⟨#[35]⟩] W fun e w' => ∃ u v, e = .returned (.tuple #[.string cs, .string u, .bool v]) ∧ ∃ n, w' = W.drewN n) := Lib.hid (by
    intro W hW
    refine (Tryd.strings_Cut s ⟨#[35]⟩ m W (by omega) hW).mono ?_
    rintro e w' ⟨rfl, n, rfl⟩
    exact ⟨_, _, by rw [hcs], n, rfl⟩)
  rw [← hcd]
  generalize hgoal : scanL (s.size + 1) cs.data.toList ln false ts0 = goal
  have HGOAL := Lib.hid hgoal
  clear hgoal hcs hcd
  obtain ⟨c1, c2, f1, f2⟩ := h.cells
  have HM := Lib.hid hm
  clear hm
  go_enter Tryd.func25, Tryd.ntmps25
  go_wp2_with (go_at_call 37; go_must (refine (CUT.out _ HM.out).mono ?_; rintro e w' ⟨u, v, rfl, n, rfl⟩))
  clear c1 c2 f1 f2
  go_loopw [1, 4] (fun l sm wr => ∃ (t : ByteArray) (sb : Bool) (ts : List Tok) (er : Nat), l = .string t ∧ sm = .bool sb ∧ ScAt wr base g ts ln er ∧ Below base w wr ∧ ts.length ≤ 1024 ∧ t.size ≤ 4096 ∧ Lib.OthersKept 27 (some g) w wr ∧ ((er = 0 ∧ scanL (t.size + 1) t.data.toList ln sb ts = goal) ∨ (er ≠ 0 ∧ (ts, er) = goal))) (fun l _ _ => strSize l)
  case atStart =>
    refine ⟨cs, false, ts0, 0, rfl, rfl, h, ⟨rfl, rfl, rfl, Nat.le_refl _, fun _ _ => rfl⟩, hl, by omega, fun _ _ h _ _ => h, .inl ⟨rfl, ?_⟩⟩
    rw [← HGOAL.out]; exact scanL_fuel _ _ _ _ _ _ (by simp) (by simp; omega)
  case round =>
    clear h CUT HM
    obtain ⟨t, sb, ts, er, rfl, rfl, hsc, hbe, htl, hts, hok, hg⟩ := hrel
    obtain ⟨c1, c2, f1, f2⟩ := hsc.cells
    have hbs : base ≤ wr.heap.size := Nat.le_trans hw hbe.size
    have hbs0 : base ≤ wr.heap.size := hbs
    by_cases her : er = 0
    · subst her
      have hg1 : scanL (t.size + 1) t.data.toList ln sb ts = goal := by
        rcases hg with ⟨_, h⟩ | ⟨h, _⟩
        · exact h
        · exact absurd rfl h
      clear hg
      obtain ⟨t', ht'⟩ : ∃ t' : ByteArray, t' = ⟨(trimL t.data.toList).toArray⟩ := ⟨_, rfl⟩
      have htd : t'.data.toList = trimL t.data.toList := by rw [ht']
      have htz : t'.size ≤ t.size := by rw [← size_data, htd, ← size_data t]; exact trimL_le _
      have TL : Hid (∀ W : World, Calls Tryd.prog 38 #[.string t, .string ⟨#[32, 9]⟩] W fun e w' => e = .returned (.string t') ∧ Below W.heap.size W w') := Lib.hid (by rw [ht']; exact trim_any t)
      have hg2 : (if t'.data.toList = [] then (if sb then (if ts.length = 1024 then (ts, 1) else (ts ++ [endTok ln], 0)) else (ts, 0))
          else if (firstL t'.data.toList).1 = 0 then (ts, 12)
          else if ts.length = 1024 then (ts, 1)
          else scanL t.size (t'.data.toList.drop (firstL t'.data.toList).2) ln true (ts ++ [mkTok (firstL t'.data.toList).1 (t'.data.toList.take (firstL t'.data.toList).2) ln])) = goal := by
        rw [← hg1, htd]; rfl
      clear hg1 ht' htd
      by_cases hte : t'.size = 0
      · have htn : t'.data.toList = [] := List.eq_nil_of_length_eq_zero (by rw [size_data]; exact hte)
        have e1 := str_nil hte
        have e2 := str_empty hte
        rw [if_pos htn] at hg2
        clear hte htn
        rcases sb with _ | _
        · have HG2 := Lib.hid hg2
          clear hg2
          go_wp2_with (go_at_call 38; go_must (refine (TL.out _).mono ?_; rintro e w1 ⟨rfl, hb1⟩; have sc1 := hsc.below hb1; have hw1 : base ≤ w1.heap.size := Nat.le_trans hbs hb1.size; have hbw := hbe.trans (hb1.mono hbs0); have how := hok.trans (okept_below hb1); obtain ⟨d1, d2, q1, q2⟩ := sc1.cells))
          go_end0
          have := HG2.out
          simp at this
          rw [← this]
          exact ⟨rfl, sc1, hbw, htl, how⟩
        · by_cases hlim : ts.length = 1024
          · rw [if_pos rfl, if_pos hlim] at hg2
            have HG2 := Lib.hid hg2
            clear hg2
            have HL := Lib.hid hlim
            clear hlim
            go_wp2_with (first | (go_at_call 38; go_must (refine (TL.out _).mono ?_; rintro e w1 ⟨rfl, hb1⟩; have sc1 := hsc.below hb1; have hw1 : base ≤ w1.heap.size := Nat.le_trans hbs hb1.size; have hbw := hbe.trans (hb1.mono hbs0); have how := hok.trans (okept_below hb1); obtain ⟨d1, d2, q1, q2⟩ := sc1.cells)) | (go_at_call 40; go_must (refine (put_full base g ts ln 4 _ w1 hw1 sc1 HL.out).mono ?_; rintro e w2 ⟨rfl, sc2, hb2, ho2⟩)))
            go_end0
            rw [← HG2.out]
            exact ⟨rfl, sc2, hbw.trans hb2, htl, how.trans ho2⟩
          · rw [if_pos rfl, if_neg hlim] at hg2
            have HG2 := Lib.hid hg2
            clear hg2
            have hlt : ts.length < 1024 := by omega
            clear hlim
            go_wp2_with (first | (go_at_call 38; go_must (refine (TL.out _).mono ?_; rintro e w1 ⟨rfl, hb1⟩; have sc1 := hsc.below hb1; have hw1 : base ≤ w1.heap.size := Nat.le_trans hbs hb1.size; have hbw := hbe.trans (hb1.mono hbs0); have how := hok.trans (okept_below hb1); obtain ⟨d1, d2, q1, q2⟩ := sc1.cells)) | (go_at_call 40; go_must (refine (put_ok base g ts ln 4 _ w1 hw1 sc1 hlt).mono ?_; rintro e w2 ⟨rfl, sc2, hb2, ho2⟩)))
            go_end0
            rw [← HG2.out]
            exact ⟨rfl, sc2, hbw.trans hb2, by simp; omega, how.trans ho2⟩
      · have htn : t'.data.toList ≠ [] := by
          intro h; apply hte; rw [← size_data, h]; rfl
        have e1 := str_ne hte
        have htp : 0 < t'.size := by omega
        rw [if_neg htn] at hg2
        obtain ⟨hb1, hb2⟩ := firstL_bd t'.data.toList htn
        clear hte htn
        have FI0 := first_any t' wr (by omega) htp
        have FI : Hid (∀ W : World, Calls Tryd.prog 39 #[.string t'] W fun e w' => e = .returned (.tuple #[.int .i64 (firstL t'.data.toList).1, .int .i64 (firstL t'.data.toList).2]) ∧ W = w') := Lib.hid (fun W => first_any t' W (by omega) htp)
        clear FI0
        generalize firstL t'.data.toList = fl at *
        obtain ⟨kd, n⟩ := fl
        simp only at hg2 hb1 hb2 FI
        rw [size_data] at hb1
        by_cases hk0 : kd = 0
        · subst hk0
          rw [if_pos rfl] at hg2
          have HG2 := Lib.hid hg2
          have hb1' : n ≤ t'.size := hb1
          clear hg2 hb2
          go_wp2_with (first | (go_at_call 38; go_must (refine (TL.out _).mono ?_; rintro e w1 ⟨rfl, hb1⟩; have sc1 := hsc.below hb1; have hw1 : base ≤ w1.heap.size := Nat.le_trans hbs hb1.size; have hbw := hbe.trans (hb1.mono hbs0); have how := hok.trans (okept_below hb1); obtain ⟨d1, d2, q1, q2⟩ := sc1.cells)) | (go_at_call 39; go_must (refine (FI.out _).mono ?_; rintro e w' ⟨rfl, rfl⟩)))
          refine bodyPost_ret (results_none rfl _ _ _) rfl ?_
          rw [← HG2.out]
          exact ⟨rfl, sc1.setErr 12, hbw.setCell (p := ⟨g, 2, none⟩) sc1.1 _, htl, how.setCell ⟨g, 2, none⟩ rfl _⟩
        · have hn0 := hb2 hk0
          have hkb : ((kd : Int) == 0) = false := by simp; omega
          rw [if_neg hk0] at hg2
          by_cases hlim : ts.length = 1024
          · rw [if_pos hlim] at hg2
            have HG2 := Lib.hid hg2
            have HL := Lib.hid hlim
            clear hg2 hb2 hk0 hlim
            go_wp2_with (first | (go_at_call 38; go_must (refine (TL.out _).mono ?_; rintro e w1 ⟨rfl, hb1⟩; have sc1 := hsc.below hb1; have hw1 : base ≤ w1.heap.size := Nat.le_trans hbs hb1.size; have hbw := hbe.trans (hb1.mono hbs0); have how := hok.trans (okept_below hb1); obtain ⟨d1, d2, q1, q2⟩ := sc1.cells)) | (go_at_call 39; go_must (refine (FI.out _).mono ?_; rintro e w' ⟨rfl, rfl⟩)) | (go_at_call 40; go_must (refine (put_full base g ts ln kd _ w1 hw1 sc1 HL.out).mono ?_; rintro e w2 ⟨rfl, sc2, hb2, ho2⟩)))
            go_roundw
            case rel => exact ⟨_, true, ts, 1, rfl, rfl, sc2, hbw.trans hb2, htl, by rw [ByteArray.size_extract]; omega, how.trans ho2, .inr ⟨by decide, HG2.out⟩⟩
            case measure => simp only [strSize_string, ByteArray.size_extract]; omega
          · rw [if_neg hlim] at hg2
            have HG2 := Lib.hid hg2
            have hlt : ts.length < 1024 := by omega
            clear hg2 hb2 hk0 hlim
            go_wp2_with (first | (go_at_call 38; go_must (refine (TL.out _).mono ?_; rintro e w1 ⟨rfl, hb1⟩; have sc1 := hsc.below hb1; have hw1 : base ≤ w1.heap.size := Nat.le_trans hbs hb1.size; have hbw := hbe.trans (hb1.mono hbs0); have how := hok.trans (okept_below hb1); obtain ⟨d1, d2, q1, q2⟩ := sc1.cells)) | (go_at_call 39; go_must (refine (FI.out _).mono ?_; rintro e w' ⟨rfl, rfl⟩)) | (go_at_call 40; go_must (refine (put_ok base g ts ln kd _ w1 hw1 sc1 hlt).mono ?_; rintro e w2 ⟨rfl, sc2, hb2, ho2⟩)))
            go_roundw
            case rel =>
              refine ⟨_, true, _, 0, rfl, rfl, sc2, hbw.trans hb2, by simp; omega, by rw [ByteArray.size_extract]; omega, how.trans ho2, .inl ⟨rfl, ?_⟩⟩
              rw [← HG2.out, Lib.extract_to_end]
              have : mkTok kd (t'.data.toList.take n) ln = ⟨kd, t'.extract 0 n, ln⟩ := by
                have : (⟨(t'.data.toList.take n).toArray⟩ : ByteArray) = t'.extract 0 n := bytes_ext (by rw [extract_zero])
                simp only [mkTok, this]
              rw [this]
              exact scanL_fuel _ _ _ _ _ _ (by simp [ByteArray.size_extract] <;> omega) (by simp; omega)
            case measure => simp only [strSize_string, ByteArray.size_extract]; omega
    · have hg1 : (ts, er) = goal := by
        rcases hg with ⟨h, _⟩ | ⟨_, h⟩
        · exact absurd h her
        · exact h
      have HG := Lib.hid hg1
      have e0 : ((er : Int) == 0) = false := by simp; omega
      clear hg hg1 her
      rcases sb with _ | _
      all_goals
        go_wp2
        go_end0
        rw [← HG.out]
        exact ⟨rfl, hsc, hbe, htl, hok⟩
end Go.Proofs.YtnibnkblkabalaaDoor
