/- What the statements on tokens share: numbers, random texts, the sanity check. -/
import Derived.Test.YtnibnkblkabalaaDoorTokLaw
import Derived.Test.YtnibnkblkabalaaDoorTokJoin
import Derived.Test.YtnibnkblkabalaaDoorDeck
import Derived.Lib.AppendIntMem
import Derived.WalkSmall
namespace Go.Proofs.YtnibnkblkabalaaDoor
open Go.RowKit
set_option linter.unusedSimpArgs false
set_option linter.unusedVariables false

/-- the library's variables that the code reads -/
structure Glob (w : World) : Prop where
  ml : ∃ m, w.cell? ⟨2, 0, none⟩ = some (.int .i64 m)
  tab : Lib.TabIs Tryd.prog w "internal/strconv.uint64pow10" .u64 Lib.pow10Tab
  lt : 3 < w.heap.size
  lt2 : 2 < w.heap.size
theorem pow_named : Tryd.prog.globalNamed "internal/strconv.uint64pow10" = some 3 := by kernel_rfl
theorem Glob.below {w w' : World} (h : Glob w) (hb : Below w.heap.size w w') : Glob w' := by
  obtain ⟨m, hm⟩ := h.ml
  exact ⟨⟨m, (hb.cell (p := ⟨2, 0, none⟩) h.lt2).trans hm⟩, var?_below hb pow_named h.lt h.tab, Nat.lt_of_lt_of_le h.lt hb.size, Nat.lt_of_lt_of_le h.lt2 hb.size⟩
theorem Glob.grown {w w' : World} {b : Nat} (h : Glob w) (hb : w.grownBy w' (some b)) (h1 : 3 < b) (h2 : 2 < b) : Glob w' := by
  have hB : Below (min b w.heap.size) w w' := ⟨hb.os, hb.tape, hb.output, hb.size, fun k hk => hb.block k (by omega) (by intro e; injection e; omega)⟩
  obtain ⟨m, hm⟩ := h.ml
  have l1 := h.lt
  have l2 := h.lt2
  exact ⟨⟨m, (hB.cell (p := ⟨2, 0, none⟩) (by simp only []; omega)).trans hm⟩, var?_below hB pow_named (by omega) h.tab, Nat.lt_of_lt_of_le h.lt hb.size, Nat.lt_of_lt_of_le h.lt2 hb.size⟩

def numText (n : Int) : List UInt8 := if n < 0 ∨ 9999999 < n then [] else Lib.itoa n
set_option maxHeartbeats 400000 in
theorem numberTok_any (n : Int) (w : World) (hg : Glob w) (h0 : -9223372036854775808 ≤ n) (h1 : n ≤ 9223372036854775807) :
    Calls Tryd.prog 21 #[.int .i64 n] w fun e w' => e = .returned (.string ⟨(numText n).toArray⟩) ∧ Below w.heap.size w w' := by
  have ITOA : Hid (Calls Tryd.prog 35 #[.int .i64 n] w fun e w' => e = .returned (.string ⟨(Lib.itoa n).toArray⟩) ∧ Below w.heap.size w w') := Lib.hid (by
    refine (Tryd.strconv_Itoa n h0 h1 w hg.tab).mono ?_
    rintro e w' ⟨rfl, k, os, rfl⟩
    exact ⟨rfl, Lib.below_grow _ _ (Nat.le_refl _) _ _⟩)
  by_cases h2 : n < 0
  · have HF : Hid (numText n = []) := Lib.hid (by unfold numText; rw [if_pos (.inl h2)])
    go_enter Tryd.func21, Tryd.ntmps21
    go_wp2
    go_ret
    exact ⟨by rw [HF.out]; rfl, Below.refl _ _⟩
  · by_cases h3 : 9999999 < n
    · have HF : Hid (numText n = []) := Lib.hid (by unfold numText; rw [if_pos (.inr h3)])
      go_enter Tryd.func21, Tryd.ntmps21
      go_wp2
      go_ret
      exact ⟨by rw [HF.out]; rfl, Below.refl _ _⟩
    · have HF : Hid (numText n = Lib.itoa n) := Lib.hid (by unfold numText; rw [if_neg (by omega)])
      go_enter Tryd.func21, Tryd.ntmps21
      go_wp2_with (go_at_call 35; go_must (refine ITOA.out.mono ?_; rintro e w1 ⟨rfl, hb⟩))
      go_ret
      exact ⟨by rw [HF.out]; rfl, hb⟩

def PickPost (w : World) (b M : Nat) (e : Ending) (w' : World) : Prop := ∃ s : ByteArray, e = .returned (.string s) ∧ s.size ≤ M ∧ DeckOk w' b ∧ w.grownBy w' (some b)
set_option maxHeartbeats 400000 in
theorem pick_any (w : World) (b M n : Nat) (hd : DeckOk w b) (g : Nat) (ca : Array Value) (cs : List ByteArray) (hca : ca = (cs.map Value.string).toArray) (hl : cs.length = n) (h1 : 1 ≤ n) (hn : n ≤ 100) (hgb : g ≠ b) (hg : w.heap[g]? = some (.cells ca 9 (0, 0))) (hM : ∀ s ∈ cs, s.size ≤ M) :
    Calls Tryd.prog 23 #[.pointer (some ⟨b, 0, none⟩), .slice (some ⟨g, 0, none⟩) n n] w (PickPost w b M) := by
  subst hca
  have hgl := (Array.getElem?_eq_some_iff.1 hg).1
  have HG := Lib.hid hg
  have HL := Lib.hid hl
  clear hg hl
  go_enter Tryd.func23, Tryd.ntmps23
  go_wp2_with (go_at_call 20; go_must (refine (next_any _ _ hd n (by omega) (by omega)).mono ?_; rintro e w1 ⟨r, rfl, hr0, hr1, hd1, hgr⟩; obtain ⟨k, rfl⟩ := Int.eq_ofNat_of_zero_le hr0; (have hk : k < cs.length := by rw [HL.out]; omega); (have hc : w1.cell? ⟨g, k, none⟩ = some (.string (cs[k]'hk)) := (cell_of_row w1 g k _ _ _ ((hgr.block g hgl (by intro e; injection e; omega)).trans HG.out)).trans (by simp)); (have hkn : k < n := by omega)))
  go_ret
  exact ⟨_, rfl, hM _ (List.getElem_mem hk), hd1, hgr⟩

def piecesA : List ByteArray := [⟨#[97, 98, 99]⟩, ⟨#[120, 95, 49]⟩, ⟨#[48]⟩, ⟨#[49, 50]⟩, ⟨#[45, 62]⟩, ⟨#[43]⟩, ⟨#[58]⟩, ⟨#[40]⟩, ⟨#[41]⟩, ⟨#[35, 99, 32, 100]⟩, ⟨#[10]⟩, ⟨#[10]⟩, ⟨#[108, 111, 110, 103, 101, 114, 95, 110, 97, 109, 101, 49, 50]⟩]
def piecesB : List ByteArray := [⟨#[32]⟩, ⟨#[32]⟩, ⟨#[32, 32]⟩, ⟨#[9]⟩, ⟨#[10]⟩, ⟨#[]⟩]
theorem piecesA_cells : (#[Value.string ⟨#[97, 98, 99]⟩, Value.string ⟨#[120, 95, 49]⟩, Value.string ⟨#[48]⟩, Value.string ⟨#[49, 50]⟩, Value.string ⟨#[45, 62]⟩, Value.string ⟨#[43]⟩, Value.string ⟨#[58]⟩, Value.string ⟨#[40]⟩, Value.string ⟨#[41]⟩, Value.string ⟨#[35, 99, 32, 100]⟩, Value.string ⟨#[10]⟩, Value.string ⟨#[10]⟩, Value.string ⟨#[108, 111, 110, 103, 101, 114, 95, 110, 97, 109, 101, 49, 50]⟩] : Array Value) = (piecesA.map Value.string).toArray := rfl
theorem piecesB_cells : (#[Value.string ⟨#[32]⟩, Value.string ⟨#[32]⟩, Value.string ⟨#[32, 32]⟩, Value.string ⟨#[9]⟩, Value.string ⟨#[10]⟩, Value.string ⟨#[]⟩] : Array Value) = (piecesB.map Value.string).toArray := rfl
theorem piecesA_len : piecesA.length = 13 := rfl
theorem piecesB_len : piecesB.length = 6 := rfl
theorem piecesA_le : ∀ s ∈ piecesA, s.size ≤ 13 := by decide
theorem piecesB_le : ∀ s ∈ piecesB, s.size ≤ 2 := by decide

def TextPost (w : World) (b : Nat) (e : Ending) (w' : World) : Prop := ∃ s : ByteArray, e = .returned (.string s) ∧ s.size ≤ 195 ∧ DeckOk w' b ∧ w.grownBy w' (some b)
set_option maxRecDepth 100000 in
set_option maxHeartbeats 1000000 in
theorem text14_any (w : World) (b : Nat) (hd : DeckOk w b) :
    Calls Tryd.prog 11 #[.pointer (some ⟨b, 0, none⟩)] w (TextPost w b) := by
  go_enter Tryd.func11, Tryd.ntmps11
  go_wp2_with (go_at_call 20; go_must (refine (next_any _ _ hd 14 (by omega) (by omega)).mono ?_; rintro e w1 ⟨r, rfl, hr0, hr1, hd1, hgr⟩))
  go_loopw [3, 4] (fun s i wr => ∃ (a : ByteArray) (k : Int), s = .string a ∧ i = .int .i64 k ∧ 0 ≤ k ∧ k ≤ 13 ∧ (a.size : Int) ≤ 15 * (13 - k) ∧ DeckOk wr b ∧ w.grownBy wr (some b)) (fun _ i _ => (intOf i).toNat)
  case atStart => exact ⟨⟨#[]⟩, r, rfl, rfl, hr0, by omega, by show (0 : Int) ≤ _; omega, hd1, hgr⟩
  case round =>
    obtain ⟨a, k, rfl, rfl, hk0, hk1, hsz, hd2, hg2⟩ := hrel
    by_cases hk : 0 < k
    · have hb2 := hd2.lt
      have hdA : ∀ o : Obj, DeckOk (wr.alloc o) b := fun o => hd2.below ((Below.refl _ _).alloc (Nat.le_refl _) _) hb2
      have hsz2 : (a.size : Int) ≤ 195 := by omega
      have HDA := Lib.hid hdA
      clear hdA
      go_wp2_with (first
        | (go_at_call 23
           (with_reducible refine (pick_any _ b 13 13 (HDA.out _) wr.heap.size _ piecesA piecesA_cells piecesA_len (by omega) (by omega) (by omega) (heap_alloc_new wr _) piecesA_le).mono ?_)
           rintro e w2 ⟨s2, rfl, hs2, hd3, hg3⟩
           have hb3 := hd3.lt
           have hdB : ∀ o : Obj, DeckOk (w2.alloc o) b := fun o => hd3.below ((Below.refl _ _).alloc (Nat.le_refl _) _) hb3
           have HDB := Lib.hid hdB
           clear hdB)
        | (go_at_call 23
           (with_reducible refine (pick_any _ b 2 6 (HDB.out _) w2.heap.size _ piecesB piecesB_cells piecesB_len (by omega) (by omega) (by omega) (heap_alloc_new w2 _) piecesB_le).mono ?_)
           rintro e w3 ⟨s3, rfl, hs3, hd4, hg4⟩))
      go_roundw
      case rel =>
        refine ⟨_, k - 1, rfl, rfl, by omega, by omega, ?_, hd4, ?_⟩
        · simp only [ByteArray.size_append]; omega
        · exact grownBy_trans (grownBy_alloc (grownBy_trans (grownBy_alloc hg2 _) hg3) _) hg4
      case measure => simp [intOf]; omega
    · go_wp2
      go_ret
      exact ⟨a, rfl, by omega, hd2, hg2⟩

def awakeText : ByteArray := ⟨#[97, 45, 62, 98, 32, 49, 50, 32, 35, 32, 120, 10, 10, 40]⟩
def awakeToks : List Tok := [⟨1, ⟨#[97]⟩, 1⟩, ⟨3, ⟨#[45, 62]⟩, 1⟩, ⟨1, ⟨#[98]⟩, 1⟩, ⟨2, ⟨#[49, 50]⟩, 1⟩, ⟨4, ⟨#[]⟩, 1⟩, ⟨3, ⟨#[40]⟩, 3⟩, ⟨4, ⟨#[]⟩, 3⟩]
theorem awake_scan : scanLs (linesL 10 (awakeText.size + 1) awakeText.data.toList) 0 [] = .ok awakeToks := by kernel_rfl
theorem awake_join : (⟨(joinL false awakeToks).toArray⟩ : ByteArray) = ⟨#[97, 32, 45, 62, 32, 98, 32, 49, 50, 10, 40, 10]⟩ := by kernel_rfl
theorem awake_word : wordL (⟨#[97, 95, 49]⟩ : ByteArray).data.toList = true := by kernel_rfl
theorem awake_num : (⟨(numText 120).toArray⟩ : ByteArray) = ⟨#[49, 50, 48]⟩ := by
  have : numText 120 = [49, 50, 48] := by
    unfold numText Lib.itoa
    rw [if_neg (by omega), if_neg (by omega)]
    show Lib.decDigits 120 = _
    rw [Lib.decDigits, dif_neg (by omega), Lib.decDigits, dif_neg (by omega), Lib.decDigits, dif_pos (by omega)]
    rfl
  rw [this]

theorem reads_own {w : World} {B T size n : Nat} {v : Value} {xs : List Value} {A : Option Addr} {c : Nat} (h : w.ownsRow B T size v n xs) (hv : v = .slice A n c) : Reads w w.heap.size size A n xs := by subst hv; exact Reads.of_own h

def AwPost (w : World) (e : Ending) (w' : World) : Prop := ∃ g cap, e = .returned (.tuple #[.slice (some ⟨g, 0, none⟩) 7 cap, .int .i64 0, .int .i64 0]) ∧ w'.cell? ⟨g, 4, none⟩ = some (.string ⟨#[45, 62]⟩) ∧ w'.cell? ⟨g, 9, none⟩ = some (.int .i64 2) ∧
  w'.cell? ⟨g, 12, none⟩ = some (.int .i64 4) ∧ w'.cell? ⟨g, 17, none⟩ = some (.int .i64 3) ∧ Toks w' w'.heap.size (some ⟨g, 0, none⟩) awakeToks ∧ g < w'.heap.size ∧ Below w.heap.size w w'
set_option maxRecDepth 100000 in
set_option maxHeartbeats 1000000 in
theorem awake14_any (w : World) (hg : Glob w) :
    Calls Tryd.prog 8 #[] w fun e w' => e = .returned (.bool true) ∧ Below w.heap.size w w' := by
  obtain ⟨m, hm⟩ := hg.ml
  have SC : Hid (Calls Tryd.prog 13 #[.string ⟨#[97, 45, 62, 98, 32, 49, 50, 32, 35, 32, 120, 10, 10, 40]⟩] w (AwPost w)) := Lib.hid (by
    have := scanTok_any awakeText w (by decide) m hm hg.lt2
    rw [awake_scan] at this
    refine Calls.mono (R := ScanPost w (.ok awakeToks)) this ?_
    rintro e w1 ⟨hb1, v, rfl, hown⟩
    obtain ⟨g, cap, hv, hgB, hgl⟩ := hown.form (by decide)
    subst hv
    exact ⟨g, cap, rfl, hown.cellAt 4 (by decide), hown.cellAt 9 (by decide), hown.cellAt 12 (by decide), hown.cellAt 17 (by decide), reads_own hown rfl, hgl, hb1⟩)
  have WO : Hid (∀ W : World, Calls Tryd.prog 16 #[.string ⟨#[97, 95, 49]⟩] W fun e w' => e = .returned (.bool true) ∧ W = w') := Lib.hid (fun W => by
    have := word_any ⟨#[97, 95, 49]⟩ W (by decide); rw [awake_word] at this; exact this)
  have NU : Hid (∀ W : World, Glob W → Calls Tryd.prog 21 #[.int .i64 120] W fun e w' => e = .returned (.string ⟨#[49, 50, 48]⟩) ∧ Below W.heap.size W w') := Lib.hid (fun W hW => by
    have := numberTok_any 120 W hW (by omega) (by omega); rw [awake_num] at this; exact this)
  have JO : Hid (∀ (W : World) (A : Option Addr) (c : Nat), Toks W W.heap.size A awakeToks → Calls Tryd.prog 18 #[.slice A 7 c] W fun e w' => e = .returned (.string ⟨#[97, 32, 45, 62, 32, 98, 32, 49, 50, 10, 40, 10]⟩) ∧ Below W.heap.size W w') := Lib.hid (fun W A c hx => by
    have := join_any A c awakeToks W W.heap.size (Nat.le_refl _) hx (by decide) (by decide); rw [awake_join] at this; exact this)
  have HG := Lib.hid hg
  clear hm hg
  go_enter Tryd.func8, Tryd.ntmps8
  go_wp2_with (first
    | (go_at_call 13; go_must (refine SC.out.mono ?_; rintro e w1 ⟨g, cap, rfl, k4, k9, k12, k17, ht, hgl, hb1⟩); (have HT := Lib.hid ht); clear ht)
    | (go_at_call 16; go_must (refine (WO.out _).mono ?_; rintro e w' ⟨rfl, rfl⟩))
    | (go_at_call 21; go_must (refine (NU.out _ (HG.out.below hb1)).mono ?_; rintro e w2 ⟨rfl, hb2⟩))
    | (go_at_call 18; go_must (refine (JO.out _ _ _ (Reads.more (Reads.below HT.out hb2) hb2.size)).mono ?_; rintro e w3 ⟨rfl, hb3⟩)))
  go_ret
  exact ⟨rfl, (hb1.trans (hb2.mono hb1.size)).trans (hb3.mono (Nat.le_trans hb1.size hb2.size))⟩
end Go.Proofs.YtnibnkblkabalaaDoor
