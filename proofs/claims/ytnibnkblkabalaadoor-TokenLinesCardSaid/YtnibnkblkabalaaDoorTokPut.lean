/- The scanner of the package token: put. -/
import Derived.Test.YtnibnkblkabalaaDoorTokRScan
import Derived.Deep.RegionLaw
import Derived.BigRegion
import Derived.Lib.OthersKept
namespace Go.Proofs.YtnibnkblkabalaaDoor
open Go.RowKit
set_option linter.unusedSimpArgs false
set_option linter.unusedVariables false

/-- the scanner in block g: its tokens, its line, its error -/
def ScAt (w : World) (base g : Nat) (ts : List Tok) (ln er : Nat) : Prop :=
  base ≤ g ∧ ∃ v, w.heap[g]? = some (.cells #[v, .int .i64 ln, .int .i64 er] 52 (0, 0)) ∧ w.ownsRow base 27 3 v ts.length (tokCells ts)

def PutPost (w : World) (base g : Nat) (ts : List Tok) (ln er : Nat) (e : Ending) (w' : World) : Prop :=
  e = .returned (.tuple #[]) ∧ ScAt w' base g ts ln er ∧ Below base w w' ∧ Lib.OthersKept 27 (some g) w w'

theorem scAt_below_ne {w : World} {base g : Nat} {v : Value} {ts : List Tok} {cs : Array Value} (h : w.heap[g]? = some (.cells cs 52 (0, 0))) (hown : w.ownsRow base 27 3 v ts.length (tokCells ts)) : some g ≠ v.ownBlock := by
  intro e
  exact own_blk_ne (t := 52) hown (show Blk w g _ _ from h) (by decide) e.symm

theorem own_kind {w : World} {B e size n : Nat} {v : Value} {xs : List Value} (h : w.ownsRow B e size v n xs) : ∀ g, v.ownBlock = some g → ∃ c fz, w.heap[g]? = some (.cells c e fz) := by
  intro g hg
  rcases h.2 with ⟨rfl, _⟩ | ⟨g', cap, cur, rfl, _, hh, _⟩
  · cases hg
  · have : g' = g := by simpa [Value.ownBlock] using hg
    subst this; exact ⟨_, _, hh⟩

set_option maxRecDepth 100000 in
set_option maxHeartbeats 1000000 in
theorem put_any (base g : Nat) (ts : List Tok) (ln : Nat) (kd : Nat) (s : ByteArray) (w : World) (hw : base ≤ w.heap.size) (h : ScAt w base g ts ln 0) (hl : ts.length ≤ 1024) :
    Calls Tryd.prog 40 #[.pointer (some ⟨g, 0, none⟩), .int .i64 kd, .string s] w (if ts.length = 1024 then PutPost w base g ts ln 1 else PutPost w base g (ts ++ [⟨kd, s, ln⟩]) ln 0) := by
  obtain ⟨hbg, v, hg, hown⟩ := h
  obtain ⟨A, c, rfl⟩ := own_form hown
  have c0 : w.cell? ⟨g, 0, none⟩ = some (.slice A ts.length c) := cell_of_row w g 0 _ _ _ hg
  have c1 : w.cell? ⟨g, 1, none⟩ = some (.int .i64 ln) := cell_of_row w g 1 _ _ _ hg
  have c2 : w.cell? ⟨g, 2, none⟩ = some (.int .i64 0) := cell_of_row w g 2 _ _ _ hg
  have f0 : w.frozen? ⟨g, 0, none⟩ = false := by simp [World.frozen?, hg]
  have f2 : w.frozen? ⟨g, 2, none⟩ = false := by simp [World.frozen?, hg]
  have HG := Lib.hid hg
  clear hg
  by_cases h1 : ts.length = 1024
  · rw [if_pos h1]
    have hb : ((ts.length : Int) == 1024) = true := by simp [h1]
    clear h1
    go_enter Tryd.func40, Tryd.ntmps40
    go_wp2
    go_end0
    exact ⟨rfl, ⟨hbg, _, blk_set (i := 2) _ HG.out, hown.kept (row := some g) (grownBy_setCell (p := ⟨g, 2, none⟩) (World.grownBy.refl _ _) (.inl rfl) _) (.inr (Ne.symm (scAt_below_ne HG.out hown)))⟩, (Below.refl _ _).setCell (p := ⟨g, 2, none⟩) hbg _, (Lib.OthersKept.refl _ _ _).setCell ⟨g, 2, none⟩ rfl _⟩
  · rw [if_neg h1]
    have hb : ((ts.length : Int) == 1024) = false := by simp; omega
    obtain ⟨i0, hi, hz0, hz1, hz2⟩ := info_parts infoToken
    have HI := Lib.hid hi
    have H0 := Lib.hid hz0
    have H1 := Lib.hid hz1
    have H2 := Lib.hid hz2
    clear hi hz0 hz1 hz2
    have HO : Hid (((w.alloc (.cells #[.int .i64 kd, .string s, .int .i64 ln] 27)).drew).ownsRow base 27 3 (.slice A ts.length c) ts.length (tokCells ts)) := Lib.hid (hown.alloc _)
    have HC : Hid (∀ j u, (tokCells [⟨kd, s, ln⟩])[j]? = some u → ((w.alloc (.cells #[.int .i64 kd, .string s, .int .i64 ln] 27)).drew).cell? ((⟨w.heap.size, 0, none⟩ : Addr).add j) = some u) := Lib.hid (cells_new_list w 27 (tokCells [⟨kd, s, ln⟩]))
    have HN : Hid (some g ≠ (Value.slice A ts.length c).ownBlock) := Lib.hid (scAt_below_ne HG.out hown)
    have hown2 := Lib.hid hown
    have d0 : (w.alloc (.cells #[.int .i64 kd, .string s, .int .i64 ln] 27)).cell? ⟨g, 0, none⟩ = some (.slice A ts.length c) := (World.cell?_alloc_lt w _ _ (Array.getElem?_eq_some_iff.1 HG.out).1).trans c0
    clear hown
    go_enter Tryd.func40, Tryd.ntmps40
    go_wp2
    go_region_law (refine step_append_lies _ rfl (.tmp 19) (.tmp 27) 23 rfl base 27 i0 _ 3 32 Tryd.underlying23 HI.out H0.out H1.out H2.out rfl (by decide) (.slice A ts.length c) ts.length (tokCells ts) (by simp [Act.eval, Act.put]) HO.out ⟨w.heap.size, 0, none⟩ 1 1 (tokCells [⟨kd, s, ln⟩]) (by simp [Act.eval, Act.put]) rfl HC.out (by simp [tokCells, Tok.cells, Value.oneCell']) (by decide) (by unfold maxLen; omega) (by omega) (by simp <;> omega) _ rfl ?_; intro g' cap w' hown' hgr hat hlt; have hk : w'.heap[g]? = some (.cells #[.slice A ts.length c, .int .i64 ln, .int .i64 (0 : Nat)] 52 (0, 0)) := (hgr.block g (by have := HG.out; have := (Array.getElem?_eq_some_iff.1 this).1; simp; omega) HN.out).trans ((Below.heap_alloc w _ g (Array.getElem?_eq_some_iff.1 HG.out).1).trans HG.out); have k0 : w'.cell? ⟨g, 0, none⟩ = some (.slice A ts.length c) := (show Blk w' g _ _ from hk).cell 0; have k1 : w'.frozen? ⟨g, 0, none⟩ = false := (show Blk w' g _ _ from hk).frozen 0; have HK := Lib.hid hk; have HQ := Lib.hid hown'; have HR := Lib.hid hgr; clear hk hown' hgr hat hlt)
    all_goals
      go_end0
      have hge : some g ≠ some g' := by
        have := own_blk_ne (t := 52) HQ.out (show Blk _ g _ _ from HK.out) (by decide)
        intro e; exact this e.symm
      refine ⟨rfl, ⟨hbg, _, blk_set (i := 0) _ HK.out, ?_⟩, ?_, ?_⟩
      · have h2 := World.ownsRow.kept (row := some g) HQ.out (grownBy_setCell (p := ⟨g, 0, none⟩) (World.grownBy.refl _ _) (.inl rfl) (.slice (some ⟨g', 0, none⟩) (ts.length + 1) cap)) (.inr (by simpa [Value.ownBlock] using fun e => hge (by rw [e])))
        simpa [tokCells_append] using h2
      · exact ((((Below.refl _ _).alloc hw _).drew).grown HR.out (by simp; omega) (fun k hk => (hown2.out.lt k hk).1)).setCell (p := ⟨g, 0, none⟩) hbg _
      · exact ((((Lib.OthersKept.refl _ _ _).alloc _).drew).grown HR.out (own_kind HO.out)).setCell ⟨g, 0, none⟩ rfl _
end Go.Proofs.YtnibnkblkabalaaDoor
