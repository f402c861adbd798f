/- maker, and what is known of its program. -/
import Derived.Test.YtpkefohcccpncaaGreatDoorSteps
namespace Go.Proofs.YtpkefohcccpncaaGreatDoor
open Go.RowKit
set_option linter.unusedSimpArgs false
set_option linter.unusedVariables false

def mkMain : ByteArray := ⟨#[109, 97, 105, 110]⟩
def mkA : ByteArray := ⟨#[97]⟩
def mkTs : List Th := [⟨mkMain, [⟨5, 1, 3⟩, ⟨3, 0, 4⟩]⟩, ⟨mkA, [⟨6, 0, 7⟩]⟩]
def mkP : Prg := ⟨1, mkTs⟩
theorem mk_check : checkP mkP = true := by decide
theorem mk_ok : PrgOk mkP := ⟨by decide, by
  intro t ht
  have : t = ⟨mkMain, [⟨5, 1, 3⟩, ⟨3, 0, 4⟩]⟩ ∨ t = ⟨mkA, [⟨6, 0, 7⟩]⟩ := by simpa [mkP, mkTs] using ht
  rcases this with rfl | rfl
  · exact ⟨by simp, by show (4 : Nat) ≤ _; omega⟩
  · exact ⟨by simp, by show (1 : Nat) ≤ _; omega⟩⟩
theorem reads_blk {W : World} {g : Nat} {t : TypeId} {cs : Array Value} {B size n : Nat} (h : Blk W g t cs) (hg : g < B) (hl : cs.toList.length = n * size) : Reads W B size (some ⟨g, 0, none⟩) n cs.toList := by
  refine ⟨hl, fun _ => ⟨_, rfl, hg, fun j u hu => ?_⟩⟩
  have e : ((⟨g, 0, none⟩ : Addr).add j) = ⟨g, j, none⟩ := by
    unfold Addr.add
    by_cases h0 : j = 0 <;> simp [h0]
  rw [e, h.cell j]
  simpa using hu
def MakerPost (w : World) (e : Ending) (w' : World) : Prop := ∃ A, e = .returned (.agg #[.int .i64 1, .slice A 2 2]) ∧ ThsAt w' w'.heap.size A mkTs ∧ Below w.heap.size w w'
theorem mk_ths {W : World} {g l1 l2 B : Nat} (h : Blk W g 45 #[.string mkMain, .slice (some ⟨l1, 0, none⟩) 2 2, .string mkA, .slice (some ⟨l2, 0, none⟩) 1 1]) (h1 : Blk W l1 42 #[.int .i64 5, .int .i64 1, .int .i64 3, .int .i64 3, .int .i64 0, .int .i64 4]) (h2 : Blk W l2 42 #[.int .i64 6, .int .i64 0, .int .i64 7])
    (hg : g < B) (b1 : l1 < B) (b2 : l2 < B) : ThsAt W B (some ⟨g, 0, none⟩) mkTs := by
  refine ⟨[.slice (some ⟨l1, 0, none⟩) 2 2, .slice (some ⟨l2, 0, none⟩) 1 1], rfl, reads_blk (n := 2) h hg rfl, fun k hk hk' => ?_⟩
  have : k = 0 ∨ k = 1 := by simp [mkTs] at hk; omega
  rcases this with rfl | rfl
  · exact ⟨some ⟨l1, 0, none⟩, 2, rfl, reads_blk (n := 2) h1 b1 rfl⟩
  · exact ⟨some ⟨l2, 0, none⟩, 1, rfl, reads_blk (n := 1) h2 b2 rfl⟩
set_option maxHeartbeats 1000000 in
theorem maker_any (w : World) : Calls Tryz.prog 31 #[] w (MakerPost w) := by
  go_enter Tryz.func31, Tryz.ntmps31
  go_wp2
  have b0 : Blk ((((w.alloc (.cells #[.int .i64 1, .slice (some ⟨w.heap.size + 1 + 1 + 1, 0, none⟩) 2 2] 28)).alloc (.cells #[.int .i64 5, .int .i64 1, .int .i64 3, .int .i64 3, .int .i64 0, .int .i64 4] 42)).alloc (.cells #[.int .i64 6, .int .i64 0, .int .i64 7] 42)).alloc (.cells #[.string mkMain, .slice (some ⟨w.heap.size + 1, 0, none⟩) 2 2, .string mkA, .slice (some ⟨w.heap.size + 1 + 1, 0, none⟩) 1 1] 45)) w.heap.size 28 #[.int .i64 1, .slice (some ⟨w.heap.size + 1 + 1 + 1, 0, none⟩) 2 2] := (((Blk.new w _ _).alloc _).alloc _).alloc _
  have b1 : ∀ o0 o2 o3, Blk ((((w.alloc o0).alloc (.cells #[.int .i64 5, .int .i64 1, .int .i64 3, .int .i64 3, .int .i64 0, .int .i64 4] 42)).alloc o2).alloc o3) (w.heap.size + 1) 42 #[.int .i64 5, .int .i64 1, .int .i64 3, .int .i64 3, .int .i64 0, .int .i64 4] := fun o0 o2 o3 => by
    have := ((Blk.new (w.alloc o0) 42 #[.int .i64 5, .int .i64 1, .int .i64 3, .int .i64 3, .int .i64 0, .int .i64 4]).alloc o2).alloc o3
    simpa only [World.size_alloc] using this
  have b2 : ∀ o0 o1 o3, Blk ((((w.alloc o0).alloc o1).alloc (.cells #[.int .i64 6, .int .i64 0, .int .i64 7] 42)).alloc o3) (w.heap.size + 1 + 1) 42 #[.int .i64 6, .int .i64 0, .int .i64 7] := fun o0 o1 o3 => by
    have := (Blk.new ((w.alloc o0).alloc o1) 42 #[.int .i64 6, .int .i64 0, .int .i64 7]).alloc o3
    simpa only [World.size_alloc] using this
  have b3 : ∀ o0 o1 o2 cs, Blk ((((w.alloc o0).alloc o1).alloc o2).alloc (.cells cs 45)) (w.heap.size + 1 + 1 + 1) 45 cs := fun o0 o1 o2 cs => by
    have := Blk.new (((w.alloc o0).alloc o1).alloc o2) 45 cs
    simpa only [World.size_alloc] using this
  refine bodyPost_ret (results_cell_row (p := 0) (ty := 28) rfl _ _ w.heap.size 28 _ (0, 0) _ rfl b0 Tryz.underlying28 rfl (by kernel_rfl)) rfl ?_
  exact ⟨_, rfl, mk_ths (b3 _ _ _ _) (b1 _ _ _) (b2 _ _ _) (by simp) (by simp <;> omega) (by simp <;> omega), ((((Below.refl _ _).alloc (Nat.le_refl _) _).alloc (by simp) _).alloc (by simp; omega) _).alloc (by simp; omega) _⟩
end Go.Proofs.YtpkefohcccpncaaGreatDoor
