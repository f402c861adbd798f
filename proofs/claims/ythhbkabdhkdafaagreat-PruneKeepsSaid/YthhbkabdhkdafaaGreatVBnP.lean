/- Part of a proof of pruneKeeps_holds. -/
import Derived.Test.YthhbkabdhkdafaaGreatVBiP
import Derived.JoinedOf
set_option linter.unusedSimpArgs false
set_option linter.unusedVariables false
namespace Go.Proofs.YthhbkabdhkdafaaGreat
section
open Go.RowKit
theorem infoOriB : (Tryz.prog.info? 112).map (fun i => (i.zero, i.size, i.bytes)) = some (some (.agg #[.int .i64 0, .slice none 0 0, .int .i64 0, .int .i64 0, .slice none 0 0]), 5, 72) := by kernel_rfl
theorem ori5 (x y z : Int) (A A' : Option Addr) (n c n' c' : Nat) : ∀ u ∈ [Value.int .i64 x, .slice A n c, .int .i64 y, .int .i64 z, .slice A' n' c'], u.oneCell' = true := by simp [Value.oneCell']
theorem reads_new5 (W : World) (t : TypeId) (a b c d e : Value) : Reads (W.alloc (.cells #[a, b, c, d, e] t)) (W.heap.size + 1) 5 (some ⟨W.heap.size, 0, none⟩) 1 [a, b, c, d, e] := reads_blk (n := 1) (Blk.new W t #[a, b, c, d, e]) (by omega) rfl
def OwnO (B : Nat) (W : World) (v : Value) (l : List Ori) : Prop := ∃ ps, ERow encO W 112 B (fun b => B ≤ b ∧ b < W.heap.size ∧ v.ownBlock ≠ some b) v ps ∧ ps.map (·.1) = l
theorem OwnO.push {B : Nat} {A W : World} {v v' : Value} {l : List Ori} {ps : List (Ori × Value × Value)} (h : ERow encO A 112 B (fun b => B ≤ b ∧ b < A.heap.size ∧ v.ownBlock ≠ some b) v ps) (e : ps.map (·.1) = l) {x : Ori} {s1 s2 : Value} (h1 : KAt A (fun b => B ≤ b ∧ b < A.heap.size ∧ v.ownBlock ≠ some b) s1 x.v.ks) (h2 : KAt A (fun b => B ≤ b ∧ b < A.heap.size ∧ v.ownBlock ≠ some b) s2 x.nx.ks)
   (hown : W.ownsRow B 112 5 v' (ps.length + 1) (ps.flatMap encO.enc ++ [.int .i64 x.v.n, s1, .int .i64 x.r, .int .i64 x.nx.n, s2])) (hg : A.grownBy W v.ownBlock) (hv : v'.ownBlock = v.ownBlock ∨ v'.ownBlock = some A.heap.size) : OwnO B W v' (l ++ [x]) := by
 refine ⟨ps ++ [(x, s1, s2)], h.push (x := (x, s1, s2)) (fun q hq => ?_) hown hg (fun b hb => ⟨⟨hb.1, Nat.lt_of_lt_of_le hb.2.1 hg.size, fun e => ?_⟩, hb.2.1, hb.2.2⟩), by simp [e]⟩
 · simp only [encO, List.mem_cons, List.not_mem_nil, or_false] at hq
   rcases hq with rfl | rfl
   · exact h1
   · exact h2
 · rcases hv with e1 | e1
   · rw [e1] at e; exact hb.2.2 e
   · rw [e1] at e; injection e with e; have := hb.2.1; omega
end
section
open Go Go.ChangeShapes Go.WideShapes Go.ChangeAt Go.RowKit Go.Deep
theorem laidOut : laidOutB Tryz.prog = true := by kernel_rfl
theorem seedsArg_of {H : Type} {enc : TypeId × Value → H} {W : World} {a : Option Addr} {len cap : Nat} {d : DataW H} {p : List MemPlace} (h0 : DataW.Trod enc Tryz.prog W 0 (fun _ => true) true 22 (.slice a len cap) d p) : SeedsArg W a len cap := by
 obtain ⟨fuel, hf⟩ := h0
 rcases open_ints Tryz.underlying22 Tryz.underlying5 (by kernel_rfl) hf with ⟨hcs, _⟩ | ⟨x, l, c, zs, hcs, _, hl, hm, hz, _, hcell, hwz⟩
 · simp [Value.cells] at hcs
   obtain ⟨rfl, rfl, rfl⟩ := hcs
   exact ⟨Nat.le_refl _, by omega, [], fun k hk => by omega⟩
 · simp [Value.cells] at hcs
   obtain ⟨rfl, rfl, rfl⟩ := hcs
   have hz' : zs.length = cap := by simpa using hz
   refine ⟨hl, by unfold maxLen at hm; exact hm, zs, fun k hk => ?_⟩
   have hk' : k < zs.length := by omega
   have hc := hcell k hk'
   have hb := bounds_u8 (hwz _ (List.getElem_mem hk'))
   have hg : zs.getD k 0 = zs[k] := by simp [List.getD, hk']
   refine ⟨_, rfl, ?_, hc, by rw [hg]; exact hb.1, by rw [hg]; exact hb.2⟩
   have h2 : (x.add k).block < W.heap.size := by
     by_cases hg : (x.add k).block < W.heap.size
     · exact hg
     · exfalso
       simp only [World.cell?, Array.getElem?_eq_none (Nat.le_of_not_lt hg)] at hc
       cases hc
   rwa [add_block] at h2
end
end Go.Proofs.YthhbkabdhkdafaaGreat
