/- Part of a proof of pruneShows_holds. -/
import Derived.Test.YthhbkabdhkdafaaGreatUAbQ
import Derived.Test.YthhbkabdhkdafaaGreatShelfQ
import Derived.KernelRfl
import Derived.Lib.AppendIntMem
set_option linter.unusedSimpArgs false
set_option linter.unusedVariables false
set_option maxRecDepth 100000
set_option maxHeartbeats 16000000
namespace Go.Proofs.YthhbkabdhkdafaaGreat
section
open Go.RowKit
theorem wp_world {P : Program} {c : Code} {Q : Exit → Act → World → Prop} {a : Act} {w : World} (R : World → Prop) (h : R w) (k : ∀ W, R W → c.wp P Q a W) : c.wp P Q a w := k w h
theorem infoInt : (Tryz.prog.info? 3).map (fun i => (i.zero, i.size, i.bytes)) = some (some (.int .i64 0), 1, 8) := by kernel_rfl
def intVs (cs : List Int) : List Value := cs.map (Value.int .i64)
theorem own_base {w : World} {B B' e size n : Nat} {v : Value} {xs : List Value} (h : w.ownsRow B' e size v n xs) (hb : B ≤ B') : w.ownsRow B e size v n xs := by
 refine ⟨h.1, ?_⟩
 rcases h.2 with h2 | ⟨g, cap, cur, h1, h2, h3⟩
 · exact .inl h2
 · exact .inr ⟨g, cap, cur, h1, Nat.le_trans hb h2, h3⟩
theorem reads_blk {W : World} {g : Nat} {t : TypeId} {cs : Array Value} {B size n : Nat} (h : Blk W g t cs) (hg : g < B) (hl : cs.toList.length = n * size) : Reads W B size (some ⟨g, 0, none⟩) n cs.toList := by
 refine ⟨hl, fun _ => ⟨_, rfl, hg, fun j u hu => ?_⟩⟩
 have e : ((⟨g, 0, none⟩ : Addr).add j) = ⟨g, j, none⟩ := by
   unfold Addr.add
   by_cases h0 : j = 0 <;> simp [h0]
 rw [e, h.cell j]
 simpa using hu
theorem reads_new1 (W : World) (x : Int) : Reads (W.alloc (.cells #[.int .i64 x] 3)) (W.heap.size + 1) 1 (some ⟨W.heap.size, 0, none⟩) 1 [.int .i64 x] := reads_blk (n := 1) (Blk.new W 3 #[.int .i64 x]) (by omega) rfl
theorem own_kept_below {w w' : World} {base : Nat} {e size : Nat} {v : Value} {n : Nat} {xs : List Value} (h : w.ownsRow base e size v n xs) (hb : Below w.heap.size w w') : w'.ownsRow base e size v n xs :=
 h.kept (grownBy_of_below hb none) (by cases v.ownBlock <;> simp)
theorem own_kindP {w : World} {B e size n : Nat} {v : Value} {xs : List Value} (hown : w.ownsRow B e size v n xs) : ∀ g, v.ownBlock = some g → ∃ c fz, w.heap[g]? = some (.cells c e fz) := by
 intro g hg
 rcases hown.2 with ⟨rfl, _⟩ | ⟨g', cap, cur, rfl, _, hh, _⟩
 · cases hg
 · have : g' = g := by simpa [Value.ownBlock] using hg
   subst this; exact ⟨_, _, hh⟩
theorem own_own_ne {w : World} {B e size n B' e' size' n' : Nat} {v v' : Value} {xs xs' : List Value} (h : w.ownsRow B e size v n xs) (h' : w.ownsRow B' e' size' v' n' xs') (hne : e ≠ e') : ∀ g, v.ownBlock = some g → v'.ownBlock ≠ some g := by
 intro g hg hg'
 obtain ⟨c, fz, h1⟩ := own_kindP h g hg
 obtain ⟨c', fz', h2⟩ := own_kindP h' g hg'
 rw [h1] at h2
 injection h2 with h2
 injection h2 with _ h2
 exact hne h2
theorem own_kept_grow {w w' : World} {B e size n B' e' size' n' : Nat} {v v' : Value} {xs xs' : List Value} (h : w.ownsRow B e size v n xs) (h' : w.ownsRow B' e' size' v' n' xs') (hne : e ≠ e') (hg : w.grownBy w' v'.ownBlock) : w'.ownsRow B e size v n xs := by
 refine h.kept hg ?_
 rcases ho : v.ownBlock with _ | k
 · exact .inl rfl
 · exact .inr (fun e => own_own_ne h h' hne k ho e.symm)
structure DiceAt (w : World) (b : Nat) (A : Option Addr) (n c : Nat) (zs : List Int) (at_ : Nat) : Prop where
 blk : w.heap[b]? = some (.cells #[.slice A n c, .int .i64 at_] 71 (0, 0))
 rd : ∀ k, k < n → ∃ ad : Addr, A = some ad ∧ ad.block < b ∧ w.cell? (ad.add k) = some (.int .u8 (zs.getD k 0)) ∧ 0 ≤ zs.getD k 0 ∧ zs.getD k 0 ≤ 255
 le : at_ ≤ n
 small : n ≤ 200
theorem DiceAt.c0 {w : World} {b : Nat} {A : Option Addr} {n c : Nat} {zs : List Int} {at_ : Nat} (h : DiceAt w b A n c zs at_) :
   w.cell? ⟨b, 0, none⟩ = some (.slice A n c) ∧ w.cell? ⟨b, 1, none⟩ = some (.int .i64 at_) ∧ w.frozen? ⟨b, 1, none⟩ = false := by
 simp [World.cell?, World.frozen?, h.blk]
def DiceOk (w : World) (b : Nat) : Prop := ∃ (A : Option Addr) (n c : Nat) (zs : List Int) (at_ : Nat), DiceAt w b A n c zs at_
theorem DiceOk.grown {w w' : World} {b : Nat} {row : Option Nat} (h : DiceOk w b) (hg : w.grownBy w' row) (hr : ∀ r, row = some r → b < r) : DiceOk w' b := by
 obtain ⟨A, n, c, zs, at_, h⟩ := h
 have hlt : b < w.heap.size := by
   rcases Nat.lt_or_ge b w.heap.size with hlt | hge
   · exact hlt
   · have := h.blk; rw [Array.getElem?_eq_none hge] at this; cases this
 refine ⟨A, n, c, zs, at_, (hg.block b hlt (fun e => by have := hr _ e.symm; omega)).trans h.blk, fun k hk => ?_, h.le, h.small⟩
 obtain ⟨ad, e, hl, hc, hz⟩ := h.rd k hk
 refine ⟨ad, e, hl, ?_, hz⟩
 rw [← hc]
 exact World.cell?_of_block (hg.block _ (by rw [add_block]; omega) (fun e => by rw [add_block] at e; have := hr _ e.symm; omega))
theorem DiceOk.drewN {w : World} {b : Nat} (h : DiceOk w b) (n : Nat) : DiceOk (w.drewN n) b := by
 obtain ⟨A, m, c, zs, at_, h⟩ := h
 exact ⟨A, m, c, zs, at_, h.blk, h.rd, h.le, h.small⟩
theorem DiceOk.below {w w' : World} {b B : Nat} (h : DiceOk w b) (hb : Below B w w') (hB : b < B) : DiceOk w' b := by
 obtain ⟨A, n, c, zs, at_, h⟩ := h
 refine ⟨A, n, c, zs, at_, (hb.block b hB).trans h.blk, fun k hk => ?_, h.le, h.small⟩
 obtain ⟨ad, e, hl, hc, hz⟩ := h.rd k hk
 exact ⟨ad, e, hl, (hb.cell (by rw [add_block]; omega)).trans hc, hz⟩
theorem DiceOk.lt {w : World} {b : Nat} (h : DiceOk w b) : b < w.heap.size := by
 obtain ⟨A, n, c, zs, at_, h⟩ := h
 rcases Nat.lt_or_ge b w.heap.size with hlt | hge
 · exact hlt
 · have := h.blk; rw [Array.getElem?_eq_none hge] at this; cases this
def PickPost (w : World) (b : Nat) (n : Int) (e : Ending) (w' : World) : Prop := ∃ r : Nat, e = .returned (.int .i64 (r : Int)) ∧ (r : Int) < n ∧ DiceOk w' b ∧ w.grownBy w' (some b)
theorem ppick_any (w : World) (b : Nat) (hd : DiceOk w b) (n : Int) (h1 : 1 ≤ n) (hn : n ≤ 100000) :
   Calls Tryz.prog 10 #[.pointer (some ⟨b, 0, none⟩), .int .i64 n] w (PickPost w b n) := by
 have HD := Lib.hid hd
 obtain ⟨A, m, c, zs, at_, h⟩ := hd
 obtain ⟨h0, h1', f1⟩ := h.c0
 have hsm := h.small
 by_cases hlt : at_ < m
 · obtain ⟨ad, rfl, hb, hc, z0, z1⟩ := h.rd at_ hlt
   have H := Lib.hid h
   clear h
   generalize zs.getD at_ 0 = x at hc z0 z1
   have g1 : decide ((m : Int) ≤ at_) = false := by simp; omega
   have g2 : ∀ q, ((w.drewN q).setCell ⟨b, 1, none⟩ (.int .i64 ((at_ : Int) + 1))).cell? ⟨b, 0, none⟩ = some (.slice (some ad) m c) := fun q => (World.cell?_setCell_other _ _ _ _ (by intro e; cases e)).trans h0
   have g3 : ∀ q, ((w.drewN q).setCell ⟨b, 1, none⟩ (.int .i64 ((at_ : Int) + 1))).cell? (ad.add at_) = some (.int .u8 x) := fun q => (World.cell?_setCell_other _ _ _ _ (by intro e; have := congrArg Addr.block e; rw [add_block] at this; simp at this; omega)).trans hc
   have g4 : ∀ q, ((w.drewN q).setCell ⟨b, 1, none⟩ (.int .i64 ((at_ : Int) + 1))).cell? ⟨b, 1, none⟩ = some (.int .i64 ((at_ : Int) + 1)) := fun q => World.cell?_setCell_same _ _ _ h1'
   have dw : IntKind.i64.wrap (at_ : Int) = at_ := wrapI64 at_ (by omega)
   have dw1 : IntKind.i64.wrap ((at_ : Int) + 1 - 1) = at_ := by rw [show (at_ : Int) + 1 - 1 = at_ from by omega]; exact dw
   go_enter Tryz.func10, Tryz.ntmps10
   go_wp2_with fail
   go_quiet (fail)
   go_wp2_with fail
   go_quiet (fail)
   go_wp2_with fail
   go_ret
   obtain ⟨r, hr⟩ := Int.eq_ofNat_of_zero_le (Int.emod_nonneg x (show n ≠ 0 by omega))
   have hrn := Int.emod_lt_of_pos x (show 0 < n by omega)
   refine ⟨r, by rw [← hr]; rfl, by omega, ?_, grownBy_drewN (grownBy_setCell (p := ⟨b, 1, none⟩) (grownBy_drewN (World.grownBy.refl _ _) _) (.inl rfl) _) _⟩
   have h := H.out
   refine DiceOk.drewN (w := (w.drewN _).setCell _ _) ⟨some ad, m, c, zs, at_ + 1, blk_set (w := w.drewN _) (i := 1) _ h.blk, fun k hk => ?_, by omega, hsm⟩ _
   obtain ⟨ad', e, hl, hc', hz⟩ := h.rd k hk
   exact ⟨ad', e, hl, (World.cell?_setCell_other _ _ _ _ (by intro e; have := congrArg Addr.block e; rw [add_block] at this; simp at this; omega)).trans hc', hz⟩
 · have g1 : decide ((m : Int) ≤ at_) = true := by simp; omega
   have H := Lib.hid h
   clear h
   go_enter Tryz.func10, Tryz.ntmps10
   go_wp2_with fail
   go_quiet (fail)
   go_wp2_with fail
   go_ret
   exact ⟨0, rfl, by omega, HD.out.drewN _, grownBy_drewN (World.grownBy.refl _ _) _⟩
def PNewPost (w : World) (e : Ending) (w' : World) : Prop := e = .returned (.pointer (some ⟨w.heap.size, 0, none⟩)) ∧ DiceOk w' w.heap.size ∧ Below w.heap.size w w'
theorem pnew_any (w : World) (A : Option Addr) (n c : Nat) (zs : List Int) (hn : n ≤ c) (hc63 : c ≤ 9223372036854775807)
   (hr : ∀ k, k < n → ∃ ad : Addr, A = some ad ∧ ad.block < w.heap.size ∧ w.cell? (ad.add k) = some (.int .u8 (zs.getD k 0)) ∧ 0 ≤ zs.getD k 0 ∧ zs.getD k 0 ≤ 255) :
   Calls Tryz.prog 7 #[.slice A n c] w (PNewPost w) := by
 by_cases h : n ≤ 200
 · have g : decide (200 < (n : Int)) = false := by simp; omega
   go_enter Tryz.func7, Tryz.ntmps7
   go_wp2
   go_ret
   refine ⟨rfl, ⟨A, n, c, zs, 0, heap_alloc_new w _, fun k hk => ?_, by omega, h⟩, (Below.refl _ _).alloc (Nat.le_refl _) _⟩
   obtain ⟨ad, e, hl, hc, hz⟩ := hr k hk
   exact ⟨ad, e, hl, (World.cell?_alloc_lt w _ _ (by rw [add_block]; omega)).trans hc, hz⟩
 · have g : decide (200 < (n : Int)) = true := by simp; omega
   obtain ⟨ad, rfl, hl0, _⟩ := hr 0 (by omega)
   go_enter Tryz.func7, Tryz.ntmps7
   go_wp2
   go_ret
   refine ⟨rfl, ⟨some ad, 200, c, zs, 0, heap_alloc_new w _, fun k hk => ?_, by omega, Nat.le_refl _⟩, (Below.refl _ _).alloc (Nat.le_refl _) _⟩
   obtain ⟨ad', e, hl, hc, hz⟩ := hr k (by omega)
   exact ⟨ad', e, hl, (World.cell?_alloc_lt w _ _ (by rw [add_block]; omega)).trans hc, hz⟩
theorem rrow1 {fn : Func} {p q : Tmp} {ty : TypeId} (h : fn.results = #[.cell p ty, .tmp q]) (tmps : Array Value) (w : World) (g : Nat) (cs : Array Value) (u : Value)
   (hp : tmps.getD p undef = .pointer (some ⟨g, 0, none⟩)) (hl : (loadVar ty ⟨g, 0, none⟩).run Tryz.prog w = .ok (.agg cs) w) (hq : tmps.getD q undef = u) :
   (results fn tmps).run Tryz.prog w = .ok (.tuple #[.agg cs, u]) w := by
 have hp' : tmps[p]?.getD undef = .pointer (some ⟨g, 0, none⟩) := by simpa using hp
 have hq' : tmps[q]?.getD undef = u := by simpa using hq
 simp [results, h, hp', hq', asAddr, hl]
end
end Go.Proofs.YthhbkabdhkdafaaGreat
