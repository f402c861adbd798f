/- Plain: bases of few valid values. What laws over a dealt type share: the list that came in; the type and the values that are dealt. What the laws of law 07 share. The rows of a law with one list of integers: the frame. -/
import Derived.Test.YtbmheekaclmibaaGreatAwkA
import Derived.Test.YtbmheekaclmibaaGreatGenE
import Derived.Test.YtbmheekaclmibaaGreatGenB
import Derived.Deep.DeepCutAuto
import Derived.Test.YtbmheekaclmibaaGreatRows
import Derived.OpenShut
import Derived.ProofKit
import Derived.Below
import Derived.ChangeSame
import Derived.JoinedOf
namespace Go.Proofs.YtbmheekaclmibaaGreat
set_option linter.unusedSimpArgs false
set_option linter.unusedVariables false

abbrev mn (t : T) (l : List V) : List V := minimalP (belowP 8 t) l
section
variable {t : T} {l : List V} {x : V}
theorem ok_all (hl : ∀ v ∈ l, validP t v = true) : ∀ v ∈ l, oneP 8 t v = true := fun v hv => validP_one (hl v hv)
theorem mn_mem (ht : rightP 8 t = true) (hl : ∀ v ∈ l, validP t v = true) {x : V} (h : x ∈ mn t l) : x ∈ l := (minP_spec (below_ord ht) (ok_all hl)).2.1 x h
theorem mn_valid (ht : rightP 8 t = true) (hl : ∀ v ∈ l, validP t v = true) : ∀ v ∈ mn t l, validP t v = true := fun v hv => hl v (mn_mem ht hl hv)
theorem mn_dom (ht : rightP 8 t = true) (hl : ∀ v ∈ l, validP t v = true) {y : V} (hy : y ∈ l) : ∃ x ∈ mn t l, belowP 8 t x y = true :=
  (minP_spec (below_ord ht) (ok_all hl)).2.2 y (validP_one (hl y hy)) ⟨y, hy, (below_ord ht).refl y (validP_one (hl y hy))⟩
theorem mn_len (l : List V) : (mn t l).length ≤ l.length := minP_length_le l
theorem mn_snoc (ht : rightP 8 t = true) (hl : ∀ v ∈ l, validP t v = true) (hx : validP t x = true) : mn t (mn t l ++ [x]) = mn t (l ++ [x]) := by
  have P := below_ord ht
  have h1 : ∀ v ∈ l ++ [x], validP t v = true := fun v hv => by
    rcases List.mem_append.1 hv with hv | hv
    · exact hl v hv
    · obtain rfl := List.mem_singleton.1 hv; exact hx
  have h2 : ∀ v ∈ mn t l ++ [x], validP t v = true := fun v hv => by
    rcases List.mem_append.1 hv with hv | hv
    · exact mn_valid ht hl v hv
    · obtain rfl := List.mem_singleton.1 hv; exact hx
  refine minP_eq P (ok_all h2) (ok_all h1) (fun y hy => ?_) (fun y hy => ?_)
  · refine ⟨y, ?_, P.refl y (validP_one (h2 y hy))⟩
    rcases List.mem_append.1 hy with hy | hy
    · exact List.mem_append.2 (.inl (mn_mem ht hl hy))
    · exact List.mem_append.2 (.inr hy)
  · rcases List.mem_append.1 hy with hy | hy
    · obtain ⟨z, hz, h⟩ := mn_dom ht hl hy
      exact ⟨z, List.mem_append.2 (.inl hz), h⟩
    · obtain rfl := List.mem_singleton.1 hy
      exact ⟨y, List.mem_append.2 (.inr (by simp)), P.refl y (validP_one hx)⟩
theorem limP_small {l : List V} (h : l.length ≤ 256) : limP l = (l, 0) := if_neg (by omega)
theorem ins_mn (ht : rightP 8 t = true) (hl : ∀ v ∈ l, validP t v = true) (hx : validP t x = true) (hn : l.length ≤ 200) : insP t (mn t l) x = (mn t (l ++ [x]), !hasP t (mn t l) x, 0) := by
  have e : minimalP (belowP 8 t) (mn t l ++ [x]) = mn t (l ++ [x]) := mn_snoc ht hl hx
  have e2 : limP (mn t (l ++ [x])) = (mn t (l ++ [x]), 0) := limP_small (by have := mn_len (t := t) (l ++ [x]); rw [List.length_append] at this; simp at this; omega)
  unfold insP
  rw [if_pos (checkB_min ht hl (by omega)), if_pos hx, e, e2]
  simp
theorem mn_reverse (ht : rightP 8 t = true) (hl : ∀ v ∈ l, validP t v = true) : mn t l.reverse = mn t l := by
  have P := below_ord ht
  have h2 : ∀ v ∈ l.reverse, validP t v = true := fun v hv => hl v (List.mem_reverse.1 hv)
  exact minP_eq P (ok_all h2) (ok_all hl) (fun y hy => ⟨y, List.mem_reverse.1 hy, P.refl y (validP_one (h2 y hy))⟩) (fun y hy => ⟨y, List.mem_reverse.2 hy, P.refl y (validP_one (hl y hy))⟩)
theorem minimise_mn (ht : rightP 8 t = true) (hl : ∀ v ∈ l, validP t v = true) (hn : l.length ≤ 200) : minimiseP t l = (mn t l, 0) := by
  unfold minimiseP
  rw [if_pos ht, if_pos (List.all_eq_true.2 hl), limP_small (Nat.le_trans (mn_len (t := t) l) (by omega))]
theorem has_of (ht : rightP 8 t = true) {b : List V} {v : V} {y : V} (hy : y ∈ b) (h : belowP 8 t y v = true) : hasP t b v = true := List.any_eq_true.2 ⟨y, hy, h⟩
theorem sub_self (ht : rightP 8 t = true) (hl : ∀ v ∈ l, validP t v = true) (hn : l.length ≤ 200) : subP t (mn t l) (mn t l) = true := by
  unfold subP
  rw [checkB_min ht hl (by omega)]
  have : (mn t l).all (hasP t (mn t l)) = true := List.all_eq_true.2 (fun v hv => has_of ht hv ((below_ord ht).refl v (validP_one (mn_valid ht hl v hv))))
  rw [this]; rfl
theorem hasB_mn (ht : rightP 8 t = true) (hl : ∀ v ∈ l, validP t v = true) (hn : l.length ≤ 200) {v : V} (hv : validP t v = true) : hasB t (mn t l) v = hasP t (mn t l) v := by
  unfold hasB
  rw [checkB_min ht hl (by omega), hv]; simp
end
end Go.Proofs.YtbmheekaclmibaaGreat
namespace Go.Proofs.YtbmheekaclmibaaGreat
open Go.RowKit
set_option linter.unusedSimpArgs false
set_option linter.unusedVariables false

def IntsArg (w : World) (A : Option Addr) (n : Nat) : Prop := ∃ zs : List Int, ∀ k, k < n → ∃ ad : Addr, A = some ad ∧ ad.block < w.heap.size ∧ w.cell? (ad.add k) = some (.int .i64 (zs.getD k 0))
theorem new_arg (w W : World) (A : Option Addr) (n c : Nat) (hn : n ≤ 400) (h : IntsArg w A n) (g : Bw w W) : Calls Tryz.prog 11 #[.slice A n c] W (NewPost W) := by
  obtain ⟨zs, hz⟩ := h
  refine new_any W A n c zs hn (fun k hk => ?_)
  obtain ⟨ad, e, hl, hc⟩ := hz k hk
  exact ⟨ad, e, Nat.lt_of_lt_of_le hl g.size, (g.b.cell (by rw [add_block]; exact hl)).trans hc⟩
/-- a type that was dealt -/
def DealtT (w : World) (b : Nat) (e : Ending) (w' : World) : Prop := ∃ t A1 rn c1 A2 pn c2, e = .returned (.agg #[.int .i64 t.kind, .int .i64 t.size, .slice A1 rn c1, .slice A2 pn c2]) ∧ rightP 8 t = true ∧ lsz 8 3 t ≤ 128 ∧ TAt w' (TD b w') (.slice A1 rn c1) (.slice A2 pn c2) t ∧ GD b w w'
theorem dealt_any (w : World) (b : Nat) (flat : Bool) (hd : DeckOk w b) : Calls Tryz.prog 12 #[.pointer (some ⟨b, 0, none⟩), .int .i64 3, .bool flat] w (DealtT w b) := by
  have hb := hd.lt
  have := dtype_any b flat 2 (by omega) w hd
  refine Calls.mono (show Calls Tryz.prog 12 #[.pointer (some ⟨b, 0, none⟩), .int .i64 3, .bool flat] w (TypePost w b 3) from by simpa using this) ?_
  rintro e w' ⟨t, r, p, rfl, hm, hT, hg⟩
  obtain ⟨A1, rn, c1, rfl, _, _⟩ := hT.1.form'
  obtain ⟨A2, pn, c2, rfl, _, _, _⟩ := hT.2.form
  have h1 := made_lsz (m := 3) (by omega) hm
  exact ⟨t, A1, rn, c1, A2, pn, c2, rfl, h1.1, h1.2, hT.keep (fun x hx => ⟨by have := hx.1; omega, hx.2⟩) (fun _ _ => rfl), hg⟩
/-- the same at depth 2 -/
theorem dealt2_any (w : World) (b : Nat) (flat : Bool) (hd : DeckOk w b) : Calls Tryz.prog 12 #[.pointer (some ⟨b, 0, none⟩), .int .i64 2, .bool flat] w (DealtT w b) := by
  have hb := hd.lt
  have := dtype_any b flat 1 (by omega) w hd
  refine Calls.mono (show Calls Tryz.prog 12 #[.pointer (some ⟨b, 0, none⟩), .int .i64 2, .bool flat] w (TypePost w b 2) from by simpa using this) ?_
  rintro e w' ⟨t, r, p, rfl, hm, hT, hg⟩
  obtain ⟨A1, rn, c1, rfl, _, _⟩ := hT.1.form'
  obtain ⟨A2, pn, c2, rfl, _, _, _⟩ := hT.2.form
  have h1 := made_size 2 8 3 t (by omega) (made_right hm) (made_few hm)
  exact ⟨t, A1, rn, c1, A2, pn, c2, rfl, right_mono 2 8 t (by omega) (made_right hm), by simp [szB] at h1; omega, hT.keep (fun x hx => ⟨by have := hx.1; omega, hx.2⟩) (fun _ _ => rfl), hg⟩
/-- one value of a dealt type -/
def Dealt1 (w : World) (b : Nat) (t : T) (e : Ending) (w' : World) : Prop := ∃ v A n c, e = .returned (.agg #[.int .i64 v.n, .slice A n c]) ∧ validP t v = true ∧ KAt w' (TD b w') (.slice A n c) v.ks ∧ GD b w w'
theorem dealt1_any (w : World) (b : Nat) (t : T) (ht : rightP 8 t = true) (hs : lsz 8 3 t ≤ 128) (rv pv : Value) (hd : DeckOk w b) (hT : TAt w (TD b w) rv pv t) :
    Calls Tryz.prog 21 #[.pointer (some ⟨b, 0, none⟩), .agg #[.int .i64 t.kind, .int .i64 t.size, rv, pv]] w (Dealt1 w b t) := by
  have hb := hd.lt
  refine (dvalue_any b t ht rv pv w hd hT).mono ?_
  rintro e w' ⟨v, s, rfl, h1, h2, h3⟩
  obtain ⟨A, n, c, rfl, -, -, -⟩ := h2.form
  exact ⟨v, A, n, c, rfl, h1 hs, h2.keep (fun x hx => ⟨by have := hx.1; omega, hx.2⟩) (fun _ _ => rfl), h3⟩
theorem KAt.td {b : Nat} {w w' : World} {v : Value} {l : List V} (h : KAt w (TD b w) v l) (g : GD b w w') : KAt w' (TD b w') v l := h.keep (fun x hx => ⟨hx.1, Nat.lt_of_lt_of_le hx.2 g.size⟩) (fun q hq => g.cell hq.2 hq.1)
theorem KAt.kb_ {b : Nat} {w : World} {v : Value} {l : List V} (h : KAt w (TD b w) v l) : KB w w.heap.size v l := h.keep (fun x hx => hx.2) (fun _ _ => rfl)
theorem TAt.tb_ {b : Nat} {w : World} {r p : Value} {t : T} (h : TAt w (TD b w) r p t) : TB w w.heap.size r p t := h.keep (fun x hx => hx.2) (fun _ _ => rfl)
/-- values that were dealt -/
def DealtV (w : World) (b most : Nat) (t : T) (e : Ending) (w' : World) : Prop := ∃ l A n c, e = .returned (.slice A n c) ∧ l.length = n ∧ n ≤ most ∧ (∀ v ∈ l, validP t v = true) ∧ KB w' w'.heap.size (.slice A n c) l ∧ GD b w w'
theorem dealtV_any (w : World) (b most : Nat) (mi : Int) (hmi : mi = (most : Int)) (hm : most ≤ 90) (t : T) (ht : rightP 8 t = true) (hs : lsz 8 3 t ≤ 128) (rv pv : Value) (hd : DeckOk w b) (hT : TAt w (TD b w) rv pv t) :
    Calls Tryz.prog 13 #[.pointer (some ⟨b, 0, none⟩), .agg #[.int .i64 t.kind, .int .i64 t.size, rv, pv], .int .i64 mi] w (DealtV w b most t) := by
  subst hmi
  refine (dvalues_any b t ht most hm rv pv w hd hT).mono ?_
  rintro e w' ⟨l, s, rfl, hl, hv, hk, hg⟩
  obtain ⟨A, n, c, rfl, ln, _, _⟩ := hk.form
  exact ⟨l, A, n, c, rfl, ln, by omega, fun v h => hv v h hs, hk.keep (fun x hx => hx.2) (fun _ _ => rfl), hg⟩
/-- the type's box in a world in which nothing old has turned but the deck -/
theorem tbox_gd {b : Nat} {w W : World} {kd z : Int} {r p : Value} (hb : b < w.heap.size) (g : GD b (w.alloc (.cells #[.int .i64 kd, .int .i64 z, r, p] 29)) W) : Blk W w.heap.size 29 #[.int .i64 kd, .int .i64 z, r, p] := g.blk (Blk.new _ _ _) (by omega)
end Go.Proofs.YtbmheekaclmibaaGreat
namespace Go.Proofs.YtbmheekaclmibaaGreat
end Go.Proofs.YtbmheekaclmibaaGreat
namespace Go.Proofs.YtbmheekaclmibaaGreat
open Go Go.ChangeShapes Go.WideShapes Go.ChangeAt Go.RowKit
set_option linter.unusedSimpArgs false
set_option linter.unusedVariables false

theorem own : ownKnob Tryz.prog.godebug = none := by kernel_rfl
theorem laidOut : laidOutB Tryz.prog = true := by kernel_rfl
theorem intsArg_of {H : Type} {enc : TypeId × Value → H} {W : World} {a : Option Addr} {len cap : Nat} {d : DataW H} {p : List MemPlace} (h0 : DataW.Trod enc Tryz.prog W 0 (fun _ => true) true 22 (.slice a len cap) d p) : IntsArg W a len ∧ len ≤ maxLen := by
  obtain ⟨fuel, hf⟩ := h0
  rcases open_ints Tryz.underlying22 Tryz.underlying3 (by kernel_rfl) hf with ⟨hcs, _⟩ | ⟨x, l, c, zs, hcs, _, hl, hm, hz, _, hcell, hwz⟩
  · simp [Value.cells] at hcs
    obtain ⟨rfl, rfl, rfl⟩ := hcs
    exact ⟨⟨[], fun k hk => by omega⟩, Nat.zero_le _⟩
  · simp [Value.cells] at hcs
    obtain ⟨rfl, rfl, rfl⟩ := hcs
    have hz' : zs.length = cap := by simpa using hz
    refine ⟨⟨zs, fun k hk => ⟨_, rfl, ?_, hcell k (by omega)⟩⟩, Nat.le_trans hl hm⟩
    have := hcell k (by omega)
    have h2 : (x.add k).block < W.heap.size := by
      by_cases hg : (x.add k).block < W.heap.size
      · exact hg
      · exfalso
        simp only [World.cell?, Array.getElem?_eq_none (Nat.le_of_not_lt hg)] at this
        cases this
    rwa [add_block] at h2
end Go.Proofs.YtbmheekaclmibaaGreat
