/- Part of a proof of orderExact_card. -/
import Derived.Test.YtlmnkcfnihhlgaaGreatDoorXPlnCQ
import Derived.Test.YtlmnkcfnihhlgaaGreatDoorXOneAQ
import Derived.WalkSmall
import Derived.Lib.LaidTab
import Derived.Lib.AtoiTie
import Derived.Lib.AtoiErrMem
import Derived.Lib.Builder
import Derived.Lib.AppendStr
import Derived.Lib.UnsafeStr
import Derived.Lib.BufferKept
set_option maxRecDepth 100000
set_option maxHeartbeats 16000000
namespace Go.Proofs.YtlmnkcfnihhlgaaGreatDoor
open Go.RowKit
set_option linter.unusedSimpArgs false
set_option linter.unusedVariables false
structure GlobO (w : World) : Prop where
 tab : Lib.TabIs Tryz.prog w "internal/strconv.uint64pow10" .u64 Lib.pow10Tab
 es : ∃ tp p, w.var? Tryz.prog "strconv.ErrSyntax" = some #[.iface tp p]
 er : ∃ tp p, w.var? Tryz.prog "strconv.ErrRange" = some #[.iface tp p]
 lt : 2 < w.heap.size ∧ 0 < w.heap.size ∧ 1 < w.heap.size
def GLt (B : Nat) : Prop := 2 < B ∧ 0 < B ∧ 1 < B
theorem GlobO.gl {w : World} (h : GlobO w) : GLt w.heap.size := h.lt
theorem GLt.mono {B C : Nat} (h : GLt B) (hB : B ≤ C) : GLt C := ⟨by have := h.1; omega, by have := h.2.1; omega, by have := h.2.2; omega⟩
theorem pow_named : Tryz.prog.globalNamed "internal/strconv.uint64pow10" = some 2 := by kernel_rfl
theorem es_named : Tryz.prog.globalNamed "strconv.ErrSyntax" = some 0 := by kernel_rfl
theorem er_named : Tryz.prog.globalNamed "strconv.ErrRange" = some 1 := by kernel_rfl
theorem GlobO.kept {B : Nat} {w w' : World} (h : GlobO w) (hB : GLt B) (hb : Below B w w') : GlobO w' := by
 obtain ⟨tp, p, he⟩ := h.es
 obtain ⟨tp2, p2, he2⟩ := h.er
 obtain ⟨l1, l5, l6⟩ := hB
 have hs := hb.size
 obtain ⟨q1, q5, q6⟩ := h.lt
 exact ⟨var?_below hb pow_named l1 h.tab, ⟨tp, p, var?_below hb es_named l5 he⟩, ⟨tp2, p2, var?_below hb er_named l6 he2⟩, by omega, by omega, by omega⟩
theorem GlobO.bw {w w' : World} (h : GlobO w) (g : Bw w w') : GlobO w' := h.kept h.lt g
theorem atoi_ok (s : ByteArray) (w : World) (hs : s.size ≤ 100000000) (v : Int) (h : Lib.atoiAll s.data.toList = .ok v) : Calls Tryz.prog 98 #[.string s] w fun e w' => e = .returned (.tuple #[.int .i64 v, .nilIface]) ∧ Below w.heap.size w w' := by
 refine (Tryz.strconv_Atoi_ok s (by omega) v h w).mono ?_
 rintro e w' ⟨rfl, hw⟩
 refine ⟨rfl, ?_⟩
 rcases hw with rfl | ⟨t, rfl⟩
 · exact Below.refl _ _
 · exact Lib.bytesWorld_below _ _ _
def AtoiBad (w : World) (e : Ending) (w' : World) : Prop := ∃ (n : Int) (T : TypeId) (x : Value), e = .returned (.tuple #[.int .i64 n, .iface T x]) ∧ Below w.heap.size w w' ∧ -9223372036854775808 ≤ n ∧ n ≤ 9223372036854775807
theorem atoi_bad (s : ByteArray) (w : World) (hs : s.size ≤ 100000000) (hg : GlobO w) (h : ∀ v, Lib.atoiAll s.data.toList ≠ .ok v) : Calls Tryz.prog 98 #[.string s] w (AtoiBad w) := by
 obtain ⟨tp, p, he⟩ := hg.es
 obtain ⟨tp2, p2, he2⟩ := hg.er
 by_cases h2 : Lib.atoiAll s.data.toList = .range
 rotate_left
 · refine (Tryz.strconv_Atoi_syntax_var s (by omega) h h2 tp p w he).mono ?_
   rintro e w' ⟨N, rfl, _, _, hb⟩
   exact ⟨0, _, _, rfl, hb, by omega, by omega⟩
 · refine (Tryz.strconv_Atoi_range_var s (by omega) h2 tp2 p2 w he2).mono ?_
   rintro e w' ⟨N, rfl, _, _, hb⟩
   exact ⟨_, _, _, rfl, hb, (Lib.atoiSat_bounds _).1, (Lib.atoiSat_bounds _).2⟩
theorem itoa_any (v : Int) (h0 : -9223372036854775808 ≤ v) (h1 : v ≤ 9223372036854775807) (w : World) (hg : GlobO w) : Calls Tryz.prog 94 #[.int .i64 v] w fun e w' => e = .returned (.string ⟨(Lib.itoa v).toArray⟩) ∧ Bw w w' := by
 refine (Tryz.strconv_Itoa v h0 h1 w hg.tab).mono ?_
 rintro e w' ⟨rfl, k, os, rfl⟩
 exact ⟨rfl, Lib.below_grow _ _ (Nat.le_refl _) _ _⟩
theorem infoByte : (Tryz.prog.info? 5).map (fun i => (i.zero, i.size, i.bytes)) = some (some (.int .u8 0), 1, 1) := by kernel_rfl
theorem sizeBuilder : (Tryz.prog.info? 71).map (·.size) = some 2 := by kernel_rfl
theorem liesBuilder : liesAt Tryz.prog Tryz.prog.depth 71 (2 / Tryz.prog.cellsOf 71) 0 71 1 = true := by kernel_rfl

theorem copyCheck_used (b : Nat) (w : World) (h0 : w.cell? ⟨b, 0, none⟩ = some (.pointer (some ⟨b, 0, none⟩))) :
   Calls Tryz.prog 126 #[.pointer (some ⟨b, 0, none⟩)] w fun e w' => e = .returned (.tuple #[]) ∧ w' = w := by
 obtain ⟨j, hj, _⟩ := Option.map_eq_some_iff.1 sizeBuilder
 go_enter Tryz.func126, Tryz.ntmps126
 go_wp2
 rw [Lib.run_neq_ptr_same w _ Tryz.underlying69 hj]
 go_wp2
 go_end0
 exact ⟨rfl, rfl⟩

theorem copyCheck_fresh (b : Nat) (w : World) (h0 : w.cell? ⟨b, 0, none⟩ = some (.pointer none)) (hsh : w.shape? b = some (71, 2)) (hfz : w.frozen? ⟨b, 0, none⟩ = false) :
   Calls Tryz.prog 126 #[.pointer (some ⟨b, 0, none⟩)] w fun e w' => e = .returned (.tuple #[]) ∧ w' = w.setCell ⟨b, 0, none⟩ (.pointer (some ⟨b, 0, none⟩)) := by
 obtain ⟨j, hj, hjs⟩ := Option.map_eq_some_iff.1 sizeBuilder
 go_enter Tryz.func126, Tryz.ntmps126
 go_wp2
 rw [Lib.run_to_unsafe w ⟨b, 0, none⟩ Tryz.underlying69 Tryz.underlying159 hj (by rw [hjs]; decide) hsh (Nat.zero_lt_succ 1)]
 simp only [Result.andThen]
 rw [Oper.upon_value]
 go_wp2
 rw [run_callFunc_extern Tryz.func159 (by kernel_rfl) (by kernel_rfl) (by kernel_rfl) (e := Extern.AbiNoEscape.same) (by kernel_rfl)]
 rw [Lib.run_noEscape]
 simp only [Result.andThen]
 rw [Oper.upon_value]
 go_wp2
 rw [Lib.run_from_unsafe w ⟨b, 0, none⟩ Tryz.underlying159 Tryz.underlying69 hj hsh liesBuilder]
 simp only [Result.andThen]
 rw [Oper.upon_value]
 go_wp2
 go_end0
 exact ⟨rfl, rfl⟩

theorem copyCheck_any (B b : Nat) (bs : List Value) (w : World) (h : Lib.IsBuilderF 71 5 B b bs w) :
   Calls Tryz.prog 126 #[.pointer (some ⟨b, 0, none⟩)] w fun e w' => e = .returned (.tuple #[]) ∧ (Lib.BuilderAtF 71 5 B b (.pointer (some ⟨b, 0, none⟩)) bs w' ∧ Below B w w' ∧ Lib.OthersKept 5 (some b) w w') := by
 rcases h with h | h
 · refine (copyCheck_fresh b w h.cell0 h.shape h.frozen0).mono ?_
   rintro e w' ⟨rfl, rfl⟩
   exact ⟨rfl, h.used _, (Below.refl B w).setCell (p := ⟨b, 0, none⟩) h.1 _, (Lib.OthersKept.refl _ _ w).setCell ⟨b, 0, none⟩ rfl _⟩
 · refine (copyCheck_used b w h.cell0).mono ?_
   rintro e w' ⟨rfl, rfl⟩
   exact ⟨rfl, h, Below.refl B _, Lib.OthersKept.refl _ _ _⟩

theorem writeByte_any (B b : Nat) (bs : List Value) (c : Int) (w : World) (h : Lib.IsBuilderF 71 5 B b bs w) (hlen : bs.length + 1 ≤ 140737488355328) (hBw : B ≤ w.heap.size) :
   Calls Tryz.prog 95 #[.pointer (some ⟨b, 0, none⟩), .int .u8 c] w fun e w' => e = .returned .nilIface ∧ (Lib.BuilderAtF 71 5 B b (.pointer (some ⟨b, 0, none⟩)) (bs ++ [.int .u8 c]) w' ∧ Below B w w' ∧ Lib.OthersKept 5 (some b) w w') := by
 obtain ⟨i0, hi, hz0, hz1, hz2⟩ := info_parts infoByte
 go_enter Tryz.func95, Tryz.ntmps95
 go_wp2_with (go_at_call 126; refine (copyCheck_any B b bs _ h).mono ?_)
 rintro e w1 ⟨rfl, h1, hb1, hk1⟩
 obtain ⟨hB, v, hbk, hown, hne⟩ := h1
 have c0 : w1.cell? ⟨b, 0, none⟩ = some (.pointer (some ⟨b, 0, none⟩)) := by rw [Lib.cell_of_heap hbk]; rfl
 have c1 : w1.cell? ⟨b, 1, none⟩ = some v := by rw [Lib.cell_of_heap hbk]; rfl
 go_wp2_with (at_builtin; refine wpList_append_ownF _ rfl _ _ 53 rfl B 5 i0 (.int .u8 0) 1 1 Tryz.underlying53 hi hz0 hz1 hz2 rfl (by decide) _ _ _ rfl (hown.alloc _) ⟨w1.heap.size, 0, none⟩ 1 1 [.int .u8 c] rfl rfl ?c1 ?c2 ?c3 ?c4 ?c5 ?_)
 case c1 =>
   intro j u hj
   match j, hj with
   | 0, hj => simp at hj; subst hj; simp [Addr.add]
 case c2 => intro u hu; simp at hu; subst hu; rfl
 case c3 => unfold maxLen; omega
 case c4 => omega
 case c5 => have := hb1.size; simp; omega
 intro v' w2 hown' hgrow _
 have hlt : b < w1.heap.size := by
   rcases Nat.lt_or_ge b w1.heap.size with h' | h'
   · exact h'
   · simp [Array.getElem?_eq_none h'] at hbk
 have hb2 : w2.heap[b]? = some (.cells #[.pointer (some ⟨b, 0, none⟩), v] 71 (0, 0)) := by
   rw [hgrow.block b (by simp; omega) (fun e => hne e.symm), Lib.alloc_old w1 _ b hlt]
   exact hbk
 have d0 : w2.cell? ⟨b, 0, none⟩ = some (.pointer (some ⟨b, 0, none⟩)) := by rw [Lib.cell_of_heap hb2]; rfl
 have d1 : w2.cell? ⟨b, 1, none⟩ = some v := by rw [Lib.cell_of_heap hb2]; rfl
 have f1 : w2.frozen? ⟨b, 1, none⟩ = false := Lib.frozen_of_heap hb2 1
 obtain ⟨g, cap, rfl⟩ : ∃ g cap, v' = .slice (some ⟨g, 0, none⟩) (bs.length + 1) cap := by
   rcases hown'.2 with ⟨_, h0⟩ | ⟨g, cap, cur, fz, hv, _⟩
   · omega
   · exact ⟨g, cap, hv⟩
 go_wp2
 go_ret
 refine ⟨rfl, ?_, ?_, ((hk1.alloc _).grown hgrow (Lib.ownsRowF_kind (hown.alloc _))).setCell ⟨b, 1, none⟩ rfl _⟩
 · exact Lib.BuilderAtF.put (T := 71) (e := 5) hB hb2 (bs' := bs ++ [.int .u8 c]) (by simpa using hown') (by decide)
 · exact ((hb1.alloc (by have := hb1.size; omega) _).grown hgrow (by have := hb1.size; simp; omega) (fun k hk => (hown.lt k hk).1)).setCell (p := ⟨b, 1, none⟩) hB _

theorem writeString_any (B b : Nat) (bs : List Value) (s : ByteArray) (w : World) (h : Lib.IsBuilderF 71 5 B b bs w) (hlen : bs.length + s.size ≤ 140737488355328) (hBw : B ≤ w.heap.size) :
   Calls Tryz.prog 93 #[.pointer (some ⟨b, 0, none⟩), .string s] w fun e w' => e = .returned (.tuple #[.int .i64 s.size, .nilIface]) ∧ (Lib.BuilderAtF 71 5 B b (.pointer (some ⟨b, 0, none⟩)) (bs ++ Lib.strCells s) w' ∧ Below B w w' ∧ Lib.OthersKept 5 (some b) w w') := by
 obtain ⟨i0, hi, hz0, hz1, hz2⟩ := info_parts infoByte
 go_enter Tryz.func93, Tryz.ntmps93
 go_wp2_with (go_at_call 126; refine (copyCheck_any B b bs _ h).mono ?_)
 rintro e w1 ⟨rfl, h1, hb1, hk1⟩
 obtain ⟨hB, v, hbk, hown, hne⟩ := h1
 have c0 : w1.cell? ⟨b, 0, none⟩ = some (.pointer (some ⟨b, 0, none⟩)) := by rw [Lib.cell_of_heap hbk]; rfl
 have c1 : w1.cell? ⟨b, 1, none⟩ = some v := by rw [Lib.cell_of_heap hbk]; rfl
 go_wp2_with (at_builtin; refine Lib.wpList_append_own_stringF _ rfl _ _ 53 9 rfl B 5 i0 Tryz.underlying53 Tryz.underlying9 hi hz0 hz1 hz2 _ _ _ rfl hown s rfl ?c3 ?c4 ?c5 ?_)
 case c3 => unfold maxLen; omega
 case c4 => omega
 case c5 => have := hb1.size; omega
 intro v' w2 hown' hgrow _
 have hlt : b < w1.heap.size := by
   rcases Nat.lt_or_ge b w1.heap.size with h' | h'
   · exact h'
   · simp [Array.getElem?_eq_none h'] at hbk
 have hb2 : w2.heap[b]? = some (.cells #[.pointer (some ⟨b, 0, none⟩), v] 71 (0, 0)) := by
   rw [hgrow.block b hlt (fun e => hne e.symm)]
   exact hbk
 have d0 : w2.cell? ⟨b, 0, none⟩ = some (.pointer (some ⟨b, 0, none⟩)) := by rw [Lib.cell_of_heap hb2]; rfl
 have d1 : w2.cell? ⟨b, 1, none⟩ = some v := by rw [Lib.cell_of_heap hb2]; rfl
 have f1 : w2.frozen? ⟨b, 1, none⟩ = false := Lib.frozen_of_heap hb2 1
 obtain ⟨ao, n', cap, rfl⟩ : ∃ ao n' cap, v' = .slice ao n' cap := by
   rcases hown'.2 with ⟨hv, _⟩ | ⟨g, cap, cur, fz, hv, _⟩
   · exact ⟨_, _, _, hv⟩
   · exact ⟨_, _, _, hv⟩
 go_wp2
 go_ret2
 refine ⟨rfl, ?_, ?_, (hk1.grown hgrow (Lib.ownsRowF_kind hown)).setCell ⟨b, 1, none⟩ rfl _⟩
 · exact Lib.BuilderAtF.put (T := 71) (e := 5) hB hb2 (bs' := bs ++ Lib.strCells s) (by simpa [Lib.strCells_length] using hown') (by decide)
 · exact (hb1.grown hgrow (by have := hb1.size; omega) (fun k hk => (hown.lt k hk).1)).setCell (p := ⟨b, 1, none⟩) hB _


theorem isBuilderF_lt {T e : TypeId} {B b : Nat} {bs : List Value} {w : World} (h : Lib.IsBuilderF T e B b bs w) : b < w.heap.size := by
 have h2 : ∃ v : Value, ∃ p : Value, w.heap[b]? = some (.cells #[p, v] T (0, 0)) := by
   rcases h with ⟨_, v, h, _⟩ | ⟨_, v, h, _⟩ <;> exact ⟨v, _, h⟩
 obtain ⟨v, p, h⟩ := h2
 exact (Array.getElem?_eq_some_iff.1 h).1
theorem IsBuilderF.at_ {T e : TypeId} {B b : Nat} {bs : List Value} {w : World} (h : Lib.BuilderAtF T e B b (.pointer (some ⟨b, 0, none⟩)) bs w) : Lib.IsBuilderF T e B b bs w := .inr h
theorem okept_blk {T : TypeId} {b k : Nat} {w w' : World} {cs : Array Value} {t : TypeId} (h : Lib.OthersKept T (some b) w w') (hk : Blk w k t cs) (hb : k ≠ b) (ht : t ≠ T) : Blk w' k t cs :=
 h k _ hk (fun e => hb (by injection e)) (fun c fz e => ht (by injection e))
theorem builderAt_bw {T e : TypeId} {B b : Nat} {p : Value} {bs : List Value} {w w' : World} (h : Lib.BuilderAtF T e B b p bs w) (g : Bw w w') : Lib.BuilderAtF T e B b p bs w' := by
 have hlt := h.lt
 obtain ⟨hB, v, hb, hown, hne⟩ := h
 exact ⟨hB, v, (g.block b hlt).trans hb, hown.kept g.gr (by cases hv : v.ownBlock <;> simp), hne⟩
theorem builder_bw {T e : TypeId} {B b : Nat} {bs : List Value} {w w' : World} (h : Lib.IsBuilderF T e B b bs w) (g : Bw w w') : Lib.IsBuilderF T e B b bs w' :=
 h.elim (fun x => .inl (builderAt_bw x g)) (fun x => .inr (builderAt_bw x g))
def WrPost (B b : Nat) (l : List UInt8) (w : World) (e : Ending) (w' : World) : Prop := e = .returned (.tuple #[]) ∧ Lib.IsBuilderF 71 5 B b (Lib.byteCells l) w' ∧ Below B w w' ∧ Lib.OthersKept 5 (some b) w w'
def WrSays (v : V) : Prop := ∀ (B b : Nat) (l : List UInt8) (s : Value) (w : World), GlobO w → GLt B → Lib.IsBuilderF 71 5 B b (Lib.byteCells l) w → B ≤ w.heap.size → KB w B s v.ks → l.length + 23 * v.size ≤ 100000000 →
 Calls Tryz.prog 57 #[.pointer (some ⟨b, 0, none⟩), aggV v s] w (WrPost B b (l ++ textV v) w)
structure WrI (B b g : Nat) (x : Int) (A : Option Addr) (n c : Nat) (l : List UInt8) (w W : World) : Prop where
 bd : Lib.IsBuilderF 71 5 B b (Lib.byteCells l) W
 be : Below B w W
 ok : Lib.OthersKept 5 (some b) w W
 bx : Blk W g 28 #[.int .i64 x, .slice A n c]
 hs : B ≤ W.heap.size
 gb : g ≠ b
theorem WrI.bw {B b g : Nat} {x : Int} {A : Option Addr} {n c : Nat} {l : List UInt8} {w W W' : World} (h : WrI B b g x A n c l w W) (k : Bw W W') : WrI B b g x A n c l w W' :=
 ⟨builder_bw h.bd k, h.be.trans (Below.mono k h.hs), h.ok.below k, h.bx.below k.b h.bx.lt, Nat.le_trans h.hs k.size, h.gb⟩
theorem WrI.go {B b g : Nat} {x : Int} {A : Option Addr} {n c : Nat} {l l' : List UInt8} {w W W' : World} (h : WrI B b g x A n c l w W) (h1 : Lib.IsBuilderF 71 5 B b (Lib.byteCells l') W') (h2 : Below B W W') (h3 : Lib.OthersKept 5 (some b) W W') : WrI B b g x A n c l' w W' :=
 ⟨h1, h.be.trans h2, h.ok.trans h3, okept_blk h3 h.bx h.gb (by decide), Nat.le_trans h.hs h2.size, h.gb⟩
theorem isEmpty_if {l : List V} {n : Nat} (h : l.length = n) {a b : List UInt8} : (if l.isEmpty then a else b) = if n = 0 then a else b := by subst h; cases l <;> simp
theorem textK_take {ks : List V} {k : Nat} (h : k < ks.length) : textK 40 (ks.take (k + 1)) = textK 40 (ks.take k) ++ ((if k = 0 then 40 else 32) :: textV ks[k]) := by
 rw [List.take_succ_eq_append_getElem h]
 by_cases hk : k = 0
 · subst hk; simp [textK]
 · have h2 : (ks.take k).length = k := by rw [List.length_take]; omega
   rw [if_neg hk, textK_snoc 40 _ _ (fun e => by rw [e] at h2; simp at h2; omega)]
theorem textK_take_len {ks : List V} (hr : ks.all i64V = true) (k : Nat) : (textK 40 (ks.take k)).length ≤ 23 * sizeL (ks.take k) :=
 textK_short _ (fun x _ h => text_short x h) (List.all_eq_true.2 fun x hx => List.all_eq_true.1 hr x (List.mem_of_mem_take hx)) 40
theorem owrite_step (v : V) (hr : i64V v = true) (ih : ∀ k ∈ v.ks, WrSays k) : WrSays v := by
 intro B b l s w hg hgl hb hBw hk hl
 obtain ⟨A, n, c, rfl, ln, bn, mn⟩ := hk.form
 unfold maxLen at mn
 have hr' := hr
 rw [i64V_eq, Bool.and_eq_true, Bool.and_eq_true] at hr'
 obtain ⟨⟨r0, r1⟩, rk⟩ := hr'
 have r0 : -9223372036854775808 ≤ v.n := of_decide_eq_true r0
 have r1 : v.n ≤ 9223372036854775807 := of_decide_eq_true r1
 have hil := Lib.itoa_length_le v.n r0 r1
 have HT : Hid (textV v = Lib.itoa v.n ++ (textK 40 v.ks ++ (if v.ks.isEmpty then [] else [41]))) := Lib.hid (textV_eq v)
 have HSZ : Hid (∀ k, 1 + sizeL (v.ks.take k) ≤ v.size) := Lib.hid (fun k => by have := sizeL_take_le v.ks k; have := v.size_eq; omega)
 have HSN : Hid (∀ k (h : k < v.ks.length), sizeL (v.ks.take (k + 1)) = sizeL (v.ks.take k) + v.ks[k].size) := Lib.hid (fun k h => sizeL_snoc h)
 have HTL : Hid (∀ k, (textK 40 (v.ks.take k)).length ≤ 23 * sizeL (v.ks.take k)) := Lib.hid (fun k => textK_take_len rk k)
 have HTK : Hid (∀ k (h : k < v.ks.length), textK 40 (v.ks.take (k + 1)) = textK 40 (v.ks.take k) ++ ((if k = 0 then 40 else 32) :: textV v.ks[k])) := Lib.hid (fun k h => textK_take h)
 have hb0 := isBuilderF_lt hb
 have IT : Hid (∀ W, Bw w W → Calls Tryz.prog 94 #[.int .i64 v.n] W fun e w' => e = .returned (.string ⟨(Lib.itoa v.n).toArray⟩) ∧ Bw W w') := Lib.hid (fun W g => itoa_any v.n r0 r1 W (hg.bw g))
 have HI0 : Hid (∀ x, WrI B b w.heap.size x A n c l w (w.alloc (.cells #[.int .i64 x, .slice A n c] 28))) := Lib.hid (fun x => ⟨builder_bw hb ((Bw.refl _).alloc _), (Below.refl _ _).alloc hBw _, (Lib.OthersKept.refl _ _ _).alloc _, Blk.new _ _ _, by simp; omega, by omega⟩)
 have HG := Lib.hid hg
 have HGL := Lib.hid hgl
 have HK := Lib.hid hk
 have HIH := Lib.hid ih
 have LN := Lib.hid ln
 obtain ⟨dn, hdn⟩ : ∃ dn : ByteArray, dn = ⟨(Lib.itoa v.n).toArray⟩ := ⟨_, rfl⟩
 rw [← hdn] at IT
 have HDN : Hid (Lib.byteCells l ++ Lib.strCells dn = Lib.byteCells (l ++ Lib.itoa v.n)) := Lib.hid (by rw [hdn, Lib.strCells_toArray, Lib.byteCells_append])
 have hds : dn.size ≤ 21 := by rw [hdn]; exact hil
 have hbl : (Lib.byteCells l).length = l.length := Lib.byteCells_length _
 have hl2 : l.length ≤ 100000000 := by omega
 have HL := Lib.hid hl
 have HXL := Lib.hid hil
 unfold aggV
 clear hr hb hg hgl hk ih hdn hil rk r0 r1 hl ln
 generalize hx : v.n = x at *
 clear hx
 have HI1 := Lib.hid (HI0.out x)
 clear HI0
 go_enter Tryz.func57, Tryz.ntmps57
 go_wp2_with (first
   | (go_at_call 94; go_must (refine (IT.out _ ((Bw.refl _).alloc _)).mono ?_; rintro e w2 ⟨rfl, hg2⟩; (have HI2 := Lib.hid (HI1.out.bw hg2)); (have hb2 := HI2.out.bd); (have hs2 := HI2.out.hs); clear hg2))
   | (go_at_call 93; go_must (refine (writeString_any B b _ _ _ hb2 (by rw [hbl]; omega) hs2).mono ?_; rintro e w3 ⟨rfl, hb3, hbe3, hk3⟩; (have HI3 : Hid (WrI B b w.heap.size x A n c (l ++ Lib.itoa x) w w3) := Lib.hid (HI2.out.go (by rw [← HDN.out]; exact .inr hb3) hbe3 hk3)); (have hc3 := HI3.out.bx.cell 1); clear hb3 hbe3 hk3)))
 refine wp_world (fun W => Hid (WrI B b w.heap.size x A n c (l ++ Lib.itoa x) w W)) HI3 ?_
 intro W3 HI
 clear HI1 HI2 HI3 hc3 hb2 hs2 IT HDN hds
 have HX : Hid ((Lib.itoa x).length ≤ 21) := Lib.hid HXL.out
 go_loopw [14] (fun i wr => ∃ k : Nat, k ≤ n ∧ i = .int .i64 k ∧ Hid (WrI B b w.heap.size x A n c (l ++ Lib.itoa x ++ textK 40 (v.ks.take k)) w wr)) (fun i _ => n - (intOf i).toNat)
 case atStart => exact ⟨0, by omega, rfl, Lib.hid (by have := HI.out; simpa [textK] using this)⟩
 case round =>
   obtain ⟨k, hk, rfl, HR⟩ := hrel
   have hI := HR.out
   have hq1 := hI.bx.cell 1
   by_cases hlt : k < n
   · have e1 : k < v.ks.length := by rw [LN.out]; exact hlt
     obtain ⟨ad, sA, sn, sc, rfl, hbk, q0, q1, sl, hs⟩ := (HK.out.under hI.be).at_ e1
     have hwr := hI.hs
     have hal : (l ++ Lib.itoa x ++ textK 40 (v.ks.take k)).length + 1 + 23 * v.ks[k].size ≤ 100000000 := by
       have h1 := HTL.out k
       have h2 := HSZ.out (k + 1)
       have h3 := HSN.out k e1
       have h4 := HX.out
       have h5 := HL.out
       simp only [List.length_append]
       omega
     have hal2 : (Lib.byteCells (l ++ Lib.itoa x ++ textK 40 (v.ks.take k))).length + 1 ≤ 140737488355328 := by rw [Lib.byteCells_length]; omega
     have hkt := HTK.out k e1
     generalize hacc : l ++ Lib.itoa x ++ textK 40 (v.ks.take k) = acc at *
     have HAC : Hid (∀ sp, (if k = 0 then 40 else 32) = sp → l ++ Lib.itoa x ++ textK 40 (v.ks.take (k + 1)) = acc ++ [sp] ++ textV v.ks[k]) := Lib.hid (fun sp h => by
       rw [hkt, h, ← hacc]; simp [List.append_assoc])
     have RC : Hid (∀ (sp : UInt8) W, WrI B b w.heap.size x (some ad) n c (acc ++ [sp]) w W → Below B wr W → Calls Tryz.prog 57 #[.pointer (some ⟨b, 0, none⟩), .agg #[.int .i64 v.ks[k].n, .slice sA sn sc]] W (WrPost B b (acc ++ [sp] ++ textV v.ks[k]) W)) := Lib.hid (fun sp W h g =>
       HIH.out v.ks[k] (List.getElem_mem e1) B b _ _ W (HG.out.kept HGL.out h.be) HGL.out h.bd h.hs (hs.under g) (by simp only [List.length_append, List.length_cons, List.length_nil]; omega))
     have HA := Lib.hid (hI.bw ((Bw.refl wr).alloc (.cells #[.int .i64 v.ks[k].n, .slice sA sn sc] 28)))
     have hbA := HA.out.bd
     have hsA := HA.out.hs
     have hgb : wr.heap.size ≠ b := by have := isBuilderF_lt hI.bd; omega
     have hbe0 := (Below.refl B wr).alloc hwr (.cells #[.int .i64 v.ks[k].n, .slice sA sn sc] 28)
     have HBE0 := Lib.hid hbe0
     clear hkt hacc hs hI HR sl hbe0
     generalize v.ks[k].n = x1 at *
     generalize textV v.ks[k] = tk at *
     have dz0 : (0 : Int) ≤ (k : Int) := by omega
     have dz1 : (k : Int) < (n : Int) := by omega
     by_cases hk0 : k = 0
     · obtain rfl : 0 = k := hk0.symm
       have HF := Lib.hid (HAC.out 40 rfl)
       have q0z : wr.cell? ad = some (.int .i64 x1) := by simpa [Addr.add] using q0
       have q1z : wr.cell? ⟨ad.block, ad.off + 1, none⟩ = some (.slice sA sn sc) := by simpa [Addr.add] using q1
       clear HAC
       go_wp2_with (first
         | (go_at_call 95; go_must (refine (writeByte_any B b _ _ _ hbA hal2 hsA).mono ?_; rintro e w5 ⟨rfl, hb5, hbe5, hk5⟩; (have HI5 : Hid (WrI B b w.heap.size x (some ad) n c (acc ++ [40]) w w5) := Lib.hid (HA.out.go (by rw [Lib.byteCells_append]; exact .inr hb5) hbe5 hk5)); (have hbx := okept_blk hk5 (Blk.new wr 28 #[.int .i64 x1, .slice sA sn sc]) hgb (by decide)); (have y0 := hbx.cell 0); (have y1 := hbx.cell 1); (have HB5 := Lib.hid (HBE0.out.trans hbe5)); clear hb5 hbe5 hk5 hbx))
         | (go_at_call 57; go_must (refine (RC.out 40 _ HI5.out HB5.out).mono ?_; rintro e w6 ⟨rfl, hb6, hbe6, hk6⟩; (have HI6 := Lib.hid (HI5.out.go hb6 hbe6 hk6)); clear hb6 hbe6 hk6)))
       go_roundw
       case rel => exact ⟨1, by omega, by go_num, Lib.hid (by rw [HF.out]; exact HI6.out)⟩
       case measure => simp [intOf]; omega
     · have HF := Lib.hid (HAC.out 32 (if_neg hk0))
       have hk1 : (1 : Int) ≤ (k : Int) := by omega
       have hmin : min (k : Int) 1 = 1 := by omega
       clear HAC
       go_wp2_with (first
         | (go_at_call 95; go_must (refine (writeByte_any B b _ _ _ hbA hal2 hsA).mono ?_; rintro e w5 ⟨rfl, hb5, hbe5, hk5⟩; (have HI5 : Hid (WrI B b w.heap.size x (some ad) n c (acc ++ [32]) w w5) := Lib.hid (HA.out.go (by rw [Lib.byteCells_append]; exact .inr hb5) hbe5 hk5)); (have hbx := okept_blk hk5 (Blk.new wr 28 #[.int .i64 x1, .slice sA sn sc]) hgb (by decide)); (have y0 := hbx.cell 0); (have y1 := hbx.cell 1); (have HB5 := Lib.hid (HBE0.out.trans hbe5)); clear hb5 hbe5 hk5 hbx))
         | (go_at_call 57; go_must (refine (RC.out 32 _ HI5.out HB5.out).mono ?_; rintro e w6 ⟨rfl, hb6, hbe6, hk6⟩; (have HI6 := Lib.hid (HI5.out.go hb6 hbe6 hk6)); clear hb6 hbe6 hk6)))
       go_roundw
       case rel => exact ⟨k + 1, by omega, by go_num, Lib.hid (by rw [HF.out]; exact HI6.out)⟩
       case measure => simp [intOf]; omega
   · obtain rfl : k = n := by omega
     have hfull : v.ks.take k = v.ks := List.take_of_length_le (by rw [LN.out]; omega)
     have HA := Lib.hid hI
     have hal2 : (Lib.byteCells (l ++ Lib.itoa x ++ textK 40 (v.ks.take k))).length + 1 ≤ 140737488355328 := by
       rw [Lib.byteCells_length]
       have h1 := HTL.out k
       have h2 := HSZ.out k
       have h4 := HX.out
       have h5 := HL.out
       simp only [List.length_append]
       omega
     have HF : Hid (l ++ textV v = l ++ Lib.itoa x ++ textK 40 (v.ks.take k) ++ (if k = 0 then [] else [41])) := Lib.hid (by
       rw [HT.out, hfull, ← isEmpty_if LN.out]; simp [List.append_assoc])
     have hbA := hI.bd
     have hsA := hI.hs
     clear hI HR hfull
     by_cases hk0 : k = 0
     · obtain rfl : 0 = k := hk0.symm
       go_wp2
       go_end0
       have h := HA.out
       exact ⟨rfl, by rw [HF.out]; simpa using h.bd, h.be, h.ok⟩
     · have hk1 : (0 : Int) < (k : Int) := by omega
       go_wp2_with (go_at_call 95; go_must (refine (writeByte_any B b _ _ _ hbA hal2 hsA).mono ?_; rintro e w5 ⟨rfl, hb5, hbe5, hk5⟩; (have HI5 : Hid (WrI B b w.heap.size x A k c (l ++ Lib.itoa x ++ textK 40 (v.ks.take k) ++ [41]) w w5) := Lib.hid (HA.out.go (by rw [Lib.byteCells_append]; exact .inr hb5) hbe5 hk5)); clear hb5 hbe5 hk5))
       go_end0
       have h := HI5.out
       exact ⟨rfl, by rw [HF.out, if_neg hk0]; exact h.bd, h.be, h.ok⟩
theorem owrite_any (v : V) : i64V v = true → WrSays v := by
 induction v using V.ind with
 | h n ks ih =>
   intro hr
   have hr' := hr
   rw [i64V, i64L_all, Bool.and_eq_true] at hr'
   exact owrite_step _ hr (fun k hk => ih k hk (List.all_eq_true.1 hr'.2 k hk))
def txtP (v : V) : ByteArray × Int := if v.size ≤ 128 then (⟨(textV v).toArray⟩, 0) else (⟨#[]⟩, 1)
def TxtPost (w : World) (p : ByteArray × Int) (e : Ending) (w' : World) : Prop := e = .returned (.tuple #[.string p.1, .int .i64 p.2]) ∧ Bw w w'
theorem oText_any (v : V) (hr : i64V v = true) (s : Value) (w : World) (hg : GlobO w) (h : KB w w.heap.size s v.ks) (p : ByteArray × Int) (hp : txtP v = p) : Calls Tryz.prog 33 #[.agg #[.int .i64 v.n, s]] w (TxtPost w p) := by
 obtain ⟨A, n, c, rfl, ln, _, _⟩ := h.form
 have SZ : Hid (∀ W, Bw w W → Calls Tryz.prog 26 #[.agg #[.int .i64 v.n, .slice A n c]] W (NumPost W (min (v.size : Int) 129))) := Lib.hid (fun W g => osize_any v _ W (h.bw g))
 unfold txtP at hp
 by_cases h8 : v.size ≤ 128
 · rw [if_pos h8] at hp
   subst hp
   have hm : min (v.size : Int) 129 = v.size := by omega
   rw [hm] at SZ
   have d8 : ¬ (128 : Int) < (v.size : Int) := by omega
   have WR : Hid (∀ (B b : Nat) W, Bw w W → w.heap.size ≤ B → B ≤ W.heap.size → Lib.IsBuilderF 71 5 B b (Lib.byteCells []) W → Calls Tryz.prog 57 #[.pointer (some ⟨b, 0, none⟩), .agg #[.int .i64 v.n, .slice A n c]] W (WrPost B b ([] ++ textV v) W)) := Lib.hid (fun B b W g hB hB2 hb =>
     owrite_any v hr B b [] _ W (hg.bw g) (hg.gl.mono hB) hb hB2 ((h.under g.b).more hB) (by simp; omega))
   rw [List.nil_append] at WR
   clear h hg hr ln h8 hm
   generalize v.n = x at *
   generalize (v.size : Int) = z at *
   generalize textV v = l at *
   unfold WrPost at WR
   have HB0 : Hid (Bw w (w.alloc (.cells #[.int .i64 x, .slice A n c] 28))) := Lib.hid ((Bw.refl _).alloc _)
   go_enter Tryz.func33, Tryz.ntmps33
   go_wp2_with (first
     | (go_at_call 26; go_must (refine (SZ.out _ HB0.out).mono ?_; rintro e w6 ⟨rfl, hg6⟩; (have HB6 := Lib.hid hg6); (have hbx := (Blk.new w 28 #[.int .i64 x, .slice A n c]).below hg6.b (by simp)); (have q0 := fun o => (hbx.alloc o).cell 0); (have q1 := fun o => (hbx.alloc o).cell 1); (have HG6 : Hid (Bw w w6) := Lib.hid (HB0.out.trans hg6)); clear hg6 hbx))
     | (go_at_call 57; go_must (refine (WR.out w6.heap.size w6.heap.size _ (HG6.out.alloc _) HG6.out.size (by simp) (.of (Lib.fresh_isBuilder _ _ _))).mono ?_; rintro e w7 ⟨rfl, hb7, hbe7, hk7⟩; (have HB7 := Lib.hid hb7); (have HE7 : Hid (Below w6.heap.size w6 w7) := Lib.hid (((Below.refl _ _).alloc (Nat.le_refl _) _).trans hbe7)); clear hb7 hbe7 hk7))
     | (go_at_call 58; go_must (refine (Tryz.Builder_String_any_f w6.heap.size w6.heap.size l _ HB7.out HE7.out.size).mono ?_; rintro e w8 ⟨rfl, hb8, hbe8⟩; (have HE8 := Lib.hid hbe8); clear hb8 hbe8)))
   go_ret2
   exact ⟨rfl, Bw.trans HG6.out (HE7.out.trans HE8.out)⟩
 · rw [if_neg h8] at hp
   subst hp
   have hm : min (v.size : Int) 129 = 129 := by omega
   rw [hm] at SZ
   clear h hg hr ln h8 hm
   generalize v.n = x at *
   have HB0 : Hid (Bw w (w.alloc (.cells #[.int .i64 x, .slice A n c] 28))) := Lib.hid ((Bw.refl _).alloc _)
   go_enter Tryz.func33, Tryz.ntmps33
   go_wp2_with (go_at_call 26; go_must (refine (SZ.out _ HB0.out).mono ?_; rintro e w6 ⟨rfl, hg6⟩; (have HG6 : Hid (Bw w w6) := Lib.hid (HB0.out.trans hg6)); clear hg6))
   go_ret2
   exact ⟨rfl, HG6.out⟩
end Go.Proofs.YtlmnkcfnihhlgaaGreatDoor
