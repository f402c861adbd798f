/- Part of a proof of basisSets_holds. -/
import Derived.Test.YtbmheekaclmibaaGreatXGenEQ
import Derived.Test.YtbmheekaclmibaaGreatXMeeBQ
set_option maxRecDepth 100000
set_option maxHeartbeats 16000000
namespace Go.Proofs.YtbmheekaclmibaaGreat
open Go.RowKit
set_option linter.unusedSimpArgs false
set_option linter.unusedVariables false
section
variable {K : Act → World → Prop} {Q : Exit → Act → World → Prop} {a : Act} {w : World} {d x y : Nat} {ty : TypeId} {pos : String} {af : Array Edge}
theorem sm_load1 {g o : Nat} {A : Option Addr} {n c : Nat} (hx : a.tmps[x]?.getD undef = .pointer (some ⟨g, o, none⟩)) (h0 : w.cell? ⟨g, o, none⟩ = some (.slice A n c)) (h : K (a.put (some d) (.slice A n c)) w) : Oper.wp Tryz.prog ⟨some d, Op.load 31 (.tmp x), ty, pos, af, none⟩ a w K Q := by
 go_simp
 exact h
theorem sm_load2 {g : Nat} {c0 c1 : Value} (hx : a.tmps[x]?.getD undef = .pointer (some ⟨g, 0, none⟩)) (h0 : w.cell? ⟨g, 0, none⟩ = some c0) (h1 : w.cell? ⟨g, 1, none⟩ = some c1) (h : K (a.put (some d) (.agg #[c0, c1])) w) : Oper.wp Tryz.prog ⟨some d, Op.load 39 (.tmp x), ty, pos, af, none⟩ a w K Q := by
 go_simp
 exact h
theorem sm_slice1 {n : Int} {A : Option Addr} {m c : Nat} (hx : a.tmps[x]?.getD undef = .agg #[.int .i64 n, .slice A m c]) (h : K (a.put (some d) (.slice (some ⟨w.heap.size, 0, none⟩) 1 1)) (w.alloc (.cells #[.int .i64 n, .slice A m c] 39))) : Oper.wp Tryz.prog ⟨some d, Op.buildSlice 31 1 #[(0, .tmp x)], ty, pos, af, none⟩ a w K Q := by
 go_simp
 exact h
theorem sm_slice0 (h : K (a.put (some d) (.slice (some ⟨w.heap.size, 0, none⟩) 1 1)) (w.alloc (.cells #[.int .i64 0, .slice none 0 0] 39))) : Oper.wp Tryz.prog ⟨some d, Op.buildSlice 31 1 #[(0, .const (.agg #[.int .i64 0, .slice none 0 0]))], ty, pos, af, none⟩ a w K Q := by
 go_simp
 exact h
theorem sm_slice2 {A B : Option Addr} {n c m e : Nat} (hx : a.tmps[x]?.getD undef = .slice A n c) (hy : a.tmps[y]?.getD undef = .slice B m e) (h : K (a.put (some d) (.slice (some ⟨w.heap.size, 0, none⟩) 2 2)) (w.alloc (.cells #[.slice A n c, .slice B m e] 31))) : Oper.wp Tryz.prog ⟨some d, Op.buildSlice 107 2 #[(0, .tmp x), (1, .tmp y)], ty, pos, af, none⟩ a w K Q := by
 go_simp
 exact h
theorem sm_field {g : Nat} (hx : a.tmps[x]?.getD undef = .pointer (some ⟨g, 0, none⟩)) (hlt : g < w.heap.size) (h : K (a.put (some d) (.pointer (some ⟨g, 1, none⟩))) w) : Oper.wp Tryz.prog ⟨some d, Op.fieldAddr 39 (.tmp x) 1, ty, pos, af, none⟩ a w K Q := by
 go_simp
 exact h
theorem sm_build {A : Option Addr} {n c : Nat} (hx : a.tmps[x]?.getD undef = .slice A n c) (h : K (a.put (some d) (.agg #[.int .i64 0, .slice A n c])) w) : Oper.wp Tryz.prog ⟨some d, Op.build 39 #[(1, .tmp x)], ty, pos, af, none⟩ a w K Q := by
 go_simp
 exact h
theorem sm_len {A : Option Addr} {n c : Nat} (hx : a.tmps[x]?.getD undef = .slice A n c) (h : K (a.put (some d) (.int .i64 (n : Int))) w) : Oper.wp Tryz.prog ⟨some d, Op.call { callee := .builtin .len, args := #[.tmp x], argTypes := #[31] }, ty, pos, af, none⟩ a w K Q := by
 go_simp
 exact h
theorem sm_index {ad : Addr} {n c k : Nat} (hx : a.tmps[x]?.getD undef = .slice (some ad) n c) (hy : a.tmps[y]?.getD undef = .int .i64 (k : Int)) (h0 : (0 : Int) ≤ (k : Int)) (h1 : (k : Int) < (n : Int)) (hb : ad.block < w.heap.size) (h : K (a.put (some d) (.pointer (some (ad.add (k * 2))))) w) : Oper.wp Tryz.prog ⟨some d, Op.indexAddr 31 (.tmp x) (.tmp y), ty, pos, af, none⟩ a w K Q := by
 go_simp
 exact h
theorem sm_storeV {p : Addr} {u0 u1 : Value} {v0 : Int} {A : Option Addr} {n c : Nat} (hx : a.tmps[x]?.getD undef = .pointer (some p)) (hy : a.tmps[y]?.getD undef = .agg #[.int .i64 v0, .slice A n c]) (c0 : w.cell? p = some u0) (c1 : ∀ v, (w.setCell p v).cell? ⟨p.block, p.off + 1, none⟩ = some u1) (f0 : w.frozen? p = false) (f1 : w.frozen? ⟨p.block, p.off + 1, none⟩ = false)
   (h : K a ((w.setCell p (.int .i64 v0)).setCell ⟨p.block, p.off + 1, none⟩ (.slice A n c))) : Oper.wp Tryz.prog ⟨none, Op.store 39 (.tmp x) (.tmp y), ty, pos, af, none⟩ a w K Q := by
 go_simp
 exact h
theorem sm_store1 {g : Nat} {u0 : Value} {A : Option Addr} {n c : Nat} (hx : a.tmps[x]?.getD undef = .pointer (some ⟨g, 0, none⟩)) (hy : a.tmps[y]?.getD undef = .slice A n c) (c0 : w.cell? ⟨g, 0, none⟩ = some u0) (f0 : w.frozen? ⟨g, 0, none⟩ = false)
   (h : K a (w.setCell ⟨g, 0, none⟩ (.slice A n c))) : Oper.wp Tryz.prog ⟨none, Op.store 31 (.tmp x) (.tmp y), ty, pos, af, none⟩ a w K Q := by
 go_simp
 exact h
theorem sm_concat {u : Value} {R : Ending → World → Prop} (hx : a.tmps[x]?.getD undef = u) (hc : Calls Tryz.prog 59 #[u] w R) (hK : ∀ e w', R e w' → ∃ v, e = .returned v ∧ K (a.put (some d) v) w') : Oper.wp Tryz.prog ⟨some d, Op.call { callee := .value (.func 59), args := #[.tmp x], argTypes := #[107] }, ty, pos, af, none⟩ a w K Q := by
 subst hx
 go_simp
 refine hc.mono fun e w' h => ?_
 obtain ⟨v, rfl, h2⟩ := hK e w' h
 exact h2
end
structure MgP where
 g : Nat
 gx : Nat
 gw : Nat
 Q : Nat → Prop
 x : V
 sx : Option Addr × Nat × Nat
 y : V
 sy : Option Addr × Nat × Nat
 va : Option Addr
 vc : Nat
 l : List V
 r : List V
 sr : Option Addr × Nat × Nat
def MgP.v (p : MgP) : Value := .slice p.va p.l.length p.vc
abbrev CB (Q : Nat → Prop) (cur : Value) (W : World) : Nat → Prop := fun b => Q b ∧ b < W.heap.size ∧ cur.ownBlock ≠ some b
def MFact (p : MgP) (W : World) (cur : Value) : Nat → Value → Prop
 | 0, s => s = p.v
 | 1, s => s = .agg #[.int .i64 p.x.n, slOf p.sx]
 | 2, s => ∃ b, s = .slice (some ⟨b, 0, none⟩) 1 1 ∧ Blk W b 39 #[.int .i64 p.x.n, slOf p.sx] ∧ p.g < b ∧ cur.ownBlock ≠ some b
 | 3, s => s = .pointer (some ⟨p.gw, 1, none⟩)
 | 4, s => s = slOf p.sy
 | 5, s => ∃ b b', s = .slice (some ⟨b, 0, none⟩) 2 2 ∧ Blk W b 31 #[.slice (some ⟨b', 0, none⟩) 1 1, slOf p.sy] ∧ Blk W b' 39 #[.int .i64 p.x.n, slOf p.sx] ∧ p.g < b ∧ p.g < b' ∧ cur.ownBlock ≠ some b ∧ cur.ownBlock ≠ some b'
 | 6, s => ∃ A m c, s = .slice A m c ∧ KAt W (CB p.Q cur W) (.slice A m c) (p.x :: p.y.ks)
 | 7, s => ∃ A m c, s = .agg #[.int .i64 0, .slice A m c] ∧ KAt W (CB p.Q cur W) (.slice A m c) (p.x :: p.y.ks)
 | 8, s => s = .int .i64 ((p.l.length : Nat) : Int)
 | 9, s => ∃ b, s = .slice (some ⟨b, 0, none⟩) 1 1 ∧ Blk W b 39 #[.int .i64 0, .slice none 0 0] ∧ p.g < b ∧ cur.ownBlock ≠ some b
 | 10, s => s = cur
 | 11, s => ∃ ad c, cur = .slice (some ad) (p.l.length + 1) c ∧ s = .pointer (some (ad.add (p.l.length * 2)))
 | _, _ => True
structure Turn (g : Nat) (cur cur' : Value) (W W' : World) (row : Option Nat) : Prop where
 gb : W.grownBy W' row
 row : ∀ b, row = some b → b = g ∨ cur.ownBlock = some b
 own : ∀ b, b < W.heap.size → cur.ownBlock ≠ some b → cur'.ownBlock ≠ some b
section
variable {p : MgP} {g : Nat} {cur cur' : Value} {W W' : World} {row : Option Nat} {Q : Nat → Prop}
theorem Turn.of_bw (h : Bw W W') : Turn g cur cur W W' none := ⟨h.gr, (fun b e => by cases e), fun _ _ h => h⟩
theorem Turn.kat (h : Turn g cur cur' W W' row) (hQ : ∀ b, Q b → b ≠ g) {s : Value} {l : List V} (hk : KAt W (CB Q cur W) s l) : KAt W' (CB Q cur' W') s l :=
 hk.keep (fun b hb => ⟨hb.1, Nat.lt_of_lt_of_le hb.2.1 h.gb.size, h.own b hb.2.1 hb.2.2⟩) (fun q hq => World.cell?_of_block (h.gb.block q.block hq.2.1 (fun e => by
   rcases h.row _ e.symm with e2 | e2
   · exact hQ _ hq.1 e2
   · exact hq.2.2 e2)))
theorem Turn.blk (h : Turn g cur cur' W W' row) {b : Nat} {t : TypeId} {cs : Array Value} (hb : Blk W b t cs) (hg : b ≠ g) (ho : cur.ownBlock ≠ some b) : Blk W' b t cs :=
 hb.grown h.gb (fun e => by
   rcases h.row _ e.symm with e2 | e2
   · exact hg e2
   · exact ho e2)
theorem MFact.turn (h : Turn p.g cur cur' W W' row) (hQ : ∀ b, p.Q b → b ≠ p.g) {i : Nat} {s : Value} (hc : cur' = cur ∨ (i ≠ 10 ∧ i ≠ 11)) (hf : MFact p W cur i s) : MFact p W' cur' i s := by
 match i, hc, hf with
 | 0, _, hf => exact hf
 | 1, _, hf => exact hf
 | 2, _, hf =>
   obtain ⟨b, e, hb, hg, ho⟩ := hf
   exact ⟨b, e, h.blk hb (by omega) ho, hg, h.own b hb.lt ho⟩
 | 3, _, hf => exact hf
 | 4, _, hf => exact hf
 | 5, _, hf =>
   obtain ⟨b, b', e, h1, h2, g1, g2, o1, o2⟩ := hf
   exact ⟨b, b', e, h.blk h1 (by omega) o1, h.blk h2 (by omega) o2, g1, g2, h.own b h1.lt o1, h.own b' h2.lt o2⟩
 | 6, _, hf =>
   obtain ⟨A, m, c, e, hk⟩ := hf
   exact ⟨A, m, c, e, h.kat hQ hk⟩
 | 7, _, hf =>
   obtain ⟨A, m, c, e, hk⟩ := hf
   exact ⟨A, m, c, e, h.kat hQ hk⟩
 | 8, _, hf => exact hf
 | 9, _, hf =>
   obtain ⟨b, e, hb, hg, ho⟩ := hf
   exact ⟨b, e, h.blk hb (by omega) ho, hg, h.own b hb.lt ho⟩
 | 10, hc, hf =>
   rcases hc with rfl | hc
   · exact hf
   · exact absurd rfl hc.1
 | 11, hc, hf =>
   rcases hc with rfl | hc
   · exact hf
   · exact absurd rfl hc.2
 | _ + 12, _, _ => trivial
end
structure MJ (p : MgP) (N : Nat) (L : Nat → Prop) (a0 a : Act) (W0 W : World) (cur : Value) (lc : List V) (sc : List Value) : Prop where
 df : a.defers = a0.defers
 sz : a.tmps.size = N
 oth : ∀ d : Nat, (d < 13 ∨ 25 ≤ d) → a.tmps[d]?.getD undef = a0.tmps[d]?.getD undef
 bel : Below p.g W0 W
 row : QRow W 39 p.Q (p.g + 1) cur lc sc
 bx : Blk W p.gx 39 #[.int .i64 p.x.n, slOf p.sx]
 bw : Blk W p.gw 39 #[.int .i64 p.y.n, slOf p.sy]
 kx : KAt W (CB p.Q cur W) (slOf p.sx) p.x.ks
 ky : KAt W (CB p.Q cur W) (slOf p.sy) p.y.ks
 kr : KAt W (CB p.Q cur W) (slOf p.sr) p.r
 nx : cur.ownBlock ≠ some p.gx
 nw : cur.ownBlock ≠ some p.gw
 ts : ∀ i, i < 12 → L i → MFact p W cur i (a.tmps[13 + i]?.getD undef)
 p0 : ¬ L 10 → cur = p.v ∧ lc = p.l ∧ ¬ L 11 ∧ ¬ L 12 ∧ ¬ L 13
 p1 : L 10 → L 0 ∧ ∃ z, lc = p.l ++ [z]
 p2 : L 12 → lc = p.l ++ [hdV p.x p.y]
 c0 : ¬ L 13 → Blk W p.g 31 #[p.v]
 c1 : L 13 → Blk W p.g 31 #[cur]
section
variable {p : MgP} {N : Nat} {L : Nat → Prop} {a0 a : Act} {W0 W W' : World} {cur cur' : Value} {lc : List V} {sc : List Value}
theorem MJ.slot (h : MJ p N L a0 a W0 W cur lc sc) (hN : 25 ≤ N) (hQ : ∀ b, p.Q b → b ≠ p.g) (hgx : p.gx ≠ p.g) (hgw : p.gw ≠ p.g) {i : Nat} (hi : i < 12) (h10 : i ≠ 10) (h11 : i = 11 → L 10) {s : Value} (hw : Bw W W') (hf : MFact p W' cur i s) :
   MJ p N (ins L i) a0 (a.put (some (13 + i)) s) W0 W' cur lc sc := by
 have ht : Turn p.g cur cur W W' none := Turn.of_bw hw
 have hlt : 13 + i < a.tmps.size := by rw [h.sz]; omega
 have hgl : p.g < W.heap.size := by
   by_cases h13 : L 13
   · exact (h.c1 h13).lt
   · exact (h.c0 h13).lt
 have q10 : ins L i 10 ↔ L 10 := ⟨fun x => ins_out x (Ne.symm h10), .inr⟩
 have q12 : ins L i 12 ↔ L 12 := ⟨fun x => ins_out x (by omega), .inr⟩
 have q13 : ins L i 13 ↔ L 13 := ⟨fun x => ins_out x (by omega), .inr⟩
 refine ⟨h.df, by rw [put_size]; exact h.sz, fun d hd => ?_, h.bel.trans (Below.mono hw (by omega)), h.row.bw hw, ht.blk h.bx hgx h.nx, ht.blk h.bw hgw h.nw, ht.kat hQ h.kx, ht.kat hQ h.ky, ht.kat hQ h.kr, h.nx, h.nw, fun j hj hl => ?_, fun hn => ?_, fun hl => ?_, fun hl => h.p2 (q12.1 hl), fun hn => ?_, fun hl => ?_⟩
 · rw [put_getD hlt, if_neg (by omega)]; exact h.oth d hd
 · rw [put_getD hlt]
   by_cases e : j = i
   · subst e; rw [if_pos rfl]; exact hf
   · rw [if_neg (by omega)]
     exact MFact.turn ht hQ (.inl rfl) (h.ts j hj (ins_out hl e))
 · have hn' : ¬ L 10 := fun x => hn (.inr x)
   obtain ⟨e1, e2, e3, e4, e5⟩ := h.p0 hn'
   refine ⟨e1, e2, fun x => ?_, fun x => e4 (q12.1 x), fun x => e5 (q13.1 x)⟩
   rcases x with x | x
   · exact hn' (h11 x.symm)
   · exact e3 x
 · obtain ⟨e1, e2⟩ := h.p1 (q10.1 hl)
   exact ⟨.inr e1, e2⟩
 · exact Blk.below (h.c0 (fun x => hn (.inr x))) hw hgl
 · exact Blk.below (h.c1 (q13.1 hl)) hw hgl
theorem MJ.push (h : MJ p N L a0 a W0 W cur lc sc) (hN : 25 ≤ N) (hQ : ∀ b, p.Q b → b ≠ p.g) (hgx : p.gx ≠ p.g) (hgw : p.gw ≠ p.g) (hn : ¬ L 10) (h0 : L 0)
   (hown : W'.ownsRow (p.g + 1) 39 2 cur' (lc.length + 1) (vCells lc sc ++ [.int .i64 0, .slice none 0 0])) (hg : W.grownBy W' cur.ownBlock) (hv : cur'.ownBlock = cur.ownBlock ∨ cur'.ownBlock = some W.heap.size) :
   MJ p N (ins L 10) a0 (a.put (some 23) cur') W0 W' cur' (lc ++ [.mk 0 []]) (sc ++ [.slice none 0 0]) := by
 obtain ⟨e1, e2, e3, e4, e5⟩ := h.p0 hn
 have hlt : 23 < a.tmps.size := by rw [h.sz]; omega
 have hgl : p.g < W.heap.size := (h.c0 e5).lt
 have hown0 : ∀ b, cur.ownBlock = some b → p.g + 1 ≤ b ∧ b < W.heap.size := fun b e => h.row.own.lt b e
 have ht : Turn p.g cur cur' W W' cur.ownBlock := ⟨hg, fun b e => .inr e, fun b hb hne => by
   rcases hv with e | e
   · rw [e]; exact hne
   · rw [e]; intro e2; injection e2 with e2; omega⟩
 refine ⟨h.df, by rw [put_size]; exact h.sz, fun d hd => ?_, Below.grown h.bel hg (Nat.le_of_lt (by have := h.bel.size; omega)) (fun r e => by have := (hown0 r e).1; omega), h.row.push (x := .mk 0 []) (s := .slice none 0 0) (KAt.nil _ _ (Nat.zero_le _)) hown hg hv, ht.blk h.bx hgx h.nx, ht.blk h.bw hgw h.nw, ht.kat hQ h.kx, ht.kat hQ h.ky, ht.kat hQ h.kr, ht.own _ h.bx.lt h.nx, ht.own _ h.bw.lt h.nw, fun j hj hl => ?_, fun hn2 => absurd (.inl rfl) hn2, fun _ => ⟨.inr h0, _, by rw [e2]⟩, fun hl => absurd (ins_out hl (by omega)) e4, fun _ => ?_, fun hl => absurd (ins_out hl (by omega)) e5⟩
 · rw [put_getD hlt, if_neg (by omega)]; exact h.oth d hd
 · rw [put_getD hlt]
   by_cases e : j = 10
   · subst e; rw [if_pos rfl]; exact rfl
   · rw [if_neg (by omega)]
     have hl' := ins_out hl e
     exact MFact.turn ht hQ (.inr ⟨e, fun e11 => e3 (by rw [← e11]; exact hl')⟩) (h.ts j hj hl')
 · exact (h.c0 e5).grown hg (fun e => by have := (hown0 _ e.symm).1; omega)
theorem QRow.put {W W' : World} {e B : Nat} {Q : Nat → Prop} {ad : Addr} {n c : Nat} {l : List V} {ss : List Value} (h : QRow W e Q B (.slice (some ad) n c) l ss) (hn : l.length = n) {k : Nat} (hk : k < n) {y : V} {s : Value} (hs : KAt W (CB Q (.slice (some ad) n c) W) s y.ks)
   (hW : W' = (W.setCell (ad.add (k * 2)) (.int .i64 y.n)).setCell ⟨(ad.add (k * 2)).block, (ad.add (k * 2)).off + 1, none⟩ s) : QRow W' e Q B (.slice (some ad) n c) (l.set k y) (ss.set k s) ∧ W.grownBy W' (some ad.block) ∧ (Value.slice (some ad) n c).ownBlock = some ad.block := by
 subst hn
 subst hW
 obtain ⟨g, e', h1, h2, h3, h4⟩ := own_at h.own (by omega)
 injection e' with e'
 subst e'
 have q1 := h.own.stored (k * 2) (.int .i64 y.n)
 have q2 := q1.1.stored (k * 2 + 1) s
 rw [vCells_set hk (by rw [h.len]; exact hk)] at q2
 have e : (⟨g, 0, none⟩ : Addr).add (k * 2) = ⟨g, k * 2, none⟩ := by
   unfold Addr.add
   by_cases h0 : k * 2 = 0 <;> simp [h0]
 have hg : W.grownBy ((W.setCell ⟨g, k * 2, none⟩ (.int .i64 y.n)).setCell ⟨g, k * 2 + 1, none⟩ s) (some g) := grownBy_setCell (p := ⟨g, k * 2 + 1, none⟩) q1.2 (.inl rfl) _
 rw [e]
 generalize hWW : (W.setCell ⟨g, k * 2, none⟩ (.int .i64 y.n)).setCell ⟨g, k * 2 + 1, none⟩ s = W' at *
 have key : ∀ {u : Value} {ks : List V}, KAt W (CB Q (.slice (some ⟨g, 0, none⟩) l.length c) W) u ks → KAt W' (CB Q (.slice (some ⟨g, 0, none⟩) l.length c) W') u ks := fun h => h.keep (fun b hb => ⟨hb.1, Nat.lt_of_lt_of_le hb.2.1 hg.size, hb.2.2⟩) (fun p hp => World.cell?_of_block (hg.block p.block hp.2.1 (fun e => hp.2.2 (by rw [e]; rfl))))
 refine ⟨⟨by rw [List.length_set]; exact q2.1, by simp [h.len], fun j h1 h2 => ?_⟩, hg, rfl⟩
 by_cases ej : k = j
 · subst ej
   simp only [List.getElem_set_self]
   exact key hs
 · rw [List.getElem_set_ne ej, List.getElem_set_ne ej]
   exact key (h.kid j (by simpa using h1) (by simpa using h2))
theorem QRow.cells {W : World} {e B : Nat} {Q : Nat → Prop} {ad : Addr} {n c : Nat} {l : List V} {ss : List Value} (h : QRow W e Q B (.slice (some ad) n c) l ss) (hn : l.length = n) {k : Nat} (hk : k < n) : B ≤ ad.block ∧ ad.block < W.heap.size ∧
   (∃ u0, W.cell? (ad.add (k * 2)) = some u0) ∧ (∃ u1, ∀ v, (W.setCell (ad.add (k * 2)) v).cell? ⟨(ad.add (k * 2)).block, (ad.add (k * 2)).off + 1, none⟩ = some u1) ∧ W.frozen? (ad.add (k * 2)) = false ∧ W.frozen? ⟨(ad.add (k * 2)).block, (ad.add (k * 2)).off + 1, none⟩ = false := by
 subst hn
 obtain ⟨g, e, h1, h2, h3, h4⟩ := own_at h.own (by omega)
 injection e with e
 subst e
 have h5 := vCells_at (l := l) (ss := ss) hk (by rw [h.len]; exact hk)
 have e : (⟨g, 0, none⟩ : Addr).add (k * 2) = ⟨g, k * 2, none⟩ := by
   unfold Addr.add
   by_cases h0 : k * 2 = 0 <;> simp [h0]
 have e2 : (⟨g, 0, none⟩ : Addr).add (k * 2 + 1) = ⟨g, k * 2 + 1, none⟩ := by
   unfold Addr.add; simp
 have c1 := h4 _ _ h5.2
 rw [e2] at c1
 refine ⟨h2, h3, ⟨_, h4 _ _ h5.1⟩, ⟨ss[k]'(by rw [h.len]; exact hk), fun v => ?_⟩, ?_, ?_⟩
 · rw [e]
   exact (World.cell?_setCell_other _ _ _ _ (fun e => by have := congrArg Addr.off e; simp at this)).trans c1
 · rw [e]; exact h.own.frozenAt _
 · rw [e]; exact h.own.frozenAt _
theorem MJ.elem (h : MJ p N L a0 a W0 W cur lc sc) (hQ : ∀ b, p.Q b → b ≠ p.g) (hgx : p.gx ≠ p.g) (hgw : p.gw ≠ p.g) (h10 : L 10) {ad : Addr} {c : Nat} (hcur : cur = .slice (some ad) (p.l.length + 1) c) {A : Option Addr} {m e : Nat} (hk : KAt W (CB p.Q cur W) (.slice A m e) (p.x :: p.y.ks))
   (hW : W' = (W.setCell (ad.add (p.l.length * 2)) (.int .i64 0)).setCell ⟨(ad.add (p.l.length * 2)).block, (ad.add (p.l.length * 2)).off + 1, none⟩ (.slice A m e)) : ∃ sc', MJ p N (ins L 12) a0 a W0 W' cur (p.l ++ [hdV p.x p.y]) sc' := by
 obtain ⟨h0, z, hz⟩ := h.p1 h10
 subst hcur
 have hlen : lc.length = p.l.length + 1 := by rw [hz]; simp
 obtain ⟨hr, hg, ho⟩ := h.row.put hlen (k := p.l.length) (by omega) (y := hdV p.x p.y) (s := .slice A m e) hk (W' := W') hW
 have hset : lc.set p.l.length (hdV p.x p.y) = p.l ++ [hdV p.x p.y] := by rw [hz]; simp
 rw [hset] at hr
 have hb := (h.row.own.lt _ ho).1
 have ht : Turn p.g (.slice (some ad) (p.l.length + 1) c) (.slice (some ad) (p.l.length + 1) c) W W' (some ad.block) := ⟨hg, (fun b e => .inr (by rw [ho]; exact e)), fun _ _ h => h⟩
 have q : ∀ j, j ≠ 12 → (ins L 12 j ↔ L j) := fun j hj => ⟨fun x => ins_out x hj, .inr⟩
 have hgl : p.g < W.heap.size := by
   by_cases h13 : L 13
   · exact (h.c1 h13).lt
   · exact (h.c0 h13).lt
 refine ⟨_, h.df, h.sz, h.oth, Below.grown h.bel hg (Nat.le_of_lt (by have := h.bel.size; omega)) (fun r e => by injection e with e; omega), hr, ht.blk h.bx hgx h.nx, ht.blk h.bw hgw h.nw, ht.kat hQ h.kx, ht.kat hQ h.ky, ht.kat hQ h.kr, h.nx, h.nw, fun j hj hl => MFact.turn ht hQ (.inl rfl) (h.ts j hj ((q j (by omega)).1 hl)), fun hn => absurd (.inr h10) hn, fun _ => ⟨.inr h0, _, rfl⟩, fun _ => rfl, fun hn => ?_, fun hl => ?_⟩
 · exact (h.c0 (fun x => hn (.inr x))).grown hg (fun e => by injection e with e; omega)
 · exact (h.c1 ((q 13 (by omega)).1 hl)).grown hg (fun e => by injection e with e; omega)
theorem MJ.out (h : MJ p N L a0 a W0 W cur lc sc) (hQ : ∀ b, p.Q b → b ≠ p.g) (hgx : p.gx ≠ p.g) (hgw : p.gw ≠ p.g) (h10 : L 10) (hn13 : ¬ L 13) (hW : W' = W.setCell ⟨p.g, 0, none⟩ cur) : MJ p N (ins L 13) a0 a W0 W' cur lc sc := by
 have hc0 := h.c0 hn13
 have hown : ∀ b, cur.ownBlock = some b → p.g + 1 ≤ b := fun b e => (h.row.own.lt b e).1
 have hg : W.grownBy W' (some p.g) := by
   rw [hW]
   exact grownBy_setCell (World.grownBy.refl _ _) (.inl rfl) _
 have ht : Turn p.g cur cur W W' (some p.g) := ⟨hg, (fun b e => .inl (by injection e with e; exact e.symm)), fun _ _ h => h⟩
 have q : ∀ j, j ≠ 13 → (ins L 13 j ↔ L j) := fun j hj => ⟨fun x => ins_out x hj, .inr⟩
 have hne : cur.ownBlock ≠ some p.g := fun e => by have := hown _ e; omega
 refine ⟨h.df, h.sz, h.oth, Below.grown h.bel hg (Nat.le_of_lt (by have := h.bel.size; have := hc0.lt; omega)) (fun r e => by injection e with e; omega), ⟨h.row.own.kept hg (.inr hne), h.row.len, fun k h1 h2 => ht.kat hQ (h.row.kid k h1 h2)⟩, ht.blk h.bx hgx h.nx, ht.blk h.bw hgw h.nw, ht.kat hQ h.kx, ht.kat hQ h.ky, ht.kat hQ h.kr, h.nx, h.nw, fun j hj hl => MFact.turn ht hQ (.inl rfl) (h.ts j hj ((q j (by omega)).1 hl)), fun hn => absurd (.inr h10) hn, fun _ => ⟨.inr (h.p1 h10).1, (h.p1 h10).2⟩, fun hl => h.p2 ((q 12 (by omega)).1 hl), fun hn => absurd (.inl rfl) hn, fun _ => ?_⟩
 rw [hW]
 exact hc0.set_ 0 _
end
theorem mg_concat {p : MgP} {cur : Value} {W : World} {b b' : Nat} (h1 : Blk W b 31 #[.slice (some ⟨b', 0, none⟩) 1 1, slOf p.sy]) (h2 : Blk W b' 39 #[.int .i64 p.x.n, slOf p.sx]) (g1 : p.g < b) (g2 : p.g < b') (o1 : cur.ownBlock ≠ some b) (o2 : cur.ownBlock ≠ some b')
   (hQ2 : ∀ b, p.g < b → p.Q b) (hc : ∀ b, cur.ownBlock = some b → b < W.heap.size) (hgl : p.g < W.heap.size) (kx : KAt W (CB p.Q cur W) (slOf p.sx) p.x.ks) (ky : KAt W (CB p.Q cur W) (slOf p.sy) p.y.ks) (hy : p.y.ks.length ≤ 1000) :
   Calls Tryz.prog 59 #[.slice (some ⟨b, 0, none⟩) 2 2] W (fun e w' => ∃ A m c, e = .returned (.slice A m c) ∧ KAt w' (CB p.Q cur w') (.slice A m c) (p.x :: p.y.ks) ∧ Bw W w') := by
 have h := concat_any [[p.x], p.y.ks] (by simp; omega) (CB p.Q cur W) (.slice (some ⟨b, 0, none⟩) 2 2) W (fun x hx => hx.2.1) (LAt.two h1 ⟨hQ2 _ g1, h1.lt, o1⟩ (KAt.one h2 ⟨hQ2 _ g2, h2.lt, o2⟩ kx) ky)
 refine h.mono ?_
 rintro e w' ⟨s, qs, rfl, hm, hk, hq, hg⟩
 obtain ⟨A, c, rfl, -, -⟩ := hm.form
 refine ⟨A, qs.length, c, rfl, ?_, hg⟩
 have hcat := cat_kat hm hk
 rw [hq] at hcat
 have e : [[p.x], p.y.ks].flatten = p.x :: p.y.ks := by simp
 rw [e] at hcat
 refine hcat.keep (fun x hx => ?_) (fun _ _ => rfl)
 rcases hx with hx | hx
 · exact ⟨hx.1, Nat.lt_of_lt_of_le hx.2.1 hg.size, hx.2.2⟩
 · have := hm.own.lt x hx
   exact ⟨hQ2 _ (by omega), this.2, fun e => by have := hc x e; omega⟩
abbrev opAt (ops : Array Oper) (i : Nat) (d : Option Tmp) (op : Op) : Prop := ∃ ty pos af, ops[i]? = some ⟨d, op, ty, pos, af, none⟩
theorem begin_round {p : MgP} {N id : Nat} {ops : Array Oper} {Qx : Exit → Act → World → Prop} {a0 : Act} {w : World} {ss : List Value}
   (h0 : opAt ops 0 (some 13) (Op.load 31 (.tmp 2))) (h1 : opAt ops 1 (some 14) (Op.load 39 (.tmp 3))) (h2 : opAt ops 2 (some 15) (Op.buildSlice 31 1 #[(0, .tmp 14)])) (h3 : opAt ops 3 (some 16) (Op.fieldAddr 39 (.tmp 6) 1))
   (h4 : opAt ops 4 (some 17) (Op.load 31 (.tmp 16))) (h5 : opAt ops 5 (some 18) (Op.buildSlice 107 2 #[(0, .tmp 15), (1, .tmp 17)])) (h6 : opAt ops 6 (some 19) (Op.call { callee := .value (.func 59), args := #[.tmp 18], argTypes := #[107] }))
   (h7 : opAt ops 7 (some 20) (Op.build 39 #[(1, .tmp 19)])) (h8 : opAt ops 8 (some 21) (Op.call { callee := .builtin .len, args := #[.tmp 13], argTypes := #[31] })) (h9 : opAt ops 9 (some 22) (Op.buildSlice 31 1 #[(0, .const (.agg #[.int .i64 0, .slice none 0 0]))]))
   (h10 : opAt ops 10 (some 23) (Op.call { callee := .builtin .append, args := #[.tmp 13, .tmp 22], argTypes := #[31, 31] })) (h11 : opAt ops 11 (some 24) (Op.indexAddr 31 (.tmp 23) (.tmp 21))) (h12 : opAt ops 12 none (Op.store 39 (.tmp 24) (.tmp 20))) (h13 : opAt ops 13 none (Op.store 31 (.tmp 2) (.tmp 23)))
   (hsz : ops.size = 14) (hac : acycB ops = true) (hd : ([(2, 1), (4, 3), (5, 2), (5, 4), (6, 5), (7, 6), (8, 0), (10, 0), (10, 9), (11, 10), (11, 8), (12, 11), (12, 7), (13, 10)].all fun q => depB ops q.1 q.2) = true)
   (hN : 25 ≤ N) (ha0 : a0.tmps.size = N) (t2 : a0.tmps[2]?.getD undef = .pointer (some ⟨p.g, 0, none⟩)) (t3 : a0.tmps[3]?.getD undef = .pointer (some ⟨p.gx, 0, none⟩)) (t6 : a0.tmps[6]?.getD undef = .pointer (some ⟨p.gw, 0, none⟩))
   (hQ : ∀ b, p.Q b → b ≠ p.g) (hQ2 : ∀ b, p.g < b → p.Q b) (hgx : p.gx ≠ p.g) (hgw : p.gw ≠ p.g) (hl : p.l.length ≤ 100000) (hyl : p.y.ks.length ≤ 1000)
   (hB : Blk w p.g 31 #[p.v]) (hrow : QRow w 39 p.Q (p.g + 1) p.v p.l ss) (bx : Blk w p.gx 39 #[.int .i64 p.x.n, slOf p.sx]) (bw : Blk w p.gw 39 #[.int .i64 p.y.n, slOf p.sy])
   (kx : KAt w (CB p.Q p.v w) (slOf p.sx) p.x.ks) (ky : KAt w (CB p.Q p.v w) (slOf p.sy) p.y.ks) (kr : KAt w (CB p.Q p.v w) (slOf p.sr) p.r) (nx : p.v.ownBlock ≠ some p.gx) (nw : p.v.ownBlock ≠ some p.gw)
   (hQx : ∀ (L : Nat → Prop) a W cur sc, (∀ i, i < 14 → L i) → MJ p N L a0 a w.drew W cur (p.l ++ [hdV p.x p.y]) sc → Qx .normal a W) :
   (Code.region id ops true).wp Tryz.prog Qx a0 w := by
 have dep : ∀ {l : Array Bool} {i m : Nat}, (i, m) ∈ [(2, 1), (4, 3), (5, 2), (5, 4), (6, 5), (7, 6), (8, 0), (10, 0), (10, 9), (11, 10), (11, 8), (12, 11), (12, 7), (13, 10)] → i ∈ Region.ready .any ops l → l.getD m false = true := fun hm hi => dep_listed (by have := List.all_eq_true.1 hd _ hm; exact this) hi
 obtain ⟨i0, hi0, hz0, hz1, hz2⟩ := info_parts infoVal
 refine wp_region_inv (by kernel_rfl) (fun l a W => l.size = ops.size ∧ ∃ cur lc sc, MJ p N (fun i => l.getD i false = true) a0 a w.drew W cur lc sc) ?_ ?_ ?_
 · rintro l a W ⟨hz, cur, lc, sc, h⟩ i hi
   obtain ⟨hun, o, ho, -⟩ := mem_ready.1 hi
   have hi14 : i < 14 := by
     rw [← hsz]
     rcases Nat.lt_or_ge i ops.size with h' | h'
     · exact h'
     · simp [Array.getElem?_eq_none h'] at ho
   have hnot : ¬ l.getD i false = true := by
     have hil : i < l.size := by omega
     simp [hil] at hun ⊢
     exact hun
   have hset : (fun j => (l.setIfInBounds i true).getD j false = true) = ins (fun j => l.getD j false = true) i := by
     funext j
     refine propext ⟨fun hx => ?_, fun hx => ?_⟩
     · by_cases e : j = i
       · exact .inl e
       · right; rwa [_root_.Go.getD_set_ne false (Ne.symm e)] at hx
     · rcases hx with rfl | hx
       · simp [show j < l.size by omega]
       · exact getD_set_true hx
   have hz' : (l.setIfInBounds i true).size = ops.size := by simpa using hz
   have hgl : p.g < W.heap.size := by
     by_cases h13 : l.getD 13 false = true
     · exact (h.c1 h13).lt
     · exact (h.c0 h13).lt
   have hown : ∀ b, cur.ownBlock = some b → p.g + 1 ≤ b ∧ b < W.heap.size := fun b e => h.row.own.lt b e
   have bwr : Bw W W := Bw.refl W
   match i, hi14 with
   | 0, _ =>
     obtain ⟨ty, pos, af, e⟩ := h0
     have n10 : ¬ l.getD 10 false = true := fun x => hnot (h.p1 x).1
     obtain ⟨_, _, _, _, e13⟩ := h.p0 n10
     refine wpOp_of e rfl (sm_load1 (by rw [h.oth 2 (by omega), t2]) ((h.c0 e13).cell 0) ?_)
     refine ⟨hz', cur, lc, sc, ?_⟩
     rw [hset]
     exact h.slot hN hQ hgx hgw (i := 0) (by omega) (by omega) (by omega) bwr rfl
   | 1, _ =>
     obtain ⟨ty, pos, af, e⟩ := h1
     refine wpOp_of e rfl (sm_load2 (by rw [h.oth 3 (by omega), t3]) (h.bx.cell 0) (h.bx.cell 1) ?_)
     refine ⟨hz', cur, lc, sc, ?_⟩
     rw [hset]
     exact h.slot hN hQ hgx hgw (i := 1) (by omega) (by omega) (by omega) bwr rfl
   | 2, _ =>
     obtain ⟨ty, pos, af, e⟩ := h2
     refine wpOp_of e rfl (sm_slice1 (h.ts 1 (by omega) (dep (by simp) hi)) ?_)
     refine ⟨hz', cur, lc, sc, ?_⟩
     rw [hset]
     exact h.slot hN hQ hgx hgw (i := 2) (by omega) (by omega) (by omega) (bwr.alloc _) ⟨W.heap.size, rfl, Blk.new _ _ _, hgl, fun e => by have := hown _ e; omega⟩
   | 3, _ =>
     obtain ⟨ty, pos, af, e⟩ := h3
     refine wpOp_of e rfl (sm_field (by rw [h.oth 6 (by omega), t6]) h.bw.lt ?_)
     refine ⟨hz', cur, lc, sc, ?_⟩
     rw [hset]
     exact h.slot hN hQ hgx hgw (i := 3) (by omega) (by omega) (by omega) bwr rfl
   | 4, _ =>
     obtain ⟨ty, pos, af, e⟩ := h4
     refine wpOp_of e rfl (sm_load1 (h.ts 3 (by omega) (dep (by simp) hi)) (h.bw.cell 1) ?_)
     refine ⟨hz', cur, lc, sc, ?_⟩
     rw [hset]
     exact h.slot hN hQ hgx hgw (i := 4) (by omega) (by omega) (by omega) bwr rfl
   | 5, _ =>
     obtain ⟨ty, pos, af, e⟩ := h5
     obtain ⟨b', e', hb', g', o'⟩ := h.ts 2 (by omega) (dep (by simp) hi)
     have e4 := h.ts 4 (by omega) (dep (by simp) hi)
     refine wpOp_of e rfl (sm_slice2 e' e4 ?_)
     refine ⟨hz', cur, lc, sc, ?_⟩
     rw [hset]
     exact h.slot hN hQ hgx hgw (i := 5) (by omega) (by omega) (by omega) (bwr.alloc _) ⟨W.heap.size, b', rfl, Blk.new _ _ _, hb'.alloc _, hgl, g', (fun e => by have := hown _ e; omega), o'⟩
   | 6, _ =>
     obtain ⟨ty, pos, af, e⟩ := h6
     obtain ⟨b, b', e', hb, hb', g1, g2, o1, o2⟩ := h.ts 5 (by omega) (dep (by simp) hi)
     refine wpOp_of e rfl (sm_concat e' (mg_concat hb hb' g1 g2 o1 o2 hQ2 (fun x ex => (hown x ex).2) hgl h.kx h.ky hyl) ?_)
     rintro e W' ⟨A, m, c, rfl, hk, hg⟩
     refine ⟨_, rfl, hz', cur, lc, sc, ?_⟩
     rw [hset]
     exact h.slot hN hQ hgx hgw (i := 6) (by omega) (by omega) (by omega) hg ⟨A, m, c, rfl, hk⟩
   | 7, _ =>
     obtain ⟨ty, pos, af, e⟩ := h7
     obtain ⟨A, m, c, e', hk⟩ := h.ts 6 (by omega) (dep (by simp) hi)
     refine wpOp_of e rfl (sm_build e' ?_)
     refine ⟨hz', cur, lc, sc, ?_⟩
     rw [hset]
     exact h.slot hN hQ hgx hgw (i := 7) (by omega) (by omega) (by omega) bwr ⟨A, m, c, rfl, hk⟩
   | 8, _ =>
     obtain ⟨ty, pos, af, e⟩ := h8
     refine wpOp_of e rfl (sm_len (h.ts 0 (by omega) (dep (by simp) hi)) ?_)
     refine ⟨hz', cur, lc, sc, ?_⟩
     rw [hset]
     exact h.slot hN hQ hgx hgw (i := 8) (by omega) (by omega) (by omega) bwr rfl
   | 9, _ =>
     obtain ⟨ty, pos, af, e⟩ := h9
     refine wpOp_of e rfl (sm_slice0 ?_)
     refine ⟨hz', cur, lc, sc, ?_⟩
     rw [hset]
     exact h.slot hN hQ hgx hgw (i := 9) (by omega) (by omega) (by omega) (bwr.alloc _) ⟨W.heap.size, rfl, Blk.new _ _ _, hgl, fun e => by have := hown _ e; omega⟩
   | 10, _ =>
     obtain ⟨ty, pos, af, e⟩ := h10
     have l0 := dep (l := l) (i := 10) (m := 0) (by simp) hi
     have e0 := h.ts 0 (by omega) l0
     obtain ⟨b, e9, hb, g9, o9⟩ := h.ts 9 (by omega) (dep (by simp) hi)
     obtain ⟨ec, el, -⟩ := h.p0 hnot
     refine wpOp_of e rfl (wp_append_any _ (.tmp 13) (.tmp 22) 31 rfl (p.g + 1) 39 i0 _ 2 32 Tryz.underlying31 hi0 hz0 hz1 hz2 rfl (by decide) cur lc.length (vCells lc sc) (by have e0' : a.tmps[13]?.getD undef = p.v := e0; rw [ec]; simpa [Act.eval] using e0') h.row.own (b + 1) (some ⟨b, 0, none⟩) 1 1 [.int .i64 0, .slice none 0 0] (by have e9' : a.tmps[22]?.getD undef = .slice (some ⟨b, 0, none⟩) 1 1 := e9; simpa [Act.eval] using e9') (reads_blk (n := 1) hb (by omega) rfl) (one2 _ _ _ _) (by rw [el]; unfold maxLen; omega) (by rw [el]; omega) (by omega) ?_)
     intro v' W' hown' hg' hv'
     refine ⟨hz', v', lc ++ [.mk 0 []], sc ++ [.slice none 0 0], ?_⟩
     rw [hset]
     exact h.push hN hQ hgx hgw hnot l0 hown' hg' hv'
   | 11, _ =>
     obtain ⟨ty, pos, af, e⟩ := h11
     have l10 := dep (l := l) (i := 11) (m := 10) (by simp) hi
     have e10 := h.ts 10 (by omega) l10
     have e8 := h.ts 8 (by omega) (dep (by simp) hi)
     obtain ⟨-, z, hz2⟩ := h.p1 l10
     obtain ⟨cA, cc, ecur, _, _⟩ := h.row.form
     have hlen : lc.length = p.l.length + 1 := by rw [hz2]; simp
     have hrow' := h.row
     rw [ecur] at hrow'
     obtain ⟨g', eA, _⟩ := own_at hrow'.own (by omega)
     obtain ⟨ad, rfl⟩ : ∃ ad, cA = some ad := ⟨_, eA⟩
     rw [hlen] at ecur hrow'
     have hcl := (hrow'.cells hlen (k := p.l.length) (by omega))
     refine wpOp_of e rfl (sm_index (ad := ad) (n := p.l.length + 1) (c := cc) (k := p.l.length) (by rw [← ecur]; exact e10) e8 (by omega) (by push_cast; omega) hcl.2.1 ?_)
     refine ⟨hz', cur, lc, sc, ?_⟩
     rw [hset]
     exact h.slot hN hQ hgx hgw (i := 11) (by omega) (by omega) (fun _ => l10) bwr ⟨ad, cc, ecur, rfl⟩
   | 12, _ =>
     obtain ⟨ty, pos, af, e⟩ := h12
     have l11 := dep (l := l) (i := 12) (m := 11) (by simp) hi
     have l10 : l.getD 10 false = true := by
       rcases hb : l.getD 10 false with _ | _
       · exact absurd l11 (h.p0 (by rw [hb]; simp)).2.2.1
       · rfl
     obtain ⟨ad, cc, ecur, e11⟩ := h.ts 11 (by omega) l11
     obtain ⟨A, m, c, e7, hk⟩ := h.ts 7 (by omega) (dep (by simp) hi)
     obtain ⟨-, z, hz2⟩ := h.p1 l10
     have hlen : lc.length = p.l.length + 1 := by rw [hz2]; simp
     have hrow' := h.row
     rw [ecur] at hrow'
     obtain ⟨_, _, ⟨u0, q0⟩, ⟨u1, q1⟩, q2, q3⟩ := hrow'.cells hlen (k := p.l.length) (by omega)
     obtain ⟨sc', h'⟩ := h.elem (W' := (W.setCell (ad.add (p.l.length * 2)) (.int .i64 0)).setCell ⟨(ad.add (p.l.length * 2)).block, (ad.add (p.l.length * 2)).off + 1, none⟩ (.slice A m c)) hQ hgx hgw l10 ecur hk rfl
     refine wpOp_of e rfl (sm_storeV e11 e7 q0 q1 q2 q3 ?_)
     refine ⟨hz', cur, p.l ++ [hdV p.x p.y], sc', ?_⟩
     rw [hset]
     exact h'
   | 13, _ =>
     obtain ⟨ty, pos, af, e⟩ := h13
     have l10 := dep (l := l) (i := 13) (m := 10) (by simp) hi
     have e10 := h.ts 10 (by omega) l10
     obtain ⟨cA, cc, ecur, _, _⟩ := h.row.form
     have hc0 := h.c0 hnot
     have h' := h.out (W' := W.setCell ⟨p.g, 0, none⟩ cur) hQ hgx hgw l10 hnot rfl
     refine wpOp_of e rfl (sm_store1 (by rw [h.oth 2 (by omega), t2]) (by rw [← ecur]; exact e10) (hc0.cell 0) (hc0.frozen 0) ?_)
     refine ⟨hz', cur, lc, sc, ?_⟩
     rw [hset, ← ecur]
     exact h'
   | n + 14, hlt => omega
 · rintro l a W ⟨hz, cur, lc, sc, h⟩ hr
   have hall := all_listed hac hz hr
   rw [hsz] at hall
   have e := h.p2 (hall 12 (by omega))
   subst e
   exact hQx _ a W cur sc hall h
 · have hF : ∀ i, i < 14 → ¬ ((Array.replicate ops.size false).getD i false = true) := fun i hi => by
     have : i < ops.size := by omega
     simp [this]
   have kd : ∀ {s : Value} {ks : List V}, KAt w (CB p.Q p.v w) s ks → KAt w.drew (CB p.Q p.v w.drew) s ks := fun h => h.keep (fun _ h => h) (fun _ _ => rfl)
   exact ⟨by simp, p.v, p.l, ss, rfl, ha0, fun _ _ => rfl, Below.refl _ _, hrow.bw (Bw.refl w).drew, Blk.drew bx, Blk.drew bw, kd kx, kd ky, kd kr, nx, nw, fun i hi hl => absurd hl (hF i (by omega)), fun _ => ⟨rfl, rfl, hF 11 (by omega), hF 12 (by omega), hF 13 (by omega)⟩, fun hl => absurd hl (hF 10 (by omega)), fun hl => absurd hl (hF 12 (by omega)), fun _ => Blk.drew hB, fun hl => absurd hl (hF 13 (by omega))⟩
theorem MJ.act {p : MgP} {N : Nat} {L : Nat → Prop} {a0 a : Act} {W0 W : World} {cur : Value} {lc : List V} {sc : List Value} (h : MJ p N L a0 a W0 W cur lc sc) (hN : 25 ≤ N) (ha0 : a0.tmps.size = N) :
   ∃ v13 v14 v15 v16 v17 v18 v19 v20 v21 v22 v23 v24, a = ((((((((((((a0.put (some 13) v13).put (some 14) v14).put (some 15) v15).put (some 16) v16).put (some 17) v17).put (some 18) v18).put (some 19) v19).put (some 20) v20).put (some 21) v21).put (some 22) v22).put (some 23) v23).put (some 24) v24) := by
 refine ⟨a.tmps[13]?.getD undef, a.tmps[14]?.getD undef, a.tmps[15]?.getD undef, a.tmps[16]?.getD undef, a.tmps[17]?.getD undef, a.tmps[18]?.getD undef, a.tmps[19]?.getD undef, a.tmps[20]?.getD undef, a.tmps[21]?.getD undef, a.tmps[22]?.getD undef, a.tmps[23]?.getD undef, a.tmps[24]?.getD undef, ?_⟩
 refine act_ext (by simp only [put_defers]; exact h.df) (by simp only [put_size]; rw [h.sz, ha0]) (fun d => ?_)
 rw [put_getD (by simp only [put_size]; omega), put_getD (by simp only [put_size]; omega), put_getD (by simp only [put_size]; omega), put_getD (by simp only [put_size]; omega), put_getD (by simp only [put_size]; omega), put_getD (by simp only [put_size]; omega), put_getD (by simp only [put_size]; omega), put_getD (by simp only [put_size]; omega), put_getD (by simp only [put_size]; omega), put_getD (by simp only [put_size]; omega), put_getD (by simp only [put_size]; omega), put_getD (by omega)]
 by_cases hd : d < 13 ∨ 25 ≤ d
 · rw [h.oth d hd, if_neg (by omega), if_neg (by omega), if_neg (by omega), if_neg (by omega), if_neg (by omega), if_neg (by omega), if_neg (by omega), if_neg (by omega), if_neg (by omega), if_neg (by omega), if_neg (by omega), if_neg (by omega)]
 · have : d = 13 ∨ d = 14 ∨ d = 15 ∨ d = 16 ∨ d = 17 ∨ d = 18 ∨ d = 19 ∨ d = 20 ∨ d = 21 ∨ d = 22 ∨ d = 23 ∨ d = 24 := by omega
   rcases this with rfl | rfl | rfl | rfl | rfl | rfl | rfl | rfl | rfl | rfl | rfl | rfl <;> simp
structure BegI (g gx : Nat) (Q : Nat → Prop) (x : V) (sx : Option Addr × Nat × Nat) (r : List V) (sr : Option Addr × Nat × Nat) (l : List V) (W0 W : World) (cur : Value) (ss : List Value) (k : Nat) : Prop where
 bel : Below g W0 W
 out : Blk W g 31 #[cur]
 row : QRow W 39 Q (g + 1) cur (l ++ (r.take k).map (hdV x)) ss
 bx : Blk W gx 39 #[.int .i64 x.n, slOf sx]
 kx : KAt W (CB Q cur W) (slOf sx) x.ks
 kr : KAt W (CB Q cur W) (slOf sr) r
 nx : cur.ownBlock ≠ some gx
def BegPost (g : Nat) (Q : Nat → Prop) (l : List V) (W0 : World) (e : Ending) (W : World) : Prop := e = .returned (.tuple #[]) ∧ ∃ cur ss, Blk W g 31 #[cur] ∧ QRow W 39 Q (g + 1) cur l ss ∧ Below g W0 W
theorem kat_cb_bw {Q : Nat → Prop} {cur : Value} {W W' : World} {s : Value} {l : List V} (h : KAt W (CB Q cur W) s l) (g : Bw W W') : KAt W' (CB Q cur W') s l := h.keep (fun b hb => ⟨hb.1, Nat.lt_of_lt_of_le hb.2.1 g.size, hb.2.2⟩) (fun q hq => g.b.cell hq.2.1)
theorem begin_any (g : Nat) (Q : Nat → Prop) (x : V) (sx : Option Addr × Nat × Nat) (r : List V) (sr : Option Addr × Nat × Nat) (l : List V) (va : Option Addr) (vc : Nat) (ss : List Value) (W : World)
   (hQ : ∀ b, Q b → b ≠ g) (hQ2 : ∀ b, g < b → Q b) (hl : l.length + r.length ≤ 100000) (hr : ∀ y ∈ r, y.ks.length ≤ 1000)
   (hB : Blk W g 31 #[.slice va l.length vc]) (hrow : QRow W 39 Q (g + 1) (.slice va l.length vc) l ss) (kx : KAt W (CB Q (.slice va l.length vc) W) (slOf sx) x.ks) (kr : KAt W (CB Q (.slice va l.length vc) W) (slOf sr) r) :
   Calls Tryz.prog 126 (#[.agg #[.int .i64 x.n, slOf sx], slOf sr] ++ #[.pointer (some ⟨g, 0, none⟩)]) W (BegPost g Q (l ++ r.map (hdV x)) W) := by
 obtain ⟨xA, xn, xc⟩ := sx
 obtain ⟨rA, rn, rc⟩ := sr
 simp only [slOf] at kx kr ⊢
 have hgl := hB.lt
 have ln : r.length = rn := by obtain ⟨_, _, _, e, h1, _, _⟩ := kr.form; injection e with e1 e2 e3; subst e2; exact h1
 have hbw : Bw W (W.alloc (.cells #[.int .i64 x.n, .slice xA xn xc] 39)) := (Bw.refl W).alloc _
 have H0 : Hid (∃ cur ss, BegI g W.heap.size Q x (xA, xn, xc) r (rA, rn, rc) l W (W.alloc (.cells #[.int .i64 x.n, .slice xA xn xc] 39)) cur ss 0) := Lib.hid ⟨_, ss, Below.mono hbw (by omega), hB.alloc _, by simpa using hrow.bw hbw, Blk.new _ _ _, kat_cb_bw kx hbw, kat_cb_bw kr hbw, fun e => by have := (hrow.own.lt _ e).2; omega⟩
 have LN := Lib.hid ln
 have HR := Lib.hid hr
 have HL : Hid (l.length + rn ≤ 100000) := Lib.hid (by omega)
 have HQ := Lib.hid hQ
 have HQ2 := Lib.hid hQ2
 have hrn : rn ≤ 100000 := by omega
 clear hl hr hB hrow kx kr ln hbw hQ hQ2
 unfold BegPost
 go_enter Tryz.func126, Tryz.ntmps126
 go_wp2_with fail
 refine wp_world (fun Wx => Hid (∃ cur ss, BegI g W.heap.size Q x (xA, xn, xc) r (rA, rn, rc) l W Wx cur ss 0)) H0 ?_
 intro Wx HWx
 clear H0
 generalize W.heap.size = gx at *
 go_loopw [9] (fun i wr => ∃ k : Nat, k ≤ rn ∧ i = .int .i64 k ∧ Hid (∃ cur ss, BegI g gx Q x (xA, xn, xc) r (rA, rn, rc) l W wr cur ss k)) (fun i _ => rn - (intOf i).toNat)
 case atStart => exact ⟨0, by omega, by go_num, HWx⟩
 case round =>
   obtain ⟨k, hk, rfl, HI⟩ := hrel
   obtain ⟨cur, st, hI⟩ := HI.out
   clear HI
   by_cases hlt : k < rn
   rotate_left
   · obtain rfl : k = rn := by omega
     have e : r.take k = r := List.take_of_length_le (by rw [LN.out]; omega)
     have HF : Hid (∃ cur ss, Blk wr g 31 #[cur] ∧ QRow wr 39 Q (g + 1) cur (l ++ r.map (hdV x)) ss ∧ Below g W wr) := Lib.hid ⟨cur, st, hI.out, by have := hI.row; rwa [e] at this, hI.bel⟩
     clear hI
     go_wp2_with fail
     go_end0
     exact ⟨rfl, HF.out⟩
   have e1 : k < r.length := by rw [LN.out]; exact hlt
   obtain ⟨VA, vc', ecur, _, _⟩ := hI.row.form
   subst ecur
   obtain ⟨ad, sA, sn, sc, hA, hb, q0, q1, -, hs⟩ := hI.kr.at_ e1
   subst hA
   have HIH := Lib.hid hI
   have HS := Lib.hid hs
   have HY : Hid (r[k].ks.length ≤ 1000 ∧ (l ++ (r.take (k + 1)).map (hdV x)) = (l ++ (r.take k).map (hdV x)) ++ [hdV x r[k]]) := Lib.hid ⟨HR.out _ (List.getElem_mem e1), by rw [List.take_succ_eq_append_getElem e1, List.map_append, ← List.append_assoc]; rfl⟩
   have hbl : (ad.add (k * 2)).block < wr.heap.size := by rw [add_block]; exact hb.2.1
   have dz0 : (0 : Int) ≤ (k : Int) := by omega
   have dz1 : (k : Int) < (rn : Int) := by omega
   clear hI hs hb
   generalize hyy : r[k] = y at *
   generalize hyn : y.n = yn at *
   have HYN := Lib.hid hyn
   clear hyy hyn
   go_upto_region 4 with fail
   have hI := HIH.out
   have hown : ∀ b, (Value.slice VA (l ++ (r.take k).map (hdV x)).length vc').ownBlock = some b → b < wr.heap.size := fun b e => (hI.row.own.lt b e).2
   have hbw : Bw wr (wr.alloc (.cells #[.int .i64 y.n, .slice sA sn sc] 39)) := (Bw.refl wr).alloc _
   have hgx : gx ≠ g := by omega
   have hgl : g < wr.heap.size := hI.out.lt
   have hll : (l ++ (r.take k).map (hdV x)).length ≤ 100000 := by
     rw [List.length_append, List.length_map, List.length_take]
     have := HL.out; omega
   rw [← HYN.out]
   refine begin_round (p := ⟨g, gx, wr.heap.size, Q, x, (xA, xn, xc), y, (sA, sn, sc), VA, vc', l ++ (r.take k).map (hdV x), r, (some ad, rn, rc)⟩) (N := 26) (ss := st)
     ⟨_, _, _, rfl⟩ ⟨_, _, _, rfl⟩ ⟨_, _, _, rfl⟩ ⟨_, _, _, rfl⟩ ⟨_, _, _, rfl⟩ ⟨_, _, _, rfl⟩ ⟨_, _, _, rfl⟩ ⟨_, _, _, rfl⟩ ⟨_, _, _, rfl⟩ ⟨_, _, _, rfl⟩ ⟨_, _, _, rfl⟩ ⟨_, _, _, rfl⟩ ⟨_, _, _, rfl⟩ ⟨_, _, _, rfl⟩
     rfl (by kernel_rfl) (by kernel_rfl) (by omega) rfl rfl rfl rfl HQ.out HQ2.out hgx (by show wr.heap.size ≠ g; omega) hll HY.out.1 (hI.out.alloc _) (hI.row.bw hbw) (hI.bx.alloc _) (Blk.new _ _ _) (kat_cb_bw hI.kx hbw) (kat_cb_bw HS.out hbw) (kat_cb_bw hI.kr hbw) hI.nx (fun e => Nat.lt_irrefl _ (hown _ e)) ?_
   intro L a W' cur' sc' hall h
   obtain ⟨v13, v14, v15, v16, v17, v18, v19, v20, v21, v22, v23, v24, rfl⟩ := h.act (by omega) rfl
   have HF : Hid (∃ cur ss, BegI g gx Q x (xA, xn, xc) r (some ad, rn, rc) l W W' cur ss (k + 1)) := Lib.hid ⟨cur', sc', (hI.bel.trans (Below.mono hbw.drew (by omega))).trans h.bel, h.c1 (hall 13 (by omega)), by rw [HY.out.2]; exact h.row, h.bx, h.kx, h.kr, h.nx⟩
   clear h hI hown hall HIH HS HY
   go_simp
   go_wp2_with fail
   go_roundw
   case rel => exact ⟨k + 1, by omega, by go_num, HF⟩
   case measure => simp [intOf]; omega
end Go.Proofs.YtbmheekaclmibaaGreat
