/- Part of a proof of pruneShows_holds. -/
import Derived.Test.YthhbkabdhkdafaaGreatUBbQ
import Derived.Test.YthhbkabdhkdafaaGreatUBgQ
set_option linter.unusedSimpArgs false
set_option linter.unusedVariables false
set_option maxRecDepth 100000
set_option maxHeartbeats 16000000
namespace Go.Proofs.YthhbkabdhkdafaaGreat
section
open Go.RowKit
theorem DiceOk.al {w : World} {b : Nat} (h : DiceOk w b) (o : Obj) : DiceOk (w.alloc o) b := h.bw ((Bw.refl w).alloc o)
theorem op_bvals {P : Program} {o : Oper} {a : Act} {w : World} {K : Act → World → Prop} {Q : Exit → Act → World → Prop} (t e : TypeId) (len : Nat) (parts : Array (Nat × Operand)) (ho : o.op = .buildSlice t len parts) (vs : List Value)
   (hu : P.underlying t = some (.slice e)) (hsz : (P.info? e).map (·.size) = some 1) (hz : ((P.info? e).bind (·.zero)).isSome = true)
   (hlen : len = vs.length) (hpos : 0 < len) (hsmall : len ≤ 2 ^ 24) (h1 : ∀ v ∈ vs, v.cells = #[v])
   (hparts : (parts.map fun (i, x) => (i, a.eval x)).toList = (vs.zipIdx 0).map fun x => (x.2, x.1))
   (h : K (a.put o.dst (.slice (some ⟨w.heap.size, 0, none⟩) len len)) (w.alloc (.cells vs.toArray e))) : o.wp P a w K Q := by
 cases hie : P.info? e with
 | none => simp [hie] at hsz
 | some ie =>
   simp only [hie, Option.map_some, Option.some.injEq, Option.bind_some] at hsz hz
   obtain ⟨z, hzz⟩ := Option.isSome_iff_exists.1 hz
   refine wp_buildSlice t e len parts ho _ ie z hu hie hzz (by rw [hsz]; omega) (by rw [hsz]; omega) ?_ h
   rw [hparts, hsz]
   exact Great.fill_flat _ _ h1 (by simp [hlen])
abbrev zM10 : Array Value := #[.int .i64 0, .slice none 0 0, .slice none 0 0, .slice none 0 0, .slice none 0 0, .int .i64 0, .int .i64 0, .slice none 0 0, .int .i64 0, .slice none 0 0]
abbrev cSt : List Value := [.string ⟨#[97]⟩, .string ⟨#[98]⟩]
abbrev cPl : List Value := [.string ⟨#[120]⟩, .string ⟨#[121]⟩]
def SlA (w : World) (cs : List Value) (n : Nat) (v : Value) (W : World) : Prop := ∃ g, v = .slice (some ⟨g, 0, none⟩) n 2 ∧ Blk W g 9 cs.toArray ∧ w.heap.size ≤ g
theorem SlA.st {w W W' : World} {b n : Nat} {cs : List Value} {v : Value} (h : SlA w cs n v W) (hb : b < w.heap.size) (g : W.grownBy W' (some b)) : SlA w cs n v W' := by
 obtain ⟨q, e, h1, h2⟩ := h
 exact ⟨q, e, gb_blk h1 g (by omega), h2⟩
def MdA (w : World) (cs : Array Value) (v : Value) (W : World) : Prop := ∃ g, v = .pointer (some ⟨g, 0, none⟩) ∧ Blk W g 33 cs ∧ w.heap.size ≤ g
theorem MdA.st {w W W' : World} {b : Nat} {cs : Array Value} {v : Value} (h : MdA w cs v W) (hb : b < w.heap.size) (g : W.grownBy W' (some b)) : MdA w cs v W' := by
 obtain ⟨q, e, h1, h2⟩ := h
 exact ⟨q, e, gb_blk h1 g (by omega), h2⟩
def ctV1 (w : World) (b : Nat) : Nat → Value → World → Prop
 | 0, v, W => SlA w cSt 2 v W
 | 1, v, _ => v = .pointer (some ⟨b, 0, none⟩)
 | 2, v, _ => ∃ r : Nat, r < 2 ∧ v = .int .i64 (r : Int)
 | 3, v, _ => ∃ r : Nat, r < 2 ∧ v = .int .i64 (1 + (r : Int))
 | 4, v, W => ∃ r : Nat, r < 2 ∧ SlA w cSt (1 + r) v W
 | 5, v, W => SlA w cPl 2 v W
 | 6, v, _ => v = .pointer (some ⟨b, 0, none⟩)
 | 7, v, _ => ∃ r : Nat, r < 2 ∧ v = .int .i64 (r : Int)
 | 8, v, _ => ∃ r : Nat, r < 2 ∧ v = .int .i64 (1 + (r : Int))
 | 9, v, W => ∃ r : Nat, r < 2 ∧ SlA w cPl (1 + r) v W
 | 10, v, W => ∃ (r1 r2 g1 g2 : Nat), r1 < 2 ∧ r2 < 2 ∧ v = .agg #[.int .i64 1, .slice (some ⟨g1, 0, none⟩) (1 + r1) 2, .slice (some ⟨g2, 0, none⟩) (1 + r2) 2, .slice none 0 0, .slice none 0 0, .int .i64 0, .int .i64 0, .slice none 0 0, .int .i64 0, .slice none 0 0] ∧ SlA w cSt (1 + r1) (.slice (some ⟨g1, 0, none⟩) (1 + r1) 2) W ∧ SlA w cPl (1 + r2) (.slice (some ⟨g2, 0, none⟩) (1 + r2) 2) W
 | 11, v, W => MdA w zM10 v W
 | _, _, _ => True
theorem ctV1_st {w W W' : World} {b : Nat} (hb : b < w.heap.size) (i : Nat) (v : Value) (hi : i < 12) (h : ctV1 w b i v W) (g : W.grownBy W' (some b)) : ctV1 w b i v W' := by
 rcases (by omega : i = 0 ∨ i = 1 ∨ i = 2 ∨ i = 3 ∨ i = 4 ∨ i = 5 ∨ i = 6 ∨ i = 7 ∨ i = 8 ∨ i = 9 ∨ i = 10 ∨ i = 11) with rfl | rfl | rfl | rfl | rfl | rfl | rfl | rfl | rfl | rfl | rfl | rfl
 · exact SlA.st h hb g
 · exact h
 · exact h
 · exact h
 · obtain ⟨r, h1, h2⟩ := h; exact ⟨r, h1, h2.st hb g⟩
 · exact SlA.st h hb g
 · exact h
 · exact h
 · exact h
 · obtain ⟨r, h1, h2⟩ := h; exact ⟨r, h1, h2.st hb g⟩
 · obtain ⟨r1, r2, v1, v2, h1, h2, h3, h4, h5⟩ := h; exact ⟨r1, r2, v1, v2, h1, h2, h3, h4.st hb g, h5.st hb g⟩
 · exact MdA.st h hb g
theorem str_at {W : World} {S : Nat → Prop} {g n : Nat} {x y : ByteArray} (h : Blk W g 9 #[.string x, .string y]) (hn : n ≤ 2) (hS : S g) : StrAt W S (.slice (some ⟨g, 0, none⟩) n 2) ([x, y].take n) := by
 refine ⟨_, n, 2, rfl, by simp; omega, hn, by unfold maxLen; omega, fun _ => ⟨⟨g, 0, none⟩, rfl, hS, fun k hk => ?_⟩⟩
 have hk2 : k < 2 := by simp at hk; omega
 have h1 := h.cell k
 simp only [Addr.add, Nat.zero_add, List.getElem_take]
 rcases (by omega : k = 0 ∨ k = 1) with rfl | rfl <;> exact h1
def CounterPost (w : World) (b : Nat) (e : Ending) (w' : World) : Prop := ∃ (m : Mdl) (sv pv rv kv : Value) (ps : List RR) (B : Nat), e = .returned (aggM sv pv rv kv) ∧ CtOk m ∧
 StrAt w' (fun g => w.heap.size ≤ g ∧ g < w'.heap.size ∧ rv.ownBlock ≠ some g) sv m.ss ∧ StrAt w' (fun g => w.heap.size ≤ g ∧ g < w'.heap.size ∧ rv.ownBlock ≠ some g) pv m.ps ∧ RulO w' B rv ps ∧ w.heap.size ≤ B ∧ ps.map (·.1) = m.rs ∧ KAt w' (fun g => w.heap.size ≤ g ∧ g < w'.heap.size ∧ rv.ownBlock ≠ some g) kv m.start.ks ∧ DiceOk w' b ∧ w.grownBy w' (some b)
theorem put_mk (t : Array Value) (df) (d : Nat) (v : Value) : Act.put ⟨t, df⟩ (some d) v = ⟨t.setIfInBounds d v, df⟩ := rfl
theorem fold_all {a a0 : Act} (Dl : List Nat) (N : Nat) (hN : N = Dl.length) (hd : a.defers = a0.defers) (hs : a.tmps.size = a0.tmps.size) (hlt : ∀ d ∈ Dl, d < a0.tmps.size) (ho : ∀ d, (∀ j, j < N → Dl.getD j 0 ≠ d) → a.tmps[d]?.getD undef = a0.tmps[d]?.getD undef) :
   a = (Dl.map fun d => (d, a.tmps[d]?.getD undef)).foldl (fun a p => a.put (some p.1) p.2) a0 := by
 refine fold_ext _ _ hd hs (fun p hp => ?_) (fun d h => ho d (fun j hj e => ?_))
 · obtain ⟨d, hd, rfl⟩ := List.mem_map.1 hp
   exact ⟨hlt d hd, rfl⟩
 · subst hN
   refine h (d, a.tmps[d]?.getD undef) (List.mem_map.2 ⟨d, ?_, rfl⟩) rfl
   rw [← e, List.getD, List.getElem?_eq_getElem hj]
   exact List.getElem_mem hj
theorem SlA.lit {w W : World} {cs : List Value} {n g k c : Nat} (h : SlA w cs n (.slice (some ⟨g, 0, none⟩) k c) W) : Blk W g 9 cs.toArray ∧ w.heap.size ≤ g := by
 obtain ⟨q, e, h1, h2⟩ := h
 injection e with e1 e2 e3
 injection e1 with e1
 injection e1 with e1
 subst e1
 exact ⟨h1, h2⟩
theorem blk14_k {K : World → Prop} {W : World} {b : Nat} {t : TypeId} {u0 u1 u2 u3 u4 u5 u6 u7 u8 u9 u10 u11 u12 u13 v0 v1 v2 v3 v4 v5 v6 v7 v8 v9 v10 v11 v12 v13 : Value} (h : Blk W b t #[u0, u1, u2, u3, u4, u5, u6, u7, u8, u9, u10, u11, u12, u13]) (k : ∀ W2, Blk W2 b t #[v0, v1, v2, v3, v4, v5, v6, v7, v8, v9, v10, v11, v12, v13] → W.grownBy W2 (some b) → K W2) : K ((((((((((((((W.setCell ⟨b, 0, none⟩ v0).setCell ⟨b, 1, none⟩ v1).setCell ⟨b, 2, none⟩ v2).setCell ⟨b, 3, none⟩ v3).setCell ⟨b, 4, none⟩ v4).setCell ⟨b, 5, none⟩ v5).setCell ⟨b, 6, none⟩ v6).setCell ⟨b, 7, none⟩ v7).setCell ⟨b, 8, none⟩ v8).setCell ⟨b, 9, none⟩ v9).setCell ⟨b, 10, none⟩ v10).setCell ⟨b, 11, none⟩ v11).setCell ⟨b, 12, none⟩ v12).setCell ⟨b, 13, none⟩ v13) := by
 have h1 := ((((((((((((((h.set_ 0 v0).set_ 1 v1).set_ 2 v2).set_ 3 v3).set_ 4 v4).set_ 5 v5).set_ 6 v6).set_ 7 v7).set_ 8 v8).set_ 9 v9).set_ 10 v10).set_ 11 v11).set_ 12 v12).set_ 13 v13)
 refine k _ (by simpa using h1) ?_
 have g : ∀ i u W', W.grownBy W' (some b) → W.grownBy (W'.setCell ⟨b, i, none⟩ u) (some b) := fun i u W' h => grownBy_setCell (p := ⟨b, i, none⟩) h (.inl rfl) u
 exact g _ _ _ (g _ _ _ (g _ _ _ (g _ _ _ (g _ _ _ (g _ _ _ (g _ _ _ (g _ _ _ (g _ _ _ (g _ _ _ (g _ _ _ (g _ _ _ (g _ _ _ (g _ _ _ (World.grownBy.refl W (some b)))))))))))))))
structure CtI (W0 wr : World) (B b mb g1 g2 n1 n2 : Nat) (rv : Value) (ps : List RR) : Prop where
 m : Blk wr mb 33 (mdA (.slice (some ⟨g1, 0, none⟩) n1 2) (.slice (some ⟨g2, 0, none⟩) n2 2) rv (.slice none 0 0))
 r : RulO wr B rv ps
 nm : (ps.map (·.1)).map Rul.nm = nmR.take ps.length
 ok : ∀ q ∈ ps, CtR n1 n2 q.1
 s : Blk wr g1 9 cSt.toArray
 p : Blk wr g2 9 cPl.toArray
 d : DiceOk wr b
 g : W0.grownBy wr (some b)
 sz : B ≤ wr.heap.size
 mB : mb < B
abbrev cR : List Value := [.string ⟨#[114]⟩, .string ⟨#[115]⟩, .string ⟨#[116]⟩]
abbrev zR14 : Array Value := #[.string ⟨#[]⟩, .int .i64 0, .int .i64 0, .slice none 0 0, .slice none 0 0, .slice none 0 0, .int .i64 0, .int .i64 0, .int .i64 0, .slice none 0 0, .slice none 0 0, .slice none 0 0, .slice none 0 0, .int .i64 0]
theorem cR_at {k : Nat} (h : k < 3) : cR.toArray[k]? = some (.string (nmR.getD k ⟨#[]⟩)) := by
 rcases (by omega : k = 0 ∨ k = 1 ∨ k = 2) with rfl | rfl | rfl <;> rfl
def IntsV (B n : Nat) (v : Value) (W : World) : Prop := ∃ (xs : List Int) (A : Option Addr) (c : Nat), v = .slice A n c ∧ xs.length = n ∧ (∀ x ∈ xs, 0 ≤ x ∧ x ≤ 2) ∧ W.ownsRow B 3 1 (.slice A n c) n (intVs xs)
theorem IntsV.st {W W' : World} {B b n : Nat} {v : Value} (h : IntsV B n v W) (hb : b < B) (g : W.grownBy W' (some b)) : IntsV B n v W' := by
 obtain ⟨xs, A, c, h1, h2, h3, h4⟩ := h
 exact ⟨xs, A, c, h1, h2, h3, own_put h4 g hb⟩
def BkA (B : Nat) (t : TypeId) (cs : Array Value) (g : Nat) (W : World) : Prop := Blk W g t cs ∧ B ≤ g
theorem BkA.st {W W' : World} {B b g : Nat} {t : TypeId} {cs : Array Value} (h : BkA B t cs g W) (hb : b < B) (k : W.grownBy W' (some b)) : BkA B t cs g W' := ⟨gb_blk h.1 k (by have := h.2; omega), h.2⟩
def RulV (B n1 n2 k : Nat) (v : Value) (W : World) : Prop := ∃ (fr tt c1 c2 : Nat) (A1 A2 : Option Addr) (xs ys : List Int), v = .agg #[.string (nmR.getD k ⟨#[]⟩), .int .i64 (fr : Int), .int .i64 (tt : Int), .slice A1 n2 c1, .slice A2 n2 c2, .slice none 0 0, .int .i64 0, .int .i64 0, .int .i64 0, .slice none 0 0, .slice none 0 0, .slice none 0 0, .slice none 0 0, .int .i64 0] ∧ CtR n1 n2 ⟨nmR.getD k ⟨#[]⟩, (fr : Int), (tt : Int), xs, ys⟩ ∧ W.ownsRow B 3 1 (.slice A1 n2 c1) n2 (intVs xs) ∧ W.ownsRow B 3 1 (.slice A2 n2 c2) n2 (intVs ys)
theorem RulV.st {W W' : World} {B b n1 n2 k : Nat} {v : Value} (h : RulV B n1 n2 k v W) (hb : b < B) (g : W.grownBy W' (some b)) : RulV B n1 n2 k v W' := by
 obtain ⟨fr, tt, c1, c2, A1, A2, xs, ys, h1, h2, h3, h4⟩ := h
 exact ⟨fr, tt, c1, c2, A1, A2, xs, ys, h1, h2, own_put h3 g hb, own_put h4 g hb⟩
def ctV2 (B b mb g1 n1 n2 k : Nat) : Nat → Value → World → Prop
 | 0, v, W => ∃ g, v = .slice (some ⟨g, 0, none⟩) 3 3 ∧ BkA B 9 cR.toArray g W
 | 1, v, _ => v = .int .i64 (k : Int)
 | 2, v, W => ∃ g, v = .pointer (some ⟨g, k, none⟩) ∧ BkA B 9 cR.toArray g W
 | 3, v, _ => v = .string (nmR.getD k ⟨#[]⟩)
 | 4, v, _ => v = .pointer (some ⟨b, 0, none⟩)
 | 5, v, _ => v = .pointer (some ⟨mb, 1, none⟩)
 | 6, v, _ => v = .slice (some ⟨g1, 0, none⟩) n1 2
 | 7, v, _ => v = .int .i64 (n1 : Int)
 | 8, v, _ => ∃ r : Nat, r < n1 ∧ v = .int .i64 (r : Int)
 | 9, v, _ => v = .pointer (some ⟨b, 0, none⟩)
 | 10, v, _ => v = .pointer (some ⟨mb, 1, none⟩)
 | 11, v, _ => v = .slice (some ⟨g1, 0, none⟩) n1 2
 | 12, v, _ => v = .int .i64 (n1 : Int)
 | 13, v, _ => ∃ r : Nat, r < n1 ∧ v = .int .i64 (r : Int)
 | 14, v, _ => v = .pointer (some ⟨b, 0, none⟩)
 | 15, v, _ => v = .int .i64 (n2 : Int)
 | 16, v, W => IntsV B n2 v W
 | 17, v, _ => v = .pointer (some ⟨b, 0, none⟩)
 | 18, v, _ => v = .int .i64 (n2 : Int)
 | 19, v, W => IntsV B n2 v W
 | 20, v, W => RulV B n1 n2 k v W
 | 21, v, W => ∃ g, v = .pointer (some ⟨g, 0, none⟩) ∧ BkA B 75 zR14 g W
 | _, _, _ => True
theorem ctV2_st {W W' : World} {B b mb g1 n1 n2 k : Nat} (hb : b < B) (i : Nat) (v : Value) (hi : i < 22) (h : ctV2 B b mb g1 n1 n2 k i v W) (g : W.grownBy W' (some b)) : ctV2 B b mb g1 n1 n2 k i v W' := by
 rcases (by omega : i = 0 ∨ i = 1 ∨ i = 2 ∨ i = 3 ∨ i = 4 ∨ i = 5 ∨ i = 6 ∨ i = 7 ∨ i = 8 ∨ i = 9 ∨ i = 10 ∨ i = 11 ∨ i = 12 ∨ i = 13 ∨ i = 14 ∨ i = 15 ∨ i = 16 ∨ i = 17 ∨ i = 18 ∨ i = 19 ∨ i = 20 ∨ i = 21) with rfl | rfl | rfl | rfl | rfl | rfl | rfl | rfl | rfl | rfl | rfl | rfl | rfl | rfl | rfl | rfl | rfl | rfl | rfl | rfl | rfl | rfl
 · obtain ⟨q, h1, h2⟩ := h; exact ⟨q, h1, h2.st hb g⟩
 · exact h
 · obtain ⟨q, h1, h2⟩ := h; exact ⟨q, h1, h2.st hb g⟩
 · exact h
 · exact h
 · exact h
 · exact h
 · exact h
 · exact h
 · exact h
 · exact h
 · exact h
 · exact h
 · exact h
 · exact h
 · exact h
 · exact IntsV.st h hb g
 · exact h
 · exact h
 · exact IntsV.st h hb g
 · exact RulV.st h hb g
 · obtain ⟨q, h1, h2⟩ := h; exact ⟨q, h1, h2.st hb g⟩
theorem CtI.dice {W0 wr wr' : World} {B b mb g1 g2 n1 n2 : Nat} {rv : Value} {ps : List RR} (h : CtI W0 wr B b mb g1 g2 n1 n2 rv ps) (hb : b < W0.heap.size) (hm : W0.heap.size ≤ mb ∧ W0.heap.size ≤ g1 ∧ W0.heap.size ≤ g2) (hB : b < B) (hd : DiceOk wr' b) (g : wr.grownBy wr' (some b)) : CtI W0 wr' B b mb g1 g2 n1 n2 rv ps :=
 ⟨gb_blk h.m g (by omega), h.r.put g hB, h.nm, h.ok, gb_blk h.s g (by omega), gb_blk h.p g (by omega), hd, grownBy_trans h.g g, Nat.le_trans h.sz g.size, h.mB⟩
theorem own_grown' {w w' : World} {B e n g : Nat} {t : TypeId} {v : Value} {xs : List Value} {cs : Array Value} (h : w.ownsRow B e 1 v n xs) (hb : Blk w g t cs) (hne : e ≠ t) (hg : w.grownBy w' (some g)) : w'.ownsRow B e 1 v n xs := h.kept hg (by
 rcases hv : v.ownBlock with _ | j
 · exact .inl rfl
 · refine .inr (fun e' => ?_)
   injection e' with e'
   subst e'
   obtain ⟨g', cap, cur, h1, h2, h3, -⟩ := h.2.resolve_left (fun h => by rw [h.1] at hv; cases hv)
   rw [h1] at hv
   injection hv with hv
   subst hv
   have := h3.symm.trans hb
   injection this with this
   injection this with this1 this2
   exact hne this2)
theorem blk10_k {K : World → Prop} {W : World} {b : Nat} {t : TypeId} {u0 u1 u2 u3 u4 u5 u6 u7 u8 u9 v0 v1 v2 v3 v4 v5 v6 v7 v8 v9 : Value} (h : Blk W b t #[u0, u1, u2, u3, u4, u5, u6, u7, u8, u9]) (k : ∀ W2, Blk W2 b t #[v0, v1, v2, v3, v4, v5, v6, v7, v8, v9] → W.grownBy W2 (some b) → K W2) : K ((((((((((W.setCell ⟨b, 0, none⟩ v0).setCell ⟨b, 1, none⟩ v1).setCell ⟨b, 2, none⟩ v2).setCell ⟨b, 3, none⟩ v3).setCell ⟨b, 4, none⟩ v4).setCell ⟨b, 5, none⟩ v5).setCell ⟨b, 6, none⟩ v6).setCell ⟨b, 7, none⟩ v7).setCell ⟨b, 8, none⟩ v8).setCell ⟨b, 9, none⟩ v9) :=
 k _ (blk10 h).1 (blk10 h).2
theorem pcounter_any (w : World) (b : Nat) (hd : DiceOk w b) : Calls Tryz.prog 25 #[.pointer (some ⟨b, 0, none⟩), .bool false] w (CounterPost w b) := by
 have hbl := hd.lt
 have PKN : Hid (∀ W n, DiceOk W b → 1 ≤ n → n ≤ 100000 → Calls Tryz.prog 10 #[.pointer (some ⟨b, 0, none⟩), .int .i64 n] W (PickPost W b n)) := Lib.hid (fun W n h1 h2 h3 => ppick_any W b h1 n h2 h3)
 have INT : Hid (∀ W (n : Nat) most, DiceOk W b → n ≤ 1000 → 0 ≤ most → most ≤ 1000 → Calls Tryz.prog 31 #[.pointer (some ⟨b, 0, none⟩), .int .i64 (n : Int), .int .i64 most] W (DIntsF W b n most)) := Lib.hid (fun W n most h1 h2 h3 h4 => pints_any W b h1 n h2 most h3 h4)
 obtain ⟨i1, hi1, hy0, hy1, hy2⟩ := info_parts infoRule
 have HD := Lib.hid hd
 clear hd
 go_enter Tryz.func25, Tryz.ntmps25
 go_wp2_with fail
 refine wp_world (fun W => Hid (Blk W w.heap.size 33 zM10 ∧ DiceOk W b ∧ w.grownBy W (some b) ∧ w.heap.size < W.heap.size)) (Lib.hid ⟨Blk.new w _ _, HD.out.al _, grownBy_alloc (World.grownBy.refl _ _) _, by simp⟩) ?_
 clear HD
 intro W0 HW0
 have hb0 : b < W0.heap.size := by have := HW0.out.2.2.2; omega
 go_cut [5] from 10 to 20 (fun s5 wx => ∃ (mb n1 n2 g1 g2 : Nat), s5 = .pointer (some ⟨mb, 0, none⟩) ∧ 1 ≤ n1 ∧ n1 ≤ 2 ∧ 1 ≤ n2 ∧ n2 ≤ 2 ∧ Hid (Blk wx mb 33 (mdA (.slice (some ⟨g1, 0, none⟩) n1 2) (.slice (some ⟨g2, 0, none⟩) n2 2) (.slice none 0 0) (.slice none 0 0)) ∧ Blk wx g1 9 cSt.toArray ∧ Blk wx g2 9 cPl.toArray ∧ DiceOk wx b ∧ W0.grownBy wx (some b) ∧ W0.heap.size ≤ mb ∧ W0.heap.size ≤ g1 ∧ W0.heap.size ≤ g2))
 case first =>
   refine wp_region_prod mixedO 12 (by rfl) (fun i => ([10, 11, 12, 13, 14, 15, 16, 17, 18, 19, 20, 5] : List Nat).getD i 0) (fun i j hi hj => (by decide : ∀ i, i < 12 → ∀ j, j < 12 → ([10, 11, 12, 13, 14, 15, 16, 17, 18, 19, 20, 5] : List Nat).getD i 0 = ([10, 11, 12, 13, 14, 15, 16, 17, 18, 19, 20, 5] : List Nat).getD j 0 → i = j) i hi j hj) (fun i hi => (by decide : ∀ i, i < 12 → ([10, 11, 12, 13, 14, 15, 16, 17, 18, 19, 20, 5] : List Nat).getD i 0 < 85) i hi)
     (fun W => W0.grownBy W (some b) ∧ DiceOk W b) (fun W W' => W.grownBy W' (some b)) (ctV1 W0 b) ⟨grownBy_drewN (World.grownBy.refl _ _) 1, HW0.out.2.1.drewN 1⟩ (fun i v W W' hi h g => ctV1_st hb0 i v hi h g) (by kernel_rfl) (by kernel_rfl) ?hstep ?hlast
   case hstep =>
     intro i hi a W hR hoth hdep K hK
     rcases (by omega : i = 0 ∨ i = 1 ∨ i = 2 ∨ i = 3 ∨ i = 4 ∨ i = 5 ∨ i = 6 ∨ i = 7 ∨ i = 8 ∨ i = 9 ∨ i = 10 ∨ i = 11) with rfl | rfl | rfl | rfl | rfl | rfl | rfl | rfl | rfl | rfl | rfl | rfl
     · refine ⟨_, (by simp only [List.getElem?_toArray, List.getElem?_cons_succ, List.getElem?_cons_zero]; exact rfl), rfl, ?_⟩
       refine op_bvals 26 9 2 _ rfl cSt Tryz.underlying26 (by kernel_rfl) (by kernel_rfl) rfl (by decide) (by decide) (by intro v hv; simp only [List.mem_cons, List.not_mem_nil, or_false] at hv; rcases hv with rfl | rfl <;> rfl) (by kernel_rfl) ?_
       exact hK _ _ ⟨W.heap.size, rfl, Blk.new W _ _, hR.1.size⟩ ⟨grownBy_alloc hR.1 _, hR.2.al _⟩ (grownBy_alloc (World.grownBy.refl _ _) _)
     · refine ⟨_, (by simp only [List.getElem?_toArray, List.getElem?_cons_succ, List.getElem?_cons_zero]; exact rfl), rfl, ?_⟩
       have e0 : a.tmps[0]?.getD undef = .pointer (some ⟨b, 0, none⟩) := (hoth 0 (by decide)).trans rfl
       go_simp
       exact hK _ W rfl hR (World.grownBy.refl _ _)
     · refine ⟨_, (by simp only [List.getElem?_toArray, List.getElem?_cons_succ, List.getElem?_cons_zero]; exact rfl), rfl, ?_⟩
       have e1 : a.tmps[11]?.getD undef = .pointer (some ⟨b, 0, none⟩) := hdep 1 (by decide) (by kernel_rfl)
       go_simp
       refine (PKN.out W 2 hR.2 (by omega) (by omega)).mono ?_
       rintro e w1 ⟨r, rfl, hr, hd1, hg1⟩
       exact hK _ w1 ⟨r, by omega, rfl⟩ ⟨grownBy_trans hR.1 hg1, hd1⟩ hg1
     · refine ⟨_, (by simp only [List.getElem?_toArray, List.getElem?_cons_succ, List.getElem?_cons_zero]; exact rfl), rfl, ?_⟩
       obtain ⟨r, hr, e1⟩ : ∃ r : Nat, r < 2 ∧ a.tmps[12]?.getD undef = .int .i64 (r : Int) := hdep 2 (by decide) (by kernel_rfl)
       have q1 : IntKind.i64.wrap (1 + (r : Int)) = 1 + (r : Int) := IntWalk.i64_in _ (by omega)
       go_simp
       exact hK _ W ⟨r, hr, rfl⟩ hR (World.grownBy.refl _ _)
     · refine ⟨_, (by simp only [List.getElem?_toArray, List.getElem?_cons_succ, List.getElem?_cons_zero]; exact rfl), rfl, ?_⟩
       obtain ⟨g, e1, hb1, hg1⟩ : SlA W0 cSt 2 (a.tmps[10]?.getD undef) W := hdep 0 (by decide) (by kernel_rfl)
       obtain ⟨r, hr, e2⟩ : ∃ r : Nat, r < 2 ∧ a.tmps[13]?.getD undef = .int .i64 (1 + (r : Int)) := hdep 3 (by decide) (by kernel_rfl)
       have q2 : (0 : Int) ≤ 1 + (r : Int) := by omega
       have q3 : (1 : Int) + (r : Int) ≤ 2 := by omega
       have q4 : (1 + (r : Int)).toNat = 1 + r := by omega
       go_simp
       exact hK _ W ⟨r, hr, g, rfl, hb1, hg1⟩ hR (World.grownBy.refl _ _)
     · refine ⟨_, (by simp only [List.getElem?_toArray, List.getElem?_cons_succ, List.getElem?_cons_zero]; exact rfl), rfl, ?_⟩
       refine op_bvals 26 9 2 _ rfl cPl Tryz.underlying26 (by kernel_rfl) (by kernel_rfl) rfl (by decide) (by decide) (by intro v hv; simp only [List.mem_cons, List.not_mem_nil, or_false] at hv; rcases hv with rfl | rfl <;> rfl) (by kernel_rfl) ?_
       exact hK _ _ ⟨W.heap.size, rfl, Blk.new W _ _, hR.1.size⟩ ⟨grownBy_alloc hR.1 _, hR.2.al _⟩ (grownBy_alloc (World.grownBy.refl _ _) _)
     · refine ⟨_, (by simp only [List.getElem?_toArray, List.getElem?_cons_succ, List.getElem?_cons_zero]; exact rfl), rfl, ?_⟩
       have e0 : a.tmps[0]?.getD undef = .pointer (some ⟨b, 0, none⟩) := (hoth 0 (by decide)).trans rfl
       go_simp
       exact hK _ W rfl hR (World.grownBy.refl _ _)
     · refine ⟨_, (by simp only [List.getElem?_toArray, List.getElem?_cons_succ, List.getElem?_cons_zero]; exact rfl), rfl, ?_⟩
       have e1 : a.tmps[16]?.getD undef = .pointer (some ⟨b, 0, none⟩) := hdep 6 (by decide) (by kernel_rfl)
       go_simp
       refine (PKN.out W 2 hR.2 (by omega) (by omega)).mono ?_
       rintro e w1 ⟨r, rfl, hr, hd1, hg1⟩
       exact hK _ w1 ⟨r, by omega, rfl⟩ ⟨grownBy_trans hR.1 hg1, hd1⟩ hg1
     · refine ⟨_, (by simp only [List.getElem?_toArray, List.getElem?_cons_succ, List.getElem?_cons_zero]; exact rfl), rfl, ?_⟩
       obtain ⟨r, hr, e1⟩ : ∃ r : Nat, r < 2 ∧ a.tmps[17]?.getD undef = .int .i64 (r : Int) := hdep 7 (by decide) (by kernel_rfl)
       have q1 : IntKind.i64.wrap (1 + (r : Int)) = 1 + (r : Int) := IntWalk.i64_in _ (by omega)
       go_simp
       exact hK _ W ⟨r, hr, rfl⟩ hR (World.grownBy.refl _ _)
     · refine ⟨_, (by simp only [List.getElem?_toArray, List.getElem?_cons_succ, List.getElem?_cons_zero]; exact rfl), rfl, ?_⟩
       obtain ⟨g, e1, hb1, hg1⟩ : SlA W0 cPl 2 (a.tmps[15]?.getD undef) W := hdep 5 (by decide) (by kernel_rfl)
       obtain ⟨r, hr, e2⟩ : ∃ r : Nat, r < 2 ∧ a.tmps[18]?.getD undef = .int .i64 (1 + (r : Int)) := hdep 8 (by decide) (by kernel_rfl)
       have q2 : (0 : Int) ≤ 1 + (r : Int) := by omega
       have q3 : (1 : Int) + (r : Int) ≤ 2 := by omega
       have q4 : (1 + (r : Int)).toNat = 1 + r := by omega
       go_simp
       exact hK _ W ⟨r, hr, g, rfl, hb1, hg1⟩ hR (World.grownBy.refl _ _)
     · refine ⟨_, (by simp only [List.getElem?_toArray, List.getElem?_cons_succ, List.getElem?_cons_zero]; exact rfl), rfl, ?_⟩
       obtain ⟨r1, hr1, h1⟩ : ∃ r : Nat, r < 2 ∧ SlA W0 cSt (1 + r) (a.tmps[14]?.getD undef) W := hdep 4 (by decide) (by kernel_rfl)
       obtain ⟨r2, hr2, h2⟩ : ∃ r : Nat, r < 2 ∧ SlA W0 cPl (1 + r) (a.tmps[19]?.getD undef) W := hdep 9 (by decide) (by kernel_rfl)
       obtain ⟨g1, e1, hb1, hl1⟩ := h1
       obtain ⟨g2, e2, hb2, hl2⟩ := h2
       go_simp
       exact hK _ W ⟨r1, r2, g1, g2, hr1, hr2, rfl, ⟨g1, rfl, hb1, hl1⟩, ⟨g2, rfl, hb2, hl2⟩⟩ hR (World.grownBy.refl _ _)
     · refine ⟨_, (by simp only [List.getElem?_toArray, List.getElem?_cons_succ, List.getElem?_cons_zero]; exact rfl), rfl, ?_⟩
       go_simp
       exact hK _ _ ⟨W.heap.size, rfl, Blk.new W _ _, hR.1.size⟩ ⟨grownBy_alloc hR.1 _, hR.2.al _⟩ (grownBy_alloc (World.grownBy.refl _ _) _)
   case hlast =>
     intro a W hdf hsz hR hoth hv
     refine ⟨_, (by simp only [List.getElem?_toArray, List.getElem?_cons_succ, List.getElem?_cons_zero]; exact rfl), rfl, ?_⟩
     have HSZ := Lib.hid hsz
     have HOT := Lib.hid hoth
     obtain ⟨r1, r2, g1, g2, hr1, hr2, x10, hs1, hs2⟩ := hv 10 (by decide)
     obtain ⟨mb, x11, hmb, hml⟩ := hv 11 (by decide)
     obtain ⟨ml, m0, m1, m2, m3, m4, m5, m6, m7, m8, m9⟩ := hmb.c10
     have f0 := hmb.frozen 0
     have f1 := hmb.frozen 1
     have f2 := hmb.frozen 2
     have f3 := hmb.frozen 3
     have f4 := hmb.frozen 4
     have f5 := hmb.frozen 5
     have f6 := hmb.frozen 6
     have f7 := hmb.frozen 7
     have f8 := hmb.frozen 8
     have f9 := hmb.frozen 9
     have x20 : a.tmps[20]?.getD undef = _ := x10
     have x5 : a.tmps[5]?.getD undef = _ := x11
     clear hsz hoth hv
     go_simp
     refine blk10_k hmb (fun W2 hb2 hg2 => ?_)
     clear m0 m1 m2 m3 m4 m5 m6 m7 m8 m9 f0 f1 f2 f3 f4 f5 f6 f7 f8 f9 x10 x11
     have ha := fold_all [10, 11, 12, 13, 14, 15, 16, 17, 18, 19, 20, 5] 12 rfl hdf HSZ.out (fun d h => (by decide : ∀ d ∈ ([10, 11, 12, 13, 14, 15, 16, 17, 18, 19, 20, 5] : List Nat), d < 85) d h) HOT.out
     simp only [List.map_cons, List.map_nil, List.foldl_cons, List.foldl_nil, x20, x5, put_mk, List.setIfInBounds_toArray, List.set_cons_succ, List.set_cons_zero] at ha
     generalize a.tmps[10]?.getD undef = u10 at ha
     generalize a.tmps[11]?.getD undef = u11 at ha
     generalize a.tmps[12]?.getD undef = u12 at ha
     generalize a.tmps[13]?.getD undef = u13 at ha
     generalize a.tmps[14]?.getD undef = u14 at ha
     generalize a.tmps[15]?.getD undef = u15 at ha
     generalize a.tmps[16]?.getD undef = u16 at ha
     generalize a.tmps[17]?.getD undef = u17 at ha
     generalize a.tmps[18]?.getD undef = u18 at ha
     generalize a.tmps[19]?.getD undef = u19 at ha
     clear x20 x5 HSZ HOT hdf
     subst ha
     go_wp2_with fail
     go_meet
     obtain ⟨hs1, hl1⟩ := hs1.lit
     obtain ⟨hs2, hl2⟩ := hs2.lit
     have n1 := hs1.ne_ hmb (by decide)
     have n2 := hs2.ne_ hmb (by decide)
     exact ⟨mb, 1 + r1, 1 + r2, g1, g2, rfl, by omega, by omega, by omega, by omega, Lib.hid ⟨hb2, gb_blk hs1 hg2 n1, gb_blk hs2 hg2 n2, hR.2.grown hg2 (fun r e => by injection e with e; omega), gb_past hR.1 hg2 (fun r e => by injection e with e; omega), hml, hl1, hl2⟩⟩
 case rest =>
   obtain ⟨mb, n1, n2, g1, g2, rfl, h11, h12, h21, h22, HC⟩ := hcut
   generalize hW1 : wc = W1 at *
   have hml := HC.out.1.lt
   have m2 := HC.out.1.cell 2
   have HI : Hid (CtI W0 W1 W1.heap.size b mb g1 g2 n1 n2 (.slice none 0 0) []) := Lib.hid ⟨HC.out.1, RulO.nil _ _, rfl, (fun q hq => by cases hq), HC.out.2.1, HC.out.2.2.1, HC.out.2.2.2.1, HC.out.2.2.2.2.1, Nat.le_refl _, hml⟩
   have HB1 : Hid (W0.heap.size ≤ mb ∧ W0.heap.size ≤ g1 ∧ W0.heap.size ≤ g2 ∧ b < W1.heap.size ∧ g1 < W1.heap.size ∧ g2 < W1.heap.size ∧ W0.heap.size ≤ W1.heap.size) := Lib.hid ⟨HC.out.2.2.2.2.2.1, HC.out.2.2.2.2.2.2.1, HC.out.2.2.2.2.2.2.2, by have := HC.out.2.2.2.2.1.size; omega, HC.out.2.1.lt, HC.out.2.2.1.lt, HC.out.2.2.2.2.1.size⟩
   clear HC
   go_wp2_with fail
   go_loopw [7] (fun i wr => ∃ k : Nat, k ≤ 3 ∧ i = .int .i64 k ∧ ∃ VA vc, Hid (∃ ps, ps.length = k ∧ CtI W0 wr W1.heap.size b mb g1 g2 n1 n2 (.slice VA k vc) ps)) (fun i _ => 3 - (intOf i).toNat)
   case atStart => exact ⟨0, by omega, rfl, none, 0, Lib.hid ⟨[], rfl, HI.out⟩⟩
   case round =>
     clear HI m2 hW1
     obtain ⟨wo, hwo⟩ : ∃ wo, wo = wr := ⟨_, rfl⟩
     subst hwo
     obtain ⟨k, hk, rfl, VA, vc, HR⟩ := hrel
     have hd0 : DiceOk wo b := by obtain ⟨ps, -, hI⟩ := HR.out; exact hI.d
     have CP := Lib.hid (PKN.out wo 3 hd0 (by omega) (by omega))
     clear hd0
     go_wp2_with fail
     go_at_call 10
     refine CP.out.mono ?_
     rintro e w1 ⟨r, rfl, hr, hd1, hg1⟩
     have HD1 := Lib.hid (And.intro hd1 hg1)
     clear hd1 hg1 CP
     have q1 : IntKind.i64.wrap (1 + (r : Int)) = 1 + (r : Int) := IntWalk.i64_in _ (by omega)
     by_cases hlt : (k : Int) < 1 + (r : Int)
     · go_wp2_with fail
       have hk3 : k < 3 := by omega
       obtain ⟨ps, hpl, hI⟩ := HR.out
       have hI1 := hI.dice hb0 ⟨HB1.out.1, HB1.out.2.1, HB1.out.2.2.1⟩ HB1.out.2.2.2.1 HD1.out.1 HD1.out.2
       have hbw : b < w1.heap.size := by have := hI1.sz; have := HB1.out.2.2.2.1; omega
       have hmb : mb ≠ b := by have := HB1.out.1; omega
       have HM : Hid (Blk w1 mb 33 (mdA (.slice (some ⟨g1, 0, none⟩) n1 2) (.slice (some ⟨g2, 0, none⟩) n2 2) (.slice VA k vc) (.slice none 0 0))) := Lib.hid hI1.m
       have HI1 := Lib.hid hI1
       have HPL := Lib.hid hpl
       have HD1' := Lib.hid HD1.out.1
       clear hI hI1 HR HD1 hpl
       go_cut [8] from 31 to 51 (fun s8 wx => ∃ (rb fr tt c1 c2 : Nat) (A1 A2 : Option Addr), s8 = .pointer (some ⟨rb, 0, none⟩) ∧ Hid (∃ xs ys : List Int, CtR n1 n2 ⟨nmR.getD k ⟨#[]⟩, (fr : Int), (tt : Int), xs, ys⟩ ∧ Blk wx rb 75 #[.string (nmR.getD k ⟨#[]⟩), .int .i64 (fr : Int), .int .i64 (tt : Int), .slice A1 n2 c1, .slice A2 n2 c2, .slice none 0 0, .int .i64 0, .int .i64 0, .int .i64 0, .slice none 0 0, .slice none 0 0, .slice none 0 0, .slice none 0 0, .int .i64 0] ∧ wx.ownsRow w1.heap.size 3 1 (.slice A1 n2 c1) n2 (intVs xs) ∧ wx.ownsRow w1.heap.size 3 1 (.slice A2 n2 c2) n2 (intVs ys) ∧ DiceOk wx b ∧ w1.grownBy wx (some b) ∧ w1.heap.size ≤ rb))
       case first =>
         refine wp_region_prod mixedO 22 (by rfl) (fun i => ([31, 32, 33, 34, 35, 36, 37, 38, 39, 40, 41, 42, 43, 44, 45, 46, 47, 48, 49, 50, 51, 8] : List Nat).getD i 0) (fun i j hi hj => (by decide : ∀ i, i < 22 → ∀ j, j < 22 → ([31, 32, 33, 34, 35, 36, 37, 38, 39, 40, 41, 42, 43, 44, 45, 46, 47, 48, 49, 50, 51, 8] : List Nat).getD i 0 = ([31, 32, 33, 34, 35, 36, 37, 38, 39, 40, 41, 42, 43, 44, 45, 46, 47, 48, 49, 50, 51, 8] : List Nat).getD j 0 → i = j) i hi j hj) (fun i hi => (by decide : ∀ i, i < 22 → ([31, 32, 33, 34, 35, 36, 37, 38, 39, 40, 41, 42, 43, 44, 45, 46, 47, 48, 49, 50, 51, 8] : List Nat).getD i 0 < 85) i hi)
           (fun W => w1.grownBy W (some b) ∧ DiceOk W b) (fun W W' => W.grownBy W' (some b)) (ctV2 w1.heap.size b mb g1 n1 n2 k) ⟨grownBy_drewN (World.grownBy.refl _ _) 1, HD1'.out.drewN 1⟩ (fun i v W W' hi h g => ctV2_st hbw i v hi h g) (by kernel_rfl) (by kernel_rfl) ?hstep ?hlast
         case hstep =>
           intro i hi a W hR hoth hdep K hK
           rcases (by omega : i = 0 ∨ i = 1 ∨ i = 2 ∨ i = 3 ∨ i = 4 ∨ i = 5 ∨ i = 6 ∨ i = 7 ∨ i = 8 ∨ i = 9 ∨ i = 10 ∨ i = 11 ∨ i = 12 ∨ i = 13 ∨ i = 14 ∨ i = 15 ∨ i = 16 ∨ i = 17 ∨ i = 18 ∨ i = 19 ∨ i = 20 ∨ i = 21) with rfl | rfl | rfl | rfl | rfl | rfl | rfl | rfl | rfl | rfl | rfl | rfl | rfl | rfl | rfl | rfl | rfl | rfl | rfl | rfl | rfl | rfl
           · refine ⟨_, (by simp only [List.getElem?_toArray, List.getElem?_cons_succ, List.getElem?_cons_zero]; exact rfl), rfl, ?_⟩
             refine op_bvals 26 9 3 _ rfl cR Tryz.underlying26 (by kernel_rfl) (by kernel_rfl) rfl (by decide) (by decide) (by intro v hv; simp only [List.mem_cons, List.not_mem_nil, or_false] at hv; rcases hv with rfl | rfl | rfl <;> rfl) (by kernel_rfl) ?_
             exact hK _ _ ⟨W.heap.size, rfl, Blk.new W _ _, hR.1.size⟩ ⟨grownBy_alloc hR.1 _, hR.2.al _⟩ (grownBy_alloc (World.grownBy.refl _ _) _)
           · refine ⟨_, (by simp only [List.getElem?_toArray, List.getElem?_cons_succ, List.getElem?_cons_zero]; exact rfl), rfl, ?_⟩
             have e0 : a.tmps[7]?.getD undef = .int .i64 (k : Int) := (hoth 7 (by decide)).trans rfl
             go_simp
             exact hK _ W rfl hR (World.grownBy.refl _ _)
           · refine ⟨_, (by simp only [List.getElem?_toArray, List.getElem?_cons_succ, List.getElem?_cons_zero]; exact rfl), rfl, ?_⟩
             obtain ⟨g, e1, hb1⟩ : ∃ g, a.tmps[31]?.getD undef = .slice (some ⟨g, 0, none⟩) 3 3 ∧ BkA w1.heap.size 9 cR.toArray g W := hdep 0 (by decide) (by kernel_rfl)
             have e2 : a.tmps[32]?.getD undef = .int .i64 (k : Int) := hdep 1 (by decide) (by kernel_rfl)
             have q2 : (k : Int) < 3 := by omega
             go_simp
             exact hK _ W ⟨g, rfl, hb1⟩ hR (World.grownBy.refl _ _)
           · refine ⟨_, (by simp only [List.getElem?_toArray, List.getElem?_cons_succ, List.getElem?_cons_zero]; exact rfl), rfl, ?_⟩
             obtain ⟨g, e1, hb1⟩ : ∃ g, a.tmps[33]?.getD undef = .pointer (some ⟨g, k, none⟩) ∧ BkA w1.heap.size 9 cR.toArray g W := hdep 2 (by decide) (by kernel_rfl)
             have c1 := (hb1.1.cell k).trans (cR_at hk3)
             go_simp
             exact hK _ W rfl hR (World.grownBy.refl _ _)
           · refine ⟨_, (by simp only [List.getElem?_toArray, List.getElem?_cons_succ, List.getElem?_cons_zero]; exact rfl), rfl, ?_⟩
             have e0 : a.tmps[0]?.getD undef = .pointer (some ⟨b, 0, none⟩) := (hoth 0 (by decide)).trans rfl
             go_simp
             exact hK _ W rfl hR (World.grownBy.refl _ _)
           · refine ⟨_, (by simp only [List.getElem?_toArray, List.getElem?_cons_succ, List.getElem?_cons_zero]; exact rfl), rfl, ?_⟩
             have e0 : a.tmps[5]?.getD undef = .pointer (some ⟨mb, 0, none⟩) := (hoth 5 (by decide)).trans rfl
             go_simp
             exact hK _ W rfl hR (World.grownBy.refl _ _)
           · refine ⟨_, (by simp only [List.getElem?_toArray, List.getElem?_cons_succ, List.getElem?_cons_zero]; exact rfl), rfl, ?_⟩
             have e1 : a.tmps[36]?.getD undef = .pointer (some ⟨mb, 1, none⟩) := hdep 5 (by decide) (by kernel_rfl)
             have c1 := (gb_blk HM.out hR.1 hmb).cell 1
             go_simp
             exact hK _ W rfl hR (World.grownBy.refl _ _)
           · refine ⟨_, (by simp only [List.getElem?_toArray, List.getElem?_cons_succ, List.getElem?_cons_zero]; exact rfl), rfl, ?_⟩
             have e1 : a.tmps[37]?.getD undef = .slice (some ⟨g1, 0, none⟩) n1 2 := hdep 6 (by decide) (by kernel_rfl)
             go_simp
             exact hK _ W rfl hR (World.grownBy.refl _ _)
           · refine ⟨_, (by simp only [List.getElem?_toArray, List.getElem?_cons_succ, List.getElem?_cons_zero]; exact rfl), rfl, ?_⟩
             have e1 : a.tmps[35]?.getD undef = .pointer (some ⟨b, 0, none⟩) := hdep 4 (by decide) (by kernel_rfl)
             have e2 : a.tmps[38]?.getD undef = .int .i64 (n1 : Int) := hdep 7 (by decide) (by kernel_rfl)
             go_simp
             refine (PKN.out W n1 hR.2 (by omega) (by omega)).mono ?_
             rintro e w2 ⟨r, rfl, hr, hd1, hg1⟩
             exact hK _ w2 ⟨r, by omega, rfl⟩ ⟨grownBy_trans hR.1 hg1, hd1⟩ hg1
           · refine ⟨_, (by simp only [List.getElem?_toArray, List.getElem?_cons_succ, List.getElem?_cons_zero]; exact rfl), rfl, ?_⟩
             have e0 : a.tmps[0]?.getD undef = .pointer (some ⟨b, 0, none⟩) := (hoth 0 (by decide)).trans rfl
             go_simp
             exact hK _ W rfl hR (World.grownBy.refl _ _)
           · refine ⟨_, (by simp only [List.getElem?_toArray, List.getElem?_cons_succ, List.getElem?_cons_zero]; exact rfl), rfl, ?_⟩
             have e0 : a.tmps[5]?.getD undef = .pointer (some ⟨mb, 0, none⟩) := (hoth 5 (by decide)).trans rfl
             go_simp
             exact hK _ W rfl hR (World.grownBy.refl _ _)
           · refine ⟨_, (by simp only [List.getElem?_toArray, List.getElem?_cons_succ, List.getElem?_cons_zero]; exact rfl), rfl, ?_⟩
             have e1 : a.tmps[41]?.getD undef = .pointer (some ⟨mb, 1, none⟩) := hdep 10 (by decide) (by kernel_rfl)
             have c1 := (gb_blk HM.out hR.1 hmb).cell 1
             go_simp
             exact hK _ W rfl hR (World.grownBy.refl _ _)
           · refine ⟨_, (by simp only [List.getElem?_toArray, List.getElem?_cons_succ, List.getElem?_cons_zero]; exact rfl), rfl, ?_⟩
             have e1 : a.tmps[42]?.getD undef = .slice (some ⟨g1, 0, none⟩) n1 2 := hdep 11 (by decide) (by kernel_rfl)
             go_simp
             exact hK _ W rfl hR (World.grownBy.refl _ _)
           · refine ⟨_, (by simp only [List.getElem?_toArray, List.getElem?_cons_succ, List.getElem?_cons_zero]; exact rfl), rfl, ?_⟩
             have e1 : a.tmps[40]?.getD undef = .pointer (some ⟨b, 0, none⟩) := hdep 9 (by decide) (by kernel_rfl)
             have e2 : a.tmps[43]?.getD undef = .int .i64 (n1 : Int) := hdep 12 (by decide) (by kernel_rfl)
             go_simp
             refine (PKN.out W n1 hR.2 (by omega) (by omega)).mono ?_
             rintro e w2 ⟨r, rfl, hr, hd1, hg1⟩
             exact hK _ w2 ⟨r, by omega, rfl⟩ ⟨grownBy_trans hR.1 hg1, hd1⟩ hg1
           · refine ⟨_, (by simp only [List.getElem?_toArray, List.getElem?_cons_succ, List.getElem?_cons_zero]; exact rfl), rfl, ?_⟩
             have e0 : a.tmps[0]?.getD undef = .pointer (some ⟨b, 0, none⟩) := (hoth 0 (by decide)).trans rfl
             go_simp
             exact hK _ W rfl hR (World.grownBy.refl _ _)
           · refine ⟨_, (by simp only [List.getElem?_toArray, List.getElem?_cons_succ, List.getElem?_cons_zero]; exact rfl), rfl, ?_⟩
             have e0 : a.tmps[6]?.getD undef = .int .i64 (n2 : Int) := (hoth 6 (by decide)).trans rfl
             go_simp
             exact hK _ W rfl hR (World.grownBy.refl _ _)
           · refine ⟨_, (by simp only [List.getElem?_toArray, List.getElem?_cons_succ, List.getElem?_cons_zero]; exact rfl), rfl, ?_⟩
             have e1 : a.tmps[45]?.getD undef = .pointer (some ⟨b, 0, none⟩) := hdep 14 (by decide) (by kernel_rfl)
             have e2 : a.tmps[46]?.getD undef = .int .i64 (n2 : Int) := hdep 15 (by decide) (by kernel_rfl)
             go_simp
             refine (INT.out W n2 2 hR.2 (by omega) (by omega) (by omega)).mono ?_
             rintro e w2 ⟨xs, A, c, rfl, z1, z2, z3, z4, z5⟩
             exact hK _ w2 ⟨xs, A, c, rfl, z1, z2, own_base z3 hR.1.size⟩ ⟨grownBy_trans hR.1 z5, z4⟩ z5
           · refine ⟨_, (by simp only [List.getElem?_toArray, List.getElem?_cons_succ, List.getElem?_cons_zero]; exact rfl), rfl, ?_⟩
             have e0 : a.tmps[0]?.getD undef = .pointer (some ⟨b, 0, none⟩) := (hoth 0 (by decide)).trans rfl
             go_simp
             exact hK _ W rfl hR (World.grownBy.refl _ _)
           · refine ⟨_, (by simp only [List.getElem?_toArray, List.getElem?_cons_succ, List.getElem?_cons_zero]; exact rfl), rfl, ?_⟩
             have e0 : a.tmps[6]?.getD undef = .int .i64 (n2 : Int) := (hoth 6 (by decide)).trans rfl
             go_simp
             exact hK _ W rfl hR (World.grownBy.refl _ _)
           · refine ⟨_, (by simp only [List.getElem?_toArray, List.getElem?_cons_succ, List.getElem?_cons_zero]; exact rfl), rfl, ?_⟩
             have e1 : a.tmps[48]?.getD undef = .pointer (some ⟨b, 0, none⟩) := hdep 17 (by decide) (by kernel_rfl)
             have e2 : a.tmps[49]?.getD undef = .int .i64 (n2 : Int) := hdep 18 (by decide) (by kernel_rfl)
             go_simp
             refine (INT.out W n2 2 hR.2 (by omega) (by omega) (by omega)).mono ?_
             rintro e w2 ⟨xs, A, c, rfl, z1, z2, z3, z4, z5⟩
             exact hK _ w2 ⟨xs, A, c, rfl, z1, z2, own_base z3 hR.1.size⟩ ⟨grownBy_trans hR.1 z5, z4⟩ z5
           · refine ⟨_, (by simp only [List.getElem?_toArray, List.getElem?_cons_succ, List.getElem?_cons_zero]; exact rfl), rfl, ?_⟩
             have e1 : a.tmps[34]?.getD undef = .string (nmR.getD k ⟨#[]⟩) := hdep 3 (by decide) (by kernel_rfl)
             obtain ⟨fr, hr1, e2⟩ : ∃ r : Nat, r < n1 ∧ a.tmps[39]?.getD undef = .int .i64 (r : Int) := hdep 8 (by decide) (by kernel_rfl)
             obtain ⟨tt, hr2, e3⟩ : ∃ r : Nat, r < n1 ∧ a.tmps[44]?.getD undef = .int .i64 (r : Int) := hdep 13 (by decide) (by kernel_rfl)
             obtain ⟨xs, A1, c1, e4, x1, x2, x3⟩ : IntsV w1.heap.size n2 (a.tmps[47]?.getD undef) W := hdep 16 (by decide) (by kernel_rfl)
             obtain ⟨ys, A2, c2, e5, y1, y2, y3⟩ : IntsV w1.heap.size n2 (a.tmps[50]?.getD undef) W := hdep 19 (by decide) (by kernel_rfl)
             go_simp
             exact hK _ W ⟨fr, tt, c1, c2, A1, A2, xs, ys, rfl, ⟨⟨by dsimp only; omega, by dsimp only; omega⟩, ⟨by dsimp only; omega, by dsimp only; omega⟩, x1, y1, x2, y2⟩, x3, y3⟩ hR (World.grownBy.refl _ _)
           · refine ⟨_, (by simp only [List.getElem?_toArray, List.getElem?_cons_succ, List.getElem?_cons_zero]; exact rfl), rfl, ?_⟩
             go_simp
             exact hK _ _ ⟨W.heap.size, rfl, Blk.new W _ _, hR.1.size⟩ ⟨grownBy_alloc hR.1 _, hR.2.al _⟩ (grownBy_alloc (World.grownBy.refl _ _) _)
         case hlast =>
           intro a W hdf hsz hR hoth hv
           refine ⟨_, (by simp only [List.getElem?_toArray, List.getElem?_cons_succ, List.getElem?_cons_zero]; exact rfl), rfl, ?_⟩
           have HSZ := Lib.hid hsz
           have HOT := Lib.hid hoth
           obtain ⟨fr, tt, c1, c2, A1, A2, xs, ys, x51, hct, hx, hy⟩ := hv 20 (by decide)
           obtain ⟨rb, x8, hrb, hrl⟩ := hv 21 (by decide)
           obtain ⟨ml, m0, m1, m2, m3, m4, m5, m6, m7, m8, m9, m10, m11, m12, m13⟩ := hrb.c14
           have f0 := hrb.frozen 0
           have f1 := hrb.frozen 1
           have f2 := hrb.frozen 2
           have f3 := hrb.frozen 3
           have f4 := hrb.frozen 4
           have f5 := hrb.frozen 5
           have f6 := hrb.frozen 6
           have f7 := hrb.frozen 7
           have f8 := hrb.frozen 8
           have f9 := hrb.frozen 9
           have f10 := hrb.frozen 10
           have f11 := hrb.frozen 11
           have f12 := hrb.frozen 12
           have f13 := hrb.frozen 13
           have x51 : a.tmps[51]?.getD undef = _ := x51
           have x8 : a.tmps[8]?.getD undef = _ := x8
           clear hsz hoth hv
           go_simp
           refine blk14_k hrb (fun W2 hb2 hg2 => ?_)
           clear m0 f0 m1 f1 m2 f2 m3 f3 m4 f4 m5 f5 m6 f6 m7 f7 m8 f8 m9 f9 m10 f10 m11 f11 m12 f12 m13 f13
           have ha := fold_all [31, 32, 33, 34, 35, 36, 37, 38, 39, 40, 41, 42, 43, 44, 45, 46, 47, 48, 49, 50, 51, 8] 22 rfl hdf HSZ.out (fun d h => (by decide : ∀ d ∈ ([31, 32, 33, 34, 35, 36, 37, 38, 39, 40, 41, 42, 43, 44, 45, 46, 47, 48, 49, 50, 51, 8] : List Nat), d < 85) d h) HOT.out
           simp only [List.map_cons, List.map_nil, List.foldl_cons, List.foldl_nil, x51, x8, put_mk, List.setIfInBounds_toArray, List.set_cons_succ, List.set_cons_zero] at ha
           generalize a.tmps[31]?.getD undef = u31 at ha
           generalize a.tmps[32]?.getD undef = u32 at ha
           generalize a.tmps[33]?.getD undef = u33 at ha
           generalize a.tmps[34]?.getD undef = u34 at ha
           generalize a.tmps[35]?.getD undef = u35 at ha
           generalize a.tmps[36]?.getD undef = u36 at ha
           generalize a.tmps[37]?.getD undef = u37 at ha
           generalize a.tmps[38]?.getD undef = u38 at ha
           generalize a.tmps[39]?.getD undef = u39 at ha
           generalize a.tmps[40]?.getD undef = u40 at ha
           generalize a.tmps[41]?.getD undef = u41 at ha
           generalize a.tmps[42]?.getD undef = u42 at ha
           generalize a.tmps[43]?.getD undef = u43 at ha
           generalize a.tmps[44]?.getD undef = u44 at ha
           generalize a.tmps[45]?.getD undef = u45 at ha
           generalize a.tmps[46]?.getD undef = u46 at ha
           generalize a.tmps[47]?.getD undef = u47 at ha
           generalize a.tmps[48]?.getD undef = u48 at ha
           generalize a.tmps[49]?.getD undef = u49 at ha
           generalize a.tmps[50]?.getD undef = u50 at ha
           clear x51 x8 HSZ HOT hdf
           subst ha
           go_wp2_with fail
           go_meet
           exact ⟨rb, fr, tt, c1, c2, A1, A2, rfl, Lib.hid ⟨xs, ys, hct, hb2, own_grown' hx hrb (by decide) hg2, own_grown' hy hrb (by decide) hg2, hR.2.grown hg2 (fun r e => by injection e with e; omega), gb_past hR.1 hg2 (fun r e => by injection e with e; omega), hrl⟩⟩
       case rest =>
         obtain ⟨rb, fr, tt, c1, c2, A1, A2, rfl, HC⟩ := hcut
         obtain ⟨wd, hwd⟩ : ∃ wd, wd = wc := ⟨_, rfl⟩
         subst hwd
         obtain ⟨xs, ys, hct, hrb, hx, hy, hdd, hgd, hrl⟩ := HC.out
         have hI2 := HI1.out.dice hb0 ⟨HB1.out.1, HB1.out.2.1, HB1.out.2.2.1⟩ HB1.out.2.2.2.1 hdd hgd
         have m7 := hI2.m.cell 7
         obtain ⟨hrlt, r0, r1, r2, r3, r4, r5, r6, r7, r8, r9, r10, r11, r12, r13⟩ := hrb.c14
         have hsz2 := hI2.sz
         have hmb1 := HB1.out.2.2.2.1
         have HOW : Hid (∀ o, (wd.alloc o).ownsRow W1.heap.size 75 14 (.slice VA k vc) k (ps.flatMap encR.enc)) := Lib.hid (fun o => by
           have := own_kept_below hI2.r.own ((Bw.refl wd).alloc o)
           rwa [HPL.out] at this)
         have HM2 := Lib.hid hI2.m
         have HI2 := Lib.hid hI2
         have HCT := Lib.hid hct
         have HX := Lib.hid hx
         have HY := Lib.hid hy
         have hs1 := HI1.out.sz
         have HI1S := Lib.hid hs1
         clear hs1 hI2 hct hx hy hdd hgd HI1 HM HC hrb
         go_wp2_with (at_builtin; go_must (refine wpList_append_any _ rfl _ _ 28 rfl W1.heap.size 75 i1 _ 14 232 Tryz.underlying28 hi1 hy0 hy1 hy2 rfl (by decide) (.slice VA k vc) k (ps.flatMap encR.enc) rfl (HOW.out _) (wd.heap.size + 1) (some ⟨wd.heap.size, 0, none⟩) 1 1 [.string (nmR.getD k ⟨#[]⟩), .int .i64 (fr : Int), .int .i64 (tt : Int), .slice A1 n2 c1, .slice A2 n2 c2, .slice none 0 0, .int .i64 0, .int .i64 0, .int .i64 0, .slice none 0 0, .slice none 0 0, .slice none 0 0, .slice none 0 0, .int .i64 0] rfl (reads_new14 wd _ rfl) (by simp [Value.oneCell']) (by unfold maxLen; omega) (by omega) (by simp; omega) ?_; intro v9 w9 hown9 hgr9 hl9; obtain ⟨A9, c9, rfl⟩ := own_form hown9; (have hm9' := (HM2.out.alloc (.cells #[.string (nmR.getD k ⟨#[]⟩), .int .i64 (fr : Int), .int .i64 (tt : Int), .slice A1 n2 c1, .slice A2 n2 c2, .slice none 0 0, .int .i64 0, .int .i64 0, .int .i64 0, .slice none 0 0, .slice none 0 0, .slice none 0 0, .slice none 0 0, .int .i64 0] 75)).grown hgr9 (fun e => by have := ((HOW.out (.cells #[] 0)).lt _ e.symm).1; have := HI2.out.mB; omega)); (have m9 := hm9'.cell 7); (have mf := hm9'.frozen 7); (have ml9 := hm9'.lt); (have HM9 := Lib.hid hm9'); (have HO9 := Lib.hid hown9); (have HG9 := Lib.hid hgr9); clear hown9 hgr9 hl9 hm9'))
         go_roundw
         case rel =>
           have hr7 : ∀ r, (Value.slice VA k vc).ownBlock = some r → W1.heap.size ≤ r := fun r e => ((HOW.out (.cells #[] 0)).lt r e).1
           have hA8 : Bw wd (wd.alloc (.cells #[.string (nmR.getD k ⟨#[]⟩), .int .i64 (fr : Int), .int .i64 (tt : Int), .slice A1 n2 c1, .slice A2 n2 c2, .slice none 0 0, .int .i64 0, .int .i64 0, .int .i64 0, .slice none 0 0, .slice none 0 0, .slice none 0 0, .slice none 0 0, .int .i64 0] 75)) := (Bw.refl _).alloc _
           have hpush := (HI2.out.r.bw hA8).push (v' := .slice A9 (k + 1) c9) (W := w9) (⟨nmR.getD k ⟨#[]⟩, (fr : Int), (tt : Int), xs, ys⟩, .slice A1 n2 c1, .slice A2 n2 c2) (by rw [HPL.out]; exact HO9.out) HG9.out (by dsimp only; rw [HCT.out.nl]; exact (own_base HX.out HI1S.out).alloc _) (by dsimp only; rw [HCT.out.gl]; exact (own_base HY.out HI1S.out).alloc _)
           have hgs : w9.grownBy (w9.setCell ⟨mb, 7, none⟩ (.slice A9 (k + 1) c9)) (some mb) := grownBy_setCell (p := ⟨mb, 7, none⟩) (World.grownBy.refl w9 (some mb)) (.inl rfl) _
           have hB := HB1.out.2.2.2
           have hW := HI2.out.g.size
           refine ⟨k + 1, by omega, by go_num, A9, c9, Lib.hid ⟨ps ++ [(⟨nmR.getD k ⟨#[]⟩, (fr : Int), (tt : Int), xs, ys⟩, .slice A1 n2 c1, .slice A2 n2 c2)], by simp [HPL.out], ⟨blk_set (i := 7) (.slice A9 (k + 1) c9) HM9.out, hpush.put hgs HI2.out.mB, ?_, ?_, ?_, ?_, ?_, ?_, ?_, HI2.out.mB⟩⟩⟩
           · rw [List.map_append, List.map_append, HI2.out.nm]
             simp only [List.map_cons, List.map_nil, List.length_append, List.length_singleton, HPL.out]
             rcases (by omega : k = 0 ∨ k = 1 ∨ k = 2) with rfl | rfl | rfl <;> rfl
           · intro q hq
             rcases List.mem_append.1 hq with hq | hq
             · exact HI2.out.ok q hq
             · rw [List.mem_singleton.1 hq]; exact HCT.out
           · have h1 := (HI2.out.s.alloc _).grown HG9.out (fun e => by have := hr7 _ e.symm; omega)
             exact h1.far (by dsimp only; exact h1.ne_ HM9.out (by decide)) _
           · have h1 := (HI2.out.p.alloc _).grown HG9.out (fun e => by have := hr7 _ e.symm; omega)
             exact h1.far (by dsimp only; exact h1.ne_ HM9.out (by decide)) _
           · exact ((HI2.out.d.al _).grown HG9.out (fun r e => by have := hr7 r e; omega)).grown hgs (fun r e => by injection e with e; have := HB1.out.1; omega)
           · exact gb_past (gb_past (grownBy_alloc HI2.out.g _) HG9.out (fun r e => by have := hr7 r e; have := HB1.out.2.2.2.2.2.2; omega)) hgs (fun r e => by injection e with e; have := HB1.out.1; omega)
           · have h1 := HG9.out.size
             have h2 := hgs.size
             simp at h1
             omega
         case measure => simp [intOf]; omega
     · have HK1 : Hid (1 ≤ k) := Lib.hid (by omega)
       obtain ⟨ps, hpl, hI⟩ := HR.out
       have hI1 := hI.dice hb0 ⟨HB1.out.1, HB1.out.2.1, HB1.out.2.2.1⟩ HB1.out.2.2.2.1 HD1.out.1 HD1.out.2
       have hbw : b < w1.heap.size := by have := hI1.sz; have := HB1.out.2.2.2.1; omega
       have HI1 := Lib.hid hI1
       have HPL := Lib.hid hpl
       have CF : Hid (∀ cs s W, IB W W.heap.size s cs → cs.length ≤ 1000 → Calls Tryz.prog 30 #[.int .i64 0, s] W (ValPost W (cfgV 0 cs))) := Lib.hid (fun cs s W h1 h2 => qconfig_any 0 cs s W h1 h2)
       clear hI hI1 HR HD1 hpl
       go_upto_region 14 with (first
         | (go_at_call 31; go_must (refine (INT.out w1 n2 3 HI1.out.d (by omega) (by omega) (by omega)).mono ?_; rintro e w2 ⟨cs, A, c, rfl, z1, z2, z3, z4, z5⟩; (have HZ := Lib.hid (And.intro z1 (And.intro z2 (And.intro z3 (And.intro z4 z5)))); clear z1 z2 z3 z4 z5)))
         | (go_at_call 30; go_must (refine (CF.out cs _ _ ((own_iat2 (by rw [HZ.out.1]; exact HZ.out.2.2.1)).keep (fun g hg => hg.2) (fun _ _ => rfl)) (by rw [HZ.out.1]; omega)).mono ?_; rintro e w3 ⟨s3, rfl, hk3, hb3⟩; obtain ⟨KA, kn, kc, rfl, -⟩ := hk3.form; (have hm3 := (HI1.out.dice hb0 ⟨HB1.out.1, HB1.out.2.1, HB1.out.2.2.1⟩ HB1.out.2.2.2.1 HZ.out.2.2.2.1 HZ.out.2.2.2.2).m.below hb3.b (Nat.lt_of_lt_of_le HI1.out.mB (Nat.le_trans HI1.out.sz HZ.out.2.2.2.2.size))); (have m8 := hm3.cell 8); (have m9 := hm3.cell 9); (have f8 := hm3.frozen 8); (have f9 := hm3.frozen 9); (have ml3 := hm3.lt); (have HM3 := Lib.hid hm3); (have HK3 := Lib.hid (And.intro hk3 hb3)); clear hm3 hk3 hb3)))
       refine wp_world (fun W => Hid (Blk W mb 33 (mdA (.slice (some ⟨g1, 0, none⟩) n1 2) (.slice (some ⟨g2, 0, none⟩) n2 2) (.slice VA k vc) (.slice KA kn kc)) ∧ w3.grownBy W (some mb))) (Lib.hid ⟨(HM3.out.set_ 8 (.int .i64 (cfgV 0 cs).n)).set_ 9 (.slice KA kn kc), grownBy_setCell (p := ⟨mb, 9, none⟩) (grownBy_setCell (p := ⟨mb, 8, none⟩) (World.grownBy.refl _ _) (.inl rfl) _) (.inl rfl) _⟩) ?_
       clear m8 m9 f8 f9 ml3 HM3 PKN INT CF
       intro W4 HW4
       have HG3 : Hid (W0.grownBy w3 (some b)) := Lib.hid (gb_bw (grownBy_trans HI1.out.g HZ.out.2.2.2.2) HK3.out.2)
       have HG4 : Hid (W0.grownBy W4 (some b)) := Lib.hid (gb_past HG3.out HW4.out.2 (fun r e => by injection e with e; have := HB1.out.1; omega))
       have hw0 := HW0.out.2.2.2
       have hres : Blk W4 w.heap.size 33 zM10 := gb_blk HW0.out.1 HG4.out (by omega)
       obtain ⟨rl, r0, r1, r2, r3, r4, r5, r6, r7, r8, r9⟩ := hres.c10
       obtain ⟨bl, b0, b1, b2, b3, b4, b5, b6, b7, b8, b9⟩ := HW4.out.1.c10
       have f0 := hres.frozen 0
       have f1 := hres.frozen 1
       have f2 := hres.frozen 2
       have f3 := hres.frozen 3
       have f4 := hres.frozen 4
       have f5 := hres.frozen 5
       have f6 := hres.frozen 6
       have f7 := hres.frozen 7
       have f8 := hres.frozen 8
       have f9 := hres.frozen 9
       have HRES := Lib.hid hres
       clear hres
       go_wp2
       have hst := blk10 (v0 := .int .i64 1) (v1 := .slice (some ⟨g1, 0, none⟩) n1 2) (v2 := .slice (some ⟨g2, 0, none⟩) n2 2) (v3 := .slice none 0 0) (v4 := .slice none 0 0) (v5 := .int .i64 0) (v6 := .int .i64 0) (v7 := .slice VA k vc) (v8 := .int .i64 0) (v9 := .slice KA kn kc) HRES.out
       refine bodyPost_ret (results_cell_row (p := 4) (ty := 33) rfl _ _ w.heap.size 33 _ (0, 0) _ rfl hst.1 Tryz.underlying33 rfl (by kernel_rfl)) rfl ?_
       have hgf := hst.2
       have hz5 := hgf.size
       have hz4 := HW4.out.2.size
       have hz3 := HK3.out.2.size
       have hz2 := HZ.out.2.2.2.2.size
       have hz1 := HI1.out.sz
       obtain ⟨hB1, hB2, hB3, hB4, hB5, hB6, hB7⟩ := HB1.out
       have hmB := HI1.out.mB
       have hrow : ∀ r, (Value.slice VA k vc).ownBlock = some r → W1.heap.size ≤ r ∧ r < w1.heap.size := fun r e => HI1.out.r.own.lt r e
       have hI2 := HI1.out.dice hb0 ⟨hB1, hB2, hB3⟩ hB4 HZ.out.2.2.2.1 HZ.out.2.2.2.2
       refine ⟨⟨nmS.take n1, nmP.take n2, ps.map (·.1), 0, cs⟩, _, _, _, _, ps, W1.heap.size, rfl, ⟨⟨n1 - 1, by omega, by rw [Nat.sub_add_cancel h11]⟩, ⟨n2 - 1, by omega, by rw [Nat.sub_add_cancel h21]⟩, ?_, ?_, ?_, rfl, ?_, HZ.out.2.1⟩, ?_, ?_, ?_, by omega, rfl, ?_, ?_, ?_⟩
       · dsimp only; rw [HI1.out.nm, List.length_map]
       · dsimp only; rw [List.length_map, HPL.out]; exact ⟨HK1.out, hk⟩
       · intro r hr
         obtain ⟨q, hq, rfl⟩ := List.mem_map.1 hr
         have h1 : (nmS.take n1).length = n1 := by simp [nmS]; omega
         have h2 : (nmP.take n2).length = n2 := by simp [nmP]; omega
         dsimp only
         rw [h1, h2]
         exact HI1.out.ok q hq
       · dsimp only; rw [HZ.out.1]; simp [nmP]; omega
       · exact str_at (gb_blk (gb_blk (hI2.s.below HK3.out.2.b (by omega)) HW4.out.2 ((hI2.s.ne_ hI2.m (by decide)))) hgf (by omega)) h12 ⟨by omega, by omega, fun e => by have := hrow _ e; omega⟩
       · exact str_at (gb_blk (gb_blk (hI2.p.below HK3.out.2.b (by omega)) HW4.out.2 ((hI2.p.ne_ hI2.m (by decide)))) hgf (by omega)) h22 ⟨by omega, by omega, fun e => by have := hrow _ e; omega⟩
       · exact ((hI2.r.bw HK3.out.2).put HW4.out.2 hmB).put hgf (by omega)
       · exact HK3.out.1.keep (fun g hg => ⟨by omega, by omega, fun e => by have := hrow _ e; omega⟩) (fun q hq => (World.cell?_of_block (hgf.block q.block (by omega) (fun e => by injection e with e; omega))).trans (World.cell?_of_block (HW4.out.2.block q.block hq.2 (fun e => by injection e with e; omega))))
       · exact ((hI2.d.bw HK3.out.2).grown HW4.out.2 (fun r e => by injection e with e; omega)).grown hgf (fun r e => by injection e with e; omega)
       · exact gb_past (grownBy_trans HW0.out.2.2.1 HG4.out) hgf (fun r e => by injection e with e; omega)
end
end Go.Proofs.YthhbkabdhkdafaaGreat
