/- Part of a proof of pruneKeeps_holds. -/
import Derived.Test.YthhbkabdhkdafaaGreatVBsP
import Derived.Test.YthhbkabdhkdafaaGreatVBvP
set_option linter.unusedSimpArgs false
set_option linter.unusedVariables false
set_option maxRecDepth 100000
set_option maxHeartbeats 16000000
namespace Go.Proofs.YthhbkabdhkdafaaGreat
section
open Go.RowKit
def kpV (v0 v1 v2 v3 v7 v9 v10 : Value) (x : Int) : Nat → Value → World → Prop
 | 0, v, _ => v = v0
 | 1, v, _ => v = v1
 | 2, v, _ => v = v2
 | 3, v, _ => v = v3
 | 4, v, _ => v = v0
 | 5, v, _ => v = v1
 | 6, v, _ => v = v2
 | 7, v, _ => v = v7
 | 8, v, _ => v = v7
 | 9, v, _ => v = v9
 | 10, v, _ => v = v10
 | 11, v, _ => ∃ r : Nat, v = .int .i64 (r : Int) ∧ (r : Int) < x + 1
 | 12, v, _ => v = v7
 | 13, v, _ => v = v7
 | _, _, _ => True
theorem kpV_st {v0 v1 v2 v3 v7 v9 v10 : Value} {x : Int} {W W' : World} (k : Nat) (v : Value) (hk : k < 14) (h : kpV v0 v1 v2 v3 v7 v9 v10 x k v W) : kpV v0 v1 v2 v3 v7 v9 v10 x k v W' := by
 rcases (by omega : k = 0 ∨ k = 1 ∨ k = 2 ∨ k = 3 ∨ k = 4 ∨ k = 5 ∨ k = 6 ∨ k = 7 ∨ k = 8 ∨ k = 9 ∨ k = 10 ∨ k = 11 ∨ k = 12 ∨ k = 13) with rfl | rfl | rfl | rfl | rfl | rfl | rfl | rfl | rfl | rfl | rfl | rfl | rfl | rfl <;> exact h
theorem keeps_none {m : Mdl} (hct : CtOk m) {cs xs : List Int} (hr : ∃ st, Rch m (cfgV st cs)) (hl : xs.length = cs.length) (hx : ∀ j, j < cs.length → xs.getD j 0 ≤ cs.getD j 0) : ∀ y ∈ flowsM m, dotI y xs ≤ dotI y m.cs := by
 intro y hy
 obtain ⟨st, hr⟩ := hr
 have hok := flowsM_ok hct y hy
 obtain ⟨s, cs2, e, hl2, hd⟩ := rch_flow hct hok hr
 obtain ⟨rfl, rfl⟩ := cfgV_inj e
 rw [← hd]
 exact dot_le (fun x h => ((isFlow_of hok).bd x h).1) hl (fun i hi => hx i (by omega))
def BlI (W : World) (L g n c : Nat) (st : Int) (xs : List Int) : Prop := ∃ ps : List VS, ps.map (·.1) = (cfgV st xs).ks ∧ ps.length = n ∧ W.ownsRow L 31 2 (.slice (some ⟨g, 0, none⟩) n c) n (pCells ps) ∧ ∀ p ∈ ps, ∃ A' c', p.2 = .slice A' 0 c' ∧ c' ≤ maxLen
theorem cfg_leaf {st : Int} {xs : List Int} {v : V} (h : v ∈ (cfgV st xs).ks) : v.ks = [] := by
 rw [show (cfgV st xs).ks = .mk st [] :: xs.map (fun c => .mk c []) from rfl] at h
 rcases List.mem_cons.1 h with e | e
 · rw [e]; rfl
 · obtain ⟨x, -, e⟩ := List.mem_map.1 e
   rw [← e]; rfl
theorem BlI.kat {W : World} {L g n c : Nat} {st : Int} {xs : List Int} (h : BlI W L g n c st xs) (hL : L ≤ W.heap.size) : KB W W.heap.size (.slice (some ⟨g, 0, none⟩) n c) (cfgV st xs).ks := by
 obtain ⟨ps, h1, h2, h3, h4⟩ := h
 rw [← h1]
 have hm : MRow W L (.slice (some ⟨g, 0, none⟩) n c) ps := ⟨by rw [h2]; exact h3, fun p hp => by
   obtain ⟨A', c', e, hc⟩ := h4 p hp
   have hk : p.1.ks = [] := by
     have hp1 : p.1 ∈ (cfgV st xs).ks := by rw [← h1]; exact List.mem_map.2 ⟨p, hp, rfl⟩
     rw [show (cfgV st xs).ks = .mk st [] :: xs.map (fun c => .mk c []) from rfl] at hp1
     rcases List.mem_cons.1 hp1 with e | e
     · rw [e]; rfl
     · obtain ⟨x, -, e⟩ := List.mem_map.1 e
       rw [← e]; rfl
   rw [e, hk]
   exact KAt.nil _ _ hc⟩
 exact hm.kb hL
theorem pCells_set1 : ∀ {ps : List VS} {k : Nat} (h : k < ps.length) (y : Int), (pCells ps).set (k * 2) (.int .i64 y) = pCells (ps.set k (.mk y [], ps[k].2))
 | p :: r, 0, _, y => by simp [pCells_cons]
 | p :: r, k + 1, h, y => by
   have := pCells_set1 (ps := r) (k := k) (by simpa using h) y
   simp only [pCells_cons, Nat.add_mul, Nat.one_mul, List.set_cons_succ, List.getElem_cons_succ, ← this]
theorem BlI.set_ {W W' : World} {L g n c k : Nat} {st : Int} {xs : List Int} {r : Int} (h : BlI W L g n c st xs) (hk : k < xs.length) (ho : ∀ ys, W.ownsRow L 31 2 (.slice (some ⟨g, 0, none⟩) n c) n ys → W'.ownsRow L 31 2 (.slice (some ⟨g, 0, none⟩) n c) n (ys.set ((k + 1) * 2) (.int .i64 r))) : BlI W' L g n c st (xs.set k r) := by
 obtain ⟨ps, h1, h2, h3, h4⟩ := h
 have hl : ps.length = xs.length + 1 := by
   have := congrArg List.length h1
   simpa [cfgV] using this
 have hkp : k + 1 < ps.length := by omega
 refine ⟨ps.set (k + 1) (.mk r [], ps[k + 1].2), ?_, by rw [List.length_set]; exact h2, ?_, fun p hp => ?_⟩
 · rw [List.map_set, h1]
   simp [cfgV, List.map_set]
 · rw [← pCells_set1 hkp]
   exact ho _ h3
 · rcases List.mem_or_eq_of_mem_set hp with hp | rfl
   · exact h4 p hp
   · exact h4 ps[k + 1] (List.getElem_mem hkp)
structure KpI (w W9 wr : World) (b g : Nat) : Prop where
 bw : Bw w wr
 sz : W9.heap.size ≤ wr.heap.size
 hp : ∀ k, k < W9.heap.size → k ≠ b → k ≠ g → wr.heap[k]? = W9.heap[k]?
theorem KpI.grow {w W9 wr W' : World} {b g r : Nat} (h : KpI w W9 wr b g) (k : wr.grownBy W' (some r)) (hr : r = b ∨ r = g) (hb : w.heap.size ≤ b) (hg : w.heap.size ≤ g) : KpI w W9 W' b g :=
 ⟨bw_gbM h.bw k (fun q e => by injection e with e; omega), Nat.le_trans h.sz k.size, fun q hq h1 h2 => (k.block q (Nat.lt_of_lt_of_le hq h.sz) (fun e => by injection e with e; omega)).trans (h.hp q hq h1 h2)⟩
theorem KpI.cell {w W9 wr : World} {b g : Nat} (h : KpI w W9 wr b g) {p : Addr} (hp : p.block < W9.heap.size) (h1 : p.block ≠ b) (h2 : p.block ≠ g) : wr.cell? p = W9.cell? p := World.cell?_of_block (h.hp _ hp h1 h2)
theorem KpI.blk {w W9 wr : World} {b g q : Nat} {t : TypeId} {cs : Array Value} (h : KpI w W9 wr b g) (k : Blk W9 q t cs) (h1 : q ≠ b) (h2 : q ≠ g) : Blk wr q t cs := (h.hp q k.lt h1 h2).trans k
def XFalse (w : World) (e : Ending) (w' : World) : Prop := ∃ (A : Option Addr) (c : Nat), e = .returned (.tuple #[.slice A 0 c, .bool false, .int .i64 0]) ∧ Bw w w'
theorem exNone_any (m : Mdl) (hct : CtOk m) (st : Int) (xs : List Int) (hone : oneP 8 m.t (cfgV st xs) = true) (hno : ∀ y ∈ flowsM m, dotI y xs ≤ dotI y m.cs) (sv pv rv kv cv : Value) (w : World) (h : MB w w.heap.size sv pv rv kv m) (hk : KB w w.heap.size cv (cfgV st xs).ks) :
   Calls Tryz.prog 11 #[aggM sv pv rv kv, .agg #[.int .i64 0, cv]] w (XFalse w) :=
 (pnExcess_any m hct st xs hone sv pv rv kv cv w h hk).mono fun e w' h => by
   obtain ⟨A, k, c, over, rfl, hb, h⟩ := h
   rcases h with ⟨rfl, rfl, -⟩ | ⟨-, y, hy, -, hgt, -⟩
   · exact ⟨A, c, rfl, hb⟩
   · have := hno y hy
     omega
theorem keeps26_any (A : Option Addr) (n c : Nat) (w : World) (hA : SeedsArg w A n c) : Calls Tryz.prog 3 #[.slice A n c] w (fun e w' => e = .returned (.bool true) ∧ Bw w w') := by
 have NE : Hid (∀ W, Bw w W → Calls Tryz.prog 7 #[.slice A n c] W (PNewPost W)) := Lib.hid (fun W h => pnew_arg W A n c (hA.up h.b))
 have SN : Hid (∀ W, Calls Tryz.prog 6 #[] W fun e w' => e = .returned (.bool true) ∧ Bw W w') := Lib.hid sane26_any
 have ST : Hid (∀ W b, DiceOk W b → Calls Tryz.prog 8 #[.pointer (some ⟨b, 0, none⟩)] W (SteadyPost W b)) := Lib.hid (fun W b h => psteady_any W b h)
 obtain ⟨i0, hi0, hz0, hz1, hz2⟩ := info_parts infoVal
 clear hA
 go_enter Tryz.func3, Tryz.ntmps3
 go_upto_region 5 with (first
   | (go_at_call 6; go_must (refine (SN.out _).mono ?_; rintro e w1 ⟨rfl, hb1⟩; (have HB1 := Lib.hid hb1); clear hb1))
   | (go_at_call 7; go_must (refine (NE.out _ HB1.out).mono ?_; rintro e w2 ⟨rfl, hd2, hb2⟩; (have HD2 := Lib.hid hd2); (have HB2 := Lib.hid (And.intro hb2 (HB1.out.trans hb2))); clear hd2 hb2))
   | (go_at_call 8; go_must (refine (ST.out _ _ HD2.out).mono ?_; rintro e w3 ⟨m, sv, pv0, rv0, kv, rfl, hct, hma, hd3, hg3⟩; obtain ⟨A1, c1, A2, c2, A3, c3, A4, c4, rfl, rfl, rfl, rfl⟩ := hma.form; (have HS := Lib.hid (And.intro hct (And.intro hma (And.intro hd3 hg3)))); clear hct hma hd3 hg3)))
 have hw12 : w1.heap.size < w2.heap.size := HD2.out.lt
 have hw1 := HB1.out.size
 have hw23 := HS.out.2.2.2.size
 refine wp_world (fun W => Hid (MAt W (fun g => w1.heap.size < g ∧ g < W.heap.size) (.slice A1 m.ss.length c1) (.slice A2 m.ps.length c2) (.slice A3 m.rs.length c3) (.slice A4 (1 + m.cs.length) c4) m ∧ Blk W w3.heap.size 33 (mdA (.slice A1 m.ss.length c1) (.slice A2 m.ps.length c2) (.slice A3 m.rs.length c3) (.slice A4 (1 + m.cs.length) c4)) ∧ DiceOk W w1.heap.size ∧ Bw w W ∧ w3.heap.size < W.heap.size)) (Lib.hid ⟨HS.out.2.1.keep (fun g hg => ⟨by omega, by simp; omega⟩) (fun p hp => World.cell?_of_block (Below.heap_alloc w3 _ p.block hp.2)), Blk.new w3 _ _, HS.out.2.2.1.al _, (bw_gbM HB2.out.2 HS.out.2.2.2 (fun r e => by injection e with e; omega)).alloc _, by simp⟩) ?_
 have HCT : Hid (CtOk m) := Lib.hid HS.out.1
 have hbm : w1.heap.size < w3.heap.size := by omega
 clear HS NE SN ST HB1 HD2 HB2 hw12 hw23
 intro W5 HW5
 generalize w1.heap.size = b at *
 generalize w3.heap.size = mb at *
 have hr1 := HCT.out.r1
 have hq0 : ((m.rs.length : Int) == 0) = false := beq_eq_false_iff_ne.2 (by omega)
 have hq1 : ¬ ((m.rs.length : Int) = 0) := by omega
 obtain ⟨bl, b0, b1, b2, b3, b4, b5, b6, b7, b8, b9⟩ := HW5.out.2.1.c10
 have CNr := Lib.hid (pnear_any m HCT.out.ok HCT.out.nm W5 b HW5.out.2.2.1 6 (by omega) A1 A2 A3 A4 c1 c2 c3 c4 (HW5.out.1.keep (fun g hg => ⟨by omega, hg.2⟩) (fun _ _ => rfl)))
 unfold aggM at CNr
 unfold NearPost at CNr
 go_upto_region 8 with (go_at_call 9; go_must (refine CNr.out.mono ?_; rintro e w7 ⟨v, s, sv7, rfl, hrc, hvn, hkv, hd7, hg7⟩; obtain ⟨KA, kn, kc, rfl, -⟩ := hkv.form; (have HN7 := Lib.hid (And.intro hrc (And.intro hkv (And.intro hd7 hg7)))); clear hrc hvn hkv hd7 hg7))
 obtain ⟨st, cs, hvc⟩ := rch_cfg HN7.out.1
 subst hvc
 have hw7 := HN7.out.2.2.2.size
 have hmb5 := HW5.out.2.2.2.2
 have hd5 := HW5.out.2.2.1.lt
 refine wp_world (fun W => Hid (MAt W (fun g => b < g ∧ g < W5.heap.size) (.slice A1 m.ss.length c1) (.slice A2 m.ps.length c2) (.slice A3 m.rs.length c3) (.slice A4 (1 + m.cs.length) c4) m ∧ Blk W mb 33 (mdA (.slice A1 m.ss.length c1) (.slice A2 m.ps.length c2) (.slice A3 m.rs.length c3) (.slice A4 (1 + m.cs.length) c4)) ∧ Blk W w7.heap.size 31 #[.int .i64 0, .slice KA kn kc] ∧ KAt W (fun g => g ≠ b ∧ g < w7.heap.size) (.slice KA kn kc) (cfgV st cs).ks ∧ DiceOk W b ∧ Bw w W)) (Lib.hid ⟨HW5.out.1.keep (fun g hg => hg) (fun p hp => (World.cell?_of_block (Below.heap_alloc w7 _ p.block (by omega))).trans (World.cell?_of_block (HN7.out.2.2.2.block p.block hp.2 (fun e => by injection e with e; omega)))), (gb_blk HW5.out.2.1 HN7.out.2.2.2 (by omega)).alloc _, Blk.new w7 _ _, HN7.out.2.1.keep (fun g hg => hg) (fun p hp => World.cell?_of_block (Below.heap_alloc w7 _ p.block hp.2)), HN7.out.2.2.1.al _, (bw_gbM HW5.out.2.2.2.1 HN7.out.2.2.2 (fun r e => by injection e with e; omega)).alloc _⟩) ?_
 have HRC : Hid (Rch m (cfgV st cs)) := Lib.hid HN7.out.1
 clear CNr bl b0 b1 b2 b3 b4 b5 b6 b7 b8 b9 hq0 hq1
 intro W8 HW8
 have hc8 := HW8.out.2.2.1.lt
 have hone := rch_ok HCT.out.ok HRC.out
 obtain ⟨s9, cs9, e9, hs90, hs91, hcl, hcb⟩ := one_flat.1 hone
 obtain ⟨rfl, rfl⟩ := cfgV_inj e9
 obtain ⟨rfl, -⟩ := cfg_at HW8.out.2.2.2.1
 have HONE : Hid (cs.length = m.ps.length ∧ (∀ c ∈ cs, 0 ≤ c ∧ c ≤ 1048576) ∧ 0 ≤ st ∧ st < (m.ss.length : Int)) := Lib.hid ⟨hcl, hcb, hs90, hs91⟩
 have hcs2 : cs.length ≤ 2 := by rw [hcl]; exact HCT.out.pl.2
 obtain ⟨ps, hps, hrd, hpk, hone1⟩ := HW8.out.2.2.2.1.reads (B := W8.heap.size) (fun q hq => by omega)
 have hpl : ps.length = cs.length + 1 := by have := congrArg List.length hps; simpa [cfgV] using this
 have HP := Lib.hid (And.intro hps (And.intro hpl hpk))
 have HRD : Hid (∀ o, Reads (W8.alloc o) (W8.heap.size + 1) 2 KA (cs.length + 1) (pCells ps)) := Lib.hid (fun o => by
   refine ⟨hrd.1, fun h0 => ?_⟩
   obtain ⟨ad, e, hlt, hc⟩ := hrd.2 h0
   exact ⟨ad, e, by omega, fun j u hu => (World.cell?_alloc_lt W8 o (ad.add j) (by rw [add_block]; exact hlt)).trans (hc j u hu)⟩)
 have HON := Lib.hid hone1
 obtain ⟨cl8, q0, q1⟩ := HW8.out.2.2.1.c2
 have HN7s : Hid (W5.heap.size ≤ w7.heap.size ∧ mb < W5.heap.size ∧ b < W5.heap.size) := Lib.hid ⟨hw7, hmb5, hd5⟩
 clear hrd hpk hps hone1 hone e9 hs90 hs91 hcl hcb hpl HN7 HW5
 generalize w7.heap.size = cb at *
 have z0 : ∀ o, (W8.alloc o).cell? ⟨cb, 0, none⟩ = some (.int .i64 0) := fun o => (World.cell?_alloc_lt W8 o ⟨cb, 0, none⟩ cl8).trans q0
 have z1 : ∀ o, (W8.alloc o).cell? ⟨cb, 1, none⟩ = some (.slice KA (cs.length + 1) kc) := fun o => (World.cell?_alloc_lt W8 o ⟨cb, 1, none⟩ cl8).trans q1
 go_upto_region 9 with (at_builtin; go_must (refine wpList_append_any _ rfl _ _ 29 rfl W8.heap.size 31 i0 _ 2 32 Tryz.underlying29 hi0 hz0 hz1 hz2 rfl (by decide) (.slice (some ⟨W8.heap.size, 0, none⟩) 0 0) 0 [] rfl (own_new W8 _ _ _ rfl rfl) (W8.heap.size + 1) KA (cs.length + 1) kc (pCells ps) rfl (HRD.out _) HON.out (by unfold maxLen; omega) (by omega) (by simp) ?_; intro v9 w9 hown9 hgr9 hl9; obtain ⟨A9, c9, rfl⟩ := own_form hown9; (have HO9 := Lib.hid (And.intro hown9 hgr9)); clear hown9 hgr9 hl9))
 simp only [Nat.zero_add, List.nil_append] at HO9 ⊢
 obtain ⟨g, rfl, hgo, hg8, hg9, -⟩ := own_at HO9.out.1 (by omega)
 have hbw9 : Bw W8 w9 := bw_gbM ((Bw.refl W8).alloc _) HO9.out.2 (fun r e => by
   have e2 : some W8.heap.size = some r := e
   injection e2 with e2
   omega)
 have hs9 := hbw9.size
 refine wp_world (fun W => Hid (BlI W W8.heap.size g (cs.length + 1) c9 st cs ∧ Blk W w9.heap.size 31 #[.int .i64 0, .slice (some ⟨g, 0, none⟩) (cs.length + 1) c9] ∧ Bw W8 W)) (Lib.hid ⟨⟨ps, HP.out.1, HP.out.2.1, own_kept_below HO9.out.1 ((Bw.refl w9).alloc _).b, fun p hp => by
   have hk := HP.out.2.2 p hp
   rw [cfg_leaf (v := p.1) (by rw [← HP.out.1]; exact List.mem_map.2 ⟨p, hp, rfl⟩)] at hk
   obtain ⟨A', n', c', e, ln, -, hc⟩ := hk.form
   obtain rfl : n' = 0 := by simpa using ln.symm
   exact ⟨A', c', e, hc⟩⟩, Blk.new w9 _ _, hbw9.alloc _⟩) ?_
 have hHW8 : Hid (∀ W, Bw W8 W → MAt W (fun g => b < g ∧ g < W5.heap.size) (.slice A1 m.ss.length c1) (.slice A2 m.ps.length c2) (.slice A3 m.rs.length c3) (.slice A4 (1 + m.cs.length) c4) m ∧ Blk W mb 33 (mdA (.slice A1 m.ss.length c1) (.slice A2 m.ps.length c2) (.slice A3 m.rs.length c3) (.slice A4 (1 + m.cs.length) c4)) ∧ Blk W cb 31 #[.int .i64 0, .slice KA (cs.length + 1) kc] ∧ KAt W (fun g => g ≠ b ∧ g < cb) (.slice KA (cs.length + 1) kc) (cfgV st cs).ks ∧ DiceOk W b ∧ Bw w W) := Lib.hid (fun W k => by
   have hz := HN7s.out
   exact ⟨HW8.out.1.keep (fun _ hg => hg) (fun p hp => k.b.cell (by omega)), HW8.out.2.1.below k.b HW8.out.2.1.lt, HW8.out.2.2.1.below k.b HW8.out.2.2.1.lt, HW8.out.2.2.2.1.keep (fun _ hg => hg) (fun p hp => k.b.cell (by omega)), HW8.out.2.2.2.2.1.bw k, HW8.out.2.2.2.2.2.trans k⟩)
 clear z0 z1 q0 q1 HRD HON HP HO9 hbw9 hgo
 intro W9 HW9
 generalize hlb : w9.heap.size = lb at *
 clear hlb
 have hlb9 := HW9.out.2.1.lt
 have hb8 : b < W8.heap.size := HW8.out.2.2.2.2.1.lt
 have hmc : mb < cb := by have := HN7s.out; omega
 have hwb : w.heap.size ≤ b := hw1
 have hbg : b < W8.heap.size ∧ W8.heap.size ≤ g ∧ g < lb := ⟨hb8, hg8, by omega⟩
 have hs89 := HW9.out.2.2.size
 go_wp2_with fail
 go_loopw [8] (fun s8 wr => ∃ k : Nat, k ≤ cs.length ∧ s8 = .int .i64 ((k : Int) + 1) ∧ Hid (∃ xs : List Int, xs.length = cs.length ∧ (∀ j, j < cs.length → 0 ≤ xs.getD j 0 ∧ xs.getD j 0 ≤ cs.getD j 0) ∧ BlI wr W8.heap.size g (cs.length + 1) c9 st xs ∧ DiceOk wr b ∧ KpI w W9 wr b g)) (fun s8 _ => cs.length + 1 - (intOf s8).toNat)
 case atStart => exact ⟨0, by omega, by simp, Lib.hid ⟨cs, rfl, fun j hj => ⟨(bd_getD HONE.out.2.1 hj).1, Int.le_refl _⟩, HW9.out.1, (hHW8.out W9 HW9.out.2.2).2.2.2.2.1, (hHW8.out W9 HW9.out.2.2).2.2.2.2.2, Nat.le_refl _, fun _ _ _ _ => rfl⟩⟩
 case round =>
   obtain ⟨wi, hwi⟩ : ∃ wi, wi = wr := ⟨_, rfl⟩
   subst hwi
   obtain ⟨k, hk, rfl, HA⟩ := hrel
   obtain ⟨xs, hxl, hxb, hbl, hdi, hki⟩ := HA.out
   have hlbk := hki.blk HW9.out.2.1 (by omega) (by omega)
   by_cases hlt : k < cs.length
   · have hlt' : (k : Int) + 1 < (cs.length : Int) + 1 := by omega
     obtain ⟨ll, l0, l1⟩ := hlbk.c2
     have hxk := hxb k hlt
     have hkx : k < xs.length := by omega
     have hck : cs.getD k 0 ≤ 1048576 := (bd_getD HONE.out.2.1 hlt).2
     have e1 : xs.getD k 0 = xs[k] := by simp [List.getD, hkx]
     rw [e1] at hxk
     obtain ⟨ps2, hp1, hp2, hp3, hp4⟩ := hbl
     have hpk2 : k + 1 < ps2.length := by omega
     have hpx : ps2[k + 1].1.n = xs[k] := by
       have := List.getElem_map (fun p : VS => p.1) (l := ps2) (i := k + 1) (h := by simpa using hpk2)
       have e : (ps2.map (·.1))[k + 1]? = some (.mk xs[k] []) := by rw [hp1]; simp [cfgV, hkx]
       rw [List.getElem?_map, List.getElem?_eq_getElem hpk2] at e
       simp only [Option.map_some, Option.some.injEq] at e
       rw [e]; rfl
     have hcell := (hp3.cellAt ((k + 1) * 2) (by omega)).trans (pCells_get hpk2).1
     rw [hpx] at hcell
     have HIN := Lib.hid (And.intro hxl (And.intro hxb (And.intro hkx (And.intro hki hdi))))
     have HBI : Hid (ps2.map (·.1) = (cfgV st xs).ks ∧ ps2.length = cs.length + 1 ∧ wi.ownsRow W8.heap.size 31 2 (.slice (some ⟨g, 0, none⟩) (cs.length + 1) c9) (cs.length + 1) (pCells ps2)) := Lib.hid ⟨hp1, hp2, hp3⟩
     have HBL : Hid (BlI wi W8.heap.size g (cs.length + 1) c9 st xs) := Lib.hid ⟨ps2, hp1, hp2, hp3, hp4⟩
     have hgw := (hp3.lt g rfl).2
     have HR0 : Hid (DiceOk wi.drew b ∧ wi.grownBy wi.drew (some b)) := Lib.hid ⟨hdi.drewN 1, grownBy_drewN (World.grownBy.refl wi (some b)) 1⟩
     have hxx : 0 ≤ xs[k] ∧ xs[k] ≤ 1048576 := by omega
     have HXK : Hid (xs[k] ≤ cs.getD k 0) := Lib.hid hxk.2
     generalize xs[k] = x at *
     have hw9 : IntKind.i64.wrap (x + 1) = x + 1 := IntWalk.i64_in _ (by omega)
     have PK : Hid (∀ W, DiceOk W b → Calls Tryz.prog 10 #[.pointer (some ⟨b, 0, none⟩), .int .i64 (x + 1)] W (PickPost W b (x + 1))) := Lib.hid (fun W h => ppickB_any W b h (x + 1) (by omega) (by omega))
     have HRC : Hid (∀ W, wi.grownBy W (some b) → W.cell? ⟨lb, 1, none⟩ = some (.slice (some ⟨g, 0, none⟩) (cs.length + 1) c9) ∧ lb < W.heap.size ∧ W.cell? ⟨g, (k + 1) * 2, none⟩ = some (.int .i64 x)) := Lib.hid (fun W hg => ⟨(World.cell?_of_block (hg.block lb ll (fun e => by injection e with e; omega))).trans l1, Nat.lt_of_lt_of_le ll hg.size, (World.cell?_of_block (hg.block g hgw (fun e => by injection e with e; omega))).trans hcell⟩)
     clear hxl hxb hdi hki hlbk hp1 hp2 hp3 hp4 hpx hcell e1 hxk hck hpk2 hkx HA
     go_upto_region 12 with fail
     clear l0 l1
     refine wp_region_prod mixedO 14 (by rfl) (fun i => ([42, 43, 44, 45, 46, 47, 48, 49, 50, 51, 52, 53, 54, 55] : List Nat).getD i 0) (fun i j hi hj => (by decide : ∀ i, i < 14 → ∀ j, j < 14 → ([42, 43, 44, 45, 46, 47, 48, 49, 50, 51, 52, 53, 54, 55] : List Nat).getD i 0 = ([42, 43, 44, 45, 46, 47, 48, 49, 50, 51, 52, 53, 54, 55] : List Nat).getD j 0 → i = j) i hi j hj) (fun i hi => (by decide : ∀ i, i < 14 → ([42, 43, 44, 45, 46, 47, 48, 49, 50, 51, 52, 53, 54, 55] : List Nat).getD i 0 < 79) i hi)
       (fun W => DiceOk W b ∧ wi.grownBy W (some b)) (fun W W' => W.grownBy W' (some b)) (kpV (.pointer (some ⟨lb, 1, none⟩)) (.slice (some ⟨g, 0, none⟩) (cs.length + 1) c9) (.int .i64 ((k : Int) + 1)) (.pointer (some ⟨b, 0, none⟩)) (.pointer (some ⟨g, (k + 1) * 2, none⟩)) (.int .i64 x) (.int .i64 (x + 1)) x) HR0.out (fun k v W W' hk h g => kpV_st k v hk h) (by kernel_rfl) (by kernel_rfl) ?hstep ?hlast
     case hstep =>
       intro k9x hk9 a W2 hR hoth hdep K hK
       rcases (by omega : k9x = 0 ∨ k9x = 1 ∨ k9x = 2 ∨ k9x = 3 ∨ k9x = 4 ∨ k9x = 5 ∨ k9x = 6 ∨ k9x = 7 ∨ k9x = 8 ∨ k9x = 9 ∨ k9x = 10 ∨ k9x = 11 ∨ k9x = 12 ∨ k9x = 13) with rfl | rfl | rfl | rfl | rfl | rfl | rfl | rfl | rfl | rfl | rfl | rfl | rfl | rfl
       · refine ⟨_, (by simp only [List.getElem?_toArray, List.getElem?_cons_succ, List.getElem?_cons_zero]; exact rfl), rfl, ?_⟩
         have e0 : a.tmps[7]?.getD undef = .pointer (some ⟨lb, 0, none⟩) := (hoth 7 (by decide)).trans rfl
         go_simp
         exact hK _ W2 rfl hR (World.grownBy.refl _ _)
       · refine ⟨_, (by simp only [List.getElem?_toArray, List.getElem?_cons_succ, List.getElem?_cons_zero]; exact rfl), rfl, ?_⟩
         have e42 : a.tmps[42]?.getD undef = .pointer (some ⟨lb, 1, none⟩) := hdep 0 (by decide) (by kernel_rfl)
         obtain ⟨y0, y1, y2⟩ := HRC.out W2 hR.2
         go_simp
         exact hK _ W2 rfl hR (World.grownBy.refl _ _)
       · refine ⟨_, (by simp only [List.getElem?_toArray, List.getElem?_cons_succ, List.getElem?_cons_zero]; exact rfl), rfl, ?_⟩
         have e0 : a.tmps[8]?.getD undef = .int .i64 ((k : Int) + 1) := (hoth 8 (by decide)).trans rfl
         go_simp
         exact hK _ W2 rfl hR (World.grownBy.refl _ _)
       · refine ⟨_, (by simp only [List.getElem?_toArray, List.getElem?_cons_succ, List.getElem?_cons_zero]; exact rfl), rfl, ?_⟩
         have e0 : a.tmps[3]?.getD undef = .pointer (some ⟨b, 0, none⟩) := (hoth 3 (by decide)).trans rfl
         go_simp
         exact hK _ W2 rfl hR (World.grownBy.refl _ _)
       · refine ⟨_, (by simp only [List.getElem?_toArray, List.getElem?_cons_succ, List.getElem?_cons_zero]; exact rfl), rfl, ?_⟩
         have e0 : a.tmps[7]?.getD undef = .pointer (some ⟨lb, 0, none⟩) := (hoth 7 (by decide)).trans rfl
         go_simp
         exact hK _ W2 rfl hR (World.grownBy.refl _ _)
       · refine ⟨_, (by simp only [List.getElem?_toArray, List.getElem?_cons_succ, List.getElem?_cons_zero]; exact rfl), rfl, ?_⟩
         have e46 : a.tmps[46]?.getD undef = .pointer (some ⟨lb, 1, none⟩) := hdep 4 (by decide) (by kernel_rfl)
         obtain ⟨y0, y1, y2⟩ := HRC.out W2 hR.2
         go_simp
         exact hK _ W2 rfl hR (World.grownBy.refl _ _)
       · refine ⟨_, (by simp only [List.getElem?_toArray, List.getElem?_cons_succ, List.getElem?_cons_zero]; exact rfl), rfl, ?_⟩
         have e0 : a.tmps[8]?.getD undef = .int .i64 ((k : Int) + 1) := (hoth 8 (by decide)).trans rfl
         go_simp
         exact hK _ W2 rfl hR (World.grownBy.refl _ _)
       · refine ⟨_, (by simp only [List.getElem?_toArray, List.getElem?_cons_succ, List.getElem?_cons_zero]; exact rfl), rfl, ?_⟩
         have e47 : a.tmps[47]?.getD undef = .slice (some ⟨g, 0, none⟩) (cs.length + 1) c9 := hdep 5 (by decide) (by kernel_rfl)
         have e48 : a.tmps[48]?.getD undef = .int .i64 ((k : Int) + 1) := hdep 6 (by decide) (by kernel_rfl)
         go_simp
         exact hK _ W2 rfl hR (World.grownBy.refl _ _)
       · refine ⟨_, (by simp only [List.getElem?_toArray, List.getElem?_cons_succ, List.getElem?_cons_zero]; exact rfl), rfl, ?_⟩
         have e49 : a.tmps[49]?.getD undef = .pointer (some ⟨g, (k + 1) * 2, none⟩) := hdep 7 (by decide) (by kernel_rfl)
         go_simp
         exact hK _ W2 rfl hR (World.grownBy.refl _ _)
       · refine ⟨_, (by simp only [List.getElem?_toArray, List.getElem?_cons_succ, List.getElem?_cons_zero]; exact rfl), rfl, ?_⟩
         have e50 : a.tmps[50]?.getD undef = .pointer (some ⟨g, (k + 1) * 2, none⟩) := hdep 8 (by decide) (by kernel_rfl)
         obtain ⟨y0, y1, y2⟩ := HRC.out W2 hR.2
         go_simp
         exact hK _ W2 rfl hR (World.grownBy.refl _ _)
       · refine ⟨_, (by simp only [List.getElem?_toArray, List.getElem?_cons_succ, List.getElem?_cons_zero]; exact rfl), rfl, ?_⟩
         have e51 : a.tmps[51]?.getD undef = .int .i64 x := hdep 9 (by decide) (by kernel_rfl)
         go_simp
         exact hK _ W2 rfl hR (World.grownBy.refl _ _)
       · refine ⟨_, (by simp only [List.getElem?_toArray, List.getElem?_cons_succ, List.getElem?_cons_zero]; exact rfl), rfl, ?_⟩
         have e45 : a.tmps[45]?.getD undef = .pointer (some ⟨b, 0, none⟩) := hdep 3 (by decide) (by kernel_rfl)
         have e52 : a.tmps[52]?.getD undef = .int .i64 (x + 1) := hdep 10 (by decide) (by kernel_rfl)
         go_simp
         refine (PK.out W2 hR.1).mono ?_
         rintro e w6 ⟨r, rfl, hr, hd6, hg6⟩
         exact hK _ w6 ⟨r, rfl, hr⟩ ⟨hd6, grownBy_trans hR.2 hg6⟩ hg6
       · refine ⟨_, (by simp only [List.getElem?_toArray, List.getElem?_cons_succ, List.getElem?_cons_zero]; exact rfl), rfl, ?_⟩
         have e43 : a.tmps[43]?.getD undef = .slice (some ⟨g, 0, none⟩) (cs.length + 1) c9 := hdep 1 (by decide) (by kernel_rfl)
         have e44 : a.tmps[44]?.getD undef = .int .i64 ((k : Int) + 1) := hdep 2 (by decide) (by kernel_rfl)
         go_simp
         exact hK _ W2 rfl hR (World.grownBy.refl _ _)
       · refine ⟨_, (by simp only [List.getElem?_toArray, List.getElem?_cons_succ, List.getElem?_cons_zero]; exact rfl), rfl, ?_⟩
         have e54 : a.tmps[54]?.getD undef = .pointer (some ⟨g, (k + 1) * 2, none⟩) := hdep 12 (by decide) (by kernel_rfl)
         go_simp
         exact hK _ W2 rfl hR (World.grownBy.refl _ _)
     case hlast =>
       intro a W2 hdf hsz hR hoth hv
       refine ⟨_, (by simp only [List.getElem?_toArray, List.getElem?_cons_succ, List.getElem?_cons_zero]; exact rfl), rfl, ?_⟩
       obtain ⟨r, x53, hr⟩ : ∃ r : Nat, a.tmps[53]?.getD undef = .int .i64 (r : Int) ∧ (r : Int) < x + 1 := hv 11 (by decide)
       have x55 : a.tmps[55]?.getD undef = .pointer (some ⟨g, (k + 1) * 2, none⟩) := hv 13 (by decide)
       have hown2 := own_put HBI.out.2.2 hR.2 hbg.1
       have y0 : W2.cell? ⟨g, (k + 1) * 2, none⟩ = some (.int .i64 x) := (HRC.out W2 hR.2).2.2
       have y1 := hown2.frozenAt ((k + 1) * 2)
       have y2 := (hown2.lt g rfl).2
       have HSZ := Lib.hid hsz
       have HOT := Lib.hid hoth
       have HX2 := Lib.hid (And.intro hown2 (And.intro hR hr))
       clear hsz hoth hv hown2 hR hr
       go_simp
       obtain ⟨u42, x42⟩ : ∃ u, a.tmps[42]?.getD undef = u := ⟨_, rfl⟩
       obtain ⟨u43, x43⟩ : ∃ u, a.tmps[43]?.getD undef = u := ⟨_, rfl⟩
       obtain ⟨u44, x44⟩ : ∃ u, a.tmps[44]?.getD undef = u := ⟨_, rfl⟩
       obtain ⟨u45, x45⟩ : ∃ u, a.tmps[45]?.getD undef = u := ⟨_, rfl⟩
       obtain ⟨u46, x46⟩ : ∃ u, a.tmps[46]?.getD undef = u := ⟨_, rfl⟩
       obtain ⟨u47, x47⟩ : ∃ u, a.tmps[47]?.getD undef = u := ⟨_, rfl⟩
       obtain ⟨u48, x48⟩ : ∃ u, a.tmps[48]?.getD undef = u := ⟨_, rfl⟩
       obtain ⟨u49, x49⟩ : ∃ u, a.tmps[49]?.getD undef = u := ⟨_, rfl⟩
       obtain ⟨u50, x50⟩ : ∃ u, a.tmps[50]?.getD undef = u := ⟨_, rfl⟩
       obtain ⟨u51, x51⟩ : ∃ u, a.tmps[51]?.getD undef = u := ⟨_, rfl⟩
       obtain ⟨u52, x52⟩ : ∃ u, a.tmps[52]?.getD undef = u := ⟨_, rfl⟩
       obtain ⟨u54, x54⟩ : ∃ u, a.tmps[54]?.getD undef = u := ⟨_, rfl⟩
       have ha := fold_all [42, 43, 44, 45, 46, 47, 48, 49, 50, 51, 52, 53, 54, 55] 14 rfl hdf HSZ.out (fun d h => (by decide : ∀ d ∈ ([42, 43, 44, 45, 46, 47, 48, 49, 50, 51, 52, 53, 54, 55] : List Nat), d < 79) d h) HOT.out
       simp only [List.map_cons, List.map_nil, List.foldl_cons, List.foldl_nil, x42, x43, x44, x45, x46, x47, x48, x49, x50, x51, x52, x53, x54, x55, put_mk, List.setIfInBounds_toArray, List.set_cons_succ, List.set_cons_zero] at ha
       clear x42 x43 x44 x45 x46 x47 x48 x49 x50 x51 x52 x53 x54 x55 HSZ HOT hdf
       rw [ha]
       clear ha
       go_wp2_with fail
       obtain ⟨hxl, hxb, hkx, hki, hdi⟩ := HIN.out
       have hgs := HX2.out.1.stored ((k + 1) * 2) (.int .i64 (r : Int))
       have hki2 : KpI w W9 W2 b g := hki.grow HX2.out.2.1.2 (.inl rfl) hwb (by omega)
       have hki3 := hki2.grow hgs.2 (.inr rfl) hwb (by omega)
       have hrx := HX2.out.2.2
       have hxk := HXK.out
       exact ⟨⟨k + 1, by omega, by go_num, Lib.hid ⟨xs.set k (r : Int), by rw [List.length_set]; exact hxl, fun j hj => by
         by_cases hjk : k = j
         · subst hjk
           have e : (xs.set k (r : Int)).getD k 0 = (r : Int) := by simp [List.getD, hkx]
           rw [e]; omega
         · have e : (xs.set k (r : Int)).getD j 0 = xs.getD j 0 := by simp [List.getD, hjk]
           rw [e]; exact hxb j hj, HBL.out.set_ hkx (fun ys ho => ((own_put ho HX2.out.2.1.2 hbg.1).stored _ _).1), HX2.out.2.1.1.grown hgs.2 (fun q e => by
         have e2 : some g = some q := e
         injection e2 with e2
         omega), hki3⟩⟩, by simp [intOf]; omega⟩
   · obtain rfl : k = cs.length := by omega
     obtain ⟨hm9, hmb9, hcb9, hkc9, -, -⟩ := hHW8.out W9 HW9.out.2.2
     have hz7 := HN7s.out
     have hcw := HONE.out
     have hBMB := hki.blk hmb9 (by omega) (by omega)
     have hBCB := hki.blk hcb9 (by omega) (by omega)
     have hs9i := hki.sz
     have hMi : MB wi wi.heap.size (.slice A1 m.ss.length c1) (.slice A2 m.ps.length c2) (.slice A3 m.rs.length c3) (.slice A4 (1 + m.cs.length) c4) m := hm9.keep (fun q hq => by omega) (fun p hp => hki.cell (by omega) (by omega) (by omega))
     have hKi : KB wi wi.heap.size (.slice KA (cs.length + 1) kc) (cfgV st cs).ks := hkc9.keep (fun q hq => by omega) (fun p hp => hki.cell (by omega) hp.1 (by omega))
     have hXi := hbl.kat (by omega : W8.heap.size ≤ wi.heap.size)
     have hox : oneP 8 m.t (cfgV st xs) = true := one_flat.2 ⟨st, xs, rfl, hcw.2.2.1, hcw.2.2.2, by rw [hxl]; exact hcw.1, fun c hc => by
       obtain ⟨j, hj, rfl⟩ := List.getElem_of_mem hc
       have h1 := hxb j (by omega)
       have h2 := bd_getD hcw.2.1 (j := j) (by omega)
       have e : xs.getD j 0 = xs[j] := by simp [List.getD, hj]
       rw [e] at h1
       omega⟩
     have HX0 : Hid (∀ W, Bw wi W → Calls Tryz.prog 11 #[aggM (.slice A1 m.ss.length c1) (.slice A2 m.ps.length c2) (.slice A3 m.rs.length c3) (.slice A4 (1 + m.cs.length) c4), .agg #[.int .i64 0, .slice KA (cs.length + 1) kc]] W (XFalse W)) := Lib.hid (fun W k => exNone_any m HCT.out st cs (rch_ok HCT.out.ok HRC.out) (keeps_none HCT.out ⟨st, HRC.out⟩ rfl (fun _ _ => Int.le_refl _)) _ _ _ _ _ W (MAt.bw hMi k) (KAt.bw hKi k))
     have HX1 : Hid (∀ W, Bw wi W → Calls Tryz.prog 11 #[aggM (.slice A1 m.ss.length c1) (.slice A2 m.ps.length c2) (.slice A3 m.rs.length c3) (.slice A4 (1 + m.cs.length) c4), .agg #[.int .i64 0, .slice (some ⟨g, 0, none⟩) (cs.length + 1) c9]] W (XFalse W)) := Lib.hid (fun W k => exNone_any m HCT.out st xs hox (keeps_none HCT.out ⟨st, HRC.out⟩ hxl (fun j hj => (hxb j hj).2)) _ _ _ _ _ W (MAt.bw hMi k) (KAt.bw hXi k))
     have HMB := Lib.hid hBMB
     have HBW := Lib.hid hki.bw
     obtain ⟨ll, l0, l1⟩ := hlbk.c2
     obtain ⟨cl, k0, k1⟩ := hBCB.c2
     unfold XFalse aggM at HX0 HX1
     clear hm9 hmb9 hcb9 hkc9 hcw hBMB hBCB hMi hKi hXi hox hxl hxb hbl hdi hki hlbk HA
     go_wp2_with fail
     refine wp_world (fun W => Hid (Bw wi W ∧ Blk W wi.heap.size 31 #[.int .i64 0, .slice KA (cs.length + 1) kc, .int .i64 0, .slice (some ⟨g, 0, none⟩) (cs.length + 1) c9])) (Lib.hid ⟨(Bw.refl _).alloc _, Blk.new wi _ _⟩) ?_
     clear ll l0 l1 cl k0 k1
     intro WL HWL
     generalize hvb : wi.heap.size = vb at *
     clear hvb
     go_loopw [60] (fun s60 wr => ∃ q : Nat, q ≤ 2 ∧ s60 = .int .i64 (q : Int) ∧ Hid (Bw WL wr)) (fun s60 _ => 2 - (intOf s60).toNat)
     case atStart => exact ⟨0, by omega, rfl, Lib.hid (Bw.refl _)⟩
     case round =>
       obtain ⟨wq, hwq⟩ : ∃ wq, wq = wr := ⟨_, rfl⟩
       subst hwq
       obtain ⟨q, hq, rfl, HB⟩ := hrel
       by_cases hlt2 : q < 2
       · have hvbk := HWL.out.2.below HB.out.b HWL.out.2.lt
         obtain ⟨vl, v0, v1, v2, v3⟩ := hvbk.c4
         have HMQ : Hid (∀ W, Bw wq W → Bw wi W) := Lib.hid (fun W k => HWL.out.1.trans (HB.out.trans k))
         rcases (by omega : q = 0 ∨ q = 1) with rfl | rfl
         · go_upto_region 16 with fail
           refine wp_world (fun W => Hid (Bw wq W ∧ Blk W wq.heap.size 31 #[.int .i64 0, .slice KA (cs.length + 1) kc])) (Lib.hid ⟨(Bw.refl _).alloc _, Blk.new wq _ _⟩) ?_
           clear vl v0 v1 v2 v3 hvbk
           intro W2 HW2
           obtain ⟨xl, x0, x1⟩ := HW2.out.2.c2
           obtain ⟨bl, b0, b1, b2, b3, b4, b5, b6, b7, b8, b9⟩ := (HMB.out.below (HMQ.out W2 HW2.out.1).b HMB.out.lt).c10
           have CX := Lib.hid (HX0.out W2 (HMQ.out W2 HW2.out.1))
           go_wp2_with (go_at_call 11; go_must (refine CX.out.mono ?_; rintro e w6 ⟨XA, xc, rfl, hb6⟩; (have HB6 := Lib.hid (HW2.out.1.trans hb6)); clear hb6))
           exact ⟨⟨1, by omega, by go_num, Lib.hid (HB.out.trans HB6.out)⟩, by simp [intOf]⟩
         · go_upto_region 16 with fail
           refine wp_world (fun W => Hid (Bw wq W ∧ Blk W wq.heap.size 31 #[.int .i64 0, .slice (some ⟨g, 0, none⟩) (cs.length + 1) c9])) (Lib.hid ⟨(Bw.refl _).alloc _, Blk.new wq _ _⟩) ?_
           clear vl v0 v1 v2 v3 hvbk
           intro W2 HW2
           obtain ⟨xl, x0, x1⟩ := HW2.out.2.c2
           obtain ⟨bl, b0, b1, b2, b3, b4, b5, b6, b7, b8, b9⟩ := (HMB.out.below (HMQ.out W2 HW2.out.1).b HMB.out.lt).c10
           have CX := Lib.hid (HX1.out W2 (HMQ.out W2 HW2.out.1))
           go_wp2_with (go_at_call 11; go_must (refine CX.out.mono ?_; rintro e w6 ⟨XA, xc, rfl, hb6⟩; (have HB6 := Lib.hid (HW2.out.1.trans hb6)); clear hb6))
           exact ⟨⟨2, by omega, by go_num, Lib.hid (HB.out.trans HB6.out)⟩, by simp [intOf]⟩
       · obtain rfl : q = 2 := by omega
         go_wp2_with fail
         go_ret
         exact ⟨rfl, HBW.out.trans (HWL.out.1.trans HB.out)⟩
end
end Go.Proofs.YthhbkabdhkdafaaGreat
