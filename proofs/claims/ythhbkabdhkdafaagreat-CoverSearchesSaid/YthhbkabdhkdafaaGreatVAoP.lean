/- Part of a proof of coverSearches_holds. -/
import Derived.Test.YthhbkabdhkdafaaGreatVAnP
import Derived.Deep.RegionWith
import Derived.IntWalk
import Derived.Deep.DeepCutAuto
import Derived.Deep.CutBlock
set_option linter.unusedSimpArgs false
set_option linter.unusedVariables false
set_option maxRecDepth 100000
set_option maxHeartbeats 16000000
namespace Go.Proofs.YthhbkabdhkdafaaGreat
section
open Go.RowKit
structure BwOf (w : World) where
 val : World
 bw : Bw w val
instance (w : World) : Inhabited (BwOf w) := ⟨⟨w, Bw.refl w⟩⟩
theorem wp_region_quiet_bw {P : Program} {id : Nat} {Q : Exit → Act → World → Prop} {a : Act} {w : World} {l : List Oper} (hm : P.follows .mixedOrders = true) (hB : Region.lexB .any l.toArray = true)
   (h : wpQuiet P l.toArray (fun w' => ∃ p : BwOf w, w' = p.val) (fun a' => ∀ w', (∃ p : BwOf w, w' = p.val) → Q .normal a' w') l a) : (Code.region id l.toArray true).wp P Q a w :=
 wp_region_quiet (C := fun w' => ∃ p : BwOf w, w' = p.val) hm hB ⟨⟨w.drew, (Bw.refl w).drew⟩, rfl⟩ (by simpa using h)
theorem calls_bw {P : Program} {f : FuncId} {args : Array Value} {w : World} (p : BwOf w) {v : Value} (h : Calls P f args p.val fun e w' => e = .returned v ∧ Bw p.val w') : Calls P f args p.val fun e w'' => e = .returned v ∧ ∃ q : BwOf w, w'' = q.val :=
 h.mono fun _ w' ⟨he, hb⟩ => ⟨he, ⟨w', p.bw.trans hb⟩, rfl⟩
theorem mixedO : Tryz.prog.follows .mixedOrders = true := by kernel_rfl
def CloneVPost (w : World) (l : List V) (e : Ending) (w' : World) : Prop := ∃ s ps, e = .returned s ∧ w'.ownsRow w.heap.size 31 2 s ps.length (pCells ps) ∧ ps.map (·.1) = l ∧ (∀ p ∈ ps, KB w w.heap.size p.2 p.1.ks) ∧ Bw w w'
theorem cloneV_any (l : List V) (s : Value) (w : World) (h : KB w w.heap.size s l) (h9 : l.length ≤ 1000000) : Calls Tryz.prog 117 #[s] w (CloneVPost w l) := by
 obtain ⟨A, n, c, rfl, ln, bn, mn⟩ := h.form
 unfold maxLen at mn
 obtain ⟨ps, hpl, hpm, hrd, hkid⟩ := h.rows
 rw [ln] at h9
 have HK := Lib.hid hkid
 have HM := Lib.hid hpm
 have HR := Lib.hid hrd
 have HPL := Lib.hid hpl
 have H1 := Lib.hid (pcells_one hkid)
 obtain ⟨i0, hi, hz0, hz1, hz2⟩ := info_parts infoVal
 unfold CloneVPost
 have q22 : ∀ (w : World) (a : Option Addr) (n c n' c' : Nat), (binOp .eql 29 (.slice a n c) (.slice none n' c')).run Tryz.prog w = .ok (.bool a.isNone) w := fun w a n c n' c' => Lib.run_eql_slice_nil w _ _ a n c n' c' Tryz.underlying29
 clear h ln hkid hpm hrd hpl
 by_cases hA : A = none
 · subst hA
   obtain rfl : n = 0 := by
     rcases Nat.eq_zero_or_pos n with h0 | h0
     · exact h0
     · obtain ⟨ad, e, _⟩ := HR.out.2 h0; cases e
   have hp0 : ps = [] := List.length_eq_zero_iff.1 HPL.out
   go_enter Tryz.func117, Tryz.ntmps117
   go_wp2
   go_ret
   subst hp0
   exact ⟨_, [], rfl, World.ownsRow_nil _ _ _ _, HM.out, ⟨fun p hp => absurd hp (by simp), Bw.refl _⟩⟩
 · obtain ⟨ad, rfl⟩ := Option.ne_none_iff_exists'.1 hA
   clear hA
   have HO : Hid ((w.alloc (.cells #[] 31)).ownsRow w.heap.size 31 2 (.slice (some ⟨w.heap.size, 0, none⟩) 0 0) 0 []) := Lib.hid (own_new w 31 #[] 2 (n := 0) (xs := []) rfl rfl)
   have HR2 : Hid (Reads (w.alloc (.cells #[] 31)) w.heap.size 2 (some ad) n (pCells ps)) := Lib.hid (HR.out.below ((Below.refl _ _).alloc (Nat.le_refl _) _))
   go_enter Tryz.func117, Tryz.ntmps117
   go_wp2_with (at_builtin; go_must (refine wpList_append_any _ rfl _ _ 29 rfl w.heap.size 31 i0 _ 2 32 Tryz.underlying29 hi hz0 hz1 hz2 rfl (by decide) (.slice (some ⟨w.heap.size, 0, none⟩) 0 0) 0 [] rfl HO.out w.heap.size (some ad) n c (pCells ps) rfl HR2.out H1.out (by unfold maxLen; omega) (by omega) (by simp) ?_; intro v7 w7 hown7 hgr7 hl7; obtain ⟨A7, c7, rfl, -, -⟩ := own_bounds hown7; (have HO7 := Lib.hid hown7); (have HG7 := Lib.hid hgr7); clear hown7 hgr7 hl7))
   go_ret
   have hpl := HPL.out
   refine ⟨_, ps, rfl, ?_, HM.out, HK.out, ?_⟩
   · have := HO7.out
     rw [Nat.zero_add, List.nil_append] at this
     rw [hpl]; exact this
   · exact Below.grown ((Bw.refl w).alloc _) HG7.out (by simp) (fun r e => by have := (HO.out.lt r e).1; omega)
theorem blk2 {W : World} {b : Nat} {t : TypeId} {u0 u1 v0 v1 : Value} (h : Blk W b t #[u0, u1]) : Blk ((W.setCell ⟨b, 0, none⟩ v0).setCell ⟨b, 1, none⟩ v1) b t #[v0, v1] ∧ W.grownBy ((W.setCell ⟨b, 0, none⟩ v0).setCell ⟨b, 1, none⟩ v1) (some b) :=
 ⟨blk_set (i := 1) v1 (blk_set (i := 0) v0 h), grownBy_setCell (p := ⟨b, 1, none⟩) (grownBy_setCell (p := ⟨b, 0, none⟩) (World.grownBy.refl W (some b)) (.inl rfl) v0) (.inl rfl) v1⟩
structure OwnR (w wr : World) (k : Nat) (v : Value) (ps : List VS) : Prop where
 own : wr.ownsRow w.heap.size 31 2 v ps.length (pCells ps)
 fst : ∀ j (h : j < ps.length), j < k → KAt wr (fun b => w.heap.size ≤ b ∧ b < wr.heap.size ∧ v.ownBlock ≠ some b) ps[j].2 ps[j].1.ks
 lst : ∀ j (h : j < ps.length), k ≤ j → KB wr w.heap.size ps[j].2 ps[j].1.ks
 bw : Bw w wr
theorem OwnR.keep {w wr W : World} {k : Nat} {v : Value} {ps : List VS} (h : OwnR w wr k v ps) (g : Bw wr W) : OwnR w W k v ps :=
 ⟨h.own.kept g.gr (by rcases hv : v.ownBlock with _ | k <;> simp), fun j hj hk => (h.fst j hj hk).keep (fun b hb => ⟨hb.1, Nat.lt_of_lt_of_le hb.2.1 g.size, hb.2.2⟩) (fun p hp => g.b.cell hp.2.1), fun j hj hk => (h.lst j hj hk).under (Below.mono g.b h.bw.size), h.bw.trans g⟩
theorem OwnR.put {w wr W : World} {k : Nat} {g n c : Nat} {ps : List VS} (h : OwnR w wr k (.slice (some ⟨g, 0, none⟩) n c) ps) (hn : ps.length = n) (hk : k < n) {s : Value}
   (hs : KAt wr (fun b => w.heap.size ≤ b ∧ b < wr.heap.size ∧ g ≠ b) s (ps[k]'(by omega)).1.ks)
   (hW : W = (wr.setCell ⟨g, k * 2, none⟩ (.int .i64 (ps[k]'(by omega)).1.n)).setCell ⟨g, k * 2 + 1, none⟩ s) : OwnR w W (k + 1) (.slice (some ⟨g, 0, none⟩) n c) (ps.set k ((ps[k]'(by omega)).1, s)) ∧ (ps.set k ((ps[k]'(by omega)).1, s)).map (·.1) = ps.map (·.1) := by
 subst hn
 subst hW
 have hob : (Value.slice (some ⟨g, 0, none⟩) ps.length c).ownBlock = some g := rfl
 have hg0 := h.own.lt g hob
 have h1 := h.own.stored (k * 2) (.int .i64 ps[k].1.n)
 have h2 := h1.1.stored (k * 2 + 1) s
 rw [show ((pCells ps).set (k * 2) (.int .i64 ps[k].1.n)).set (k * 2 + 1) s = pCells (ps.set k (ps[k].1, s)) from pCells_set hk (ps[k].1, s)] at h2
 have hg : wr.grownBy ((wr.setCell ⟨g, k * 2, none⟩ (.int .i64 ps[k].1.n)).setCell ⟨g, k * 2 + 1, none⟩ s) (some g) := grownBy_setCell (p := ⟨g, k * 2 + 1, none⟩) h1.2 (.inl rfl) _
 have key : ∀ {S : Nat → Prop} {u : Value} {l : List V}, (∀ b, S b → b < wr.heap.size ∧ g ≠ b) → KAt wr S u l → KAt ((wr.setCell ⟨g, k * 2, none⟩ (.int .i64 ps[k].1.n)).setCell ⟨g, k * 2 + 1, none⟩ s) S u l := fun hS hh => hh.keep (fun b hb => hb) (fun p hp => World.cell?_of_block (hg.block p.block (hS _ hp).1 (fun e => (hS _ hp).2 (by injection e with e; exact e.symm))))
 have hsz := hg.size
 refine ⟨⟨by rw [List.length_set]; exact h2.1, fun j hj hjk => ?_, fun j hj hjk => ?_, Below.grown h.bw hg h.bw.size (fun r e => by injection e with e; omega)⟩, ?_⟩
 · rw [List.length_set] at hj
   by_cases e : j = k
   · subst e
     rw [List.getElem_set_self]
     exact (key (fun b hb => ⟨hb.2.1, hb.2.2⟩) hs).keep (fun b hb => ⟨hb.1, Nat.lt_of_lt_of_le hb.2.1 hsz, fun e => hb.2.2 (by injection e)⟩) (fun _ _ => rfl)
   · rw [List.getElem_set_ne (by omega)]
     exact (key (fun b hb => ⟨hb.2.1, fun e => hb.2.2 (by rw [hob, e])⟩) (h.fst j hj (by omega))).keep (fun b hb => ⟨hb.1, Nat.lt_of_lt_of_le hb.2.1 hsz, hb.2.2⟩) (fun _ _ => rfl)
 · rw [List.length_set] at hj
   rw [List.getElem_set_ne (by omega)]
   exact key (fun b hb => ⟨by have := h.bw.size; omega, by omega⟩) (h.lst j hj (by omega))
 · rw [List.map_set]
   apply List.ext_getElem (by simp)
   intro j h1 h2
   rw [List.getElem_set]
   split
   · rename_i e; subst e; simp
   · rfl
theorem OwnR.kat {w wr : World} {k : Nat} {v : Value} {ps : List VS} (h : OwnR w wr k v ps) (hk : ps.length ≤ k) : KAt wr (fun b => w.heap.size ≤ b ∧ b < wr.heap.size) v (ps.map (·.1)) := by
 refine (own_KAt (ss := ps.map (·.2)) (n := ps.length) (S := fun b => w.heap.size ≤ b ∧ b < wr.heap.size) (by rw [vCells_pairs]; exact h.own) (by simp) (by simp) (fun j h1 h2 => ?_)).keep (fun b hb => ?_) (fun _ _ => rfl)
 · have hj : j < ps.length := by simpa using h1
   have := (h.fst j hj (by omega)).keep (S' := fun b => w.heap.size ≤ b ∧ b < wr.heap.size) (fun b hb => ⟨hb.1, hb.2.1⟩) (fun _ _ => rfl)
   simpa using this
 · rcases hb with hb | hb
   · exact hb
   · exact h.own.lt b hb
theorem OwnR.cells {w wr : World} {k : Nat} {ad : Addr} {n c : Nat} {ps : List VS} (h : OwnR w wr k (.slice (some ad) n c) ps) (hn : ps.length = n) (hk : k < n) : w.heap.size ≤ ad.block ∧ ad.block < wr.heap.size ∧
   wr.cell? (ad.add (k * 2)) = some (.int .i64 (ps[k]'(by omega)).1.n) ∧ wr.cell? ⟨(ad.add (k * 2)).block, (ad.add (k * 2)).off + 1, none⟩ = some (ps[k]'(by omega)).2 ∧ wr.frozen? (ad.add (k * 2)) = false ∧ wr.frozen? ⟨(ad.add (k * 2)).block, (ad.add (k * 2)).off + 1, none⟩ = false := by
 subst hn
 obtain ⟨g, e, h1, h2, h3, h4⟩ := own_at h.own (by omega)
 injection e with e
 subst e
 have h5 := pCells_get hk
 rw [add_zero_blk]
 refine ⟨h2, h3, ?_, ?_, ?_, ?_⟩
 · rw [← add_zero_blk]; exact h4 _ _ h5.1
 · have := h4 _ _ h5.2
   rw [add_zero_blk] at this
   exact this
 · exact h.own.frozenAt _
 · exact h.own.frozenAt _
theorem OwnR.putA {w wr W : World} {k : Nat} {ad : Addr} {n c : Nat} {ps : List VS} (h : OwnR w wr k (.slice (some ad) n c) ps) (hn : ps.length = n) (hk : k < n) {s : Value}
   (hs : KAt wr (fun b => w.heap.size ≤ b ∧ b < wr.heap.size ∧ ad.block ≠ b) s (ps[k]'(by omega)).1.ks)
   (hW : W = (wr.setCell (ad.add (k * 2)) (.int .i64 (ps[k]'(by omega)).1.n)).setCell ⟨(ad.add (k * 2)).block, (ad.add (k * 2)).off + 1, none⟩ s) : OwnR w W (k + 1) (.slice (some ad) n c) (ps.set k ((ps[k]'(by omega)).1, s)) ∧ (ps.set k ((ps[k]'(by omega)).1, s)).map (·.1) = ps.map (·.1) := by
 subst hn
 obtain ⟨g, e, _⟩ := own_at h.own (by omega)
 injection e with e
 subst e
 rw [add_zero_blk] at hW
 exact h.put rfl hk hs hW
theorem sown_step (v : V) (h9 : v.ks.length ≤ 1000000) (ih : ∀ k ∈ v.ks, ∀ (s : Value) (W : World), KB W W.heap.size s k.ks → Calls Tryz.prog 68 #[aggV k s] W (ValPost W k)) (s : Value) (w : World) (h : KB w w.heap.size s v.ks) :
   Calls Tryz.prog 68 #[.agg #[.int .i64 v.n, s]] w (ValPost w v) := by
 obtain ⟨A, n, c, rfl, ln, bn, mn⟩ := h.form
 unfold maxLen at mn
 have CL : Hid (∀ W, Bw w W → Calls Tryz.prog 117 #[.slice A n c] W (CloneVPost W v.ks)) := Lib.hid (fun W g => cloneV_any v.ks _ W (h.bw g) h9)
 have HIH := Lib.hid ih
 have LN := Lib.hid ln
 rw [ln] at h9
 unfold ValPost
 clear h ln ih
 unfold CloneVPost at CL
 generalize hvk : v.ks = l at *
 generalize v.n = vn at *
 clear hvk
 go_enter Tryz.func68, Tryz.ntmps68
 go_wp2_with (go_at_call 117; go_must (refine (CL.out _ (((Bw.refl _).alloc _).alloc _)).mono ?_; rintro e w6 ⟨s6, ps6, rfl, ho6, hm6, hk6, hg6⟩; obtain ⟨A6, c6, rfl, _, _⟩ := own_bounds ho6; (have HO6 := Lib.hid ho6); (have HM6 := Lib.hid hm6); (have HK6 := Lib.hid hk6); (have HG6 := Lib.hid hg6); clear ho6 hm6 hk6 hg6))
 have hl6 : ps6.length = n := by rw [← LN.out, ← HM6.out]; simp
 rw [hl6]
 rw [hl6] at HO6
 have HL6 := Lib.hid hl6
 clear hl6
 have HOR : Hid (OwnR ((w.alloc (.cells #[.int .i64 vn, .slice A n c] 31)).alloc (.cells #[.int .i64 0, .slice none 0 0] 31)) w6 0 (.slice A6 n c6) ps6) := Lib.hid ⟨by rw [HL6.out]; exact HO6.out, fun j hj h0 => absurd h0 (by omega), fun j hj _ => (HK6.out _ (List.getElem_mem hj)).under HG6.out.b, HG6.out⟩
 have HBX : Hid (∀ W, Bw ((w.alloc (.cells #[.int .i64 vn, .slice A n c] 31)).alloc (.cells #[.int .i64 0, .slice none 0 0] 31)) W → Bw w W ∧ Blk W w.heap.size 31 #[.int .i64 vn, .slice A n c] ∧ Blk W (w.heap.size + 1) 31 #[.int .i64 0, .slice none 0 0]) := Lib.hid (fun W g => by
   have h1 := (Blk.new w 31 #[.int .i64 vn, .slice A n c]).alloc (.cells #[.int .i64 0, .slice none 0 0] 31)
   have h2 := Blk.new (w.alloc (.cells #[.int .i64 vn, .slice A n c] 31)) 31 #[.int .i64 0, .slice none 0 0]
   rw [World.size_alloc] at h2
   exact ⟨(((Bw.refl _).alloc _).alloc _).trans g, h1.below g.b h1.lt, h2.below g.b h2.lt⟩)
 have hz2 : ((w.alloc (.cells #[.int .i64 vn, .slice A n c] 31)).alloc (.cells #[.int .i64 0, .slice none 0 0] 31)).heap.size = w.heap.size + 2 := by simp
 clear HO6 HK6 HG6 CL
 generalize ((w.alloc (.cells #[.int .i64 vn, .slice A n c] 31)).alloc (.cells #[.int .i64 0, .slice none 0 0] 31)) = W2 at *
 go_loopw [4, 11] (fun _ i wr => ∃ k : Nat, k ≤ n ∧ i = .int .i64 k ∧ Hid (∃ qs, OwnR W2 wr k (.slice A6 n c6) qs ∧ qs.map (·.1) = l)) (fun _ i _ => n - (intOf i).toNat)
 case atStart => exact ⟨0, by omega, rfl, Lib.hid ⟨ps6, HOR.out, HM6.out⟩⟩
 case round =>
   clear HOR HM6 HL6
   obtain ⟨k, hk, rfl, HRR⟩ := hrel
   obtain ⟨qs, hor, hqm⟩ := HRR.out
   have hql : qs.length = n := by rw [← LN.out, ← hqm]; simp
   by_cases hlt : k < n
   · obtain ⟨g, eg, _⟩ := own_at (by have := hor.own; rwa [hql] at this) (Nat.lt_of_le_of_lt (Nat.zero_le _) hlt)
     obtain ⟨ad, rfl⟩ : ∃ ad, A6 = some ad := ⟨_, eg⟩
     clear eg
     have e1 : k < qs.length := by omega
     obtain ⟨b0, b1, q0, q1, fz0, fz1⟩ := hor.cells hql hlt
     have hkid := hor.lst k e1 (Nat.le_refl _)
     obtain ⟨sA, sn, sc, es, _, _, _⟩ := hkid.form
     have hmem : qs[k].1 ∈ l := by rw [← hqm]; exact List.mem_map.2 ⟨_, List.getElem_mem e1, rfl⟩
     rw [es] at q1 hkid
     have CM : Hid (∀ o, Calls Tryz.prog 68 #[.agg #[.int .i64 qs[k].1.n, .slice sA sn sc]] (wr.alloc o) (ValPost (wr.alloc o) qs[k].1)) := Lib.hid (fun o => HIH.out _ hmem _ _ ((hkid.under ((Below.refl _ _).alloc (hor.bw.size) o)).more (by have := hor.bw.size; simp; omega)))
     have HC : Hid (∀ W, Bw wr W → ad.block < W.heap.size ∧ W.cell? (ad.add (k * 2)) = some (.int .i64 qs[k].1.n) ∧ W.cell? ⟨(ad.add (k * 2)).block, (ad.add (k * 2)).off + 1, none⟩ = some (.slice sA sn sc) ∧ W.frozen? (ad.add (k * 2)) = false ∧ W.frozen? ⟨(ad.add (k * 2)).block, (ad.add (k * 2)).off + 1, none⟩ = false ∧ (∀ v, (W.setCell (ad.add (k * 2)) v).cell? ⟨(ad.add (k * 2)).block, (ad.add (k * 2)).off + 1, none⟩ = some (.slice sA sn sc))) := Lib.hid (fun W g => by
       obtain ⟨_, a1, a2, a3, a4, a5⟩ := (hor.keep g).cells hql hlt
       rw [es] at a3
       exact ⟨a1, a2, a3, a4, a5, fun v => (World.cell?_setCell_other _ _ _ _ (fun e => by have := congrArg Addr.off e; simp at this)).trans a3⟩)
     have HOR := Lib.hid hor
     have HQM := Lib.hid hqm
     have HQL := Lib.hid hql
     clear hor hqm HRR hkid hmem es fz0 fz1
     unfold ValPost at CM
     obtain ⟨xn, hxn⟩ : ∃ xn, qs[k].1.n = xn := ⟨_, rfl⟩
     have HXN := Lib.hid hxn
     rw [hxn] at CM HC q0
     clear hxn
     go_wp2_with (go_at_call 68; go_must (refine (CM.out _).mono ?_; rintro e w7 ⟨s7, rfl, hk7, hg7⟩; obtain ⟨A7, n7, c7, rfl, _, _, _⟩ := hk7.form; (have hg7' := ((Bw.refl wr).alloc _).trans hg7); (obtain ⟨a0, a1, a2, a3, a4, a5⟩ := HC.out _ hg7'); (have HK7 := Lib.hid hk7); (have HG7 := Lib.hid hg7'); clear hk7 hg7 hg7'))
     go_roundw
     case rel =>
       have hor7 := HOR.out.keep HG7.out
       have hkk : KAt w7 (fun b => W2.heap.size ≤ b ∧ b < w7.heap.size ∧ ad.block ≠ b) (.slice A7 n7 c7) (qs[k]'e1).1.ks := HK7.out.keep (fun b hb => ⟨by have := hb.1; have := HOR.out.bw.size; simp at *; omega, hb.2, by have := hb.1; simp at this; omega⟩) (fun _ _ => rfl)
       obtain ⟨h1, h2⟩ := hor7.putA HQL.out hlt hkk rfl
       refine ⟨k + 1, by omega, by go_num, Lib.hid ⟨_, ?_, h2.trans HQM.out⟩⟩
       rw [HXN.out] at h1
       exact h1
     case measure => simp [intOf]; omega
   · obtain rfl : k = n := by omega
     obtain ⟨hbw, hb0, hb1⟩ := HBX.out wr hor.bw
     have f0 := hb0.cell 0
     have f1 := hb1.cell 0
     have f2 := hb1.cell 1
     have f3 := hb1.frozen 0
     have f4 := hb1.frozen 1
     have l0 := hb0.lt
     have l1 := hb1.lt
     have HOR := Lib.hid hor
     have HQM := Lib.hid hqm
     have HQL := Lib.hid hql
     have HB1 := Lib.hid hb1
     have HBW := Lib.hid hbw
     clear hor hqm HRR hql hbw hb0 hb1
     go_wp2
     obtain ⟨hbb, hgr⟩ := blk2 (v0 := .int .i64 vn) (v1 := .slice A6 k c6) HB1.out
     refine bodyPost_ret (results_cell_row (p := 2) (ty := 31) rfl _ _ (w.heap.size + 1) 31 _ (0, 0) _ rfl hbb Tryz.underlying31 rfl (by kernel_rfl)) rfl ?_
     have hsz := hgr.size
     refine ⟨_, rfl, ?_, Below.grown HBW.out hgr HBW.out.size (fun r e => by injection e with e; omega)⟩
     have h1 := HOR.out.kat (by rw [HQL.out]; exact Nat.le_refl _)
     rw [HQM.out] at h1
     exact h1.keep (fun b hb => ⟨by omega, Nat.lt_of_lt_of_le hb.2 hsz⟩) (fun p hp => World.cell?_of_block (hgr.block p.block hp.2 (fun e => by injection e with e; omega)))
theorem sown_any (v : V) : v.size ≤ 1000000 → ∀ (s : Value) (w : World), KB w w.heap.size s v.ks → Calls Tryz.prog 68 #[aggV v s] w (ValPost w v) := by
 induction v using V.ind with
 | h n ks ih =>
   intro hsz s w h
   have h1 : sizeL ks < 1000000 := by simp [V.size] at hsz; omega
   exact sown_step (.mk n ks) (by have := sizeL_length ks; simp; omega) (fun v hv s2 W2 h2 => ih v hv (by have := sizeL_mem hv; simp only [V.ks_mk] at this; omega) s2 W2 h2) s w h
theorem VRow.fresh {w : World} {e L B b0 : Nat} {v : Value} {l : List V} {ss : List Value} (h : VRow w e L B v l ss) (h1 : b0 ≤ L) (h2 : b0 ≤ B) : KAt w (fun b => b0 ≤ b ∧ b < w.heap.size) v l :=
 (own_KAt h.own rfl h.len h.kid).keep (fun b hb => by
   rcases hb with hb | hb
   · exact ⟨by omega, hb.2.1⟩
   · have := h.own.lt b hb; exact ⟨by omega, this.2⟩) (fun _ _ => rfl)
end
def kw19 : List (List UInt8) := [[109, 111, 100, 101, 108], [115, 116, 97, 116, 101, 115], [112, 108, 97, 99, 101, 115], [108, 101, 116, 116, 101, 114, 115], [108, 101, 118, 101, 108, 115], [97, 103, 101], [114, 117, 108, 101], [110, 101, 101, 100], [103, 105, 118, 101], [109, 111, 118, 101], [101, 109, 112, 116, 121], [115, 101, 110, 100], [114, 101, 99, 101, 105, 118, 101], [112, 97, 116, 104], [110, 101, 120, 116], [116, 97, 107, 101], [109, 97, 107, 101], [115, 116, 97, 114, 116]]
def kwB (s : List UInt8) : Bool := kw19.any (fun z => z == s)
def namesM (m : Mdl) : List ByteArray := m.ss ++ m.ps ++ m.rs.map Rul.nm
structure NmOk (m : Mdl) : Prop where
 ok : ∀ s ∈ namesM m, wordL s.data.toList = true ∧ kwB s.data.toList = false ∧ s.size ≤ 100
 nd : ((namesM m).map fun s => s.data.toList).Nodup
 len : m.rs.length ≤ 12
def nmS : List ByteArray := [⟨#[97]⟩, ⟨#[98]⟩]
def nmP : List ByteArray := [⟨#[120]⟩, ⟨#[121]⟩]
def nmR : List ByteArray := [⟨#[114]⟩, ⟨#[115]⟩, ⟨#[116]⟩]
structure CtR (n k : Nat) (r : Rul) : Prop where
 fr : 0 ≤ r.fr ∧ r.fr < n
 tz : 0 ≤ r.tz ∧ r.tz < n
 nl : r.need.length = k
 gl : r.give.length = k
 n2 : ∀ x ∈ r.need, 0 ≤ x ∧ x ≤ 2
 g2 : ∀ x ∈ r.give, 0 ≤ x ∧ x ≤ 2
structure CtOk (m : Mdl) : Prop where
 ss : ∃ k, k < 2 ∧ m.ss = nmS.take (k + 1)
 ps : ∃ k, k < 2 ∧ m.ps = nmP.take (k + 1)
 rn : m.rs.map Rul.nm = nmR.take m.rs.length
 r1 : 1 ≤ m.rs.length ∧ m.rs.length ≤ 3
 ru : ∀ r ∈ m.rs, CtR m.ss.length m.ps.length r
 st : m.st = 0
 cl : m.cs.length = m.ps.length
 c3 : ∀ x ∈ m.cs, 0 ≤ x ∧ x ≤ 3
section
variable {m : Mdl}
theorem bd_getD {l : List Int} {a b : Int} (h : ∀ x ∈ l, a ≤ x ∧ x ≤ b) {j : Nat} (hj : j < l.length) : a ≤ l.getD j 0 ∧ l.getD j 0 ≤ b := by
 have := h _ (List.getElem_mem hj)
 rwa [show l.getD j 0 = l[j] by simp [List.getD, hj]]
theorem CtOk.sl (h : CtOk m) : 1 ≤ m.ss.length ∧ m.ss.length ≤ 2 := by
 obtain ⟨k, hk, e⟩ := h.ss
 rw [e]; simp [nmS]; omega
theorem CtOk.pl (h : CtOk m) : 1 ≤ m.ps.length ∧ m.ps.length ≤ 2 := by
 obtain ⟨k, hk, e⟩ := h.ps
 rw [e]; simp [nmP]; omega
theorem CtR.ok {n k : Nat} {r : Rul} (h : CtR n k r) : RulOk n k r := ⟨h.fr, h.tz, h.nl, h.gl, fun j hj => by
 have := bd_getD h.n2 (j := j) (by rw [h.nl]; exact hj); omega, fun j hj => by
 have := bd_getD h.g2 (j := j) (by rw [h.gl]; exact hj); omega⟩
theorem CtOk.ok (h : CtOk m) : MdlOk m := by
 have h1 := h.sl
 have h2 := h.pl
 refine ⟨by omega, by omega, fun r hr => (h.ru r hr).ok, ?_⟩
 refine one_flat.2 ⟨m.st, m.cs, rfl, by rw [h.st]; omega, by rw [h.st]; omega, h.cl, fun c hc => ?_⟩
 have := h.c3 c hc
 omega
theorem CtOk.nm (h : CtOk m) : NmOk m := by
 obtain ⟨k1, hk1, e1⟩ := h.ss
 obtain ⟨k2, hk2, e2⟩ := h.ps
 have h3 := h.r1
 have e : namesM m = nmS.take (k1 + 1) ++ nmP.take (k2 + 1) ++ nmR.take m.rs.length := by rw [namesM, e1, e2, h.rn]
 have hx : ∀ a b c : Nat, a < 2 → b < 2 → 1 ≤ c ∧ c ≤ 3 → (∀ s ∈ nmS.take (a + 1) ++ nmP.take (b + 1) ++ nmR.take c, wordL s.data.toList = true ∧ kwB s.data.toList = false ∧ s.size ≤ 100) ∧ ((nmS.take (a + 1) ++ nmP.take (b + 1) ++ nmR.take c).map fun s => s.data.toList).Nodup := by
   intro a b c ha hb hc
   have ha : a = 0 ∨ a = 1 := by omega
   have hb : b = 0 ∨ b = 1 := by omega
   have hc : c = 1 ∨ c = 2 ∨ c = 3 := by omega
   rcases ha with rfl | rfl <;> rcases hb with rfl | rfl <;> rcases hc with rfl | rfl | rfl <;> decide
 obtain ⟨a, b⟩ := hx k1 k2 _ hk1 hk2 h3
 exact ⟨by rw [e]; exact a, by rw [e]; exact b, by omega⟩
end
section
open Go.RowKit
theorem wpList_bvals {P : Program} {ops : Array Oper} {rest : List Oper} {o : Oper} {a : Act} {w : World} {Q : Exit → Act → World → Prop} (hgd : o.guard = none) (t e : TypeId) (len : Nat) (parts : Array (Nat × Operand)) (ho : o.op = .buildSlice t len parts) (vs : List Value)
   (hu : P.underlying t = some (.slice e)) (hsz : (P.info? e).map (·.size) = some 1) (hz : ((P.info? e).bind (·.zero)).isSome = true)
   (hlen : len = vs.length) (hpos : 0 < len) (hsmall : len ≤ 2 ^ 24) (h1 : ∀ v ∈ vs, v.cells = #[v])
   (hparts : (parts.map fun (i, x) => (i, a.eval x)).toList = (vs.zipIdx 0).map fun x => (x.2, x.1))
   (h : wpList P ops Q rest (a.put o.dst (.slice (some ⟨w.heap.size, 0, none⟩) len len)) (w.alloc (.cells vs.toArray e))) : wpList P ops Q (o :: rest) a w := by
 cases hie : P.info? e with
 | none => simp [hie] at hsz
 | some ie =>
   simp only [hie, Option.map_some, Option.some.injEq, Option.bind_some] at hsz hz
   obtain ⟨z, hzz⟩ := Option.isSome_iff_exists.1 hz
   refine wpList_plain hgd fun _ hK => wp_buildSlice t e len parts ho _ ie z hu hie hzz (by rw [hsz]; omega) (by rw [hsz]; omega) ?_ (hK _ _ h)
   rw [hparts, hsz]
   exact Great.fill_flat _ _ h1 (by simp [hlen])
theorem rrow1 {fn : Func} {p q : Tmp} {ty : TypeId} (h : fn.results = #[.cell p ty, .tmp q]) (tmps : Array Value) (w : World) (g : Nat) (cs : Array Value) (u : Value)
   (hp : tmps.getD p undef = .pointer (some ⟨g, 0, none⟩)) (hl : (loadVar ty ⟨g, 0, none⟩).run Tryz.prog w = .ok (.agg cs) w) (hq : tmps.getD q undef = u) :
   (results fn tmps).run Tryz.prog w = .ok (.tuple #[.agg cs, u]) w := by
 have hp' : tmps[p]?.getD undef = .pointer (some ⟨g, 0, none⟩) := by simpa using hp
 have hq' : tmps[q]?.getD undef = u := by simpa using hq
 simp [results, h, hp', hq', asAddr, hl]
theorem rrow2 {fn : Func} {p q r : Tmp} {ty : TypeId} (h : fn.results = #[.cell p ty, .tmp q, .tmp r]) (tmps : Array Value) (w : World) (g : Nat) (cs : Array Value) (u v : Value)
   (hp : tmps.getD p undef = .pointer (some ⟨g, 0, none⟩)) (hl : (loadVar ty ⟨g, 0, none⟩).run Tryz.prog w = .ok (.agg cs) w)
   (hq : tmps.getD q undef = u) (hr : tmps.getD r undef = v) :
   (results fn tmps).run Tryz.prog w = .ok (.tuple #[.agg cs, u, v]) w := by
 have hp' : tmps[p]?.getD undef = .pointer (some ⟨g, 0, none⟩) := by simpa using hp
 have hq' : tmps[q]?.getD undef = u := by simpa using hq
 have hr' : tmps[r]?.getD undef = v := by simpa using hr
 simp [results, h, hp', hq', hr', asAddr, hl]
theorem own_down {w : World} {B B' e size n : Nat} {v : Value} {xs : List Value} (h : w.ownsRow B' e size v n xs) (hb : B ≤ B') : w.ownsRow B e size v n xs := by
 refine ⟨h.1, ?_⟩
 rcases h.2 with h2 | ⟨g, cap, cur, h1, h2, h3⟩
 · exact .inl h2
 · exact .inr ⟨g, cap, cur, h1, Nat.le_trans hb h2, h3⟩
def IsAt (w : World) (B : Nat) (A : Option Addr) (cs : List Int) : Prop := Reads w B 1 A cs.length (intVs cs)
theorem intVs_get {cs : List Int} {i : Nat} (hi : i < cs.length) : (intVs cs)[i]? = some (.int .i64 (cs.getD i 0)) := by
 simp [intVs, List.getD, hi]
theorem add_none (b off j : Nat) : (⟨b, off, none⟩ : Addr).add j = ⟨b, off + j, none⟩ := by
 unfold Addr.add
 by_cases h : j = 0 <;> simp [h]
theorem IsAt.form {w : World} {B : Nat} {A : Option Addr} {cs : List Int} (h : IsAt w B A cs) (h0 : 0 < cs.length) : ∃ b off, A = some ⟨b, off, none⟩ ∧ b < B ∧ ∀ j, j < cs.length → w.cell? ⟨b, off + j, none⟩ = some (.int .i64 (cs.getD j 0)) := by
 obtain ⟨ad, e, hb, hc⟩ := h.2 h0
 obtain ⟨b, off, spot⟩ := ad
 have hs : spot = none := by
   have h1 := hc 0 _ (intVs_get h0)
   rw [show (⟨b, off, spot⟩ : Addr).add 0 = ⟨b, off, spot⟩ from by simp [Addr.add]] at h1
   cases spot with
   | none => rfl
   | some s =>
     exfalso
     simp only [World.cell?, Option.isSome_some, if_true] at h1
     split at h1 <;> cases h1
 subst hs
 refine ⟨b, off, e, hb, fun j hj => ?_⟩
 have h1 := hc j _ (intVs_get hj)
 rwa [add_none] at h1
def ClonePost (w : World) (cs : List Int) (n : Nat) (e : Ending) (w' : World) : Prop := ∃ g cap, e = .returned (.slice (some ⟨g, 0, none⟩) n cap) ∧ w'.ownsRow w.heap.size 3 1 (.slice (some ⟨g, 0, none⟩) n cap) n (intVs cs) ∧ Below w.heap.size w w'
theorem clone_any (A : Option Addr) (n c : Nat) (cs : List Int) (w : World) (h : IsAt w w.heap.size A cs) (hn : cs.length = n) (h0 : 0 < n) (h9 : n ≤ 1000) : Calls Tryz.prog 29 #[.slice A n c] w (ClonePost w cs n) := by
 obtain ⟨b, off, rfl, hb, hc⟩ := h.form (by omega)
 refine (Tryz.slices_Clone_int b off n c cs w (by omega) (by omega) hc).mono fun e w' h => ?_
 obtain ⟨v', he, hown, _, hbw⟩ := h
 rw [List.take_of_length_le (by omega)] at hown
 obtain ⟨g, cap, rfl, _, _⟩ := hown.form h0
 exact ⟨g, cap, he, hown, hbw⟩
end
end Go.Proofs.YthhbkabdhkdafaaGreat
