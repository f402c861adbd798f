/- Part of a proof of pruneShows_holds. -/
import Derived.Test.YthhbkabdhkdafaaGreatUAmQ
import Derived.Test.YthhbkabdhkdafaaGreatUArQ
import Derived.Lib.AppendZerosOnto
set_option linter.unusedSimpArgs false
set_option linter.unusedVariables false
set_option maxRecDepth 100000
set_option maxHeartbeats 16000000
namespace Go.Proofs.YthhbkabdhkdafaaGreat
section
open Go.RowKit
def CloneVPost (w : World) (l : List V) (e : Ending) (w' : World) : Prop := ∃ s ps, e = .returned s ∧ w'.ownsRow w.heap.size 31 2 s ps.length (pCells ps) ∧ ps.map (·.1) = l ∧ (∀ p ∈ ps, KB w w.heap.size p.2 p.1.ks) ∧ Bw w w'
theorem cloneV_any (l : List V) (s : Value) (w : World) (h : KB w w.heap.size s l) (h9 : l.length ≤ 1000000) : Calls Tryz.prog 117 #[s] w (CloneVPost w l) := by
 obtain ⟨A, n, c, rfl, ln, bn, mn⟩ := h.form
 unfold maxLen at mn
 obtain ⟨ps, hpl, hpm, hrd, hkid⟩ := h.rows
 rw [ln] at h9
 have HK := Lib.hid hkid
 have HM := Lib.hid hpm
 have HR := Lib.hid hrd
 have HPL := Lib.hid hpl
 have H1 := Lib.hid (pcells_one hkid)
 obtain ⟨i0, hi, hz0, hz1, hz2⟩ := info_parts infoVal
 unfold CloneVPost
 have q22 : ∀ (w : World) (a : Option Addr) (n c n' c' : Nat), (binOp .eql 29 (.slice a n c) (.slice none n' c')).run Tryz.prog w = .ok (.bool a.isNone) w := fun w a n c n' c' => Lib.run_eql_slice_nil w _ _ a n c n' c' Tryz.underlying29
 clear h ln hkid hpm hrd hpl
 by_cases hA : A = none
 · subst hA
   obtain rfl : n = 0 := by
     rcases Nat.eq_zero_or_pos n with h0 | h0
     · exact h0
     · obtain ⟨ad, e, _⟩ := HR.out.2 h0; cases e
   have hp0 : ps = [] := List.length_eq_zero_iff.1 HPL.out
   go_enter Tryz.func117, Tryz.ntmps117
   go_wp2
   go_ret
   subst hp0
   exact ⟨_, [], rfl, World.ownsRow_nil _ _ _ _, HM.out, ⟨fun p hp => absurd hp (by simp), Bw.refl _⟩⟩
 · obtain ⟨ad, rfl⟩ := Option.ne_none_iff_exists'.1 hA
   clear hA
   have HO : Hid ((w.alloc (.cells #[] 31)).ownsRow w.heap.size 31 2 (.slice (some ⟨w.heap.size, 0, none⟩) 0 0) 0 []) := Lib.hid (own_new w 31 #[] 2 (n := 0) (xs := []) rfl rfl)
   have HR2 : Hid (Reads (w.alloc (.cells #[] 31)) w.heap.size 2 (some ad) n (pCells ps)) := Lib.hid (HR.out.below ((Below.refl _ _).alloc (Nat.le_refl _) _))
   go_enter Tryz.func117, Tryz.ntmps117
   go_wp2_with (at_builtin; go_must (refine wpList_append_any _ rfl _ _ 29 rfl w.heap.size 31 i0 _ 2 32 Tryz.underlying29 hi hz0 hz1 hz2 rfl (by decide) (.slice (some ⟨w.heap.size, 0, none⟩) 0 0) 0 [] rfl HO.out w.heap.size (some ad) n c (pCells ps) rfl HR2.out H1.out (by unfold maxLen; omega) (by omega) (by simp) ?_; intro v7 w7 hown7 hgr7 hl7; obtain ⟨A7, c7, rfl, -, -⟩ := own_bounds hown7; (have HO7 := Lib.hid hown7); (have HG7 := Lib.hid hgr7); clear hown7 hgr7 hl7))
   go_ret
   have hpl := HPL.out
   refine ⟨_, ps, rfl, ?_, HM.out, HK.out, ?_⟩
   · have := HO7.out
     rw [Nat.zero_add, List.nil_append] at this
     rw [hpl]; exact this
   · exact Below.grown ((Bw.refl w).alloc _) HG7.out (by simp) (fun r e => by have := (HO.out.lt r e).1; omega)
theorem blk2 {W : World} {b : Nat} {t : TypeId} {u0 u1 v0 v1 : Value} (h : Blk W b t #[u0, u1]) : Blk ((W.setCell ⟨b, 0, none⟩ v0).setCell ⟨b, 1, none⟩ v1) b t #[v0, v1] ∧ W.grownBy ((W.setCell ⟨b, 0, none⟩ v0).setCell ⟨b, 1, none⟩ v1) (some b) :=
 ⟨blk_set (i := 1) v1 (blk_set (i := 0) v0 h), grownBy_setCell (p := ⟨b, 1, none⟩) (grownBy_setCell (p := ⟨b, 0, none⟩) (World.grownBy.refl W (some b)) (.inl rfl) v0) (.inl rfl) v1⟩
structure OwnR (w wr : World) (k : Nat) (v : Value) (ps : List VS) : Prop where
 own : wr.ownsRow w.heap.size 31 2 v ps.length (pCells ps)
 fst : ∀ j (h : j < ps.length), j < k → KAt wr (fun b => w.heap.size ≤ b ∧ b < wr.heap.size ∧ v.ownBlock ≠ some b) ps[j].2 ps[j].1.ks
 lst : ∀ j (h : j < ps.length), k ≤ j → KB wr w.heap.size ps[j].2 ps[j].1.ks
 bw : Bw w wr
theorem OwnR.keep {w wr W : World} {k : Nat} {v : Value} {ps : List VS} (h : OwnR w wr k v ps) (g : Bw wr W) : OwnR w W k v ps :=
 ⟨h.own.kept g.gr (by rcases hv : v.ownBlock with _ | k <;> simp), fun j hj hk => (h.fst j hj hk).keep (fun b hb => ⟨hb.1, Nat.lt_of_lt_of_le hb.2.1 g.size, hb.2.2⟩) (fun p hp => g.b.cell hp.2.1), fun j hj hk => (h.lst j hj hk).under (Below.mono g.b h.bw.size), h.bw.trans g⟩
theorem OwnR.put {w wr W : World} {k : Nat} {g n c : Nat} {ps : List VS} (h : OwnR w wr k (.slice (some ⟨g, 0, none⟩) n c) ps) (hn : ps.length = n) (hk : k < n) {s : Value}
   (hs : KAt wr (fun b => w.heap.size ≤ b ∧ b < wr.heap.size ∧ g ≠ b) s (ps[k]'(by omega)).1.ks)
   (hW : W = (wr.setCell ⟨g, k * 2, none⟩ (.int .i64 (ps[k]'(by omega)).1.n)).setCell ⟨g, k * 2 + 1, none⟩ s) : OwnR w W (k + 1) (.slice (some ⟨g, 0, none⟩) n c) (ps.set k ((ps[k]'(by omega)).1, s)) ∧ (ps.set k ((ps[k]'(by omega)).1, s)).map (·.1) = ps.map (·.1) := by
 subst hn
 subst hW
 have hob : (Value.slice (some ⟨g, 0, none⟩) ps.length c).ownBlock = some g := rfl
 have hg0 := h.own.lt g hob
 have h1 := h.own.stored (k * 2) (.int .i64 ps[k].1.n)
 have h2 := h1.1.stored (k * 2 + 1) s
 rw [show ((pCells ps).set (k * 2) (.int .i64 ps[k].1.n)).set (k * 2 + 1) s = pCells (ps.set k (ps[k].1, s)) from pCells_set hk (ps[k].1, s)] at h2
 have hg : wr.grownBy ((wr.setCell ⟨g, k * 2, none⟩ (.int .i64 ps[k].1.n)).setCell ⟨g, k * 2 + 1, none⟩ s) (some g) := grownBy_setCell (p := ⟨g, k * 2 + 1, none⟩) h1.2 (.inl rfl) _
 have key : ∀ {S : Nat → Prop} {u : Value} {l : List V}, (∀ b, S b → b < wr.heap.size ∧ g ≠ b) → KAt wr S u l → KAt ((wr.setCell ⟨g, k * 2, none⟩ (.int .i64 ps[k].1.n)).setCell ⟨g, k * 2 + 1, none⟩ s) S u l := fun hS hh => hh.keep (fun b hb => hb) (fun p hp => World.cell?_of_block (hg.block p.block (hS _ hp).1 (fun e => (hS _ hp).2 (by injection e with e; exact e.symm))))
 have hsz := hg.size
 refine ⟨⟨by rw [List.length_set]; exact h2.1, fun j hj hjk => ?_, fun j hj hjk => ?_, Below.grown h.bw hg h.bw.size (fun r e => by injection e with e; omega)⟩, ?_⟩
 · rw [List.length_set] at hj
   by_cases e : j = k
   · subst e
     rw [List.getElem_set_self]
     exact (key (fun b hb => ⟨hb.2.1, hb.2.2⟩) hs).keep (fun b hb => ⟨hb.1, Nat.lt_of_lt_of_le hb.2.1 hsz, fun e => hb.2.2 (by injection e)⟩) (fun _ _ => rfl)
   · rw [List.getElem_set_ne (by omega)]
     exact (key (fun b hb => ⟨hb.2.1, fun e => hb.2.2 (by rw [hob, e])⟩) (h.fst j hj (by omega))).keep (fun b hb => ⟨hb.1, Nat.lt_of_lt_of_le hb.2.1 hsz, hb.2.2⟩) (fun _ _ => rfl)
 · rw [List.length_set] at hj
   rw [List.getElem_set_ne (by omega)]
   exact key (fun b hb => ⟨by have := h.bw.size; omega, by omega⟩) (h.lst j hj (by omega))
 · rw [List.map_set]
   apply List.ext_getElem (by simp)
   intro j h1 h2
   rw [List.getElem_set]
   split
   · rename_i e; subst e; simp
   · rfl
theorem OwnR.kat {w wr : World} {k : Nat} {v : Value} {ps : List VS} (h : OwnR w wr k v ps) (hk : ps.length ≤ k) : KAt wr (fun b => w.heap.size ≤ b ∧ b < wr.heap.size) v (ps.map (·.1)) := by
 refine (own_KAt (ss := ps.map (·.2)) (n := ps.length) (S := fun b => w.heap.size ≤ b ∧ b < wr.heap.size) (by rw [vCells_pairs]; exact h.own) (by simp) (by simp) (fun j h1 h2 => ?_)).keep (fun b hb => ?_) (fun _ _ => rfl)
 · have hj : j < ps.length := by simpa using h1
   have := (h.fst j hj (by omega)).keep (S' := fun b => w.heap.size ≤ b ∧ b < wr.heap.size) (fun b hb => ⟨hb.1, hb.2.1⟩) (fun _ _ => rfl)
   simpa using this
 · rcases hb with hb | hb
   · exact hb
   · exact h.own.lt b hb
theorem OwnR.cells {w wr : World} {k : Nat} {ad : Addr} {n c : Nat} {ps : List VS} (h : OwnR w wr k (.slice (some ad) n c) ps) (hn : ps.length = n) (hk : k < n) : w.heap.size ≤ ad.block ∧ ad.block < wr.heap.size ∧
   wr.cell? (ad.add (k * 2)) = some (.int .i64 (ps[k]'(by omega)).1.n) ∧ wr.cell? ⟨(ad.add (k * 2)).block, (ad.add (k * 2)).off + 1, none⟩ = some (ps[k]'(by omega)).2 ∧ wr.frozen? (ad.add (k * 2)) = false ∧ wr.frozen? ⟨(ad.add (k * 2)).block, (ad.add (k * 2)).off + 1, none⟩ = false := by
 subst hn
 obtain ⟨g, e, h1, h2, h3, h4⟩ := own_at h.own (by omega)
 injection e with e
 subst e
 have h5 := pCells_get hk
 rw [add_zero_blk]
 refine ⟨h2, h3, ?_, ?_, ?_, ?_⟩
 · rw [← add_zero_blk]; exact h4 _ _ h5.1
 · have := h4 _ _ h5.2
   rw [add_zero_blk] at this
   exact this
 · exact h.own.frozenAt _
 · exact h.own.frozenAt _
theorem OwnR.putA {w wr W : World} {k : Nat} {ad : Addr} {n c : Nat} {ps : List VS} (h : OwnR w wr k (.slice (some ad) n c) ps) (hn : ps.length = n) (hk : k < n) {s : Value}
   (hs : KAt wr (fun b => w.heap.size ≤ b ∧ b < wr.heap.size ∧ ad.block ≠ b) s (ps[k]'(by omega)).1.ks)
   (hW : W = (wr.setCell (ad.add (k * 2)) (.int .i64 (ps[k]'(by omega)).1.n)).setCell ⟨(ad.add (k * 2)).block, (ad.add (k * 2)).off + 1, none⟩ s) : OwnR w W (k + 1) (.slice (some ad) n c) (ps.set k ((ps[k]'(by omega)).1, s)) ∧ (ps.set k ((ps[k]'(by omega)).1, s)).map (·.1) = ps.map (·.1) := by
 subst hn
 obtain ⟨g, e, _⟩ := own_at h.own (by omega)
 injection e with e
 subst e
 rw [add_zero_blk] at hW
 exact h.put rfl hk hs hW
theorem sown_step (v : V) (h9 : v.ks.length ≤ 1000000) (ih : ∀ k ∈ v.ks, ∀ (s : Value) (W : World), KB W W.heap.size s k.ks → Calls Tryz.prog 68 #[aggV k s] W (ValPost W k)) (s : Value) (w : World) (h : KB w w.heap.size s v.ks) :
   Calls Tryz.prog 68 #[.agg #[.int .i64 v.n, s]] w (ValPost w v) := by
 obtain ⟨A, n, c, rfl, ln, bn, mn⟩ := h.form
 unfold maxLen at mn
 have CL : Hid (∀ W, Bw w W → Calls Tryz.prog 117 #[.slice A n c] W (CloneVPost W v.ks)) := Lib.hid (fun W g => cloneV_any v.ks _ W (h.bw g) h9)
 have HIH := Lib.hid ih
 have LN := Lib.hid ln
 rw [ln] at h9
 unfold ValPost
 clear h ln ih
 unfold CloneVPost at CL
 generalize hvk : v.ks = l at *
 generalize v.n = vn at *
 clear hvk
 go_enter Tryz.func68, Tryz.ntmps68
 go_wp2_with (go_at_call 117; go_must (refine (CL.out _ (((Bw.refl _).alloc _).alloc _)).mono ?_; rintro e w6 ⟨s6, ps6, rfl, ho6, hm6, hk6, hg6⟩; obtain ⟨A6, c6, rfl, _, _⟩ := own_bounds ho6; (have HO6 := Lib.hid ho6); (have HM6 := Lib.hid hm6); (have HK6 := Lib.hid hk6); (have HG6 := Lib.hid hg6); clear ho6 hm6 hk6 hg6))
 have hl6 : ps6.length = n := by rw [← LN.out, ← HM6.out]; simp
 rw [hl6]
 rw [hl6] at HO6
 have HL6 := Lib.hid hl6
 clear hl6
 have HOR : Hid (OwnR ((w.alloc (.cells #[.int .i64 vn, .slice A n c] 31)).alloc (.cells #[.int .i64 0, .slice none 0 0] 31)) w6 0 (.slice A6 n c6) ps6) := Lib.hid ⟨by rw [HL6.out]; exact HO6.out, fun j hj h0 => absurd h0 (by omega), fun j hj _ => (HK6.out _ (List.getElem_mem hj)).under HG6.out.b, HG6.out⟩
 have HBX : Hid (∀ W, Bw ((w.alloc (.cells #[.int .i64 vn, .slice A n c] 31)).alloc (.cells #[.int .i64 0, .slice none 0 0] 31)) W → Bw w W ∧ Blk W w.heap.size 31 #[.int .i64 vn, .slice A n c] ∧ Blk W (w.heap.size + 1) 31 #[.int .i64 0, .slice none 0 0]) := Lib.hid (fun W g => by
   have h1 := (Blk.new w 31 #[.int .i64 vn, .slice A n c]).alloc (.cells #[.int .i64 0, .slice none 0 0] 31)
   have h2 := Blk.new (w.alloc (.cells #[.int .i64 vn, .slice A n c] 31)) 31 #[.int .i64 0, .slice none 0 0]
   rw [World.size_alloc] at h2
   exact ⟨(((Bw.refl _).alloc _).alloc _).trans g, h1.below g.b h1.lt, h2.below g.b h2.lt⟩)
 have hz2 : ((w.alloc (.cells #[.int .i64 vn, .slice A n c] 31)).alloc (.cells #[.int .i64 0, .slice none 0 0] 31)).heap.size = w.heap.size + 2 := by simp
 clear HO6 HK6 HG6 CL
 generalize ((w.alloc (.cells #[.int .i64 vn, .slice A n c] 31)).alloc (.cells #[.int .i64 0, .slice none 0 0] 31)) = W2 at *
 go_loopw [4, 11] (fun _ i wr => ∃ k : Nat, k ≤ n ∧ i = .int .i64 k ∧ Hid (∃ qs, OwnR W2 wr k (.slice A6 n c6) qs ∧ qs.map (·.1) = l)) (fun _ i _ => n - (intOf i).toNat)
 case atStart => exact ⟨0, by omega, rfl, Lib.hid ⟨ps6, HOR.out, HM6.out⟩⟩
 case round =>
   clear HOR HM6 HL6
   obtain ⟨k, hk, rfl, HRR⟩ := hrel
   obtain ⟨qs, hor, hqm⟩ := HRR.out
   have hql : qs.length = n := by rw [← LN.out, ← hqm]; simp
   by_cases hlt : k < n
   · obtain ⟨g, eg, _⟩ := own_at (by have := hor.own; rwa [hql] at this) (Nat.lt_of_le_of_lt (Nat.zero_le _) hlt)
     obtain ⟨ad, rfl⟩ : ∃ ad, A6 = some ad := ⟨_, eg⟩
     clear eg
     have e1 : k < qs.length := by omega
     obtain ⟨b0, b1, q0, q1, fz0, fz1⟩ := hor.cells hql hlt
     have hkid := hor.lst k e1 (Nat.le_refl _)
     obtain ⟨sA, sn, sc, es, _, _, _⟩ := hkid.form
     have hmem : qs[k].1 ∈ l := by rw [← hqm]; exact List.mem_map.2 ⟨_, List.getElem_mem e1, rfl⟩
     rw [es] at q1 hkid
     have CM : Hid (∀ o, Calls Tryz.prog 68 #[.agg #[.int .i64 qs[k].1.n, .slice sA sn sc]] (wr.alloc o) (ValPost (wr.alloc o) qs[k].1)) := Lib.hid (fun o => HIH.out _ hmem _ _ ((hkid.under ((Below.refl _ _).alloc (hor.bw.size) o)).more (by have := hor.bw.size; simp; omega)))
     have HC : Hid (∀ W, Bw wr W → ad.block < W.heap.size ∧ W.cell? (ad.add (k * 2)) = some (.int .i64 qs[k].1.n) ∧ W.cell? ⟨(ad.add (k * 2)).block, (ad.add (k * 2)).off + 1, none⟩ = some (.slice sA sn sc) ∧ W.frozen? (ad.add (k * 2)) = false ∧ W.frozen? ⟨(ad.add (k * 2)).block, (ad.add (k * 2)).off + 1, none⟩ = false ∧ (∀ v, (W.setCell (ad.add (k * 2)) v).cell? ⟨(ad.add (k * 2)).block, (ad.add (k * 2)).off + 1, none⟩ = some (.slice sA sn sc))) := Lib.hid (fun W g => by
       obtain ⟨_, a1, a2, a3, a4, a5⟩ := (hor.keep g).cells hql hlt
       rw [es] at a3
       exact ⟨a1, a2, a3, a4, a5, fun v => (World.cell?_setCell_other _ _ _ _ (fun e => by have := congrArg Addr.off e; simp at this)).trans a3⟩)
     have HOR := Lib.hid hor
     have HQM := Lib.hid hqm
     have HQL := Lib.hid hql
     clear hor hqm HRR hkid hmem es fz0 fz1
     unfold ValPost at CM
     obtain ⟨xn, hxn⟩ : ∃ xn, qs[k].1.n = xn := ⟨_, rfl⟩
     have HXN := Lib.hid hxn
     rw [hxn] at CM HC q0
     clear hxn
     go_wp2_with (go_at_call 68; go_must (refine (CM.out _).mono ?_; rintro e w7 ⟨s7, rfl, hk7, hg7⟩; obtain ⟨A7, n7, c7, rfl, _, _, _⟩ := hk7.form; (have hg7' := ((Bw.refl wr).alloc _).trans hg7); (obtain ⟨a0, a1, a2, a3, a4, a5⟩ := HC.out _ hg7'); (have HK7 := Lib.hid hk7); (have HG7 := Lib.hid hg7'); clear hk7 hg7 hg7'))
     go_roundw
     case rel =>
       have hor7 := HOR.out.keep HG7.out
       have hkk : KAt w7 (fun b => W2.heap.size ≤ b ∧ b < w7.heap.size ∧ ad.block ≠ b) (.slice A7 n7 c7) (qs[k]'e1).1.ks := HK7.out.keep (fun b hb => ⟨by have := hb.1; have := HOR.out.bw.size; simp at *; omega, hb.2, by have := hb.1; simp at this; omega⟩) (fun _ _ => rfl)
       obtain ⟨h1, h2⟩ := hor7.putA HQL.out hlt hkk rfl
       refine ⟨k + 1, by omega, by go_num, Lib.hid ⟨_, ?_, h2.trans HQM.out⟩⟩
       rw [HXN.out] at h1
       exact h1
     case measure => simp [intOf]; omega
   · obtain rfl : k = n := by omega
     obtain ⟨hbw, hb0, hb1⟩ := HBX.out wr hor.bw
     have f0 := hb0.cell 0
     have f1 := hb1.cell 0
     have f2 := hb1.cell 1
     have f3 := hb1.frozen 0
     have f4 := hb1.frozen 1
     have l0 := hb0.lt
     have l1 := hb1.lt
     have HOR := Lib.hid hor
     have HQM := Lib.hid hqm
     have HQL := Lib.hid hql
     have HB1 := Lib.hid hb1
     have HBW := Lib.hid hbw
     clear hor hqm HRR hql hbw hb0 hb1
     go_wp2
     obtain ⟨hbb, hgr⟩ := blk2 (v0 := .int .i64 vn) (v1 := .slice A6 k c6) HB1.out
     refine bodyPost_ret (results_cell_row (p := 2) (ty := 31) rfl _ _ (w.heap.size + 1) 31 _ (0, 0) _ rfl hbb Tryz.underlying31 rfl (by kernel_rfl)) rfl ?_
     have hsz := hgr.size
     refine ⟨_, rfl, ?_, Below.grown HBW.out hgr HBW.out.size (fun r e => by injection e with e; omega)⟩
     have h1 := HOR.out.kat (by rw [HQL.out]; exact Nat.le_refl _)
     rw [HQM.out] at h1
     exact h1.keep (fun b hb => ⟨by omega, Nat.lt_of_lt_of_le hb.2 hsz⟩) (fun p hp => World.cell?_of_block (hgr.block p.block hp.2 (fun e => by injection e with e; omega)))
theorem sown_any (v : V) : v.size ≤ 1000000 → ∀ (s : Value) (w : World), KB w w.heap.size s v.ks → Calls Tryz.prog 68 #[aggV v s] w (ValPost w v) := by
 induction v using V.ind with
 | h n ks ih =>
   intro hsz s w h
   have h1 : sizeL ks < 1000000 := by simp [V.size] at hsz; omega
   exact sown_step (.mk n ks) (by have := sizeL_length ks; simp; omega) (fun v hv s2 W2 h2 => ih v hv (by have := sizeL_mem hv; simp only [V.ks_mk] at this; omega) s2 W2 h2) s w h
theorem infoStr : (Tryz.prog.info? 9).map (fun i => (i.zero, i.size, i.bytes)) = some (some (.string ⟨#[]⟩), 1, 16) := by kernel_rfl
def strVs (l : List ByteArray) : List Value := l.map Value.string
theorem strVs_append (a b : List ByteArray) : strVs a ++ strVs b = strVs (a ++ b) := by simp [strVs]
def StrsF (w : World) (l : List ByteArray) (e : Ending) (w' : World) : Prop := ∃ s, e = .returned s ∧ w'.ownsRow w.heap.size 9 1 s l.length (strVs l) ∧ Bw w w'
theorem own_StrB {w : World} {base : Nat} {e : TypeId} {v : Value} {l : List ByteArray} {n : Nat} (h : w.ownsRow base e 1 v n (strVs l)) (hn : l.length = n) : StrAt w (fun b => base ≤ b ∧ b < w.heap.size) v l := by
 subst hn
 obtain ⟨A, c, rfl, h1, h2⟩ := own_bounds h
 refine ⟨A, _, c, rfl, rfl, h1, h2, fun hn => ?_⟩
 obtain ⟨g, rfl, h3, h4, h5, h6⟩ := own_at h hn
 exact ⟨_, rfl, ⟨h4, h5⟩, fun k hk => h6 k _ (by simp [strVs, hk])⟩
theorem growS_any (n : Nat) (hn : n ≤ 1000000) (w : World) : Calls Tryz.prog 221 #[.slice none 0 0, .int .i64 n] w (fun e w' => ∃ s, e = .returned s ∧ w'.ownsRow w.heap.size 9 1 s 0 [] ∧ Bw w w') := by
 by_cases h0 : n = 0
 · subst h0
   go_enter Tryz.func221, Tryz.ntmps221
   go_wp2
   go_ret
   exact ⟨_, rfl, World.ownsRow_nil _ _ _ _, Bw.refl _⟩
 · obtain ⟨i0, hi, hz0, hz1, hz2⟩ := info_parts infoStr
   have hrz : ∀ ty, (Builtin.append_ #[26, 3] ty #[.slice none 0 0, .int .i64 (n : Int)]).run Tryz.prog w = _ := fun ty =>
     Lib.run_append_grow_zeros w 26 3 ty 9 i0 _ .i64 .i64 Tryz.underlying26 Tryz.underlying3 hi hz0 none 0 0 [] (run_firstCells_none w.drew i0.size 0 0 0) n (by omega) (by omega) (by omega) (by omega) (by rw [hz2]; omega) (growslice_fits (by omega) (by rw [hz2]; omega))
   have hGn : 0 + n ≤ grownCap w (0 + n) 0 9 := grownCap_ge w _ _ _
   have hG63 : grownCap w (0 + n) 0 9 ≤ maxLen := grownCap_le_maxLen w (0 + n) 0 9 (by unfold maxLen; omega)
   generalize grownCap w (0 + n) 0 9 = G at *
   have hsz : ((#[] : Array Value) ++ Builtin.zeroCells (Value.string ⟨#[]⟩).cells n ++ Builtin.zeroCells (Value.string ⟨#[]⟩).cells (G - n)).size = G := by
     simp [size_zeroCells, Value.cells]; omega
   simp only [Nat.zero_add] at hrz
   have HSZ := Lib.hid hsz
   clear hsz
   have hG := hG63
   unfold maxLen at hG63
   have hn0 : 0 < n := by omega
   go_enter Tryz.func221, Tryz.ntmps221
   go_wp2_with (at_builtin; refine Lib.wpList_append_run _ rfl _ _ _ _ rfl _ _ rfl rfl _ _ (hrz _) ?_)
   go_ret
   refine ⟨_, rfl, ⟨by simp, .inr ⟨w.heap.size, G, _, rfl, Nat.le_refl _, heap_alloc_new w.drew _, Nat.zero_le _, hG, by have := HSZ.out; simpa [Value.cells] using this, by simp⟩⟩, (Bw.refl _).drew.alloc _⟩
def SSAt (w : World) (S : Nat → Prop) (v : Value) (ls : List (List ByteArray)) : Prop := ∃ (A : Option Addr) (n c : Nat) (ss : List Value), v = .slice A n c ∧ ls.length = n ∧ ss.length = n ∧ n ≤ c ∧ c ≤ maxLen ∧ (0 < n → ∃ ad, A = some ad ∧ S ad.block ∧ ∀ k (h : k < ss.length), w.cell? (ad.add k) = some ss[k]) ∧
 ∀ k (h : k < ls.length) (h' : k < ss.length), StrAt w S ss[k] ls[k]
theorem SSAt.form {w : World} {S : Nat → Prop} {v : Value} {ls : List (List ByteArray)} (h : SSAt w S v ls) : ∃ A n c, v = .slice A n c ∧ ls.length = n ∧ n ≤ c ∧ c ≤ maxLen := by
 obtain ⟨A, n, c, ss, e, h1, _, h3, h4, _⟩ := h
 exact ⟨A, n, c, e, h1, h3, h4⟩
theorem SSAt.at_ {w : World} {S : Nat → Prop} {A : Option Addr} {n c : Nat} {ls : List (List ByteArray)} (h : SSAt w S (.slice A n c) ls) {k : Nat} (hk : k < ls.length) : ∃ ad sA sn sc, A = some ad ∧ S ad.block ∧ w.cell? (ad.add k) = some (.slice sA sn sc) ∧ ls[k].length = sn ∧ StrAt w S (.slice sA sn sc) ls[k] := by
 obtain ⟨A', n', c', ss, e, h1, h2, h3, h4, h5, h6⟩ := h
 injection e with e1 e2 e3
 subst e1 e2 e3
 obtain ⟨ad, rfl, hb, hc⟩ := h5 (by omega)
 have hi := h6 k hk (by omega)
 obtain ⟨sA, sn, sc, e, hl, _⟩ := hi.form
 refine ⟨ad, sA, sn, sc, rfl, hb, ?_, hl, ?_⟩
 · rw [hc k (by omega), e]
 · rw [← e]; exact hi
theorem flatS_take {ls : List (List ByteArray)} {k : Nat} (h : k < ls.length) : (ls.take (k + 1)).flatten = (ls.take k).flatten ++ ls[k] := by
 rw [List.take_succ_eq_append_getElem h, List.flatten_append]; simp
theorem flatS_le (ls : List (List ByteArray)) (k : Nat) : (ls.take k).flatten.length ≤ ls.flatten.length := by
 have := congrArg List.flatten (List.take_append_drop k ls)
 rw [List.flatten_append] at this
 rw [← this]; simp
theorem concatS_any (ls : List (List ByteArray)) (hn : ls.flatten.length ≤ 1000000) (s : Value) (w : World) (h : SSAt w (· < w.heap.size) s ls) : Calls Tryz.prog 154 #[s] w (StrsF w ls.flatten) := by
 obtain ⟨A, n, c, rfl, ln, bn, mn⟩ := h.form
 unfold maxLen at mn
 have H := Lib.hid h
 have LN := Lib.hid ln
 have HN := Lib.hid hn
 unfold StrsF
 clear h ln hn
 obtain ⟨i0, hi, hz0, hz1, hz2⟩ := info_parts infoStr
 go_enter Tryz.func154, Tryz.ntmps154
 go_wp2_with fail
 go_loopw [3, 5, 11] (fun s3 _ i wr => ∃ k m : Nat, k ≤ n ∧ i = .int .i64 k ∧ s3 = .int .i64 m ∧ m ≤ 1000000 ∧ Hid (m = (ls.take k).flatten.length ∧ w = wr)) (fun _ _ i _ => n - (intOf i).toNat)
 case atStart => exact ⟨0, 0, by omega, rfl, rfl, by omega, Lib.hid ⟨by simp, rfl⟩⟩
 case round =>
   obtain ⟨k, m, hk, rfl, rfl, hm, HR⟩ := hrel
   obtain ⟨hm2, rfl⟩ := HR.out
   have HM := Lib.hid hm2
   clear hm2 HR
   by_cases hlt : k < n
   · have e1 : k < ls.length := by rw [LN.out]; exact hlt
     obtain ⟨ad, sA, sn, sc, rfl, hb, q0, sl, hs⟩ := H.out.at_ e1
     have hms : m + sn ≤ 1000000 := by
       have h1 := flatS_le ls (k + 1)
       rw [flatS_take e1, List.length_append, ← HM.out, sl] at h1
       have := HN.out; omega
     have HM2 : Hid (m + sn = (ls.take (k + 1)).flatten.length) := Lib.hid (by rw [flatS_take e1, List.length_append, ← HM.out, sl])
     have h00 : ¬ ((m : Int) + (sn : Int) < 0) := by omega
     clear hs sl hb
     go_wp2
     go_roundw
     case rel => exact ⟨k + 1, m + sn, by omega, by go_num, by go_num, hms, Lib.hid ⟨HM2.out, trivial⟩⟩
     case measure => simp [intOf]; omega
   · obtain rfl : n = k := by omega
     have CG := Lib.hid (growS_any m hm w)
     go_wp2_with (go_at_call 221; go_must (refine CG.out.mono ?_; rintro e w6 ⟨s6, rfl, hr6, hg6⟩; obtain ⟨A6, c6, rfl, -, -⟩ := own_bounds hr6; (have HR6 := Lib.hid hr6); (have HG6 := Lib.hid hg6); clear hr6 hg6))
     have HB6 : Hid (w.heap.size ≤ w6.heap.size) := Lib.hid HG6.out.size
     go_loopw [6, 8, 27] (fun s6 _ i wr => ∃ k : Nat, k ≤ n ∧ i = .int .i64 k ∧ Hid (wr.ownsRow w.heap.size 9 1 s6 (ls.take k).flatten.length (strVs (ls.take k).flatten) ∧ Bw w wr)) (fun _ _ i _ => n - (intOf i).toNat)
     case atStart => exact ⟨0, by omega, rfl, Lib.hid ⟨by simpa [strVs] using HR6.out, HG6.out⟩⟩
     case round =>
       obtain ⟨k, hk, rfl, HR⟩ := hrel
       obtain ⟨hq, hg⟩ := HR.out
       obtain ⟨VA, vc, rfl, vb1, vb2⟩ := own_bounds hq
       have HQ := Lib.hid hq
       have HG := Lib.hid hg
       by_cases hlt : k < n
       · have e1 : k < ls.length := by rw [LN.out]; exact hlt
         obtain ⟨ad, sA, sn, sc, rfl, hb, q0, sl, hs⟩ := H.out.at_ e1
         have q1 := (hg.b.cell (p := ad.add k) (by rw [add_block]; exact hb)).trans q0
         have hql : (ls.take k).flatten.length + sn ≤ 1000000 := by
           have h1 := flatS_le ls (k + 1)
           rw [flatS_take e1, List.length_append, sl] at h1
           have := HN.out; omega
         have HPS : Hid ((ls.take (k + 1)).flatten = (ls.take k).flatten ++ ls[k]) := Lib.hid (flatS_take e1)
         have HSL := Lib.hid sl
         have HRD := Lib.hid (StrAt.reads (StrAt.bw hs hg))
         have hsz := hg.size
         clear hs sl hb q0 hq hg HR
         generalize hfl : (ls.take k).flatten = fl at *
         clear hfl
         go_wp2_with (at_builtin; go_must (refine wpList_append_any _ rfl _ _ 26 rfl w.heap.size 9 i0 _ 1 16 Tryz.underlying26 hi hz0 hz1 hz2 rfl (by decide) (.slice VA fl.length vc) fl.length (strVs fl) rfl HQ.out wr.heap.size sA sn sc (strVs ls[k]) rfl HRD.out (by intro u hu; obtain ⟨x, -, rfl⟩ := List.mem_map.1 hu; rfl) (by unfold maxLen; omega) (by omega) (by omega) ?_; intro v7 w7 hown7 hgr7 hl7; obtain ⟨A7, c7, rfl, -, -⟩ := own_bounds hown7; (have HO7 := Lib.hid hown7); (have HG7 := Lib.hid hgr7); clear hown7 hgr7 hl7))
         go_roundw
         case rel =>
           refine ⟨k + 1, by omega, by go_num, Lib.hid ⟨?_, Below.grown HG.out HG7.out HG.out.size (fun r e => (HQ.out.lt r e).1)⟩⟩
           rw [HPS.out, List.length_append, HSL.out, ← strVs_append]; exact HO7.out
         case measure => simp [intOf]; omega
       · obtain rfl : k = n := by omega
         have HF : Hid ((ls.take k).flatten = ls.flatten) := Lib.hid (by rw [List.take_of_length_le (by rw [LN.out]; omega)])
         clear hq hg HR
         go_wp2
         go_ret
         refine ⟨_, rfl, ?_, HG.out⟩
         rw [← HF.out]
         exact HQ.out
end
end Go.Proofs.YthhbkabdhkdafaaGreat
