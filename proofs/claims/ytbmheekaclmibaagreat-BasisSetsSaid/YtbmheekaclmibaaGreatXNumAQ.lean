/- Part of a proof of basisSets_holds. -/
import Derived.Test.YtbmheekaclmibaaGreatXKidAQ
set_option maxRecDepth 100000
set_option maxHeartbeats 16000000
namespace Go.Proofs.YtbmheekaclmibaaGreat
open Go.RowKit
set_option linter.unusedSimpArgs false
set_option linter.unusedVariables false
theorem infoNode : (Tryz.prog.info? 175).map (fun i => (i.zero, i.size, i.bytes)) = some (some (.agg #[.int .i64 0, .int .i64 0, .slice none 0 0]), 3, 40) := by kernel_rfl
def nCells : List Nd → List Value → List Value
 | x :: ns, s :: ks => .int .i64 x.lab :: .int .i64 (x.fin : Int) :: s :: nCells ns ks
 | _, _ => []
theorem nCells_length : ∀ {ns : List Nd} {ks : List Value}, ks.length = ns.length → (nCells ns ks).length = ns.length * 3
 | [], [], _ => rfl
 | [], _ :: _, h => by simp at h
 | _ :: _, [], h => by simp at h
 | _ :: ns, _ :: ks, h => by simp [nCells, nCells_length (ns := ns) (ks := ks) (by simpa using h)]; omega
theorem nCells_append : ∀ {ns : List Nd} {ks : List Value} (ns' : List Nd) (ks' : List Value), ks.length = ns.length → nCells (ns ++ ns') (ks ++ ks') = nCells ns ks ++ nCells ns' ks'
 | [], [], _, _, _ => rfl
 | [], _ :: _, _, _, h => by simp at h
 | _ :: _, [], _, _, h => by simp at h
 | _ :: ns, _ :: ks, ns', ks', h => by simp [nCells, nCells_append (ns := ns) (ks := ks) ns' ks' (by simpa using h)]
theorem nCells_at {ns new : List Nd} {ks ks' : List Value} {x : Nd} {s : Value} (h : ks.length = ns.length) : (nCells (ns ++ x :: new) (ks ++ s :: ks'))[ns.length * 3]? = some (.int .i64 x.lab) ∧ (nCells (ns ++ x :: new) (ks ++ s :: ks'))[ns.length * 3 + 1]? = some (.int .i64 (x.fin : Int)) ∧
   (nCells (ns ++ x :: new) (ks ++ s :: ks'))[ns.length * 3 + 2]? = some s := by
 have hl := nCells_length h
 rw [nCells_append _ _ h]
 refine ⟨?_, ?_, ?_⟩
 · rw [List.getElem?_append_right (by omega), hl]; simp [nCells]
 · rw [List.getElem?_append_right (by omega), hl]; simp [nCells]
 · rw [List.getElem?_append_right (by omega), hl]; simp [nCells]
theorem nCells_set2 {ns new : List Nd} {ks ks' : List Value} {x : Nd} {s u : Value} (kids : List Nat) (h : ks.length = ns.length) : (nCells (ns ++ x :: new) (ks ++ s :: ks')).set (ns.length * 3 + 2) u = nCells (ns ++ ⟨x.lab, x.fin, kids⟩ :: new) (ks ++ u :: ks') := by
 have hl := nCells_length h
 rw [nCells_append _ _ h, nCells_append _ _ h, List.set_append_right _ _ (by omega), hl]
 congr 1
 rw [show ns.length * 3 + 2 - ns.length * 3 = 2 by omega]
 rfl
theorem nCells_set1 {ns new : List Nd} {ks ks' : List Value} {x : Nd} {s : Value} (f : Nat) (h : ks.length = ns.length) : (nCells (ns ++ x :: new) (ks ++ s :: ks')).set (ns.length * 3 + 1) (.int .i64 (f : Int)) = nCells (ns ++ ⟨x.lab, f, x.kids⟩ :: new) (ks ++ s :: ks') := by
 have hl := nCells_length h
 rw [nCells_append _ _ h, nCells_append _ _ h, List.set_append_right _ _ (by omega), hl]
 congr 1
 rw [show ns.length * 3 + 1 - ns.length * 3 = 1 by omega]
 rfl
theorem own_kept_bw {w w' : World} {base : Nat} {e : TypeId} {size : Nat} {v : Value} {n : Nat} {xs : List Value} (h : w.ownsRow base e size v n xs) (hb : Bw w w') : w'.ownsRow base e size v n xs :=
 h.kept (grownBy_of_below hb none) (by cases v.ownBlock <;> simp)
def natVs (l : List Nat) : List Value := intVs (l.map fun (x : Nat) => (x : Int))
def KidsAt (w : World) (S : Nat → Prop) (ns : List Nd) (ks : List Value) : Prop := ks.length = ns.length ∧ ∀ i (h : i < ks.length) (h' : i < ns.length), IAt w S ks[i] (ns[i].kids.map fun (x : Nat) => (x : Int))
theorem KidsAt.keep {w w' : World} {S S' : Nat → Prop} {ns : List Nd} {ks : List Value} (h : KidsAt w S ns ks) (hS : ∀ b, S b → S' b) (hk : ∀ p : Addr, S p.block → w'.cell? p = w.cell? p) : KidsAt w' S' ns ks :=
 ⟨h.1, fun i h1 h2 => (h.2 i h1 h2).keep hS hk⟩
theorem KidsAt.append {w : World} {S : Nat → Prop} {ns ns' : List Nd} {ks ks' : List Value} (h : KidsAt w S ns ks) (h' : KidsAt w S ns' ks') : KidsAt w S (ns ++ ns') (ks ++ ks') := by
 refine ⟨by simp [h.1, h'.1], fun i h1 h2 => ?_⟩
 have hl := h.1
 by_cases hi : i < ks.length
 · rw [List.getElem_append_left hi, List.getElem_append_left (by omega)]
   exact h.2 i hi (by omega)
 · rw [List.getElem_append_right (by omega), List.getElem_append_right (by omega)]
   have := h'.2 (i - ks.length) (by simp at h1; omega) (by simp at h2; omega)
   simp only [hl] at this ⊢
   exact this
theorem KidsAt.cons {w : World} {S : Nat → Prop} {x : Nd} {ns : List Nd} {s : Value} {ks : List Value} (h : KidsAt w S ns ks) (hx : IAt w S s (x.kids.map fun (x : Nat) => (x : Int))) : KidsAt w S (x :: ns) (s :: ks) := by
 refine ⟨by simp [h.1], fun i h1 h2 => ?_⟩
 cases i with
 | zero => exact hx
 | succ i => exact h.2 i (by simpa using h1) (by simpa using h2)
def NumberPost (w : World) (B : Nat) (v : Value) (ns : List Nd) (ks : List Value) (t : V) (e : Ending) (w' : World) : Prop :=
 ∃ v' ks', e = .returned v' ∧ w'.ownsRow B 175 3 v' (ns.length + t.size) (nCells (ns ++ numL ns.length (subs t)) (ks ++ ks')) ∧
   KidsAt w' (fun b => w.heap.size ≤ b ∧ b < w'.heap.size ∧ v'.ownBlock ≠ some b) (numL ns.length (subs t)) ks' ∧ w.grownBy w' v.ownBlock ∧ (v'.ownBlock = v.ownBlock ∨ ∀ b, v'.ownBlock = some b → w.heap.size ≤ b)
structure NmI (w wr : World) (B L : Nat) (v0 v : Value) (ns : List Nd) (ks : List Value) (lab : Int) (kids : List Nat) (kv : Value) (new : List Nd) (ks' : List Value) : Prop where
 own : wr.ownsRow B 175 3 v (ns.length + 1 + new.length) (nCells (ns ++ ⟨lab, 0, kids⟩ :: new) (ks ++ kv :: ks'))
 row : wr.ownsRow L 3 1 kv kids.length (natVs kids)
 new : KidsAt wr (fun b => L ≤ b ∧ b < wr.heap.size ∧ v.ownBlock ≠ some b ∧ kv.ownBlock ≠ some b) new ks'
 gr : w.grownBy wr v0.ownBlock
 vb : v.ownBlock = v0.ownBlock ∨ ∀ b, v.ownBlock = some b → w.heap.size ≤ b
 ne : ∀ b, v.ownBlock = some b → kv.ownBlock ≠ some b

theorem natVs_snoc (l : List Nat) (x : Nat) : natVs l ++ [.int .i64 (x : Int)] = natVs (l ++ [x]) := by simp [natVs, intVs]
theorem starts_snoc : ∀ (l : List V) (k : Nat) (v : V), starts k (l ++ [v]) = starts k l ++ [k + sizeL l]
 | [], k, v => by simp [starts, sizeL]
 | x :: l, k, v => by simp [starts, sizeL, starts_snoc l (k + x.size) v]; omega
theorem subsL_append (a b : List V) : subsL (a ++ b) = subsL a ++ subsL b := by
 induction a with
 | nil => rfl
 | cons x r ih => simp [subsL, ih]
theorem reads_new3 (W : World) (t : TypeId) (a b c : Value) : Reads (W.alloc (.cells #[a, b, c] t)) (W.heap.size + 1) 3 (some ⟨W.heap.size, 0, none⟩) 1 [a, b, c] := reads_blk (n := 1) (Blk.new W t #[a, b, c]) (by omega) rfl
theorem NmI.keep {w wr W : World} {B L : Nat} {v0 v : Value} {ns : List Nd} {ks : List Value} {lab : Int} {kids : List Nat} {kv : Value} {new : List Nd} {ks' : List Value} (h : NmI w wr B L v0 v ns ks lab kids kv new ks') (g : Bw wr W) : NmI w W B L v0 v ns ks lab kids kv new ks' :=
 ⟨own_kept_bw h.own g, own_kept_bw h.row g, h.new.keep (fun b hb => ⟨hb.1, Nat.lt_of_lt_of_le hb.2.1 g.size, hb.2.2⟩) (fun p hp => g.b.cell hp.2.1), grownBy_below h.gr g.b, h.vb, h.ne⟩
theorem NmI.kid {w wr w1 : World} {B L g c : Nat} {v0 kv kv' : Value} {ns : List Nd} {ks : List Value} {lab : Int} {kids : List Nat} {new : List Nd} {ks' : List Value} {m : Nat} (h : NmI w wr B L v0 (.slice (some ⟨g, 0, none⟩) m c) ns ks lab kids kv new ks') (hm : m = ns.length + 1 + new.length) (hks : ks.length = ns.length) (hL : w.heap.size ≤ L) (hLw : L ≤ wr.heap.size) (x : Nat)
   (hown : w1.ownsRow L 3 1 kv' (kids.length + 1) (natVs kids ++ [.int .i64 (x : Int)])) (hg : wr.grownBy w1 kv.ownBlock) (hb : kv'.ownBlock = kv.ownBlock ∨ kv'.ownBlock = some wr.heap.size) :
   NmI w (w1.setCell ⟨g, ns.length * 3 + 2, none⟩ kv') B L v0 (.slice (some ⟨g, 0, none⟩) m c) ns ks lab (kids ++ [x]) kv' new ks' := by
 have hne : ∀ b, kv.ownBlock = some b → b ≠ g := fun b e => by rintro rfl; exact h.ne _ rfl e
 have hgl := (h.own.lt g rfl).2
 have hne' : kv'.ownBlock ≠ some g := by
   rcases hb with e | e
   · rw [e]; exact fun e => hne _ e rfl
   · rw [e]; intro e; injection e with e; omega
 have h1 : w1.ownsRow B 175 3 (.slice (some ⟨g, 0, none⟩) m c) (ns.length + 1 + new.length) (nCells (ns ++ ⟨lab, 0, kids⟩ :: new) (ks ++ kv :: ks')) := h.own.kept hg (.inr (fun e => hne _ e.symm rfl))
 rw [← hm] at h1
 have h2 := (h1.stored (ns.length * 3 + 2) kv').1
 rw [nCells_set2 (kids ++ [x]) hks, hm] at h2
 have e1 := grownBy_setCell (p := ⟨g, ns.length * 3 + 2, none⟩) (World.grownBy.refl w1 (some g)) (.inl rfl) kv'
 refine ⟨by rw [hm]; exact h2, ?_, ?_, ?_, h.vb, fun b hb e => ?_⟩
 · have := hown.kept e1 (.inr hne')
   rw [natVs_snoc] at this
   simpa using this
 · refine h.new.keep (fun b hb' => ⟨hb'.1, by have := hb'.2.1; have := hg.size; simp [World.setCell]; omega, hb'.2.2.1, fun e => ?_⟩) (fun p hp => ?_)
   · rcases hb with e' | e'
     · rw [e'] at e; exact hb'.2.2.2 e
     · rw [e'] at e; injection e with e; have := hb'.2.1; omega
   · rw [World.cell?_setCell_other _ _ _ _ (by intro e; subst e; exact hp.2.2.1 rfl)]
     exact World.cell?_of_block (hg.block p.block hp.2.1 (fun e => hp.2.2.2 e.symm))
 · have h3 : w.grownBy w1 v0.ownBlock := by
     refine ⟨hg.os.trans h.gr.os, hg.tape.trans h.gr.tape, hg.output.trans h.gr.output, Nat.le_trans h.gr.size hg.size, fun k hk hn => (hg.block k (Nat.lt_of_lt_of_le hk h.gr.size) (fun e => ?_)).trans (h.gr.block k hk hn)⟩
     have := (h.row.lt k e.symm).1
     omega
   refine ⟨h3.os, h3.tape, h3.output, by have := h3.size; simpa [World.setCell] using this, fun k hk hn => (Below.heap_setCell w1 _ _ k ?_).trans (h3.block k hk hn)⟩
   dsimp only
   rintro rfl
   rcases h.vb with e | e
   · exact hn e
   · have := e k rfl; omega
 · have e2 : g = b := by simpa [Value.ownBlock] using hb
   subst e2
   exact hne' e
theorem NmI.box {w wr : World} {B L : Nat} {v0 v : Value} {ns : List Nd} {ks : List Value} {lab : Int} {kids : List Nat} {kv : Value} {new : List Nd} {ks' : List Value} (h : NmI w wr B L v0 v ns ks lab kids kv new ks') (hB : B ≤ w.heap.size) (hv0 : ∀ b, v0.ownBlock = some b → B ≤ b) : Below B w wr :=
 ⟨h.gr.os, h.gr.tape, h.gr.output, h.gr.size, fun k hk => h.gr.block k (by omega) (fun e => by have := hv0 _ e.symm; omega)⟩

theorem NmI.sub {w W2 w8 : World} {B L g c : Nat} {v0 kv v8 : Value} {ns : List Nd} {ks ks8 : List Value} {lab : Int} {kids : List Nat} {new nk : List Nd} {ks' : List Value} {m k : Nat} (h : NmI w W2 B L v0 (.slice (some ⟨g, 0, none⟩) m c) ns ks lab kids kv new ks') (hL : w.heap.size ≤ L) (hLw : L ≤ W2.heap.size)
   (hown : w8.ownsRow B 175 3 v8 ((ns ++ ⟨lab, 0, kids⟩ :: new).length + k) (nCells ((ns ++ ⟨lab, 0, kids⟩ :: new) ++ nk) ((ks ++ kv :: ks') ++ ks8))) (hnk : nk.length = k)
   (hK : KidsAt w8 (fun b => W2.heap.size ≤ b ∧ b < w8.heap.size ∧ v8.ownBlock ≠ some b) nk ks8) (hg : W2.grownBy w8 (some g)) (hv8 : v8.ownBlock = some g ∨ ∀ b, v8.ownBlock = some b → W2.heap.size ≤ b) :
   NmI w w8 B L v0 v8 ns ks lab kids kv (new ++ nk) (ks' ++ ks8) := by
 have hrl : ∀ b, kv.ownBlock = some b → L ≤ b ∧ b < W2.heap.size := fun b e => h.row.lt b e
 have hkg : kv.ownBlock ≠ some g := h.ne g rfl
 refine ⟨?_, h.row.kept hg (.inr hkg), ?_, ?_, ?_, fun b hb e => ?_⟩
 · have e1 : (ns ++ ⟨lab, 0, kids⟩ :: new).length + k = ns.length + 1 + (new ++ nk).length := by simp; omega
   have e2 : (ns ++ ⟨lab, 0, kids⟩ :: new) ++ nk = ns ++ ⟨lab, 0, kids⟩ :: (new ++ nk) := by simp
   have e3 : (ks ++ kv :: ks') ++ ks8 = ks ++ kv :: (ks' ++ ks8) := by simp
   rw [e1, e2, e3] at hown
   exact hown
 · refine KidsAt.append (h.new.keep (fun b hb => ⟨hb.1, Nat.lt_of_lt_of_le hb.2.1 hg.size, ?_, hb.2.2.2⟩) (fun p hp => World.cell?_of_block (hg.block p.block hp.2.1 (fun e => hp.2.2.1 e.symm)))) (hK.keep (fun b hb => ⟨by have := hb.1; omega, hb.2.1, hb.2.2, fun e => by have := (hrl b e).2; have := hb.1; omega⟩) (fun _ _ => rfl))
   rcases hv8 with e | e
   · rw [e]; exact hb.2.2.1
   · intro e2; have := e b e2; have := hb.2.1; omega
 · refine ⟨hg.os.trans h.gr.os, hg.tape.trans h.gr.tape, hg.output.trans h.gr.output, Nat.le_trans h.gr.size hg.size, fun i hi hn => (hg.block i (Nat.lt_of_lt_of_le hi h.gr.size) (fun e => ?_)).trans (h.gr.block i hi hn)⟩
   injection e with e
   subst e
   rcases h.vb with e | e
   · exact hn e
   · have := e i rfl; omega
 · rcases hv8 with e | e
   · rcases h.vb with e' | e'
     · left; rw [e]; exact e'
     · right; intro b hb; rw [e] at hb; exact e' b hb
   · right; intro b hb; have := e b hb; omega
 · rcases hv8 with e' | e'
   · rw [e'] at hb; injection hb with hb; subst hb; exact hkg e
   · have := e' b hb; have := (hrl b e).2; omega

theorem tnumber_step (t : V) (ih : ∀ k ∈ t.ks, ∀ (ns : List Nd) (ks : List Value) (v s : Value) (B : Nat) (W : World), ns.length + k.size ≤ 1000 → ks.length = ns.length → W.ownsRow B 175 3 v ns.length (nCells ns ks) → B ≤ W.heap.size → KB W B s k.ks →
     Calls Tryz.prog 185 #[v, aggV k s] W (NumberPost W B v ns ks k))
   (ns : List Nd) (ks : List Value) (v s : Value) (B : Nat) (w : World) (h9 : ns.length + t.size ≤ 1000) (hks : ks.length = ns.length) (hv : w.ownsRow B 175 3 v ns.length (nCells ns ks)) (hB : B ≤ w.heap.size) (h : KB w B s t.ks) :
   Calls Tryz.prog 185 #[v, .agg #[.int .i64 t.n, s]] w (NumberPost w B v ns ks t) := by
 obtain ⟨A, n, c, rfl, ln, bn, mn⟩ := h.form
 unfold maxLen at mn
 obtain ⟨VA, vc, rfl, vb1, vb2⟩ := own_bounds hv
 unfold maxLen at vb2
 obtain ⟨i0, hi, hz0, hz1, hz2⟩ := info_parts infoNode
 obtain ⟨i1, hi1, hz3, hz4, hz5⟩ := info_parts infoInt
 obtain ⟨m, hm⟩ : ∃ m, ns.length = m := ⟨_, rfl⟩
 have hts := t.size_eq
 have hsl := sizeL_length t.ks
 rw [hm] at h9
 have HV : Hid (w.ownsRow B 175 3 (.slice VA m vc) m (nCells ns ks)) := Lib.hid (by rw [← hm]; exact hv)
 have HK := Lib.hid h
 have LN := Lib.hid ln
 have HIH := Lib.hid ih
 have HM := Lib.hid hm
 have HKS := Lib.hid hks
 have HSZ := Lib.hid (show t.size = 1 + sizeL t.ks from hts)
 have hn9 : n ≤ 1000 := by omega
 have hv0 : ∀ b, (Value.slice VA ns.length vc).ownBlock = some b → B ≤ b ∧ b < w.heap.size := fun b e => hv.lt b e
 rw [hm] at hv0
 have HV0 := Lib.hid hv0
 have hm9 : m ≤ 999 := by have := t.size_pos; omega
 rw [hm] at vb1 ⊢
 clear h ih ln hks hv hts hsl hv0
 obtain ⟨tn, htn⟩ : ∃ tn, t.n = tn := ⟨_, rfl⟩
 rw [htn]
 have HTN := Lib.hid htn
 clear htn hm
 go_enter Tryz.func185, Tryz.ntmps185
 go_wp2_with (at_builtin; go_must (refine wpList_append_any _ rfl _ _ 159 rfl B 175 i0 _ 3 40 Tryz.underlying159 hi hz0 hz1 hz2 rfl (by decide) (.slice VA m vc) m (nCells ns ks) rfl ((HV.out.alloc _).alloc _) (w.heap.size + 1 + 1) (some ⟨w.heap.size + 1, 0, none⟩) 1 1 [.int .i64 tn, .int .i64 0, .slice none 0 0] rfl (by have := reads_new3 (w.alloc (.cells #[.int .i64 tn, .slice A n c] 95)) 175 (.int .i64 tn) (.int .i64 0) (.slice none 0 0); simpa only [World.size_alloc] using this) (by simp [Value.oneCell']) (by unfold maxLen; omega) (by omega) (by simp; omega) ?_; intro v1 w1 hown1 hgr1 hl1; obtain ⟨A1, c1, rfl⟩ := own_form hown1; (have k1 : Blk w1 w.heap.size 95 #[.int .i64 tn, .slice A n c] := ((Blk.new w _ _).alloc _).grown hgr1 (fun e => by have := (HV0.out _ e.symm).2; omega)); (have y1 := k1.cell 1); (have HO1 := Lib.hid hown1); (have HG1 := Lib.hid hgr1); (have HL1 := Lib.hid hl1); (have HK1 := Lib.hid k1); (have z1 := k1.lt); clear hown1 hgr1 hl1 k1))
 go_loopw [0, 19] (fun s0 i wr => ∃ q : Nat, q ≤ n ∧ i = .int .i64 q ∧ Hid (∃ kv new ks', NmI w wr B w.heap.size (.slice VA m vc) s0 ns ks tn (starts (m + 1) (t.ks.take q)) kv new ks' ∧ new = numL (m + 1) (subsL (t.ks.take q)) ∧ s0.ownBlock ≠ none)) (fun _ i _ => n - (intOf i).toNat)
 case atStart =>
   refine ⟨0, by omega, rfl, Lib.hid ⟨.slice none 0 0, [], [], ⟨?_, World.ownsRow_nil _ _ _ _, ⟨rfl, fun i h => absurd h (by simp)⟩, ?_, ?_, fun b _ e => by cases e⟩, rfl, ?_⟩⟩
   · have := HO1.out
     rw [nCells_append _ _ HKS.out, HM.out]
     exact this
   · exact grownBy_trans (grownBy_alloc (grownBy_alloc (World.grownBy.refl w _) _) _) HG1.out
   · rcases HL1.out with e | e
     · exact .inl e
     · right; intro b hb; rw [e] at hb; injection hb with hb; simp at hb; omega
   · have ho := HO1.out
     obtain ⟨g, e, _⟩ := own_at ho (by omega)
     intro h; subst e; cases h
 case round =>
   obtain ⟨q, hq, rfl, HR⟩ := hrel
   obtain ⟨kv, new, ks', hI, hnew, hnn⟩ := HR.out
   obtain ⟨M, hM⟩ : ∃ M, ns.length + 1 + new.length = M := ⟨_, rfl⟩
   have hnl : new.length = sizeL (t.ks.take q) := by rw [hnew, numL_length, subsL_length]
   have hown := hI.own
   rw [hM] at hown
   obtain ⟨A2, c2, rfl, hc1, hc2⟩ := own_bounds hown
   unfold maxLen at hc2
   obtain ⟨g, rfl, hgb, hBg, hgl, _⟩ := own_at hown (by omega)
   obtain ⟨KA, kc, rfl, hkc1, hkc2⟩ := own_bounds hI.row
   obtain ⟨kn, hkn⟩ : ∃ kn, (starts (m + 1) (t.ks.take q)).length = kn := ⟨_, rfl⟩
   have hknq : kn = q := by rw [← hkn, starts_length, List.length_take, LN.out]; omega
   have hm := HM.out
   have hks := HKS.out
   have hat := nCells_at (ns := ns) (new := new) (ks := ks) (ks' := ks') (x := ⟨tn, 0, starts (m + 1) (t.ks.take q)⟩) (s := .slice KA (starts (m + 1) (t.ks.take q)).length kc) hks
   rw [hm] at hat
   have hMm : m < M := by omega
   have hM9 : M ≤ 1000 := by have := sizeL_take_le t.ks q; have := HSZ.out; omega
   have p2 := (hown.cellAt (m * 3 + 2) (by omega)).trans hat.2.2
   have f2 := hown.frozenAt (m * 3 + 2)
   have p1 := (hown.cellAt (m * 3 + 1) (by omega)).trans hat.2.1
   have f1 := hown.frozenAt (m * 3 + 1)
   have hsz1 : w.heap.size ≤ wr.heap.size := hI.gr.size
   rw [hkn] at p2 hI hkc1
   have HI := Lib.hid hI
   have HNEW := Lib.hid hnew
   have HMM := Lib.hid hM
   have HNL := Lib.hid hnl
   have HKN := Lib.hid hkn
   clear hown hat hgb hnn
   by_cases hlt : q < n
   · have e1 : q < t.ks.length := by rw [LN.out]; exact hlt
     have hbx := hI.box hB (fun b e => (HV0.out b e).1)
     obtain ⟨ad, sA, sn, sc, rfl, hb, q0, q1, sl, hs⟩ := (HK.out.under hbx).at_ e1
     have hb2 : ad.block < wr.heap.size := by omega
     have HT : Hid (t.ks.take (q + 1) = t.ks.take q ++ [t.ks[q]]) := Lib.hid (List.take_succ_eq_append_getElem e1)
     have HSN : Hid (sizeL (t.ks.take (q + 1)) = sizeL (t.ks.take q) + t.ks[q].size) := Lib.hid (sizeL_snoc e1)
     have hsz9 : M + t.ks[q].size ≤ 1000 := by
       have h1 := sizeL_take_le t.ks (q + 1)
       have h2 := HSN.out
       have h3 := HSZ.out
       omega
     have HKID := Lib.hid (HIH.out _ (List.getElem_mem e1))
     have HS := Lib.hid hs
     clear hs sl hI hnew hM hnl hkn HR hbx hks
     generalize hy : t.ks[q] = y at *
     clear hy
     obtain ⟨yn, hyn⟩ : ∃ yn, y.n = yn := ⟨_, rfl⟩
     rw [hyn] at q0
     have HYN := Lib.hid hyn
     clear hyn
     subst hknq
     have HRW : Hid (∀ o1 o2, ((wr.alloc o1).alloc o2).ownsRow w.heap.size 3 1 (.slice KA kn kc) kn (natVs (starts (m + 1) (t.ks.take kn)))) := Lib.hid (fun o1 o2 => by have := (HI.out.row.alloc o1).alloc o2; rwa [HKN.out] at this)
     have hgne : g ≠ wr.heap.size := by omega
     have HZ : Hid (∀ A7 c7 w7, w7.ownsRow w.heap.size 3 1 (.slice A7 (kn + 1) c7) (kn + 1) (natVs (starts (m + 1) (t.ks.take kn)) ++ [.int .i64 (M : Int)]) → ((wr.alloc (.cells #[.int .i64 yn, .slice sA sn sc] 95)).alloc (.cells #[.int .i64 (M : Int)] 3)).grownBy w7 (Value.slice KA kn kc).ownBlock →
         ((Value.slice A7 (kn + 1) c7).ownBlock = (Value.slice KA kn kc).ownBlock ∨ (Value.slice A7 (kn + 1) c7).ownBlock = some ((wr.alloc (.cells #[.int .i64 yn, .slice sA sn sc] 95)).alloc (.cells #[.int .i64 (M : Int)] 3)).heap.size) →
         g < w7.heap.size ∧ w7.cell? ⟨g, m * 3 + 2, none⟩ = some (.slice KA kn kc) ∧ w7.frozen? ⟨g, m * 3 + 2, none⟩ = false ∧ wr.heap.size < (w7.setCell ⟨g, m * 3 + 2, none⟩ (.slice A7 (kn + 1) c7)).heap.size ∧
         (w7.setCell ⟨g, m * 3 + 2, none⟩ (.slice A7 (kn + 1) c7)).cell? ⟨wr.heap.size, 0, none⟩ = some (.int .i64 yn) ∧ (w7.setCell ⟨g, m * 3 + 2, none⟩ (.slice A7 (kn + 1) c7)).cell? ⟨wr.heap.size, 1, none⟩ = some (.slice sA sn sc) ∧
         Hid (NmI w (w7.setCell ⟨g, m * 3 + 2, none⟩ (.slice A7 (kn + 1) c7)) B w.heap.size (.slice VA m vc) (.slice (some ⟨g, 0, none⟩) M c2) ns ks tn (starts (m + 1) (t.ks.take kn) ++ [M]) (.slice A7 (kn + 1) c7) new ks') ∧
         Hid (Calls Tryz.prog 185 #[.slice (some ⟨g, 0, none⟩) M c2, .agg #[.int .i64 yn, .slice sA sn sc]] (w7.setCell ⟨g, m * 3 + 2, none⟩ (.slice A7 (kn + 1) c7)) (NumberPost (w7.setCell ⟨g, m * 3 + 2, none⟩ (.slice A7 (kn + 1) c7)) B (.slice (some ⟨g, 0, none⟩) M c2) (ns ++ ⟨tn, 0, starts (m + 1) (t.ks.take kn) ++ [M]⟩ :: new) (ks ++ .slice A7 (kn + 1) c7 :: ks') y))) := Lib.hid (fun A7 c7 w7 hown7 hgr7 hl7 => by
       have hks := HKS.out
       have hI7 := NmI.kid (HI.out.keep (((Bw.refl _).alloc (.cells #[.int .i64 yn, .slice sA sn sc] 95)).alloc (.cells #[.int .i64 (M : Int)] 3))) HMM.out.symm hks (Nat.le_refl _) (by simp; omega) M (by rw [HKN.out]; exact hown7) hgr7 hl7
       have hbx7 := ((Blk.new wr 95 #[.int .i64 yn, .slice sA sn sc]).alloc (.cells #[.int .i64 (M : Int)] 3)).grown hgr7 (fun e => by have := (HI.out.row.lt _ e.symm).2; omega)
       have ho7 := ((HI.out.own.alloc (.cells #[.int .i64 yn, .slice sA sn sc] 95)).alloc (.cells #[.int .i64 (M : Int)] 3)).kept hgr7 (.inr (fun e => HI.out.ne g rfl e.symm))
       rw [HMM.out] at ho7
       have y7 := ho7.cellAt (m * 3 + 2) (by omega)
       have hat7 := (nCells_at (ns := ns) (new := new) (ks := ks) (ks' := ks') (x := ⟨tn, 0, starts (m + 1) (t.ks.take kn)⟩) (s := .slice KA kn kc) hks).2.2
       rw [HM.out] at hat7
       have b7 := hbx7.far (p := ⟨g, m * 3 + 2, none⟩) (by dsimp only; omega) (.slice A7 (kn + 1) c7)
       rw [HM.out] at hI7
       have hlen : (ns ++ ⟨tn, 0, starts (m + 1) (t.ks.take kn) ++ [M]⟩ :: new).length = M := by have := HMM.out; simp; omega
       have hkl := hI7.new.1
       have hbx := hI7.box hB (fun b e => (HV0.out b e).1)
       have hbx0 := HI.out.box hB (fun b e => (HV0.out b e).1)
       refine ⟨(ho7.lt g rfl).2, y7.trans hat7, ho7.frozenAt _, b7.lt, b7.cell 0, b7.cell 1, hI7, ?_⟩
       have := HKID.out (ns ++ ⟨tn, 0, starts (m + 1) (t.ks.take kn) ++ [M]⟩ :: new) (ks ++ .slice A7 (kn + 1) c7 :: ks') (.slice (some ⟨g, 0, none⟩) M c2) (.slice sA sn sc) B (w7.setCell ⟨g, m * 3 + 2, none⟩ (.slice A7 (kn + 1) c7)) (by rw [hlen]; omega) (by simp [hks, hkl]) (by have := hI7.own; rw [HMM.out] at this; rw [hlen]; exact this) (by have := hbx.size; omega) (HS.out.keep (fun b hb => hb) (fun p hp => (hbx.cell hp).trans (hbx0.cell hp).symm))
       rw [show aggV y (.slice sA sn sc) = .agg #[.int .i64 yn, .slice sA sn sc] by rw [← HYN.out]] at this
       exact this)
     go_wp2_with (first
       | (at_builtin; go_must (refine wpList_append_any _ rfl _ _ 22 rfl w.heap.size 3 i1 _ 1 8 Tryz.underlying22 hi1 hz3 hz4 hz5 rfl (by decide) (.slice KA kn kc) kn (natVs (starts (m + 1) (t.ks.take kn))) rfl (HRW.out _ _) (wr.heap.size + 1 + 1) (some ⟨wr.heap.size + 1, 0, none⟩) 1 1 [.int .i64 (M : Int)] rfl (by have := reads_new1 (wr.alloc (.cells #[.int .i64 yn, .slice sA sn sc] 95)) (M : Int); simpa only [World.size_alloc] using this) (by simp [Value.oneCell']) (by unfold maxLen; omega) (by omega) (by simp; omega) ?_; intro v7 w7 hown7 hgr7 hl7; obtain ⟨A7, c7, rfl⟩ := own_form hown7; obtain ⟨u1, u2, u3, u4, u5, u6, HI7, HC7⟩ := HZ.out _ _ _ hown7 hgr7 hl7; clear hown7 hgr7 hl7))
       | (go_at_call 185; go_must (refine HC7.out.mono ?_; rintro e w8 ⟨v8, ks8, rfl, hown8, hk8, hgr8, hb8⟩; obtain ⟨A8, c8, rfl⟩ := own_form hown8; (have HO8 := Lib.hid hown8); (have HK8 := Lib.hid hk8); (have HG8 := Lib.hid hgr8); (have HB8 := Lib.hid hb8); clear hown8 hk8 hgr8 hb8)))
     go_roundw
     case rel =>
       have hm := HM.out
       have hMM := HMM.out
       have hnl := HNL.out
       have hlen : (ns ++ ⟨tn, 0, starts (m + 1) (t.ks.take kn) ++ [M]⟩ :: new).length = M := by simp; omega
       have e1 : starts (m + 1) (t.ks.take (kn + 1)) = starts (m + 1) (t.ks.take kn) ++ [M] := by
         rw [HT.out, starts_snoc, ← hnl]
         congr 2
         omega
       have hown8 := HO8.out
       have hk8 := HK8.out
       have hb8 := HB8.out
       rw [hlen] at hk8 hb8 hown8
       rw [show m + (new.length + 1) + y.size = M + y.size by omega]
       refine ⟨kn + 1, by omega, by go_num, Lib.hid ⟨.slice A7 (kn + 1) c7, new ++ numL M (subs y), ks' ++ ks8, ?_, ?_, ?_⟩⟩
       · rw [e1]
         refine NmI.sub (m := M) (k := y.size) HI7.out (Nat.le_refl _) HI7.out.gr.size ?_ (by rw [numL_length, subs_length]) hk8 HG8.out hb8
         rw [hlen]
         exact hown8
       · rw [HT.out, subsL_append, numL_append, ← HNEW.out, subsL_length, ← hnl]
         congr 1
         simp only [subsL, List.append_nil]
         congr 1
         omega
       · obtain ⟨g8, e8, _⟩ := own_at hown8 (by have := y.size_pos; omega)
         subst e8
         simp [Value.ownBlock]
     case measure => simp [intOf]; omega
   · obtain rfl : q = n := by omega
     have HF : Hid (NumberPost w B (.slice VA m vc) ns ks t (.returned (.slice (some ⟨g, 0, none⟩) M c2)) (wr.setCell ⟨g, m * 3 + 1, none⟩ (.int .i64 (M : Int)))) := Lib.hid (by
       have hmm := HM.out
       have hln := LN.out
       have htake : t.ks.take q = t.ks := List.take_of_length_le (by omega)
       rw [htake] at hI hnew hnl hkn
       have hst := (by have := hI.own; rw [hM] at this; exact this.stored (m * 3 + 1) (.int .i64 (M : Int)) : _ ∧ _).1
       have e2 := nCells_set1 (ns := ns) (new := new) (ks := ks) (ks' := ks') (x := ⟨tn, 0, starts (m + 1) t.ks⟩) (s := .slice KA kn kc) M hks
       rw [hmm] at e2
       rw [e2] at hst
       have e3 := grownBy_setCell (p := ⟨g, m * 3 + 1, none⟩) (World.grownBy.refl wr (some g)) (.inl rfl) (.int .i64 (M : Int))
       have hsz := HSZ.out
       have hMs : M = m + t.size := by omega
       have hall : numL ns.length (subs t) = ⟨tn, M, starts (m + 1) t.ks⟩ :: new := by
         rw [subs_eq, hmm]
         simp only [numL, ndOf]
         rw [hnew, HTN.out, ← hMs]
       have hkg : (Value.slice KA kn kc).ownBlock ≠ some g := hI.ne g rfl
       refine ⟨.slice (some ⟨g, 0, none⟩) M c2, .slice KA kn kc :: ks', rfl, ?_, ?_, ?_, hI.vb⟩
       · rw [hall, hmm, ← hMs]; exact hst
       · rw [hall]
         refine KidsAt.cons (hI.new.keep (fun b hb => ⟨hb.1, by have := hb.2.1; simp [World.setCell]; omega, hb.2.2.1⟩) (fun p hp => World.cell?_setCell_other _ _ _ _ (by intro e; subst e; exact hp.2.2.1 rfl))) ?_
         have hr := own_IAt (cs := (starts (m + 1) t.ks).map fun (x : Nat) => (x : Int)) (n := kn) (by have := hI.row; rw [hkn] at this; exact this) (by simp [hkn])
         refine hr.keep (fun b hb => ⟨(hI.row.lt b hb).1, by have := (hI.row.lt b hb).2; simp [World.setCell]; omega, fun e => ?_⟩) (fun p hp => World.cell?_setCell_other _ _ _ _ (by intro e; subst e; exact hkg hp))
         injection e with e; subst e; exact hkg hb
       · refine ⟨hI.gr.os, hI.gr.tape, hI.gr.output, by have := hI.gr.size; simpa [World.setCell] using this, fun k hk hn => (Below.heap_setCell wr _ _ k ?_).trans (hI.gr.block k hk hn)⟩
         dsimp only
         rintro rfl
         rcases hI.vb with e | e
         · exact hn e
         · have := e k rfl; omega)
     clear hI hnew hM hnl hkn HR hks hm
     go_wp2
     go_ret
     exact HF.out
theorem tnumber_any (t : V) : ∀ (ns : List Nd) (ks : List Value) (v s : Value) (B : Nat) (w : World), ns.length + t.size ≤ 1000 → ks.length = ns.length → w.ownsRow B 175 3 v ns.length (nCells ns ks) → B ≤ w.heap.size → KB w B s t.ks →
   Calls Tryz.prog 185 #[v, aggV t s] w (NumberPost w B v ns ks t) := by
 induction t using V.ind with
 | h n l ih => exact fun ns ks v s B w h1 h2 h3 h4 h5 => tnumber_step (.mk n l) ih ns ks v s B w h1 h2 h3 h4 h5
def NAt (w : World) (S : Nat → Prop) (v : Value) (ns : List Nd) : Prop :=
 ∃ A n c ks, v = .slice A n c ∧ ns.length = n ∧ n ≤ c ∧ c ≤ maxLen ∧ KidsAt w S ns ks ∧ (0 < n → ∃ ad, A = some ad ∧ S ad.block ∧ ∀ k (h : k < ns.length) (h' : k < ks.length), w.cell? (ad.add (k * 3)) = some (.int .i64 ns[k].lab) ∧
   w.cell? ⟨(ad.add (k * 3)).block, (ad.add (k * 3)).off + 1, none⟩ = some (.int .i64 (ns[k].fin : Int)) ∧ w.cell? ⟨(ad.add (k * 3)).block, (ad.add (k * 3)).off + 2, none⟩ = some ks[k])
abbrev NB (w : World) (B : Nat) (v : Value) (ns : List Nd) : Prop := NAt w (· < B) v ns
section
variable {w w' : World} {S S' : Nat → Prop}
theorem NAt.keep {v : Value} {ns : List Nd} (h : NAt w S v ns) (hS : ∀ b, S b → S' b) (hk : ∀ p : Addr, S p.block → w'.cell? p = w.cell? p) : NAt w' S' v ns := by
 obtain ⟨A, n, c, ks, h1, h2, h3, h4, h5, h6⟩ := h
 refine ⟨A, n, c, ks, h1, h2, h3, h4, h5.keep hS hk, fun hn => ?_⟩
 obtain ⟨ad, e, hs, hc⟩ := h6 hn
 refine ⟨ad, e, hS _ hs, fun k h h' => ?_⟩
 obtain ⟨q0, q1, q2⟩ := hc k h h'
 exact ⟨(hk _ (by rw [add_block]; exact hs)).trans q0, (hk _ (by simp only [add_block]; exact hs)).trans q1, (hk _ (by simp only [add_block]; exact hs)).trans q2⟩
theorem NAt.bw {v : Value} {ns : List Nd} (h : NB w w.heap.size v ns) (g : Bw w w') : NB w' w'.heap.size v ns := h.keep (fun b hb => Nat.lt_of_lt_of_le hb g.size) (fun p hp => g.b.cell hp)
theorem NAt.form {v : Value} {ns : List Nd} (h : NAt w S v ns) : ∃ A n c, v = .slice A n c ∧ ns.length = n ∧ n ≤ c ∧ c ≤ maxLen := by
 obtain ⟨A, n, c, ks, h1, h2, h3, h4, _⟩ := h
 exact ⟨A, n, c, h1, h2, h3, h4⟩
theorem NAt.at_ {A : Option Addr} {n c : Nat} {ns : List Nd} (h : NAt w S (.slice A n c) ns) {k : Nat} (hk : k < ns.length) : ∃ ad sA sn sc, A = some ad ∧ S ad.block ∧ w.cell? (ad.add (k * 3)) = some (.int .i64 ns[k].lab) ∧
   w.cell? ⟨(ad.add (k * 3)).block, (ad.add (k * 3)).off + 1, none⟩ = some (.int .i64 (ns[k].fin : Int)) ∧ w.cell? ⟨(ad.add (k * 3)).block, (ad.add (k * 3)).off + 2, none⟩ = some (.slice sA sn sc) ∧ IAt w S (.slice sA sn sc) (ns[k].kids.map fun (x : Nat) => (x : Int)) := by
 obtain ⟨A', n', c', ks, e, h2, h3, h4, h5, h6⟩ := h
 injection e with e1 e2 e3
 subst e1 e2 e3
 obtain ⟨ad, e, hs, hc⟩ := h6 (by omega)
 have hk2 : k < ks.length := by have := h5.1; omega
 obtain ⟨q0, q1, q2⟩ := hc k hk hk2
 have hi := h5.2 k hk2 hk
 obtain ⟨sA, sn, sc, e', _⟩ := hi.form
 rw [e'] at hi q2
 exact ⟨ad, sA, sn, sc, e, hs, q0, q1, q2, hi⟩
end
theorem nCells_get : ∀ {ns : List Nd} {ks : List Value} {k : Nat} (h : k < ns.length) (h' : k < ks.length), (nCells ns ks)[k * 3]? = some (.int .i64 ns[k].lab) ∧ (nCells ns ks)[k * 3 + 1]? = some (.int .i64 (ns[k].fin : Int)) ∧ (nCells ns ks)[k * 3 + 2]? = some ks[k]
 | x :: ns, s :: ks, 0, _, _ => by simp [nCells]
 | x :: ns, s :: ks, k + 1, h, h' => by
   have := nCells_get (ns := ns) (ks := ks) (k := k) (by simpa using h) (by simpa using h')
   simp only [nCells, List.getElem_cons_succ, Nat.add_mul, Nat.one_mul]
   exact this
theorem own_NAt {w : World} {B : Nat} {e : TypeId} {v : Value} {ns : List Nd} {ks : List Value} {n : Nat} {S : Nat → Prop} (h : w.ownsRow B e 3 v n (nCells ns ks)) (hn : ns.length = n) (hk : KidsAt w S ns ks) : NAt w (fun b => S b ∨ v.ownBlock = some b) v ns := by
 subst hn
 obtain ⟨A, c, rfl, h1, h2⟩ := own_bounds h
 refine ⟨A, _, c, ks, rfl, rfl, h1, h2, hk.keep (fun b hb => .inl hb) (fun _ _ => rfl), fun hn => ?_⟩
 obtain ⟨g, rfl, h3, h4, h5, h6⟩ := own_at h hn
 refine ⟨_, rfl, .inr h3, fun k hk1 hk2 => ?_⟩
 obtain ⟨q0, q1, q2⟩ := nCells_get hk1 hk2
 have a0 := h6 _ _ q0
 have a1 := h6 _ _ q1
 have a2 := h6 _ _ q2
 have e1 : ∀ j, 0 < j → ((⟨g, 0, none⟩ : Addr).add (k * 3 + j)) = ⟨((⟨g, 0, none⟩ : Addr).add (k * 3)).block, ((⟨g, 0, none⟩ : Addr).add (k * 3)).off + j, none⟩ := fun j hj => by
   unfold Addr.add
   by_cases h0 : k * 3 = 0 <;> simp [h0] <;> omega
 rw [e1 1 (by omega)] at a1
 rw [e1 2 (by omega)] at a2
 exact ⟨a0, a1, a2⟩

theorem idxNode_any (l : List Nd) (p : Nd → Bool) (g : Nat) (cb : Array Value) (eg : ∀ args w, (callFunc g args).run Tryz.prog w = .ok (.enter g args) w) (s : Value) (w : World) (h : NB w w.heap.size s l)
   (hc : ∀ v ∈ l, ∀ (s' : Value) (W : World), Bw w W → IB W W.heap.size s' (v.kids.map fun (x : Nat) => (x : Int)) → Calls Tryz.prog g (#[.agg #[.int .i64 v.lab, .int .i64 (v.fin : Int), s']] ++ cb) W (BoolPost W (p v))) :
   Calls Tryz.prog 192 #[s, .func (.func g) #[] cb] w (NumPost w (idxP p l)) := by
 obtain ⟨A, n, c, rfl, ln, bn, mn⟩ := h.form
 unfold maxLen at mn
 have HC := Lib.hid hc
 have H := Lib.hid h
 have LN := Lib.hid ln
 clear hc h ln
 go_enter Tryz.func192, Tryz.ntmps192
 go_wp2
 go_loopw [5, 8] (fun _ i wr => ∃ k : Nat, k ≤ n ∧ i = .int .i64 k ∧ Hid (Bw w wr ∧ ∀ j (hj : j < l.length), j < k → p l[j] = false)) (fun _ i _ => n - (intOf i).toNat)
 case atStart => exact ⟨0, by omega, rfl, Lib.hid ⟨Bw.refl _, fun j _ h => absurd h (by omega)⟩⟩
 case round =>
   obtain ⟨k, hk, rfl, HR⟩ := hrel
   obtain ⟨hg, hno⟩ := HR.out
   by_cases hlt : k < n
   · have e1 : k < l.length := by rw [LN.out]; exact hlt
     obtain ⟨ad, sA, sn, sc, rfl, hb, q0, q1, q2, hs⟩ := (H.out.bw hg).at_ e1
     have CM : Hid (Calls Tryz.prog g (#[.agg #[.int .i64 l[k].lab, .int .i64 (l[k].fin : Int), .slice sA sn sc]] ++ cb) wr (BoolPost wr (p l[k]))) := Lib.hid (HC.out _ (List.getElem_mem e1) _ _ hg hs)
     have HG := Lib.hid hg
     have HNO := Lib.hid hno
     clear hg hno HR
     rcases hp : p l[k] with _ | _
     · rw [hp] at CM
       have HP := Lib.hid hp
       clear hp
       clear hs
       generalize l[k].lab = x at *
       generalize l[k].fin = y at *
       go_wp2_with (go_at_fn g; go_must (refine CM.out.mono ?_; rintro e w6 ⟨rfl, hg6⟩; (have HG6 := Lib.hid hg6); clear hg6))
       go_roundw
       case rel =>
         refine ⟨k + 1, by omega, by go_num, Lib.hid ⟨HG.out.trans HG6.out, fun j hj hjk => ?_⟩⟩
         by_cases e : j = k
         · subst e; exact HP.out
         · exact HNO.out j hj (by omega)
       case measure => simp [intOf]; omega
     · rw [hp] at CM
       have HP := Lib.hid hp
       clear hp
       clear hs
       generalize l[k].lab = x at *
       generalize l[k].fin = y at *
       go_wp2_with (go_at_fn g; go_must (refine CM.out.mono ?_; rintro e w6 ⟨rfl, hg6⟩; (have HG6 := Lib.hid hg6); clear hg6))
       go_ret
       exact ⟨ret_int (idxP_hit e1 HP.out (fun j hj => HNO.out j (by omega) hj)).symm, HG.out.trans HG6.out⟩
   · obtain rfl : k = n := by omega
     have HG := Lib.hid hg
     have HNO := Lib.hid hno
     clear hg hno HR
     go_wp2
     go_ret
     exact ⟨ret_int (idxP_miss (fun j hj => HNO.out j hj (by have := LN.out; omega))).symm, HG.out⟩
theorem contNode_any (l : List Nd) (p : Nd → Bool) (g : Nat) (cb : Array Value) (eg : ∀ args w, (callFunc g args).run Tryz.prog w = .ok (.enter g args) w) (s : Value) (w : World) (h : NB w w.heap.size s l)
   (hc : ∀ v ∈ l, ∀ (s' : Value) (W : World), Bw w W → IB W W.heap.size s' (v.kids.map fun (x : Nat) => (x : Int)) → Calls Tryz.prog g (#[.agg #[.int .i64 v.lab, .int .i64 (v.fin : Int), s']] ++ cb) W (BoolPost W (p v))) :
   Calls Tryz.prog 186 #[s, .func (.func g) #[] cb] w (BoolPost w (l.any p)) := by
 have CI := Lib.hid (idxNode_any l p g cb eg s w h hc)
 rw [← idxP_nonneg]
 obtain ⟨A, n, c, rfl, _, _, _⟩ := h.form
 clear hc h
 generalize idxP p l = r at *
 go_enter Tryz.func186, Tryz.ntmps186
 go_wp2_with (go_at_call 192; go_must (refine CI.out.mono ?_; rintro e w6 ⟨rfl, hg6⟩))
 go_ret
 exact ⟨rfl, hg6⟩

def badN (x : Nd) : Bool := decide (x.lab < 0) || decide (16 ≤ x.lab)
theorem tnodes1_any (v : Nd) (s : Value) (W : World) (h : IB W W.heap.size s (v.kids.map fun (x : Nat) => (x : Int))) : Calls Tryz.prog 187 (#[.agg #[.int .i64 v.lab, .int .i64 (v.fin : Int), s]] ++ #[]) W (BoolPost W (badN v)) := by
 obtain ⟨A, n, c, rfl, _, _, _⟩ := h.form
 unfold badN
 clear h
 generalize v.lab = x
 generalize v.fin = y
 by_cases h : x < 0
 · have d1 : decide (x < 0) = true := by simpa using h
   go_enter Tryz.func187, Tryz.ntmps187
   go_wp2
   go_ret
   exact ⟨by simp [d1], (Bw.refl _).alloc _⟩
 · have d1 : decide (x < 0) = false := by simpa using h
   go_enter Tryz.func187, Tryz.ntmps187
   go_wp2
   go_ret
   exact ⟨by simp [d1], (Bw.refl _).alloc _⟩
theorem tsmall_any (t : V) (h9 : t.size ≤ 12) (s : Value) (w : World) (h : KB w w.heap.size s t.ks) : Calls Tryz.prog 184 #[.agg #[.int .i64 t.n, s]] w (BoolPost w true) := by
 obtain ⟨A, n, c, rfl, ln, _, _⟩ := h.form
 have hc : cntI t 12 ≤ 12 := by unfold cntI; omega
 have CN : Hid (∀ W, Bw w W → Calls Tryz.prog 191 #[.agg #[.int .i64 t.n, .slice A n c], .int .i64 12] W (NumPost W (cntI t 12))) := Lib.hid (fun W g => tcnt_any t _ W 12 (by omega) (by omega) (h.bw g))
 clear h ln h9
 generalize cntI t 12 = m at *
 generalize t.n = x at *
 have d1 : decide (m ≤ 12) = true := by simpa using hc
 go_enter Tryz.func184, Tryz.ntmps184
 go_wp2_with (go_at_call 191; go_must (refine (CN.out _ ((Bw.refl _).alloc _)).mono ?_; rintro e w6 ⟨rfl, hg6⟩; (have HG6 := Lib.hid hg6); clear hg6))
 go_ret
 exact ⟨ret_bool (by first | rfl | exact d1), ((Bw.refl _).alloc _).trans HG6.out⟩
def NodesPost (w : World) (t : V) (e : Ending) (w' : World) : Prop := ∃ s, e = .returned s ∧ NAt w' (fun b => w.heap.size ≤ b ∧ b < w'.heap.size) s (nodesP t) ∧ Bw w w'
def TreeOk (t : V) : Prop := t.size ≤ 12 ∧ ∀ x ∈ subs t, 0 ≤ x.n ∧ x.n < 16
theorem tagged_subs (z : Int) (t : V) : taggedP z t = true → ∀ x ∈ subs t, 0 ≤ x.n ∧ x.n < z := by
 induction t using V.ind with
 | h n ks ih =>
   intro h x hx
   rw [taggedP_eq] at h
   simp only [Bool.and_eq_true, decide_eq_true_eq, V.n_mk, V.ks_mk] at h
   have key : ∀ l : List V, (∀ k ∈ l, ∀ x ∈ subs k, 0 ≤ x.n ∧ x.n < z) → ∀ x ∈ subsL l, 0 ≤ x.n ∧ x.n < z := by
     intro l
     induction l with
     | nil => intro _ x hx; simp [subsL] at hx
     | cons y r ihr =>
       intro hl x hx
       simp only [subsL, List.mem_append] at hx
       rcases hx with hx | hx
       · exact hl y (by simp) x hx
       · exact ihr (fun k hk => hl k (by simp [hk])) x hx
   simp only [subs, List.mem_cons] at hx
   rcases hx with rfl | hx
   · exact ⟨of_decide_eq_true h.1.1, of_decide_eq_true h.1.2⟩
   · exact key ks (fun k hk => ih k hk (List.all_eq_true.1 h.2 k hk)) x hx
theorem numL_bad {l : List V} (h : ∀ x ∈ l, 0 ≤ x.n ∧ x.n < 16) (k : Nat) : (numL k l).any badN = false := by
 induction l generalizing k with
 | nil => rfl
 | cons x r ih =>
   have := h x (by simp)
   simp only [numL, List.any_cons, ih (fun y hy => h y (by simp [hy])) (k + 1), Bool.or_false]
   show (decide (x.n < 0) || decide (16 ≤ x.n)) = false
   rw [decide_eq_false (show ¬ x.n < 0 by omega), decide_eq_false (show ¬ 16 ≤ x.n by omega)]; rfl
theorem number_nil {W : World} {t : V} {e : Ending} {w' : World} (h : NumberPost W W.heap.size (.slice none 0 0) [] [] t e w') : NodesPost W t e w' := by
 obtain ⟨v7, ks7, rfl, hown7, hk7, hgr7, hb7⟩ := h
 have hl : (nodesP t).length = t.size := by rw [nodesP, numL_length, subs_length]
 have e1 : numL ([] : List Nd).length (subs t) = nodesP t := rfl
 rw [e1] at hown7 hk7
 rw [List.length_nil, Nat.zero_add, List.nil_append, List.nil_append] at hown7
 have hN7 := own_NAt hown7 hl hk7
 refine ⟨v7, rfl, hN7.keep (fun b hb => ?_) (fun _ _ => rfl), Bw.grown hgr7⟩
 rcases hb with hb | hb
 · exact ⟨hb.1, hb.2.1⟩
 · exact hown7.lt b hb
theorem CF8 {f : Nat} {args : Array Value} {W : World} {q : Bool} (h : q = false) (hc : Calls Tryz.prog f args W (BoolPost W q)) : Calls Tryz.prog f args W (BoolPost W false) := by rw [← h]; exact hc
theorem tnodes_any (t : V) (h9 : TreeOk t) (s : Value) (w : World) (h : KB w w.heap.size s t.ks) : Calls Tryz.prog 175 #[.agg #[.int .i64 t.n, s]] w (NodesPost w t) := by
 obtain ⟨A, n, c, rfl, ln, _, _⟩ := h.form
 have SM : Hid (∀ W, Bw w W → Calls Tryz.prog 184 #[.agg #[.int .i64 t.n, .slice A n c]] W (BoolPost W true)) := Lib.hid (fun W g => tsmall_any t h9.1 _ W (h.bw g))
 have NM : Hid (∀ W, Bw w W → Calls Tryz.prog 185 #[.slice none 0 0, .agg #[.int .i64 t.n, .slice A n c]] W (NodesPost W t)) := Lib.hid (fun W g => (tnumber_any t [] [] _ _ W.heap.size W (by have := h9.1; simp; omega) rfl (World.ownsRow_nil _ _ _ _) (Nat.le_refl _) (h.bw g)).mono fun _ _ h => number_nil h)
 have HB : Hid ((nodesP t).any badN = false) := Lib.hid (numL_bad h9.2 0)
 have HN : Hid ((numL 0 (subs t)) = nodesP t ∧ (nodesP t).length = t.size) := Lib.hid ⟨rfl, by rw [nodesP, numL_length, subs_length]⟩
 clear h ln h9
 have HBK := Lib.hid (Blk.new w 95 #[.int .i64 t.n, .slice A n c])
 generalize t.n = x at *
 go_enter Tryz.func175, Tryz.ntmps175
 go_wp2_with (first
   | (go_at_call 184; go_must (refine (SM.out _ ((Bw.refl _).alloc _)).mono ?_; rintro e w6 ⟨rfl, hg6⟩; (have k6 := HBK.out.below hg6.b HBK.out.lt); (have q0 := k6.cell 0); (have q1 := k6.cell 1); (have z6 := k6.lt); (have HG6 : Hid (Bw w w6) := Lib.hid (((Bw.refl _).alloc _).trans hg6)); clear hg6 k6))
   | (go_at_call 185; go_must (refine (NM.out _ HG6.out).mono ?_; rintro e w7 ⟨v7, rfl, hn7, hg7⟩; obtain ⟨A7, n7, c7, rfl, _, _, _⟩ := hn7.form; (have HN7 := Lib.hid hn7); (have HG7 := Lib.hid hg7); (have HC7 := Lib.hid (contNode_any (nodesP t) badN 187 #[] (enters_of Tryz.func187 (by kernel_rfl) rfl) _ w7 (hn7.keep (fun b hb => hb.2) (fun _ _ => rfl)) (fun v _ s' W _ hI => tnodes1_any v s' W hI))); clear hn7 hg7))
   | (go_at_call 186; go_must (refine (CF8 HB.out HC7.out).mono ?_; rintro e w8 ⟨rfl, hg8⟩; (have HG8 := Lib.hid hg8); clear hg8)))
 go_ret
 exact ⟨_, rfl, HN7.out.keep (fun b hb => ⟨by have := HG6.out.size; omega, Nat.lt_of_lt_of_le hb.2 HG8.out.size⟩) (fun p hp => HG8.out.b.cell hp.2), HG6.out.trans (HG7.out.trans HG8.out)⟩
def natInts (l : List Nat) : List Int := l.map fun (x : Nat) => (x : Int)
def ToAt (w : World) (S : Nat → Prop) (v : Value) (tl : List (List Nat)) : Prop :=
 ∃ A n c, v = .slice A n c ∧ tl.length = n ∧ n ≤ c ∧ c ≤ maxLen ∧ (0 < n → ∃ ad, A = some ad ∧ S ad.block ∧ ∀ k (h : k < tl.length), ∃ s, w.cell? (ad.add k) = some s ∧ IAt w S s (natInts tl[k]))
theorem ToAt.keep {w w' : World} {S S' : Nat → Prop} {v : Value} {tl : List (List Nat)} (h : ToAt w S v tl) (hS : ∀ b, S b → S' b) (hk : ∀ p : Addr, S p.block → w'.cell? p = w.cell? p) : ToAt w' S' v tl := by
 obtain ⟨A, n, c, h1, h2, h3, h4, h5⟩ := h
 refine ⟨A, n, c, h1, h2, h3, h4, fun hn => ?_⟩
 obtain ⟨ad, e, hs, hc⟩ := h5 hn
 refine ⟨ad, e, hS _ hs, fun k h => ?_⟩
 obtain ⟨s, q, hi⟩ := hc k h
 exact ⟨s, (hk _ (by rw [add_block]; exact hs)).trans q, hi.keep hS hk⟩
theorem ToAt.form {w : World} {S : Nat → Prop} {v : Value} {l : List (List Nat)} (h : ToAt w S v l) : ∃ A n c, v = .slice A n c ∧ l.length = n ∧ n ≤ 9223372036854775807 := by
 obtain ⟨A, n, c, h1, h2, h3, h4, _⟩ := h
 unfold maxLen at h4
 exact ⟨A, n, c, h1, h2, by omega⟩
theorem ToAt.at_ {w : World} {S : Nat → Prop} {A : Option Addr} {n c : Nat} {l : List (List Nat)} (h : ToAt w S (.slice A n c) l) {k : Nat} (hk : k < l.length) : ∃ ad A' n' c', A = some ad ∧ S ad.block ∧ w.cell? (ad.add k) = some (.slice A' n' c') ∧ l[k].length = n' ∧ n' ≤ 9223372036854775807 ∧ IAt w S (.slice A' n' c') (natInts l[k]) := by
 obtain ⟨A', n', c', e, h2, h3, h4, h5⟩ := h
 injection e with e1 e2 e3
 subst e1 e2 e3
 obtain ⟨ad, e, h6, h7⟩ := h5 (by omega)
 obtain ⟨s, h8, h9⟩ := h7 k hk
 obtain ⟨A2, n2, c2, e', g2, g3⟩ := h9.form'
 subst e'
 exact ⟨ad, A2, n2, c2, e, h6, h8, by simpa [natInts] using g2, g3, h9⟩
structure SrcI (w : World) (B g : Nat) (a b : V) (av bv tov : Value) (tl : List (List Nat)) : Prop where
 blk : Blk w g 163 #[av, bv, tov]
 na : NB w B av (nodesP a)
 nb : NB w B bv (nodesP b)
 to : ToAt w (· < B) tov tl
 len : tl.length = a.size
 gB : g < B
 hs : B ≤ w.heap.size
theorem SrcI.keep {w w' : World} {B g : Nat} {a b : V} {av bv tov : Value} {tl : List (List Nat)} (h : SrcI w B g a b av bv tov tl) (k : Bw w w') : SrcI w' B g a b av bv tov tl :=
 ⟨h.blk.below k.b h.blk.lt, h.na.keep (fun _ h => h) (fun p hp => k.b.cell (Nat.lt_of_lt_of_le hp h.hs)), h.nb.keep (fun _ h => h) (fun p hp => k.b.cell (Nat.lt_of_lt_of_le hp h.hs)), h.to.keep (fun _ h => h) (fun p hp => k.b.cell (Nat.lt_of_lt_of_le hp h.hs)), h.len, h.gB, Nat.le_trans h.hs k.size⟩
theorem nodesP_length (t : V) : (nodesP t).length = t.size := by rw [nodesP, numL_length, subs_length]
theorem nodesP_get {t : V} {i : Nat} (h : i < (nodesP t).length) (h' : i < (subs t).length) : (nodesP t)[i] = ndOf i (subs t)[i] := by
 have := numL_get 0 (subs t) i h' h
 rw [Nat.zero_add] at this
 exact this
def inR (j e : Nat) (x : Int) : Bool := decide ((j : Int) ≤ x) && decide (x < (e : Int))
theorem tinto1_any {B g : Nat} {a b : V} {av bv tov : Value} {tl : List (List Nat)} (w : World) (hI : SrcI w B g a b av bv tov tl) (j : Nat) (hj : j < b.size) (x : Int) (bj bs : Nat) (h1 : w.cell? ⟨bj, 0, none⟩ = some (.int .i64 (j : Int))) (h2 : w.cell? ⟨bs, 0, none⟩ = some (.pointer (some ⟨g, 0, none⟩))) (e : Nat) (he : ∃ (h : j < (subs b).length), e = j + (subs b)[j].size) :
   Calls Tryz.prog 198 (#[.int .i64 x] ++ #[.pointer (some ⟨bj, 0, none⟩), .pointer (some ⟨bs, 0, none⟩)]) w (BoolPost w (inR j e x)) := by
 have hjl : j < (nodesP b).length := by rw [nodesP_length]; exact hj
 obtain ⟨BA, bn, bc, rfl, lb, b1, b2⟩ := hI.nb.form
 unfold maxLen at b2
 obtain ⟨ad, sA, sn, sc, rfl, hb, q0, q1, q2, _⟩ := hI.nb.at_ hjl
 obtain ⟨hjs, rfl⟩ := he
 rw [nodesP_get hjl hjs] at q1
 simp only [ndOf] at q1
 have c1 := hI.blk.cell 1
 have d3 : j < bn := by omega
 unfold inR
 clear hI hb q0 q2
 generalize hz : j + (subs b)[j].size = z at *
 clear hz
 by_cases hx : (j : Int) ≤ x
 · have d1 : decide ((j : Int) ≤ x) = true := by simpa using hx
   have HF : Hid ((decide ((j : Int) ≤ x) && decide (x < (z : Int))) = decide (x < (z : Int))) := Lib.hid (by rw [d1]; rfl)
   go_enter Tryz.func198, Tryz.ntmps198
   go_wp2_with fail
   go_quiet (fail)
   go_wp2
   go_ret
   exact ⟨ret_bool (by first | rfl | exact HF.out.symm), (Bw.refl _).drewN _⟩
 · have d1 : decide ((j : Int) ≤ x) = false := by simpa using hx
   have HF : Hid ((decide ((j : Int) ≤ x) && decide (x < (z : Int))) = false) := Lib.hid (by rw [d1]; rfl)
   go_enter Tryz.func198, Tryz.ntmps198
   go_wp2_with fail
   go_quiet (fail)
   go_wp2
   go_ret
   exact ⟨ret_bool (by first | rfl | exact HF.out.symm), (Bw.refl _).drewN _⟩
theorem idxP_skip {α : Type} {p : α → Bool} {x : α} {l : List α} (h : p x = false) : idxP p (x :: l) = if idxP p l = -1 then -1 else idxP p l + 1 := by
 unfold idxP
 by_cases hl : l.any p = true
 · have h1 : (x :: l).any p = true := by rw [List.any_cons, hl]; simp
   rw [if_pos hl, if_pos h1, if_neg (by omega), List.findIdx_cons, h]
   simp
 · have h1 : ¬ (x :: l).any p = true := by rw [List.any_cons, h]; simpa using hl
   rw [if_neg hl, if_neg h1, if_pos rfl]
theorem into_find (a b : V) (i j : Nat) (hj : j < (subs b).length) : (idxP (inR j (j + (subs b)[j].size)) (natInts (toP a b i)) = -1 ∧ intoP a b i j = -1) ∨
   ∃ k, ∃ (hk : k < (toP a b i).length), idxP (inR j (j + (subs b)[j].size)) (natInts (toP a b i)) = (k : Int) ∧ intoP a b i j = ((toP a b i)[k] : Int) := by
 have hp : ∀ q : Nat, inR j (j + (subs b)[j].size) (q : Int) = (decide (j ≤ q) && decide (q < j + (subs b)[j].size)) := fun q => by
   unfold inR; rw [Bool.eq_iff_iff]; simp; omega
 have key : ∀ l : List Nat, (idxP (inR j (j + (subs b)[j].size)) (natInts l) = -1 ∧ (l.find? fun q => decide (j ≤ q) && decide (q < j + (subs b)[j].size)) = none) ∨
     ∃ k, ∃ (hk : k < l.length), idxP (inR j (j + (subs b)[j].size)) (natInts l) = (k : Int) ∧ (l.find? fun q => decide (j ≤ q) && decide (q < j + (subs b)[j].size)) = some l[k] := by
   intro l
   induction l with
   | nil => left; exact ⟨by simp [idxP, natInts], rfl⟩
   | cons x r ih =>
     by_cases hx : (decide (j ≤ x) && decide (x < j + (subs b)[j].size)) = true
     · right
       refine ⟨0, by simp, idxP_hit (by simp [natInts]) (by simp only [natInts, List.map_cons, List.getElem_cons_zero]; rw [hp]; exact hx) (fun j hj => by omega), ?_⟩
       simp only [List.find?_cons, hx]; rfl
     · have hx' : inR j (j + (subs b)[j].size) (x : Int) = false := by rw [hp]; simpa using hx
       have hx2 : (decide (j ≤ x) && decide (x < j + (subs b)[j].size)) = false := by simpa using hx
       simp only [List.find?_cons, hx2]
       rcases ih with ⟨h1, h2⟩ | ⟨k, hk, h1, h2⟩
       · left
         refine ⟨?_, h2⟩
         show idxP _ ((x : Int) :: natInts r) = -1
         rw [idxP_skip hx', h1]; rfl
       · right
         refine ⟨k + 1, by simp; omega, ?_, by rw [h2]; rfl⟩
         show idxP _ ((x : Int) :: natInts r) = _
         rw [idxP_skip hx', h1, if_neg (by omega)]
         push_cast; rfl
 unfold intoP
 rw [List.getElem?_eq_getElem hj]
 rcases key (toP a b i) with ⟨h1, h2⟩ | ⟨k, hk, h1, h2⟩
 · left; exact ⟨h1, by simp only [h2]⟩
 · right; exact ⟨k, hk, h1, by simp only [h2]⟩

theorem tinto_any {B g : Nat} {a b : V} {av bv tov : Value} {tl : List (List Nat)} (w : World) (hI : SrcI w B g a b av bv tov tl) (i j : Nat) (hi : i < a.size) (hj : j < b.size) (hT : tl[i]? = some (toP a b i)) :
   Calls Tryz.prog 194 #[.pointer (some ⟨g, 0, none⟩), .int .i64 (i : Int), .int .i64 (j : Int)] w (NumPost w (intoP a b i j)) := by
 have hjs : j < (subs b).length := by rw [subs_length]; exact hj
 have hil : i < tl.length := by rw [hI.len]; exact hi
 obtain ⟨TA, tn, tc, rfl, lt, mt⟩ := hI.to.form
 obtain ⟨ad, RA, rn, rc, rfl, hb, q0, lr, mr, hR⟩ := hI.to.at_ hil
 have he : tl[i] = toP a b i := by rw [List.getElem?_eq_getElem hil] at hT; exact Option.some.inj hT
 rw [he] at lr hR
 have c2 := hI.blk.cell 2
 have z1 := hI.blk.lt
 have d1 : i < tn := by omega
 have hs := hI.hs
 have hgB := hI.gB
 have hbb : ad.block < w.heap.size := by omega
 have HI := Lib.hid hI
 have HB : Hid (Bw w ((w.alloc (.cells #[.pointer (some ⟨g, 0, none⟩)] 158)).alloc (.cells #[.int .i64 (j : Int)] 3)) ∧ Blk ((w.alloc (.cells #[.pointer (some ⟨g, 0, none⟩)] 158)).alloc (.cells #[.int .i64 (j : Int)] 3)) w.heap.size 158 #[.pointer (some ⟨g, 0, none⟩)] ∧ Blk ((w.alloc (.cells #[.pointer (some ⟨g, 0, none⟩)] 158)).alloc (.cells #[.int .i64 (j : Int)] 3)) (w.heap.size + 1) 3 #[.int .i64 (j : Int)]) := Lib.hid
   ⟨((Bw.refl _).alloc _).alloc _, (Blk.new _ _ _).alloc _, by have := Blk.new (w.alloc (.cells #[.pointer (some ⟨g, 0, none⟩)] 158)) 3 #[.int .i64 (j : Int)]; simpa only [World.size_alloc] using this⟩
 have IX : Hid (Calls Tryz.prog 158 #[.slice RA rn rc, .func (.func 198) #[] #[.pointer (some ⟨w.heap.size + 1, 0, none⟩), .pointer (some ⟨w.heap.size, 0, none⟩)]] ((w.alloc (.cells #[.pointer (some ⟨g, 0, none⟩)] 158)).alloc (.cells #[.int .i64 (j : Int)] 3)) (NumPost ((w.alloc (.cells #[.pointer (some ⟨g, 0, none⟩)] 158)).alloc (.cells #[.int .i64 (j : Int)] 3)) (idxP (inR j (j + (subs b)[j].size)) (natInts (toP a b i))))) := Lib.hid (by
   obtain ⟨h0, h1, h2⟩ := HB.out
   exact idxInt_any _ (inR j (j + (subs b)[j].size)) 198 _ (enters_of Tryz.func198 (by kernel_rfl) rfl) _ _ ((hR.more hs).bw h0) (fun v _ _ W hg _ => tinto1_any W (HI.out.keep (h0.trans hg)) j hj v _ _ ((h2.below hg.b h2.lt).cell 0) ((h1.below hg.b h1.lt).cell 0) _ ⟨hjs, rfl⟩))
 have HF := Lib.hid (into_find a b i j hjs)
 have HRR := Lib.hid hR
 have HKS : Hid (∀ W, Bw ((w.alloc (.cells #[.pointer (some ⟨g, 0, none⟩)] 158)).alloc (.cells #[.int .i64 (j : Int)] 3)) W → w.heap.size < W.heap.size ∧ W.cell? ⟨w.heap.size, 0, none⟩ = some (.pointer (some ⟨g, 0, none⟩)) ∧ W.cell? ⟨g, 2, none⟩ = some (.slice (some ad) tn tc) ∧ W.cell? (ad.add i) = some (.slice RA rn rc) ∧ Hid (Bw w W)) := Lib.hid (fun W k => by
   obtain ⟨h0, h1, h2⟩ := HB.out
   have h3 := h0.trans k
   exact ⟨(h1.below k.b h1.lt).lt, (h1.below k.b h1.lt).cell 0, (h3.b.cell (p := ⟨g, 2, none⟩) z1).trans c2, (h3.b.cell (by rw [add_block]; exact hbb)).trans q0, h3⟩)
 have HBW : Hid (Bw w ((w.alloc (.cells #[.pointer (some ⟨g, 0, none⟩)] 158)).alloc (.cells #[.int .i64 (j : Int)] 3))) := Lib.hid HB.out.1
 obtain ⟨_, _, p1, p2, _⟩ := HKS.out _ (Bw.refl _)
 clear hI hR hb he hT HB lt
 generalize hix : idxP (inR j (j + (subs b)[j].size)) (natInts (toP a b i)) = ix at *
 generalize hip : intoP a b i j = ip at *
 clear hix hip
 rcases HF.out with ⟨rfl, rfl⟩ | ⟨k, hk, rfl, rfl⟩
 · clear HF
   go_enter Tryz.func194, Tryz.ntmps194
   go_wp2_with (go_at_call 158; go_must (refine IX.out.mono ?_; rintro e w6 ⟨rfl, hg6⟩; obtain ⟨_, _, _, _, HG6⟩ := HKS.out _ hg6; clear hg6))
   go_ret
   exact ⟨rfl, HG6.out⟩
 · have hkr : k < rn := by rw [← lr]; exact hk
   obtain ⟨ad3, rfl, hb3, q3⟩ := HRR.out.at_ (k := k) (by simpa [natInts] using hk)
   simp only [natInts, List.getElem_map] at q3
   have hb3' : ad3.block < w.heap.size := by omega
   have HQ3 : Hid (∀ W, Bw w W → W.cell? (ad3.add k) = some (.int .i64 ((toP a b i)[k] : Int))) := Lib.hid (fun W h => (h.b.cell (by rw [add_block]; exact hb3')).trans q3)
   clear HF HRR q3 hb3
   generalize (toP a b i)[k] = x at *
   go_enter Tryz.func194, Tryz.ntmps194
   go_wp2_with (go_at_call 158; go_must (refine IX.out.mono ?_; rintro e w6 ⟨rfl, hg6⟩; obtain ⟨u0, u1, u2, u3, HG6⟩ := HKS.out _ hg6; (have u4 := HQ3.out _ HG6.out); clear hg6))
   go_ret
   exact ⟨rfl, HG6.out⟩
def plc (f : Nat → Nat → Int) : List Nat → List Nat → Option (List Int)
 | [], _ => some []
 | _ :: _, [] => none
 | p :: ps, q :: rest => if 0 ≤ f p q then (plc f ps rest).map (f p q :: ·) else plc f (p :: ps) rest
theorem plc_embG (f : Nat → Nat → Int) : ∀ (rest ps : List Nat), (plc f ps rest).isSome = embG (fun p q => decide (0 ≤ f p q)) ps rest
 | rest, [] => by cases rest <;> rfl
 | [], p :: ps => rfl
 | q :: rest, p :: ps => by
   simp only [plc, embG]
   by_cases h : 0 ≤ f p q
   · rw [if_pos h, if_pos (by simpa using h), ← plc_embG f rest ps]
     cases plc f ps rest <;> rfl
   · rw [if_neg h, if_neg (by simpa using h), ← plc_embG f rest (p :: ps)]
theorem plc_step (f : Nat → Nat → Int) (p : Nat) (ps : List Nat) : ∀ rest : List Nat, (idxP (fun q => decide (0 ≤ f p q)) rest = -1 ∧ plc f (p :: ps) rest = none) ∨
   ∃ k, ∃ (hk : k < rest.length), idxP (fun q => decide (0 ≤ f p q)) rest = (k : Int) ∧ 0 ≤ f p rest[k] ∧ plc f (p :: ps) rest = (plc f ps (rest.drop (k + 1))).map (f p rest[k] :: ·)
 | [] => .inl ⟨rfl, rfl⟩
 | q :: rest => by
   by_cases h : 0 ≤ f p q
   · right
     exact ⟨0, by simp, idxP_hit (by simp) (by simpa using h) (fun j hj => by omega), h, by simp [plc, h]⟩
   · have h' : (fun q => decide (0 ≤ f p q)) q = false := by simpa using h
     rw [idxP_skip (p := fun q => decide (0 ≤ f p q)) h']
     rcases plc_step f p ps rest with ⟨h1, h2⟩ | ⟨k, hk, h1, h2, h3⟩
     · left; exact ⟨by rw [h1]; rfl, by simp [plc, h, h2]⟩
     · right
       exact ⟨k + 1, by simp; omega, by rw [h1, if_neg (by omega)]; push_cast; rfl, h2, by simp [plc, h, h3]⟩
theorem idxP_nat (f : Nat → Nat → Int) (p : Nat) : ∀ rest : List Nat, idxP (fun x : Int => decide (0 ≤ f p x.toNat)) (natInts rest) = idxP (fun q => decide (0 ≤ f p q)) rest
 | [] => rfl
 | q :: rest => by
   have ih := idxP_nat f p rest
   by_cases h : 0 ≤ f p q
   · rw [idxP_hit (k := 0) (by simp [natInts]) (by simp [natInts, h]) (fun j hj => by omega), idxP_hit (k := 0) (by simp) (by simpa using h) (fun j hj => by omega)]
   · show idxP _ ((q : Int) :: natInts rest) = _
     rw [idxP_skip (by simpa using h), idxP_skip (by simpa using h), ih]
theorem tplace1_any {B g : Nat} {a b : V} {av bv tov : Value} {tl : List (List Nat)} (w : World) (hI : SrcI w B g a b av bv tov tl) (p q : Nat) (hp : p < a.size) (hq : q < b.size) (hT : tl[p]? = some (toP a b p)) (bs bk : Nat)
   (h1 : w.cell? ⟨bs, 0, none⟩ = some (.pointer (some ⟨g, 0, none⟩))) (h2 : w.cell? ⟨bk, 0, none⟩ = some (.int .i64 (p : Int))) :
   Calls Tryz.prog 193 (#[.int .i64 (q : Int)] ++ #[.pointer (some ⟨bs, 0, none⟩), .pointer (some ⟨bk, 0, none⟩)]) w (BoolPost w (decide (0 ≤ intoP a b p q))) := by
 have IN := Lib.hid (tinto_any w hI p q hp hq hT)
 clear hI hT
 generalize intoP a b p q = r at *
 go_enter Tryz.func193, Tryz.ntmps193
 go_wp2_with (go_at_call 194; go_must (refine IN.out.mono ?_; rintro e w6 ⟨rfl, hg6⟩))
 go_ret
 exact ⟨rfl, hg6⟩
def PlacePost (w : World) (r : Option (List Int)) (e : Ending) (w' : World) : Prop := ∃ rv, e = .returned (.tuple #[rv, .bool r.isSome]) ∧ IAt w' (fun b => w.heap.size ≤ b ∧ b < w'.heap.size) rv (r.getD []) ∧ Bw w w'
theorem kids_lt {t : V} {i : Nat} (hi : i < (subs t).length) : ∀ p ∈ starts (i + 1) (subs t)[i].ks, i < p ∧ p < t.size := by
 intro p hp
 obtain ⟨j, hj, rfl⟩ := List.getElem_of_mem hp
 have hj' : j < (subs t)[i].ks.length := by rw [starts_length] at hj; exact hj
 obtain ⟨q, h1, h2, h3, h4, h5⟩ := kid_at hi hj'
 rw [List.getElem?_eq_getElem hj] at h1
 rw [Option.some.inj h1]
 rw [subs_length] at h2
 exact ⟨h4, h2⟩
theorem natInts_get {l : List Nat} {k : Nat} (h : k < l.length) (h' : k < (natInts l).length) : (natInts l)[k] = (l[k] : Int) := by simp [natInts]
theorem natInts_drop (l : List Nat) (k : Nat) : (natInts l).drop k = natInts (l.drop k) := by simp [natInts]
theorem tplace_any {B g : Nat} {a b : V} {av bv tov : Value} {tl : List (List Nat)} (w : World) (hI : SrcI w B g a b av bv tov tl) (i j : Nat) (hi : i < (subs a).length) (hj : j < (subs b).length) (ha9 : a.size ≤ 1000)
   (hT : ∀ p, i < p → p < a.size → tl[p]? = some (toP a b p)) :
   Calls Tryz.prog 188 #[.pointer (some ⟨g, 0, none⟩), .int .i64 (i : Int), .int .i64 (j : Int)] w (PlacePost w (plc (intoP a b) (starts (i + 1) (subs a)[i].ks) (starts (j + 1) (subs b)[j].ks))) := by
 have hil : i < (nodesP a).length := by rw [nodesP_length, ← subs_length]; exact hi
 have hjl : j < (nodesP b).length := by rw [nodesP_length, ← subs_length]; exact hj
 obtain ⟨AA, an, ac, rfl, la, a1, a2⟩ := hI.na.form
 obtain ⟨BA, bn, bc, rfl, lb, b1, b2⟩ := hI.nb.form
 unfold maxLen at a2 b2
 obtain ⟨ada, KA, kn, kc, rfl, hba, _, _, qa, hka⟩ := hI.na.at_ hil
 obtain ⟨adb, RA, rn, rc, rfl, hbb, _, _, qb, hkb⟩ := hI.nb.at_ hjl
 rw [nodesP_get hil hi] at hka
 rw [nodesP_get hjl hj] at hkb
 simp only [ndOf] at hka hkb
 change IB w B (.slice KA kn kc) (natInts (starts (i + 1) (subs a)[i].ks)) at hka
 change IB w B (.slice RA rn rc) (natInts (starts (j + 1) (subs b)[j].ks)) at hkb
 have hpl := kids_lt hi
 have hql := kids_lt hj
 have hps9 : (starts (i + 1) (subs a)[i].ks).length ≤ 1000 := by
   have h1 := sizeL_length (subs a)[i].ks
   have h2 := end_le hi
   have h3 := (subs a)[i].size_eq
   rw [starts_length]; omega
 generalize starts (i + 1) (subs a)[i].ks = ps at *
 generalize starts (j + 1) (subs b)[j].ks = qs at *
 have c0 := hI.blk.cell 0
 have c1 := hI.blk.cell 1
 have z1 := hI.blk.lt
 have hs := hI.hs
 have d1 : i < an := by omega
 have d2 : j < bn := by omega
 have hba' : ada.block < w.heap.size := by omega
 have hbb' : adb.block < w.heap.size := by omega
 obtain ⟨_, kn', _, e, lk, hkc, mk⟩ := hka.form
 cases e
 unfold maxLen at mk
 have hkn : ps.length = kn := by simpa [natInts] using lk
 obtain ⟨_, rn', _, e', lr, hrc, mr⟩ := hkb.form
 cases e'
 unfold maxLen at mr
 have HI := Lib.hid hI
 have HKA := Lib.hid hka
 have HKB := Lib.hid hkb
 have HPL := Lib.hid hpl
 have HQL := Lib.hid hql
 have HTL := Lib.hid hT
 have HKN := Lib.hid hkn
 have HBX : Hid (∀ o W, o = .cells #[.pointer (some ⟨g, 0, none⟩)] 158 → Bw (w.alloc o) W → w.heap.size < W.heap.size ∧ W.cell? ⟨w.heap.size, 0, none⟩ = some (.pointer (some ⟨g, 0, none⟩)) ∧ W.cell? ⟨g, 0, none⟩ = some (.slice (some ada) an ac) ∧ W.cell? ⟨g, 1, none⟩ = some (.slice (some adb) bn bc) ∧
     W.cell? ⟨(ada.add (i * 3)).block, (ada.add (i * 3)).off + 2, none⟩ = some (.slice KA kn kc) ∧ W.cell? ⟨(adb.add (j * 3)).block, (adb.add (j * 3)).off + 2, none⟩ = some (.slice RA rn rc) ∧ Hid (Bw w W)) := Lib.hid (fun o W ho k => by
   subst ho
   have h1 := (Blk.new w 158 #[.pointer (some ⟨g, 0, none⟩)]).below k.b (Blk.new w 158 #[.pointer (some ⟨g, 0, none⟩)]).lt
   have h3 : Bw w W := ((Bw.refl w).alloc _).trans k
   exact ⟨h1.lt, h1.cell 0, (h3.b.cell (p := ⟨g, 0, none⟩) z1).trans c0, (h3.b.cell (p := ⟨g, 1, none⟩) z1).trans c1, (h3.b.cell (by simp only [add_block]; exact hba')).trans qa, (h3.b.cell (by simp only [add_block]; exact hbb')).trans qb, h3⟩)
 obtain ⟨_, p0, p1, p2, p3, p4, _⟩ := HBX.out _ _ rfl (Bw.refl _)
 obtain ⟨i0, hi0, hz0, hz1, hz2⟩ := info_parts infoInt
 obtain ⟨res, hres⟩ : ∃ res, plc (intoP a b) ps qs = res := ⟨_, rfl⟩
 rw [hres]
 have HRES := Lib.hid hres
 clear hI hka hkb hpl hql hT lk lr hkn hres c0 c1 qa qb la lb
 go_enter Tryz.func188, Tryz.ntmps188
 go_wp2
 go_loopw [8, 9, 30] (fun s8 s9 ct wr => ∃ (k rn' rc' : Nat) (RA' : Option Addr), k ≤ kn ∧ rn' ≤ rc' ∧ rc' ≤ 9223372036854775807 ∧ ct = .int .i64 k ∧ s9 = .slice RA' rn' rc' ∧ Hid (∃ out rest, Bw (w.alloc (.cells #[.pointer (some ⟨g, 0, none⟩)] 158)) wr ∧ wr.ownsRow (w.heap.size + 1) 3 1 s8 k (intVs out) ∧ out.length = k ∧ rest.length = rn' ∧ IB w B (.slice RA' rn' rc') (natInts rest) ∧ (∀ q ∈ rest, q ∈ qs) ∧ res = (plc (intoP a b) (ps.drop k) rest).map (out ++ ·))) (fun _ _ ct _ => kn - (intOf ct).toNat)
 case atStart => exact ⟨0, rn, rc, RA, by omega, hrc, by omega, rfl, rfl, Lib.hid ⟨[], qs, Bw.refl _, World.ownsRow_nil _ _ _ _, rfl, by have := HKB.out.form; obtain ⟨_, _, _, e, h, _⟩ := this; injection e with _ e2 _; rw [e2]; simpa [natInts] using h, HKB.out, fun q h => h, by rw [List.drop_zero, HRES.out]; cases res <;> rfl⟩⟩
 case round =>
   obtain ⟨k, rn', rc', RA', hk, hrc', hrc9, rfl, rfl, HR⟩ := hrel
   obtain ⟨out, rest, hbw, hown, hol, hrl, hrI, hrq, hres⟩ := HR.out
   obtain ⟨OA, oc, rfl, _, _⟩ := own_bounds hown
   have HBW := Lib.hid hbw
   have HOW := Lib.hid hown
   have HOL := Lib.hid hol
   have HRL := Lib.hid hrl
   have HRI := Lib.hid hrI
   have HRQ := Lib.hid hrq
   have HRS := Lib.hid hres
   have hbww : Bw w wr := ((Bw.refl w).alloc _).trans hbw
   have hsz := hbw.size
   rw [World.size_alloc] at hsz
   have HWW := Lib.hid hbww
   clear hbw hown hol hrl hrI hrq hres HR p0 p1 p2 p3 p4
   by_cases hlt : k < kn
   · have e1 : k < ps.length := by rw [HKN.out]; exact hlt
     obtain ⟨ad, rfl, hb, q0⟩ := HKA.out.at_ (k := k) (by simpa [natInts] using e1)
     rw [natInts_get e1] at q0
     have hb' : ad.block < w.heap.size := by omega
     have q1 := (HWW.out.b.cell (by rw [add_block]; exact hb')).trans q0
     have hpp := HPL.out _ (List.getElem_mem e1)
     have HDR : Hid (ps.drop k = ps[k] :: ps.drop (k + 1)) := Lib.hid (List.drop_eq_getElem_cons e1)
     have HTP := Lib.hid (HTL.out _ hpp.1 hpp.2)
     generalize ps[k] = p at *
     have hst := plc_step (intoP a b) p (ps.drop (k + 1)) rest
     have hixn := idxP_nat (intoP a b) p rest
     have IX : Hid (Calls Tryz.prog 158 #[.slice RA' rn' rc', .func (.func 193) #[] #[.pointer (some ⟨w.heap.size, 0, none⟩), .pointer (some ⟨wr.heap.size, 0, none⟩)]] (wr.alloc (.cells #[.int .i64 (p : Int)] 3)) (NumPost (wr.alloc (.cells #[.int .i64 (p : Int)] 3)) (idxP (fun q => decide (0 ≤ intoP a b p q)) rest))) := Lib.hid (by
       rw [← hixn]
       have hbk := Blk.new wr 3 #[.int .i64 (p : Int)]
       refine idxInt_any _ _ 193 _ (enters_of Tryz.func193 (by kernel_rfl) rfl) _ _ (((HRI.out.under (HWW.out.b.mono hs)).more (Nat.le_trans hs HWW.out.size)).bw ((Bw.refl _).alloc _)) (fun v hv _ W hg _ => ?_)
       obtain ⟨q, hq, rfl⟩ := List.mem_map.1 hv
       have hq9 := (HQL.out q (HRQ.out q hq)).2
       have hgw : Bw (w.alloc (.cells #[.pointer (some ⟨g, 0, none⟩)] 158)) W := HBW.out.trans (((Bw.refl _).alloc _).trans hg)
       have := tplace1_any W (HI.out.keep (((Bw.refl w).alloc _).trans hgw)) p q hpp.2 hq9 HTP.out w.heap.size wr.heap.size (HBX.out _ W rfl hgw).2.1 ((hbk.below hg.b hbk.lt).cell 0)
       rw [Int.toNat_natCast]
       exact this)
     have HB6 : Hid (∀ W, Bw (wr.alloc (.cells #[.int .i64 (p : Int)] 3)) W → wr.heap.size < W.heap.size ∧ W.cell? ⟨wr.heap.size, 0, none⟩ = some (.int .i64 (p : Int)) ∧ W.cell? ⟨w.heap.size, 0, none⟩ = some (.pointer (some ⟨g, 0, none⟩)) ∧ Hid (Bw (w.alloc (.cells #[.pointer (some ⟨g, 0, none⟩)] 158)) W) ∧ Hid (W.ownsRow (w.heap.size + 1) 3 1 (.slice OA k oc) k (intVs out))) := Lib.hid (fun W hg => by
       have hbk := Blk.new wr 3 #[.int .i64 (p : Int)]
       have hgw : Bw (w.alloc (.cells #[.pointer (some ⟨g, 0, none⟩)] 158)) W := HBW.out.trans (((Bw.refl _).alloc _).trans hg)
       exact ⟨(hbk.below hg.b hbk.lt).lt, (hbk.below hg.b hbk.lt).cell 0, (HBX.out _ W rfl hgw).2.1, hgw, own_kept_bw HOW.out (((Bw.refl _).alloc _).trans hg)⟩)
     obtain ⟨_, u0, u1, _, _⟩ := HB6.out _ (Bw.refl _)
     clear hixn q0 hb
     rcases hst with ⟨h1, h2⟩ | ⟨k2, hk2, h1, h2, h3⟩
     · have HF : Hid (res = none) := Lib.hid (by rw [HRS.out, HDR.out, h2]; rfl)
       rw [h1] at IX
       clear h1 h2
       go_wp2_with (go_at_call 158; go_must (refine IX.out.mono ?_; rintro e w6 ⟨rfl, hg6⟩; obtain ⟨_, _, _, HG6, _⟩ := HB6.out _ hg6; clear hg6))
       go_ret2
       exact ⟨.slice none 0 0, by rw [HF.out]; rfl, by rw [HF.out]; exact IAt.nil (S := fun _ => _ ∧ _) 0 none (by unfold maxLen; omega), ((Bw.refl w).alloc _).trans HG6.out⟩
     · have HF : Hid (res = (plc (intoP a b) (ps.drop (k + 1)) (rest.drop (k2 + 1))).map (out ++ [intoP a b p rest[k2]] ++ ·)) := Lib.hid (by
         rw [HRS.out, HDR.out, h3, Option.map_map]
         congr 1
         funext x; simp)
       rw [h1] at IX
       have hk2r : k2 < rn' := by rw [← HRL.out]; exact hk2
       obtain ⟨adr, rfl, hbr, qr⟩ := HRI.out.at_ (k := k2) (by simpa [natInts] using hk2)
       rw [natInts_get hk2] at qr
       have hbr' : adr.block < w.heap.size := by omega
       have hq9 := (HQL.out _ (HRQ.out _ (List.getElem_mem hk2))).2
       have HQR : Hid (∀ W, Bw (wr.alloc (.cells #[.int .i64 (p : Int)] 3)) W → W.cell? (adr.add k2) = some (.int .i64 (rest[k2] : Int))) := Lib.hid (fun W hg => ((HWW.out.trans (((Bw.refl _).alloc _).trans hg)).b.cell (by rw [add_block]; exact hbr')).trans qr)
       have IN : Hid (∀ W, Bw (wr.alloc (.cells #[.int .i64 (p : Int)] 3)) W → Calls Tryz.prog 194 #[.pointer (some ⟨g, 0, none⟩), .int .i64 (p : Int), .int .i64 (rest[k2] : Int)] W (NumPost W (intoP a b p rest[k2]))) := Lib.hid (fun W hg => tinto_any W (HI.out.keep (HWW.out.trans (((Bw.refl _).alloc _).trans hg))) p _ hpp.2 hq9 HTP.out)
       have hcut : ∀ W, (Instr.slice 22 (.slice (some adr) rn' rc') (some (.int .i64 ((k2 : Int) + 1))) none none).run Tryz.prog W = .ok (sliced (some adr) (k2 + 1) rn' rc' 1) W := fun W => cutI_l (some adr) rn' rc' (k2 + 1) (by omega) W
       have hpt := IAt.part HRI.out (k := k2 + 1) (m := rn') (by omega) (Nat.le_refl _)
       obtain ⟨A3, hA3⟩ := sliced_form (some adr) (k2 + 1) rn' rc' 1
       rw [hA3, List.take_of_length_le (by simp [natInts, HRL.out]), natInts_drop] at hpt
       simp only [hA3] at hcut
       have HPT := Lib.hid hpt
       have dlt : decide ((k2 : Int) < 0) = false := by simp
       clear h1 h3 hA3 hpt qr hbr
       generalize hip : intoP a b p rest[k2] = ip at *
       generalize rest[k2] = rk at *
       clear hip h2 hk2
       go_wp2_with (go_at_call 158; go_must (refine IX.out.mono ?_; rintro e w6 ⟨rfl, hg6⟩; obtain ⟨v0, v1, v2, HG6, HO6⟩ := HB6.out _ hg6; (have v3 := HQR.out _ hg6); (have IN2 := Lib.hid (IN.out _ hg6.drew)); (have HGA := Lib.hid hg6); clear hg6))
       go_region_law (first
         | (refine step_append_any _ rfl (.tmp 39) (.tmp 47) 22 rfl (w.heap.size + 1) 3 i0 _ 1 8 Tryz.underlying22 hi0 hz0 hz1 hz2 rfl (by decide) (.slice OA k oc) k (intVs out) (by simp [Act.eval, Act.put]) (HO7.out.alloc _) (w7.heap.size + 1) (some ⟨w7.heap.size, 0, none⟩) 1 1 [.int .i64 ip] (by simp [Act.eval, Act.put]) (reads_new1 w7 ip) (by simp [Value.oneCell']) (by unfold maxLen; omega) (by omega) (by have := HG7.out.size; simp at this; simp; omega) ?_; intro v8 w8 hown8 hgr8 hl8; obtain ⟨A8, c8, rfl⟩ := own_form hown8; have HO8 := Lib.hid hown8; have HG8 := Lib.hid hgr8; clear hown8 hgr8 hl8)
         | (go_simp; go_at_call 194; refine IN2.out.mono ?_; rintro e w7 ⟨rfl, hg7⟩; have HO7 : Hid (w7.ownsRow (w.heap.size + 1) 3 1 (.slice OA k oc) k (intVs out)) := Lib.hid (own_kept_bw HO6.out ((Bw.refl _).drew.trans hg7)); have HG7 : Hid (Bw (w.alloc (.cells #[.pointer (some ⟨g, 0, none⟩)] 158)) w7) := Lib.hid (HG6.out.trans ((Bw.refl _).drew.trans hg7)); clear hg7))
       all_goals
         go_simp
         go_wp2
         go_roundw
         case rel =>
           refine ⟨k + 1, _, _, A3, by omega, ?_, ?_, by go_num, rfl, Lib.hid ⟨out ++ [ip], rest.drop (k2 + 1), ?_, ?_, by simp [HOL.out], by rw [List.length_drop, HRL.out], HPT.out, fun q hq => HRQ.out q (List.mem_of_mem_drop hq), HF.out⟩⟩
           · omega
           · omega
           · have h1 := HG7.out.alloc (.cells #[.int .i64 ip] 3)
             have hlow : ∀ r, (Value.slice OA k oc).ownBlock = some r → w.heap.size + 1 ≤ r := fun r e => (HO7.out.lt r e).1
             exact ⟨HG8.out.os.trans h1.os, HG8.out.tape.trans h1.tape, HG8.out.output.trans h1.output, Nat.le_trans h1.size HG8.out.size, fun i hi => (HG8.out.block i (Nat.lt_of_lt_of_le hi h1.size) (fun e => by have := hlow i e.symm; simp at hi; omega)).trans (h1.block i hi)⟩
           · have := HO8.out
             rw [show intVs (out ++ [ip]) = intVs out ++ [.int .i64 ip] by simp [intVs]]
             exact this
         case measure => simp [intOf]; omega
   · obtain rfl : k = kn := by omega
     have HF : Hid (res = some out) := Lib.hid (by rw [HRS.out, List.drop_eq_nil_of_le (by rw [HKN.out]; omega)]; cases rest <;> simp [plc])
     go_wp2
     go_ret2
     refine ⟨_, by rw [HF.out]; rfl, ?_, HWW.out⟩
     rw [HF.out]
     exact (own_IB HOW.out HOL.out).keep (fun b hb => ⟨by omega, hb.2⟩) (fun _ _ => rfl)
end Go.Proofs.YtbmheekaclmibaaGreat
