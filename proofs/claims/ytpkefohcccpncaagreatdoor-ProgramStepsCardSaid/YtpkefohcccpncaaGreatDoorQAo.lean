/- program.Parse. -/
import Derived.Test.YtpkefohcccpncaaGreatDoorQAn
import Derived.Deep.DeepCutAuto
import Derived.Deep.CutBlock
namespace Go.Proofs.YtpkefohcccpncaaGreatDoor
open Go.RowKit
set_option linter.unusedSimpArgs false
set_option linter.unusedVariables false
attribute [local go_sem] Oper.semAt_some

theorem cell_keptP {A W : World} {row : Option Nat} {p : Addr} {v : Value} (h : A.cell? p = some v) (hg : A.grownBy W row) (hr : ∀ r, row = some r → ∃ o, A.heap[r]? = some o ∧ o.isCells = false) : W.cell? p = some v := by
  have hlt : p.block < A.heap.size := by
    rcases Nat.lt_or_ge p.block A.heap.size with h2 | h2
    · exact h2
    · unfold World.cell? at h
      rw [Array.getElem?_eq_none h2] at h; cases h
  have hne : row ≠ some p.block := by
    intro e
    obtain ⟨o, ho, hc⟩ := hr _ e
    unfold World.cell? at h
    rw [ho] at h
    cases o <;> simp_all [Obj.isCells]
  rw [World.cell?_of_block (hg.block _ hlt (fun e => hne e.symm))]; exact h
theorem par_end {w W : World} {D : Nat} {a : Act} {v0 v0' v1 v2 : Value} {R : Ending → World → Prop} (hK : W.heap[D]? = some (.deferred (some []))) (hd : a.defers = [{ target := .collected D, args := #[] }])
    (hp0 : a.tmps.getD 2 undef = .pointer (some ⟨w.heap.size, 0, none⟩)) (hp1 : a.tmps.getD 3 undef = .pointer (some ⟨w.heap.size + 1, 0, none⟩)) (hp2 : a.tmps.getD 4 undef = .pointer (some ⟨w.heap.size + 1 + 1, 0, none⟩))
    (h0 : W.cell? ⟨w.heap.size, 0, none⟩ = some v0) (h0' : W.cell? ⟨w.heap.size, 1, none⟩ = some v0') (h1 : W.cell? ⟨w.heap.size + 1, 0, none⟩ = some v1) (h2 : W.cell? ⟨w.heap.size + 1 + 1, 0, none⟩ = some v2)
    (hR : R (.returned (.tuple #[.agg #[v0, v0'], v1, v2])) (W.putObj D (.deferred none))) : bodyPostM Fence.wide 5 Tryz.prog Tryz.f29 R .ret a W := by
  obtain ⟨tmps, defers⟩ := a
  dsimp only at hd hp0 hp1 hp2
  subst hd
  refine ⟨by simp, .inl ⟨_, _, rfl, run_takeDeferred hK, ?_⟩⟩
  have k0 := cell_keptP h0 (grownBy_putObj' _ D (.deferred none)) (fun r e => by cases e; exact ⟨_, hK, rfl⟩)
  have k0' := cell_keptP h0' (grownBy_putObj' _ D (.deferred none)) (fun r e => by cases e; exact ⟨_, hK, rfl⟩)
  have k1 := cell_keptP h1 (grownBy_putObj' _ D (.deferred none)) (fun r e => by cases e; exact ⟨_, hK, rfl⟩)
  have k2 := cell_keptP h2 (grownBy_putObj' _ D (.deferred none)) (fun r e => by cases e; exact ⟨_, hK, rfl⟩)
  simp only [Array.getD_eq_getD_getElem?] at hp0 hp1 hp2
  refine ⟨.tuple #[.agg #[v0, v0'], v1, v2], ?_, hR⟩
  simp [results, Tryz.f29, go_sem, hp0, hp1, hp2, k0, k0', k1, k2]
theorem par_fin {w W : World} {D : Nat} {a : Act} {v0 v3 v1 v2 : Value} {R : Ending → World → Prop} (hx : PaR w W v0 v1 v2 v3) (hK : W.heap[D]? = some (.deferred (some []))) (hd : a.defers = [{ target := .collected D, args := #[] }])
    (hp0 : a.tmps.getD 2 undef = .pointer (some ⟨w.heap.size, 0, none⟩)) (hp1 : a.tmps.getD 3 undef = .pointer (some ⟨w.heap.size + 1, 0, none⟩)) (hp2 : a.tmps.getD 4 undef = .pointer (some ⟨w.heap.size + 1 + 1, 0, none⟩))
    (hR : R (.returned (.tuple #[.agg #[v0, v3], v1, v2])) (W.putObj D (.deferred none))) : bodyPostM Fence.wide 5 Tryz.prog Tryz.f29 R .ret a W := by
  obtain ⟨c0, c3, c1, c2, _⟩ := hx.cells
  exact par_end hK hd hp0 hp1 hp2 c0 c3 c1 c2 hR
theorem def_set {W : World} {D : Nat} (hK : W.heap[D]? = some (.deferred (some []))) (a0 a1 a2 a3 : Value) (p0 p1 p2 p3 : Addr) : ((((W.setCell p0 a0).setCell p1 a3).setCell p2 a1).setCell p3 a2).heap[D]? = some (.deferred (some [])) :=
  have h : ∀ c T fz, Obj.deferred (some []) ≠ Obj.cells c T fz := fun c T fz e => by cases e
  setCell_nc (setCell_nc (setCell_nc (setCell_nc hK h) h) h) h
def pfin (st : PS) : Option (List Th) → Nat ⊕ Prg
  | none => .inl 0
  | some ts => if checkP ⟨st.v, ts⟩ then .inr ⟨st.v, ts⟩ else .inl 0
def ParPost (w : World) (R : Nat ⊕ Prg) (e : Ending) (w' : World) : Prop := Below w.heap.size w w' ∧ match R with
  | .inl n => e = .returned (.tuple #[.agg #[.int .i64 0, .slice none 0 0], .int .i64 n, .int .i64 47])
  | .inr p => ∃ A c, e = .returned (.tuple #[.agg #[.int .i64 p.v, .slice A p.ts.length c], .int .i64 0, .int .i64 0]) ∧ ThsAt w' w'.heap.size A p.ts
def bytesP (ys : List (PieceL 4096)) : List (List UInt8) := ys.map (·.1.data.toList)
def ps0 : PS := ⟨0, [], false, []⟩
def PInv (w : World) (pre : List (PieceL 4096)) (W : World) : Prop := ∃ st, rdF ps0 0 (bytesP pre) = some st ∧ RInv st pre.length ∧ PaI w st pre.length W
def POut (w : World) (c : Code) (pre : List (PieceL 4096)) (W : World) : Prop := c = .ret ∧ ∃ p x st, pre = p ++ [x] ∧ rdF ps0 0 (bytesP p) = some st ∧ rd st (p.length + 1) x.1.data.toList = none ∧ PaR w W (.int .i64 0) (.int .i64 (p.length + 1 : Nat)) (.int .i64 47) (.slice none 0 0)

theorem par_start (w : World) (o0 o1 o2 o3 o4 o5 o6 : Obj) (W : World) (hW : W = ((((((w.alloc o0).alloc o1).alloc o2).alloc o3).alloc o4).alloc o5).alloc o6) :
    W.heap[w.heap.size]? = some o0 ∧ W.heap[w.heap.size + 1]? = some o1 ∧ W.heap[w.heap.size + 1 + 1]? = some o2 ∧ W.heap[w.heap.size + 1 + 1 + 1]? = some o3 ∧ W.heap[w.heap.size + 1 + 1 + 1 + 1]? = some o4 ∧
    W.heap[w.heap.size + 1 + 1 + 1 + 1 + 1]? = some o5 ∧ W.heap[w.heap.size + 1 + 1 + 1 + 1 + 1 + 1]? = some o6 ∧ Below w.heap.size w W ∧ W.heap.size = w.heap.size + 1 + 1 + 1 + 1 + 1 + 1 + 1 := by
  subst hW
  have old : ∀ {w : World} {k : Nat} {o : Obj}, w.heap[k]? = some o → ∀ o' : Obj, (w.alloc o').heap[k]? = some o := fun {w k o} h o' => (Below.heap_alloc w o' k (Array.getElem?_eq_some_iff.1 h).1).trans h
  have q0 := heap_alloc_new w o0
  have q1 := heap_alloc_new (w.alloc o0) o1
  have q2 := heap_alloc_new ((w.alloc o0).alloc o1) o2
  have q3 := heap_alloc_new (((w.alloc o0).alloc o1).alloc o2) o3
  have q4 := heap_alloc_new ((((w.alloc o0).alloc o1).alloc o2).alloc o3) o4
  have q5 := heap_alloc_new (((((w.alloc o0).alloc o1).alloc o2).alloc o3).alloc o4) o5
  have q6 := heap_alloc_new ((((((w.alloc o0).alloc o1).alloc o2).alloc o3).alloc o4).alloc o5) o6
  simp only [World.size_alloc] at q0 q1 q2 q3 q4 q5 q6
  refine ⟨old (old (old (old (old (old q0 _) _) _) _) _) _, old (old (old (old (old q1 _) _) _) _) _, old (old (old (old q2 _) _) _) _, old (old (old q3 _) _) _, old (old q4 _) _, old q5 _, q6, ?_, by simp only [World.size_alloc]⟩
  exact (((((((Below.refl w.heap.size w).alloc (Nat.le_refl _) _).alloc (by simp only [World.size_alloc]; omega) _).alloc (by simp only [World.size_alloc]; omega) _).alloc (by simp only [World.size_alloc]; omega) _).alloc (by simp only [World.size_alloc]; omega) _).alloc (by simp only [World.size_alloc]; omega) _).alloc (by simp only [World.size_alloc]; omega) _
set_option maxRecDepth 100000 in
set_option maxHeartbeats 4000000 in
theorem parse_any (s : ByteArray) (w : World) (hs : s.size ≤ 4096) (hg : GlobP w) : Calls Tryz.prog 29 #[.string s] w (ParPost w (parseP s.data.toList)) := by
  have hlim : decide (4096 < (s.size : Int)) = false := by simp; omega
  have HG := Lib.hid hg
  clear hg
  refine (callsIn_wide (n := 5)).1 ?_
  refine callsIn_of_wp_marks Tryz.func29 rfl trivial ?_ rfl
  simp only [Tryz.ntmps29, List.size_toArray, List.length_cons, List.length_nil, Nat.reduceAdd, Nat.reduceSub, Array.replicate_succ, Array.replicate_zero, List.push_toArray, List.append_toArray, List.nil_append, List.cons_append]
  gi_wp2_with (refine ⟨trivial, ?_⟩; gi_at_call 53; go_must (refine (callsIn_wide.2 (lines_any s _)).mono ?_; rintro e w' ⟨rfl, rfl⟩))
  refine wpIn_rangeFunc_box rfl (by omega) (gf := 70) (lb := #[.pointer (some ⟨w.heap.size + 1 + 1 + 1 + 1 + 1 + 1, 0, none⟩)]) rfl trivial (enters_of Tryz.func70 (by kernel_rfl) rfl) (Bs := w.heap.size + 1 + 1 + 1 + 1 + 1 + 1) (T := 9) (by simp)
    (lines1_stops 4096 (by omega) (w.heap.size + 1 + 1 + 1 + 1 + 1 + 1) s hs _ ?boxes) (fun h k => ⟨Nat.le_trans h.1 k.1, k.2.trans h.2⟩) ?kb (Below.refl _ _) (fun _ => rfl)
    (PInv w) (POut w) ?hI ?hIx ?hIb ?hIxb ?h0
    (fun x => { tmps := #[.string s, undef, .pointer (some ⟨w.heap.size, 0, none⟩), .pointer (some ⟨w.heap.size + 1, 0, none⟩), .pointer (some ⟨w.heap.size + 1 + 1, 0, none⟩), .pointer (some ⟨w.heap.size + 1 + 1 + 1 + 1, 0, none⟩), .pointer (some ⟨w.heap.size + 1 + 1 + 1 + 1 + 1, 0, none⟩), .string x.1, .string s, .int .i64 s.size, .bool false, undef,
      .agg #[.int .i64 0, .slice none 0 0, .bool false, .slice none 0 0], .pointer (some ⟨w.heap.size + 1 + 1 + 1, 0, none⟩), .string s,
      .func (.func 70) #[] #[.pointer (some ⟨w.heap.size + 1 + 1 + 1 + 1 + 1 + 1, 0, none⟩)], .string x.1,
      undef, undef, undef, undef, undef, undef, undef, undef, undef, undef, undef, undef, undef, undef, undef, undef, undef, undef, undef, undef, undef, undef, undef, undef, undef, undef, undef, undef, undef, undef, undef, undef, undef, undef, undef, undef, undef, undef, undef, undef, undef], defers := [] }) ?assign ?body ?done ?stop
  case boxes =>
    obtain ⟨_, _, _, _, _, _, h6, _⟩ := par_start w _ _ _ _ _ _ _ _ rfl
    exact h6
  case kb =>
    intro W l o o' hl ho hc hw
    refine ⟨by simp [World.putObj], World.putObj_heap_other (by simp at hl; omega)⟩
  case hI =>
    rintro pre A B row ⟨st, hrd, hri, hi⟩ hg hr
    refine ⟨st, hrd, hri, hi.keep hg (fun r e => .inl ?_)⟩
    obtain ⟨h1, o, ho, hc⟩ := hr r e
    refine ⟨by simp at h1; omega, fun c T fz hcc => ?_⟩
    rw [ho] at hcc; injection hcc with hcc; subst hcc; cases hc
  case hIx =>
    rintro c pre A B row ⟨hc, p, x, st, e1, e2, e3, hx⟩ hg hr
    exact ⟨hc, p, x, st, e1, e2, e3, hx.keep hg (fun r e => by have := (hr r e).1; simp at this; omega)⟩
  case hIb =>
    rintro pre A B row ⟨st, hrd, hri, hi⟩ hg hr
    exact ⟨st, hrd, hri, hi.keep hg (fun r e => .inr ⟨(hr r e).1, (hr r e).2.2⟩)⟩
  case hIxb =>
    rintro c pre A B row ⟨hc, p, x, st, e1, e2, e3, hx⟩ hg hr
    exact ⟨hc, p, x, st, e1, e2, e3, hx.keep hg (fun r e => by have := (hr r e).1; omega)⟩
  case h0 =>
    obtain ⟨h0, h1, h2, h3, h4, h5, h6, hb, hz⟩ := par_start w _ _ _ _ _ _ _ _ rfl
    refine ⟨ps0, rfl, ⟨Nat.le_refl _, Nat.le_refl _, rfl, (fun e => by cases e), fun t h => by cases h⟩, ⟨⟨.slice none 0 0, .slice none 0 0, [], 0, ⟨h3, by omega, by rw [hz]; exact Nat.le_refl _, World.ownsRow_nil _ _ _ _, rfl, World.ownsRow_nil _ _ _ _, fun k h => absurd h (by simp), Nat.zero_le _, fun k h => absurd h (by simp), fun k h => absurd h (by simp), fun j k h => absurd h (by simp)⟩⟩, ⟨h0, h1, h2, hb⟩, h4, h5, _, h6⟩⟩
  case assign =>
    intro l x W K hK
    gi_wp2
    exact hK
  case body =>
    rintro l pre x W ⟨st, hrd, hri, hi⟩ hlen
    have hpl : pre.length ≤ 4097 := by omega
    have k4 := (show Blk W _ _ _ from hi.rp).cell 0
    have k5 := (show Blk W _ _ _ from hi.at_).cell 0
    have z5 := (show Blk W _ _ _ from hi.at_).frozen 0
    obtain ⟨tv, nv, vs, lim, hp⟩ := hi.ps
    have hWs : w.heap.size ≤ W.heap.size := hi.rs.be.size
    have hg1 : GlobP (W.setCell ⟨w.heap.size + 1 + 1 + 1 + 1 + 1, 0, none⟩ (.int .i64 ((pre.length + 1 : Nat) : Int))) := HG.out.below (hi.rs.be.setCell (p := ⟨w.heap.size + 1 + 1 + 1 + 1 + 1, 0, none⟩) (by simp <;> omega) _)
    have hp1 : PsI (W.setCell ⟨w.heap.size + 1 + 1 + 1 + 1 + 1, 0, none⟩ (.int .i64 ((pre.length + 1 : Nat) : Int))) _ _ st tv nv vs lim := hp.keep (grownBy_setCell (p := ⟨w.heap.size + 1 + 1 + 1 + 1 + 1, 0, none⟩) (World.grownBy.refl _ _) (.inl rfl) _) (fun r e => by cases e; exact ⟨by dsimp only; omega, .inl (by dsimp only; omega)⟩)
    have RD : Hid (Calls Tryz.prog 54 #[.pointer (some ⟨w.heap.size + 1 + 1 + 1, 0, none⟩), .int .i64 ((pre.length + 1 : Nat) : Int), .string x.1] (W.setCell ⟨w.heap.size + 1 + 1 + 1 + 1 + 1, 0, none⟩ (.int .i64 ((pre.length + 1 : Nat) : Int))) (LinePost (W.setCell ⟨w.heap.size + 1 + 1 + 1 + 1 + 1, 0, none⟩ (.int .i64 ((pre.length + 1 : Nat) : Int))) (w.heap.size + 1 + 1 + 1 + 1 + 1 + 1 + 1) (w.heap.size + 1 + 1 + 1) (rd st (pre.length + 1) x.1.data.toList))) := Lib.hid (read_any _ _ st tv nv vs lim (pre.length + 1) x.1 _ (by omega) (Nat.le_trans x.2 (by omega)) hg1 hp1 (hri.bounds (by omega)) hri.op _ rfl)
    have HI := Lib.hid hi
    have HRD := Lib.hid hrd
    have HRI := Lib.hid hri
    clear hg1 hp1 hp hi hrd hri
    have hat : ((pre.length + 1 : Nat) : Int) = (pre.length : Int) + 1 := by omega
    obtain ⟨r, hr⟩ : ∃ r, rd st (pre.length + 1) x.1.data.toList = r := ⟨_, rfl⟩
    rw [hr] at RD
    rw [hat] at RD
    have HRR := Lib.hid hr
    clear hr
    rcases r with _ | st2
    · gi_wp2_with (refine ⟨trivial, ?_⟩; gi_at_call 54; go_must (refine (CallsIn.inRound l (callsIn_wide.2 RD.out)).mono ?_; rintro e W2 ⟨rfl, hf, hps⟩; (obtain ⟨n1, n2, n3, n4⟩ := HI.out.next (m := pre.length + 1) (by rw [hat]; exact hf)); (obtain ⟨r0, r3, r1, r2, z0, z3, z1, z2⟩ := n1.cells); (have e5 := (show Blk W2 _ _ _ from n3).cell 0); (have HF := Lib.hid hf); (have HN1 := Lib.hid n1); clear hf hps n1 n2 n3 n4))
      rw [hat] at e5
      have hmx : Tryz.prog.follows .mixedOrders = true := by kernel_rfl
      refine wpIn_round_held (fun W' => W'.cell? ⟨w.heap.size + 1 + 1 + 1 + 1 + 1, 0, none⟩ = some (.int .i64 ((pre.length : Int) + 1))) hmx (by kernel_rfl) (by rintro ⟨a, w, h⟩; exact h) ?_
      have hS : (fun W' : World => W'.cell? ⟨w.heap.size + 1 + 1 + 1 + 1 + 1, 0, none⟩ = some (.int .i64 ((pre.length : Int) + 1))) { W2 with drawn := W2.drawn + 1 } := e5
      refine wpAnyH_take (i := 0) (v := .agg #[.int .i64 0, .slice none 0 0]) rfl (by kernel_rfl) (by kernel_rfl) (by kernel_rfl) (fun _ _ _ h => h) (.inl ⟨by kernel_rfl, fun w' hS' => by go_simp⟩) hS ?_
      go_simp
      refine wpAnyH_take (i := 1) (v := .int .i64 ((pre.length : Int) + 1)) rfl (by kernel_rfl) (by kernel_rfl) (by kernel_rfl) (fun _ _ _ h => h) (.inl ⟨by kernel_rfl, fun w' hS' => by (have s1 : w'.cell? ⟨w.heap.size + 1 + 1 + 1 + 1 + 1, 0, none⟩ = some (.int .i64 ((pre.length : Int) + 1)) := hS'); go_simp⟩) hS ?_
      go_simp
      have keepS : ∀ (W : World) (p : Addr) (v : Value), (fun W' : World => W'.cell? ⟨w.heap.size + 1 + 1 + 1 + 1 + 1, 0, none⟩ = some (.int .i64 ((pre.length : Int) + 1))) W → p.block < w.heap.size + 1 + 1 + 1 → (fun W' : World => W'.cell? ⟨w.heap.size + 1 + 1 + 1 + 1 + 1, 0, none⟩ = some (.int .i64 ((pre.length : Int) + 1))) (W.setCell p v) := by
        intro W p v s1 hp
        exact (World.cell?_setCell_other W p _ v (by rintro rfl; simp at hp; omega)).trans s1
      have KS := Lib.hid keepS
      have HS := Lib.hid hS
      clear keepS hS
      refine wpAnyH_all (rs := [2]) (by kernel_rfl) (by simp) (fun i hi => ?_)
      obtain rfl : i = 2 := by simpa using hi
      refine wpOp_step rfl (fun K' hK' => ?_)
      rw [if_pos (by kernel_rfl)]
      go_simp
      refine hK' _ _ ⟨KS.out _ ⟨w.heap.size, 1, none⟩ _ (KS.out _ ⟨w.heap.size, 0, none⟩ _ HS.out (by dsimp only; omega)) (by dsimp only; omega), ?_⟩
      clear hK' hi
      refine wpAnyH_all (rs := [3]) (by kernel_rfl) (by simp) (fun i hi => ?_)
      obtain rfl : i = 3 := by simpa using hi
      refine wpOp_step rfl (fun K' hK' => ?_)
      rw [if_pos (by kernel_rfl)]
      go_simp
      refine hK' _ _ ⟨KS.out _ ⟨w.heap.size + 1, 0, none⟩ _ (KS.out _ ⟨w.heap.size, 1, none⟩ _ (KS.out _ ⟨w.heap.size, 0, none⟩ _ HS.out (by dsimp only; omega)) (by dsimp only; omega)) (by dsimp only; omega), ?_⟩
      clear hK' hi
      refine wpAnyH_all (rs := [4]) (by kernel_rfl) (by simp) (fun i hi => ?_)
      obtain rfl : i = 4 := by simpa using hi
      refine wpOp_step rfl (fun K' hK' => ?_)
      rw [if_pos (by kernel_rfl)]
      go_simp
      refine hK' _ _ ⟨KS.out _ ⟨w.heap.size + 1 + 1, 0, none⟩ _ (KS.out _ ⟨w.heap.size + 1, 0, none⟩ _ (KS.out _ ⟨w.heap.size, 1, none⟩ _ (KS.out _ ⟨w.heap.size, 0, none⟩ _ HS.out (by dsimp only; omega)) (by dsimp only; omega)) (by dsimp only; omega)) (by dsimp only; omega), ?_⟩
      clear hK' hi
      refine wpAnyH_done (by kernel_rfl) ?_ _
      gi_wp2
      have hss : W.heap.size ≤ W2.heap.size := by have := HF.out.size; simpa [World.setCell] using this
      have hcl : ∀ {o : Obj}, o.isCells = false → ∀ c T fz, o ≠ Obj.cells c T fz := fun hc c T fz e => by subst e; cases hc
      refine ⟨⟨by simpa [World.setCell] using hss, fun j o hj hw hc => ?_⟩, rfl, pre, x, st, rfl, HRD.out, HRR.out, ?_⟩
      · exact setCell_nc (setCell_nc (setCell_nc (setCell_nc (HF.out.nc j o (setCell_nc hw (hcl hc)) (hcl hc)) (hcl hc)) (hcl hc)) (hcl hc)) (hcl hc)
      · have := (HN1.out.set_ (.int .i64 0) (.int .i64 ((pre.length : Int) + 1)) (.int .i64 47) (.slice none 0 0)).drewN 1
        rw [hat]; exact this
    · gi_wp2_with (refine ⟨trivial, ?_⟩; gi_at_call 54; go_must (refine (CallsIn.inRound l (callsIn_wide.2 RD.out)).mono ?_; rintro e W2 ⟨rfl, hf, hps⟩; (have HF := Lib.hid hf); (have HPS := Lib.hid hps); clear hf hps))
      obtain ⟨n1, n2, n3, n4⟩ := HI.out.next (m := pre.length + 1) (by rw [hat]; exact HF.out)
      have hss : W.heap.size ≤ W2.heap.size := by have := HF.out.size; simpa [World.setCell] using this
      refine ⟨⟨hss, fun j o hj hw hc => HF.out.nc j o (setCell_nc hw (fun c T fz e => by subst e; cases hc)) (fun c T fz e => by subst e; cases hc)⟩, ⟨hss, (HF.out.block _ (by omega) (by omega)).trans (Below.heap_setCell _ _ _ _ (by simp))⟩, st2, ?_, ?_, ?_⟩
      · rw [show bytesP (pre ++ [x]) = bytesP pre ++ [x.1.data.toList] from by simp [bytesP], rdF_snoc _ _ _ _ _ HRD.out]
        rw [show 0 + (bytesP pre).length + 1 = pre.length + 1 from by simp [bytesP]]; exact HRR.out
      · rw [List.length_append]; exact rd_inv HRI.out HRR.out
      · rw [List.length_append]; exact ⟨HPS.out _ rfl, n1, n2, n3, n4⟩
  case done =>
    rintro D ys W hD hS ⟨st, hrd, hri, hi⟩ hK
    have hDD : w.heap.size + 1 + 1 + 1 + 1 + 1 + 1 < D := by simp at hD; omega
    have k4 := (show Blk W _ _ _ from hi.rp).cell 0
    have k5 := (show Blk W _ _ _ from hi.at_).cell 0
    obtain ⟨tv, nv, vs, lim, hp⟩ := hi.ps
    obtain ⟨q0, q1, q2, q3, _⟩ := hp.cells
    obtain ⟨TA, tc, rfl⟩ := own_form hp.th
    obtain ⟨c0, c3, c1, c2, z0, z3, z1, z2⟩ := hi.rs.cells
    obtain ⟨nT, hnT⟩ : ∃ n, st.ts.length = n := ⟨_, rfl⟩
    have HP := Lib.hid hp
    have HI := Lib.hid hi
    have HRI := Lib.hid hri
    have HK := Lib.hid hK
    have HNT := Lib.hid hnT
    have HALL : Hid (rdAll ps0 0 (splitLs s.data.toList) = .inr (st, ys.length)) := Lib.hid (by
      have := rdAll_done _ _ _ _ hrd
      rw [show 0 + (bytesP ys).length = ys.length from by simp [bytesP]] at this
      rw [← hS]; exact this)
    have HYL : Hid (ys.length ≤ 4096) := Lib.hid (by
      have h1 := congrArg List.length hS
      rw [List.length_map] at h1
      have h2 := splitLs_len2 s.data.toList
      have h3 := size_data s
      omega)
    rw [hnT] at q1
    clear hp hi hri hK hrd hS hnT
    have hyl : ys.length ≤ 4096 := HYL.out
    by_cases h0 : nT = 0
    · have e0 : ((nT : Int) == 0) = true := by simp [h0]
      have HF : Hid (parseP s.data.toList = .inl (ys.length + 1)) := Lib.hid (by
        unfold parseP
        rw [show (⟨0, [], false, []⟩ : PS) = ps0 from rfl, HALL.out]
        exact if_pos (.inl (by rw [HNT.out]; exact h0)))
      clear h0
      gi_wp2
      gi_region
      all_goals
        gi_wp2
        refine par_fin ((HI.out.rs.set_ _ _ _ _).drewN 1) (def_set HK.out _ _ _ _ _ _ _ _) rfl rfl rfl rfl ?_
        rw [HF.out]
        exact ⟨belowPut ((HI.out.rs.set_ _ _ _ _).drewN 1).be (by omega) _, rfl⟩
    · have e0 : ((nT : Int) == 0) = false := by simp; omega
      rcases hop : st.op with _ | _
      · rw [hop] at q2
        obtain ⟨R, hR⟩ : ∃ R, resThs st.ts st.ts st.ns = R := ⟨_, rfl⟩
        have hne : st.ts ≠ [] := by intro e; have := HNT.out; rw [e] at this; simp at this; omega
        have HPS : Hid (parseP s.data.toList = pfin st R) := Lib.hid (by
          unfold parseP
          rw [show (⟨0, [], false, []⟩ : PS) = ps0 from rfl, HALL.out]
          simp only []
          rw [if_neg (by rintro (e | e); exact h0 (by rw [← HNT.out]; exact e); rw [hop] at e; cases e)]
          rcases hh : resThs st.ts st.ts st.ns with _ | a <;> rw [hh] at hR <;> subst hR <;> rfl)
        have RS : Hid (Calls Tryz.prog 55 #[.pointer (some ⟨w.heap.size + 1 + 1 + 1, 0, none⟩)] W (ResPost W (w.heap.size + 1 + 1 + 1 + 1 + 1 + 1 + 1) (w.heap.size + 1 + 1 + 1) st (.slice TA st.ts.length tc) nv vs lim R)) := Lib.hid (resolve_any _ _ st _ nv vs lim W HP.out (HRI.out.bounds (by omega)) hne HRI.out.sum R hR)
        clear h0 hne
        rcases R with _ | ts
        · have HF : Hid (parseP s.data.toList = .inl 0) := Lib.hid HPS.out
          gi_wp2_with (refine ⟨trivial, ?_⟩; gi_at_call 55; go_must (refine (callsIn_wide.2 RS.out).mono ?_; rintro e W2 ⟨rfl, hf, hps⟩; (obtain ⟨n1, n2⟩ := HI.out.frame hf); (obtain ⟨c0, c3, c1, c2, z0, z3, z1, z2⟩ := n1.cells); (have HN1 := Lib.hid n1); (have HFR := Lib.hid hf); clear n1 n2 hf hps))
          have HK2 : W2.heap[D]? = some (.deferred (some [])) := HFR.out.nc D _ HK.out (fun c T fz e => by cases e)
          refine ⟨trivial, ?_⟩
          gi_wp2
          refine par_fin (HN1.out.set_ _ _ _ _) (def_set HK2 _ _ _ _ _ _ _ _) rfl rfl rfl rfl ?_
          rw [HF.out]
          exact ⟨belowPut (HN1.out.set_ _ _ _ _).be (by omega) _, rfl⟩
        · obtain ⟨hl, hkp⟩ := resThs_keep _ _ _ _ hR
          rw [HNT.out] at hl
          have hpo : PrgOk ⟨st.v, ts⟩ := by
            have h9 := HRI.out.ts
            rw [HNT.out] at h9
            refine ⟨by show ts.length ≤ _; omega, fun t' ht' => ?_⟩
            obtain ⟨t, ht, e1, e2⟩ := hkp t' ht'
            have h1 := HRI.out.nms t ht
            have h2 := (HRI.out.bounds (N := 5000) (by omega)).ls t ht
            rw [e1, e2]
            exact ⟨by omega, by omega⟩
          obtain ⟨b, hb⟩ : ∃ b, checkP ⟨st.v, ts⟩ = b := ⟨_, rfl⟩
          have HF : Hid (parseP s.data.toList = if b then .inr ⟨st.v, ts⟩ else .inl 0) := Lib.hid (by rw [HPS.out, ← hb]; rfl)
          have HL := Lib.hid hl
          have FX : Hid (∀ W2, FrB (w.heap.size + 1 + 1 + 1 + 1 + 1 + 1 + 1) (w.heap.size + 1 + 1 + 1) W W2 → PsI W2 (w.heap.size + 1 + 1 + 1 + 1 + 1 + 1 + 1) (w.heap.size + 1 + 1 + 1) { st with ts := ts } (.slice TA st.ts.length tc) nv vs lim →
              Calls Tryz.prog 18 #[.agg #[.int .i64 st.v, .slice TA nT tc]] W2 fun e w' => e = .returned (.int .i64 (chkR b)) ∧ Below W2.heap.size W2 w') := Lib.hid (by
            intro W2 hf hp2
            have hp3 : PsI W2 (w.heap.size + 1 + 1 + 1 + 1 + 1 + 1 + 1) (w.heap.size + 1 + 1 + 1) { st with ts := ts } (.slice TA ts.length tc) nv vs lim := by
              rw [HL.out, ← HNT.out]; exact hp2
            have h1 := check_any ⟨st.v, ts⟩ TA nT tc W2 hp3.ths HL.out (HG.out.below (HI.out.frame hf).1.be) hpo b hb
            exact h1)
          clear hl hkp hpo hR
          cases b
          · gi_wp2_with (first
              | (refine ⟨trivial, ?_⟩; gi_at_call 55; go_must (refine (callsIn_wide.2 RS.out).mono ?_; rintro e W2 ⟨rfl, hf, hps⟩; (have hp2 := hps ts rfl); (obtain ⟨n1, n2⟩ := HI.out.frame hf); (have m4 := (show Blk W2 _ _ _ from n2).cell 0); (obtain ⟨m0, m1, m2, m3, _⟩ := hp2.cells); rw [HNT.out] at m1; (have HN1 := Lib.hid n1); (have HFR := Lib.hid hf); (have HP2 := Lib.hid hp2); (have HCK := Lib.hid (FX.out W2 hf hp2)); clear n1 n2 hf hps hp2))
              | (refine ⟨trivial, ?_⟩; gi_at_call 18; go_must (refine (callsIn_wide.2 HCK.out).mono ?_; rintro e W3 ⟨rfl, hb3⟩; (obtain ⟨c0, c3, c1, c2, z0, z3, z1, z2⟩ := (HN1.out.below hb3).cells); (have HB3 := Lib.hid hb3); clear hb3)))
            have hd : ∀ c T fz, Obj.deferred (some []) ≠ Obj.cells c T fz := fun c T fz e => by cases e
            have HK2 : W2.heap[D]? = some (.deferred (some [])) := HFR.out.nc D _ HK.out hd
            have HK3 : W3.heap[D]? = some (.deferred (some [])) := (HB3.out.block D (Array.getElem?_eq_some_iff.1 HK2).1).trans HK2
            refine par_fin ((HN1.out.below HB3.out).set_ _ _ _ _) (def_set HK3 _ _ _ _ _ _ _ _) rfl rfl rfl rfl ?_
            rw [HF.out]
            exact ⟨belowPut ((HN1.out.below HB3.out).set_ _ _ _ _).be (by omega) _, rfl⟩
          · gi_wp2_with (first
              | (refine ⟨trivial, ?_⟩; gi_at_call 55; go_must (refine (callsIn_wide.2 RS.out).mono ?_; rintro e W2 ⟨rfl, hf, hps⟩; (have hp2 := hps ts rfl); (obtain ⟨n1, n2⟩ := HI.out.frame hf); (have m4 := (show Blk W2 _ _ _ from n2).cell 0); (obtain ⟨m0, m1, m2, m3, _⟩ := hp2.cells); rw [HNT.out] at m1; (have HN1 := Lib.hid n1); (have HFR := Lib.hid hf); (have HP2 := Lib.hid hp2); (have HCK := Lib.hid (FX.out W2 hf hp2)); (have HM2 := Lib.hid n2); clear n1 n2 hf hps hp2))
              | (refine ⟨trivial, ?_⟩; gi_at_call 18; go_must (refine (callsIn_wide.2 HCK.out).mono ?_; rintro e W3 ⟨rfl, hb3⟩; (obtain ⟨c0, c3, c1, c2, z0, z3, z1, z2⟩ := (HN1.out.below hb3).cells); (have hp3 := HP2.out.below hb3); (obtain ⟨y0, y1, _⟩ := hp3.cells); rw [HNT.out] at y1; (have y4 := (show Blk W3 _ _ _ from (hb3.block _ (Array.getElem?_eq_some_iff.1 HM2.out).1).trans HM2.out).cell 0); (have HP3 := Lib.hid hp3); (have HB3 := Lib.hid hb3); clear hb3 hp3)))
            have hd : ∀ c T fz, Obj.deferred (some []) ≠ Obj.cells c T fz := fun c T fz e => by cases e
            have HK2 : W2.heap[D]? = some (.deferred (some [])) := HFR.out.nc D _ HK.out hd
            have HK3 : W3.heap[D]? = some (.deferred (some [])) := (HB3.out.block D (Array.getElem?_eq_some_iff.1 HK2).1).trans HK2
            refine par_fin ((HN1.out.below HB3.out).set_ _ _ _ _) (def_set HK3 _ _ _ _ _ _ _ _) rfl rfl rfl rfl ?_
            rw [HF.out]
            refine ⟨belowPut ((HN1.out.below HB3.out).set_ _ _ _ _).be (by omega) _, TA, tc, by rw [HL.out], ?_⟩
            have hp4 := (HP3.out.out_ (.int .i64 st.v) (.int .i64 0) (.int .i64 0) (.slice TA nT tc)).keep (grownBy_putObj' _ D (.deferred none)) (fun r e => by
              cases e
              exact ⟨by omega, .inr (fun c T fz e2 => by rw [def_set HK3 _ _ _ _ _ _ _ _] at e2; injection e2 with e2; exact hd _ _ _ e2)⟩)
            rw [show st.ts.length = ts.length from by rw [HNT.out, HL.out]] at hp4
            exact hp4.ths
      · rw [hop] at q2
        have HF : Hid (parseP s.data.toList = .inl (ys.length + 1)) := Lib.hid (by
          unfold parseP
          rw [show (⟨0, [], false, []⟩ : PS) = ps0 from rfl, HALL.out]
          exact if_pos (.inr hop))
        clear h0
        gi_wp2
        gi_region
        all_goals
          gi_wp2
          refine par_fin ((HI.out.rs.set_ _ _ _ _).drewN 1) (def_set HK.out _ _ _ _ _ _ _ _) rfl rfl rfl rfl ?_
          rw [HF.out]
          exact ⟨belowPut ((HI.out.rs.set_ _ _ _ _).drewN 1).be (by omega) _, rfl⟩
  case stop =>
    rintro D c pre W hD hpre ⟨rfl, p, x, st, rfl, hrd, hno, hx⟩ hK
    obtain ⟨c0, c3, c1, c2, _⟩ := hx.cells
    have HRD := Lib.hid hrd
    have HNO := Lib.hid hno
    clear hrd hno
    gi_wp2
    refine par_end hK rfl rfl rfl rfl c0 c3 c1 c2 ?_
    obtain ⟨q, hq⟩ := hpre
    have hfin : parseP s.data.toList = .inl (p.length + 1) := by
      unfold parseP
      rw [← hq, show List.map (fun y : PieceL 4096 => y.1.data.toList) (p ++ [x]) ++ q = bytesP p ++ (x.1.data.toList :: q) from by simp [bytesP]]
      have := rdAll_stop (bytesP p) ps0 0 st x.1.data.toList q HRD.out (by rw [show 0 + (bytesP p).length + 1 = p.length + 1 from by simp [bytesP]]; exact HNO.out)
      rw [show 0 + (bytesP p).length + 1 = p.length + 1 from by simp [bytesP]] at this
      rw [show (⟨0, [], false, []⟩ : PS) = ps0 from rfl, this]
    rw [hfin]
    exact ⟨belowPut hx.be (by simp at hD; omega) _, rfl⟩
end Go.Proofs.YtpkefohcccpncaaGreatDoor
