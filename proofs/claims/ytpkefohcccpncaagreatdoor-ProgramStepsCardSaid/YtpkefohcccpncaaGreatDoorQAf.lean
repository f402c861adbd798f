/- How many values the A of a line may have. A set of texts that the call makes: map[string]bool. Check of a program. -/
import Derived.Test.YtpkefohcccpncaaGreatDoorQAe
import Derived.Shelf.SlSortCmp.QuietGrown
import Derived.Test.YtpkefohcccpncaaGreatDoorQAa
import Derived.Maps.Own
import Derived.Maps.OwnSet
import Derived.Maps.Views
import Derived.Lib.AppendIntMem
namespace Go.Proofs.YtpkefohcccpncaaGreatDoor
open Go.RowKit
set_option linter.unusedSimpArgs false
set_option linter.unusedVariables false

theorem grow3 (w : World) (a b c : Obj) : ((w.alloc a).alloc b).alloc c = Sort.grow w #[a, b, c] := by
  rw [Sort.alloc_eq_grow, Sort.alloc_eq_grow, Sort.alloc_eq_grow, Sort.grow_grow, Sort.grow_grow]; rfl
theorem kinds7 {k : Nat} (h1 : 1 ≤ k) (h7 : k ≤ 7) : k = 1 ∨ k = 2 ∨ k = 3 ∨ k = 4 ∨ k = 5 ∨ k = 6 ∨ k = 7 := by omega
set_option maxHeartbeats 1000000 in
theorem most_any (v : Int) (A : Option Addr) (n c : Nat) (nm : ByteArray) (LA : Option Addr) (ln lc : Nat) (k : Nat) (a m : Int) (w : World) (hg : GlobP w) (h1 : 1 ≤ k) (h7 : k ≤ 7) (r : Int) (hr : (if argOf k = 1 then v else if argOf k = 2 then (ln : Int) else if argOf k = 3 then (n : Int) else 1) = r) :
    Calls Tryz.prog 45 #[.agg #[.int .i64 v, .slice A n c], .agg #[.string nm, .slice LA ln lc], .agg #[.int .i64 k, .int .i64 a, .int .i64 m]] w fun e w' => e = .returned (.int .i64 r) ∧ ∃ os, w' = Sort.grow w os := by
  have HR := Lib.hid hr
  have l3 := hg.lt.2.2.1
  clear hr
  have W := fun k (hk : k < 8) => (hg.wd k hk).2
  rcases kinds7 h1 h7 with rfl | rfl | rfl | rfl | rfl | rfl | rfl
  · have q : w.cell? ⟨0, 3, none⟩ = some (.int .i64 1) := W 1 (by omega)
    clear W h1 h7
    go_enter Tryz.func45, Tryz.ntmps45
    go_wp2
    go_ret
    exact ⟨ret_int (by rw [← HR.out]; rfl), ⟨_, grow3 w _ _ _⟩⟩
  · have q : w.cell? ⟨0, 5, none⟩ = some (.int .i64 1) := W 2 (by omega)
    clear W h1 h7
    go_enter Tryz.func45, Tryz.ntmps45
    go_wp2
    go_ret
    exact ⟨ret_int (by rw [← HR.out]; rfl), ⟨_, grow3 w _ _ _⟩⟩
  · have q : w.cell? ⟨0, 7, none⟩ = some (.int .i64 2) := W 3 (by omega)
    clear W h1 h7
    go_enter Tryz.func45, Tryz.ntmps45
    go_wp2
    go_ret
    exact ⟨ret_int (by rw [← HR.out]; rfl), ⟨_, grow3 w _ _ _⟩⟩
  · have q : w.cell? ⟨0, 9, none⟩ = some (.int .i64 2) := W 4 (by omega)
    clear W h1 h7
    go_enter Tryz.func45, Tryz.ntmps45
    go_wp2
    go_ret
    exact ⟨ret_int (by rw [← HR.out]; rfl), ⟨_, grow3 w _ _ _⟩⟩
  · have q : w.cell? ⟨0, 11, none⟩ = some (.int .i64 3) := W 5 (by omega)
    clear W h1 h7
    go_enter Tryz.func45, Tryz.ntmps45
    go_wp2
    go_ret
    exact ⟨ret_int (by rw [← HR.out]; rfl), ⟨_, grow3 w _ _ _⟩⟩
  · have q : w.cell? ⟨0, 13, none⟩ = some (.int .i64 0) := W 6 (by omega)
    clear W h1 h7
    go_enter Tryz.func45, Tryz.ntmps45
    go_wp2
    go_ret
    exact ⟨ret_int (by rw [← HR.out]; rfl), ⟨_, grow3 w _ _ _⟩⟩
  · have q : w.cell? ⟨0, 15, none⟩ = some (.int .i64 0) := W 7 (by omega)
    clear W h1 h7
    go_enter Tryz.func45, Tryz.ntmps45
    go_wp2
    go_ret
    exact ⟨ret_int (by rw [← HR.out]; rfl), ⟨_, grow3 w _ _ _⟩⟩
end Go.Proofs.YtpkefohcccpncaaGreatDoor
namespace Go.Proofs.YtpkefohcccpncaaGreatDoor
open Go.RowKit Go.WideMaps Go.Maps
set_option linter.unusedSimpArgs false
set_option linter.unusedVariables false

theorem plainElem_bool_inv {H : Type} {P : Program} {e : TypeId} (he : P.underlying e = some .bool) {v : Value} {z : DataW H × List MemPlace} (h : plainElem P e v = some z) : ∃ a, v = .bool a ∧ z = (.lit (.bool a), []) := by
  unfold plainElem at h
  rw [he] at h
  cases v <;> simp at h
  exact ⟨_, rfl, h.symm⟩
/-- block b is a map in which just the texts ns are true -/
def SetAt (w : World) (b : Nat) (ns : List (List UInt8)) : Prop := ∃ D : DataW Unit, IsMap D ∧ (∀ x : List UInt8, D.atKey (.string x) (.lit (.bool false)) = .lit (.bool (ns.contains x))) ∧ w.ownsMap Tryz.prog 9 (plainElem Tryz.prog 4) b ns.length D
theorem sKeyed : Keyed Tryz.prog 9 := string_keyed Tryz.underlying9
theorem zeroBool (w : World) : (zeroValue 4).run Tryz.prog w = .ok (.bool false) w := by kernel_rfl
theorem SetAt.new (w : World) : SetAt (w.alloc (.map #[] 0)) w.heap.size [] := ⟨.map [], isMap_empty, fun x => rfl, World.ownsMap_made _ _ _ _⟩
theorem SetAt.kept {w w' : World} {b : Nat} {ns : List (List UInt8)} {row : Option Nat} (h : SetAt w b ns) (hg : w.grownBy w' row) (hne : some b ≠ row) : SetAt w' b ns := by
  obtain ⟨D, h1, h2, h3⟩ := h
  exact ⟨D, h1, h2, h3.kept hg hne⟩
theorem SetAt.below {w w' : World} {b B : Nat} {ns : List (List UInt8)} (h : SetAt w b ns) (hb : Below B w w') (hB : b < B) : SetAt w' b ns := by
  obtain ⟨D, h1, h2, es, clock, he, F, hs, hD⟩ := h
  exact ⟨D, h1, h2, es, clock, (hb.block b hB).trans he, F, hs, hD⟩
theorem SetAt.lt {w : World} {b : Nat} {ns : List (List UInt8)} (h : SetAt w b ns) : b < w.heap.size := by
  obtain ⟨D, h1, h2, h3⟩ := h
  exact h3.lt
theorem SetAt.look {w : World} {b : Nat} {ns : List (List UInt8)} (h : SetAt w b ns) {s : ByteArray} (hs : s.size ≤ maxLen) {c : Bool} (hc : ns.contains s.data.toList = c) :
    (Instr.lookup 77 (.map (some b)) (.string s) false).run Tryz.prog w = .ok (.bool c) w := by
  obtain ⟨D, h1, h2, h3⟩ := h
  obtain ⟨v, ps, hrun, hv⟩ := h3.lookup sKeyed Tryz.underlying77 (zeroBool w) (plainElem_bool Tryz.underlying4 false) (keyOf_string_mk Tryz.underlying9 hs)
  obtain ⟨a, rfl, ha⟩ := plainElem_bool_inv Tryz.underlying4 hv
  have hd : D.atKey (.string s.data.toList) (.lit (.bool false)) = .lit (.bool a) := congrArg Prod.fst ha
  have he := (h2 s.data.toList).symm.trans hd
  have hf : ns.contains s.data.toList = a := Lit.bool.inj (DataW.lit.inj he)
  obtain rfl : c = a := hc.symm.trans hf
  exact hrun
theorem contains_snoc (ns : List (List UInt8)) (a x : List UInt8) : (ns ++ [a]).contains x = if x = a then true else ns.contains x := by
  rw [Bool.eq_iff_iff]
  by_cases h : x = a
  · simp [h]
  · rw [if_neg h]; simp [h]
theorem wpList_setPut {P : Program} (w : World) {ops : Array Oper} {rest : List Oper} {o : Oper} {a : Act} {Q : Exit → Act → World → Prop} (hP : P = Tryz.prog)
    (hg : o.guard = none) (m x v : Operand) (hop : o.op = Op.mapUpdate 77 m x v) (b : Nat) (ns : List (List UInt8))
    (hm : a.eval m = .map (some b)) (h : SetAt w b ns) (hn : ns.length < maxLen) (s : ByteArray) (hs : s.size ≤ maxLen) (hx : a.eval x = .string s) (hv : a.eval v = .bool true)
    (hK : ∀ w', SetAt w' b (ns ++ [s.data.toList]) → w.grownBy w' (some b) → wpList P ops Q rest (a.put o.dst undef) w') :
    wpList P ops Q (o :: rest) a w := by
  subst hP
  obtain ⟨D, h1, h2, h3⟩ := h
  refine wpList_mapUpdate_own w hg m x v 77 hop 9 4 sKeyed Tryz.underlying77 _ b ns.length D hm h3 hn (.string s) (.bool true) (.string s.data.toList) hx hv (keyOf_string_mk Tryz.underlying9 hs) (.lit (.bool true)) [] (plainElem_bool Tryz.underlying4 true) ?_
  intro w' r1 r2
  refine hK w' ⟨D.put (.string s.data.toList) (.lit (.bool true)), h1.put _ _, fun y => ?_, by rw [List.length_append]; exact r1⟩ r2
  rw [contains_snoc]
  by_cases hy : y = s.data.toList
  · subst hy; rw [if_pos rfl]; exact atKey_put_same (k := .string s.data.toList) h1 trivial _ _
  · rw [if_neg hy, atKey_put_other (fun e => hy (by injection e))]; exact h2 y
end Go.Proofs.YtpkefohcccpncaaGreatDoor
namespace Go.Proofs.YtpkefohcccpncaaGreatDoor
open Go.RowKit
set_option linter.unusedSimpArgs false
set_option linter.unusedVariables false

theorem wp_world {P : Program} {c : Code} {Q : Exit → Act → World → Prop} {a : Act} {w : World} (R : World → Prop) (h : R w) (k : ∀ W, R W → c.wp P Q a W) : c.wp P Q a w := k w h
theorem below_grow' {W : World} (n : Nat) (os : Array Obj) : Below W.heap.size W (Sort.grow (W.drewN n) os) := Lib.below_grow W.heap.size W (Nat.le_refl _) n os
theorem okThs_step {p : Prg} {k : Nat} (hk : k < p.ts.length) (c num : Nat) (ns : List (List UInt8)) :
    okThs p c num ns (p.ts.drop k) = (okTh p c num ns p.ts[k] && okThs p (c + p.ts[k].ls.length) (num + p.ts[k].ls.length + 2) (ns ++ [p.ts[k].nm.data.toList]) (p.ts.drop (k + 1))) := by
  rw [List.drop_eq_getElem_cons hk]; rfl
theorem okLines_step {p : Prg} {t : Th} {ls : List Ln} {j : Nat} (hj : j < ls.length) (num : Nat) : okLines p t num (ls.drop j) = (okLine p t (num + 1) ls[j] && okLines p t (num + 1) (ls.drop (j + 1))) := by
  rw [List.drop_eq_getElem_cons hj]; rfl
/-- a program's value: its values and its threads, within bounds -/
structure PrgOk (p : Prg) : Prop where
  n : p.ts.length ≤ 10000000000000
  t : ∀ t ∈ p.ts, t.ls.length ≤ 10000000000000 ∧ t.nm.size ≤ 9223372036854775807
theorem below_drewN {B : Nat} {a w : World} (h : Below B a w) (n : Nat) : Below B a (w.drewN n) := ⟨h.os, h.tape, h.output, h.size, h.block⟩
theorem below_grownS {B b : Nat} {w w' : World} (h : w.grownBy w' (some b)) (hb : B ≤ b) (hs : B ≤ w.heap.size) : Below B w w' :=
  ⟨h.os, h.tape, h.output, h.size, fun k hk => h.block k (by omega) (by intro e; injection e; omega)⟩
theorem Blk.grow_ {W : World} {g : Nat} {t : TypeId} {cs : Array Value} (h : Blk W g t cs) {i : Nat} {v : Value} (hv : cs[i]? = some v) (n : Nat) (os : Array Obj) : (Sort.grow (W.drewN n) os).cell? ⟨g, i, none⟩ = some v :=
  cell_grown h.lt ((h.cell i).trans hv) n os
def chkR (b : Bool) : Int := if b then 0 else 47

set_option maxRecDepth 100000 in
set_option maxHeartbeats 8000000 in
theorem check_any (p : Prg) (A : Option Addr) (n c : Nat) (w : World) (hT : ThsAt w w.heap.size A p.ts) (hn : p.ts.length = n) (hg : GlobP w) (hok : PrgOk p) (b : Bool) (hb : checkP p = b) :
    Calls Tryz.prog 18 #[.agg #[.int .i64 p.v, .slice A n c]] w fun e w' => e = .returned (.int .i64 (chkR b)) ∧ Below w.heap.size w w' := by
  have hn9 := hok.n
  rw [hn] at hn9
  have hmm := @run_makeMap Tryz.prog
  have HOK := Lib.hid hok
  have HT := Lib.hid hT
  have HG := Lib.hid hg
  have HN := Lib.hid hn
  have HB := Lib.hid hb
  clear hok hT hg hn hb
  by_cases hv : 1 ≤ p.v ∧ p.v ≤ 8 ∧ n ≠ 0
  · obtain ⟨v1, v8, n0⟩ := hv
    have HC : Hid (okThs p 0 1 [] (p.ts.drop 0) = b) := Lib.hid (by
      rw [← HB.out, checkP, HN.out, decide_eq_true v1, decide_eq_true v8, decide_eq_true n0]; rfl)
    generalize hpv : p.v = v at *
    have HPV := Lib.hid hpv
    clear hpv
    have n0' : ((n : Int) == 0) = false := by simp; exact n0
    have e1 : decide (v < 1) = false := by simp; omega
    have e2 : decide (8 < v) = false := by simp; omega
    go_enter Tryz.func18, Tryz.ntmps18
    go_wp2
    go_loopw [3, 4, 28] (fun s3 s4 i wr => ∃ (k cnt : Nat) (ns : List (List UInt8)), k ≤ n ∧ cnt ≤ 6 ∧ k ≤ cnt ∧ i = .int .i64 k ∧ s3 = .int .i64 cnt ∧ s4 = .int .i64 ((1 + cnt + 2 * k : Nat) : Int) ∧
        Hid (ns.length = k ∧ SetAt wr (w.heap.size + 1) ns ∧ Below w.heap.size w wr ∧ Blk wr w.heap.size 28 #[.int .i64 v, .slice A n c] ∧ okThs p cnt (1 + cnt + 2 * k) ns (p.ts.drop k) = b)) (fun _ _ i _ => n - (intOf i).toNat)
    case atStart =>
      refine ⟨0, 0, [], by omega, by omega, by omega, rfl, rfl, rfl, Lib.hid ⟨rfl, ?_, ?_, ?_, HC.out⟩⟩
      · have := SetAt.new (w.alloc (.cells #[.int .i64 v, .slice A n c] 28))
        simpa only [World.size_alloc] using this
      · exact ((Below.refl _ _).alloc (Nat.le_refl _) _).alloc (by simp) _
      · exact (Blk.new w _ _).alloc _
    case round =>
      obtain ⟨wo, rfl⟩ : ∃ wo : World, wo = wr := ⟨_, rfl⟩
      obtain ⟨k, cnt, ns, hk, hc6, hkc, rfl, rfl, rfl, HR⟩ := hrel
      obtain ⟨hns, hset, hbw, hpb, hrest⟩ := HR.out
      by_cases hlt : k < n
      · have hkp : k < p.ts.length := by rw [HN.out]; exact hlt
        obtain ⟨ad, LA, lc, rfl, hab, h0, h1, hL⟩ := (HT.out.below hbw).at_ hkp
        obtain ⟨hl9, hs9⟩ := HOK.out.t _ (List.getElem_mem hkp)
        rw [okThs_step hkp] at hrest
        generalize ht : p.ts[k]'hkp = t at *
        obtain ⟨nm, ls⟩ := t
        dsimp only at *
        obtain ⟨ln, hln⟩ : ∃ ln, ls.length = ln := ⟨_, rfl⟩
        rw [hln] at h1 hl9 hrest
        have hwl : w.heap.size + 1 < wo.heap.size := hset.lt
        have p0 := hpb.cell 0
        have p1 := hpb.cell 1
        have HREST := Lib.hid hrest
        have HL := Lib.hid hL
        have HLN := Lib.hid hln
        have HTT := Lib.hid ht
        have HBW := Lib.hid hbw
        have HSET := Lib.hid hset
        have HNS := Lib.hid hns
        have HPB := Lib.hid hpb
        clear hrest hL hln ht hbw hset hns hpb
        by_cases hl0 : ln = 0
        · subst hl0
          have HF : Hid (b = false) := Lib.hid (by rw [← HREST.out]; simp only [okTh, HLN.out]; simp)
          go_wp2
          go_ret
          exact ⟨ret_int (by rw [HF.out]; rfl), HBW.out.alloc (by omega) _⟩
        have d1 : ((ln : Int) == 0) = false := by simp; exact hl0
        by_cases hc : 6 < cnt + ln
        · have d2 : decide ((6 : Int) < (cnt : Int) + ln) = true := by simp; omega
          have HF : Hid (b = false) := Lib.hid (by
            rw [← HREST.out]; simp only [okTh, HLN.out]
            rw [decide_eq_false (show ¬ cnt + ln ≤ 6 by omega)]; simp)
          go_wp2
          go_ret
          exact ⟨ret_int (by rw [HF.out]; rfl), HBW.out.alloc (by omega) _⟩
        have d2 : decide ((6 : Int) < (cnt : Int) + ln) = false := by simp; omega
        rcases hnm : namedL nm.data.toList with _ | _
        · have HF : Hid (b = false) := Lib.hid (by
            rw [← HREST.out]; simp only [okTh, hnm]; simp)
          have NM : Hid (∀ o, Calls Tryz.prog 44 #[.string nm] (wo.alloc o) fun e w' => e = .returned (.bool false) ∧ wo.alloc o = w') := Lib.hid (fun o => named_any nm _ hs9 (HG.out.below (HBW.out.alloc (by omega) o)) _ hnm)
          clear hnm
          go_wp2_with (go_at_call 44; go_must (refine (NM.out _).mono ?_; rintro e w' ⟨rfl, rfl⟩))
          go_ret
          exact ⟨ret_int (by rw [HF.out]; rfl), HBW.out.alloc (by omega) _⟩
        have NM : Hid (∀ o, Calls Tryz.prog 44 #[.string nm] (wo.alloc o) fun e w' => e = .returned (.bool true) ∧ wo.alloc o = w') := Lib.hid (fun o => named_any nm _ hs9 (HG.out.below (HBW.out.alloc (by omega) o)) _ hnm)
        rcases hcn : ns.contains nm.data.toList with _ | _
        rotate_left
        · have HF : Hid (b = false) := Lib.hid (by
            rw [← HREST.out]; simp only [okTh, hcn]; simp)
          have hlk : ∀ o : Obj, (Instr.lookup 77 (.map (some (w.heap.size + 1))) (.string nm) false).run Tryz.prog (wo.alloc o) = .ok (.bool true) (wo.alloc o) := fun o =>
            SetAt.look (HSET.out.kept (World.grownBy_alloc wo o none) (by simp)) hs9 hcn
          clear hnm hcn
          go_wp2_with (go_at_call 44; go_must (refine (NM.out _).mono ?_; rintro e w' ⟨rfl, rfl⟩))
          go_ret
          exact ⟨ret_int (by rw [HF.out]; rfl), HBW.out.alloc (by omega) _⟩
        have HF : Hid ((okLines p ⟨nm, ls⟩ (1 + cnt + 2 * k + 1) ls && okThs p (cnt + ln) (1 + cnt + 2 * k + ln + 2) (ns ++ [nm.data.toList]) (p.ts.drop (k + 1))) = b) := Lib.hid (by
          have := HREST.out
          simp only [okTh, HLN.out, hcn, hnm] at this
          rw [decide_eq_true hl0, decide_eq_true (show cnt + ln ≤ 6 by omega)] at this
          simpa using this)
        have hlk : ∀ o : Obj, (Instr.lookup 77 (.map (some (w.heap.size + 1))) (.string nm) false).run Tryz.prog (wo.alloc o) = .ok (.bool false) (wo.alloc o) := fun o =>
          SetAt.look (HSET.out.kept (World.grownBy_alloc wo o none) (by simp)) hs9 hcn
        have HK : Hid (∀ o, SetAt (wo.alloc o) (w.heap.size + 1) ns) := Lib.hid (fun o => HSET.out.kept (World.grownBy_alloc wo o none) (by simp))
        have hnl : ns.length < maxLen := by rw [HNS.out]; unfold maxLen; omega
        have HNL := Lib.hid hnl
        clear hnm hcn hnl HREST
        go_wp2_with (first
          | (go_at_call 44; go_must (refine (NM.out _).mono ?_; rintro e w' ⟨rfl, rfl⟩))
          | (at_mapUpdate; refine wpList_setPut _ rfl rfl _ _ _ rfl (w.heap.size + 1) ns rfl (HK.out _) HNL.out nm hs9 rfl rfl ?_; intro w5 hset5 hg5; (have hb5 : Blk w5 wo.heap.size 45 #[.string nm, .slice LA ln lc] := (Blk.new wo _ _).grown hg5 (by simp; omega)); (have hp5 : Blk w5 w.heap.size 28 #[.int .i64 v, .slice (some ad) n c] := (HPB.out.alloc _).grown hg5 (by simp)); (have t0 := hb5.cell 0); (have t1 := hb5.cell 1); (have z5 : wo.heap.size + 1 ≤ w5.heap.size := by have := hg5.size; simpa using this); (have HG5 := Lib.hid hg5); (have HS5 := Lib.hid hset5); (have HB5 := Lib.hid hb5); (have HP5 := Lib.hid hp5); clear hg5 hset5 hb5 hp5))
        have hwh : wo.heap.size + 1 ≤ w5.heap.size := z5
        have HBR : Hid (Below w.heap.size wo w5) := Lib.hid (((Below.refl w.heap.size wo).alloc (by omega) _).trans (below_grownS HG5.out (by omega) (by simp; omega)))
        have HBW5 : Hid (Below w.heap.size w w5) := Lib.hid (HBW.out.trans HBR.out)
        go_loopw [4, 65] (fun s4 i wr => ∃ j : Nat, j ≤ ln ∧ i = .int .i64 j ∧ s4 = .int .i64 ((1 + cnt + 2 * k + 1 + j : Nat) : Int) ∧ Hid (Below w5.heap.size w5 wr ∧ (okLines p ⟨nm, ls⟩ (1 + cnt + 2 * k + 1 + j) (ls.drop j) && okThs p (cnt + ln) (1 + cnt + 2 * k + ln + 2) (ns ++ [nm.data.toList]) (p.ts.drop (k + 1))) = b)) (fun _ i _ => ln - (intOf i).toNat)
        case atStart => exact ⟨0, by omega, rfl, by go_num, Lib.hid ⟨Below.refl _ _, HF.out⟩⟩
        case round =>
          obtain ⟨j, hj, rfl, rfl, HR2⟩ := hrel
          obtain ⟨hbq, hrest2⟩ := HR2.out
          have hq5 : w5.heap.size ≤ wr.heap.size := hbq.size
          by_cases hjl : j < ln
          · have hjp : j < ls.length := by rw [HLN.out]; exact hjl
            obtain ⟨ad2, rfl, hab2, g0, g1, g2⟩ := (HL.out.below (HBR.out.trans (hbq.mono (by omega)))).at_ hjp
            rw [okLines_step hjp] at hrest2
            generalize hl : ls[j]'hjp = l at *
            obtain ⟨lk, la, lm⟩ := l
            dsimp only at *
            have HREST2 := Lib.hid hrest2
            have HFA : Hid (Blk wr w.heap.size 28 #[.int .i64 v, .slice (some ad) n c] ∧ Blk wr wo.heap.size 45 #[.string nm, .slice (some ad2) ln lc] ∧ Below w5.heap.size w5 wr) := Lib.hid ⟨HP5.out.below hbq (by omega), HB5.out.below hbq (by omega), hbq⟩
            clear hrest2 hl hbq
            go_wp2_with fail
            refine wp_world (fun W => Hid (Blk W w.heap.size 28 #[.int .i64 v, .slice (some ad) n c] ∧ Blk W wo.heap.size 45 #[.string nm, .slice (some ad2) ln lc] ∧ Blk W wr.heap.size 42 #[.int .i64 lk, .int .i64 la, .int .i64 lm] ∧ Below w5.heap.size w5 W))
              (Lib.hid ⟨HFA.out.1.alloc _, HFA.out.2.1.alloc _, Blk.new _ _ _, HFA.out.2.2.alloc hq5 _⟩) ?_
            intro W6 HW6
            obtain ⟨f1, f2, f3, f4⟩ := HW6.out
            have hf4 := Lib.hid f4
            have HWB : Hid (Below w.heap.size w W6) := Lib.hid (HBW5.out.trans (f4.mono (by omega)))
            by_cases k1 : lk < 1
            · have c1 : decide (lk < 1) = true := decide_eq_true k1
              have HFF : Hid (b = false) := Lib.hid (by rw [← HREST2.out]; simp only [okLine]; rw [decide_eq_false (show ¬ 1 ≤ lk by omega)]; simp)
              have q0 := f3.cell 0
              have q1 := f3.cell 1
              have q2 := f3.cell 2
              clear f1 f2 f3 f4 k1
              go_quiet (fail)
              go_wp2
              go_ret
              exact ⟨ret_int (by rw [HFF.out]; rfl), below_drewN HWB.out _⟩
            have c1 : decide (lk < 1) = false := decide_eq_false k1
            by_cases k7 : 7 < lk
            · have c2 : decide (7 < lk) = true := decide_eq_true k7
              have HFF : Hid (b = false) := Lib.hid (by rw [← HREST2.out]; simp only [okLine]; rw [decide_eq_false (show ¬ lk ≤ 7 by omega)]; simp)
              have q0 := f3.cell 0
              have q1 := f3.cell 1
              have q2 := f3.cell 2
              clear f1 f2 f3 f4 k7
              go_quiet (fail)
              go_wp2
              go_ret
              exact ⟨ret_int (by rw [HFF.out]; rfl), below_drewN HWB.out _⟩
            have c2 : decide (7 < lk) = false := decide_eq_false k7
            by_cases a0 : la < 0
            · have c3 : decide (la < 0) = true := decide_eq_true a0
              have HFF : Hid (b = false) := Lib.hid (by rw [← HREST2.out]; simp only [okLine]; rw [decide_eq_false (show ¬ 0 ≤ la by omega)]; simp)
              have q0 := f3.cell 0
              have q1 := f3.cell 1
              have q2 := f3.cell 2
              clear f1 f2 f3 f4 a0
              go_quiet (fail)
              go_wp2
              go_ret
              exact ⟨ret_int (by rw [HFF.out]; rfl), below_drewN HWB.out _⟩
            have c3 : decide (la < 0) = false := decide_eq_false a0
            obtain ⟨kk, rfl⟩ := Int.eq_ofNat_of_zero_le (show 0 ≤ lk by omega)
            obtain ⟨r, hr⟩ : ∃ r : Int, (if argOf kk = 1 then v else if argOf kk = 2 then (ln : Int) else if argOf kk = 3 then (n : Int) else 1) = r := ⟨_, rfl⟩
            have HM : Hid (mostP p ⟨nm, ls⟩ ((kk : Int)).toNat = r) := Lib.hid (by
              rw [← hr]; unfold mostP; rw [HPV.out, HLN.out, HN.out]; simp)
            have MO : Hid (∀ (q : Nat) (os : Array Obj), Calls Tryz.prog 45 #[.agg #[.int .i64 v, .slice (some ad) n c], .agg #[.string nm, .slice (some ad2) ln lc], .agg #[.int .i64 kk, .int .i64 la, .int .i64 lm]] (Sort.grow (W6.drewN q) os) fun e w' => e = .returned (.int .i64 r) ∧ ∃ q2 os', w' = Sort.grow ((Sort.grow (W6.drewN q) os).drewN q2) os') := Lib.hid (fun q os =>
              (most_any v (some ad) n c nm (some ad2) ln lc kk la lm _ (HG.out.below (HWB.out.trans ((below_grow' q os).mono (HWB.out.size)))) (by omega) (by omega) r hr).mono fun e w' ⟨he, os', hw⟩ => ⟨he, 0, os', hw⟩)
            clear hr
            have x0 := fun q os => f1.grow_ (i := 0) rfl q os
            have x1 := fun q os => f1.grow_ (i := 1) rfl q os
            have x2 := fun q os => f2.grow_ (i := 0) rfl q os
            have x3 := fun q os => f2.grow_ (i := 1) rfl q os
            have x4 := fun q os => f3.grow_ (i := 0) rfl q os
            have x5 := fun q os => f3.grow_ (i := 1) rfl q os
            have x6 := fun q os => f3.grow_ (i := 2) rfl q os
            have hmo : Tryz.prog.follows .mixedOrders = true := by kernel_rfl
            clear f1 f2 f3 f4
            by_cases am : r ≤ la
            · have c4 : decide (r ≤ la) = true := decide_eq_true am
              have HFF : Hid (b = false) := Lib.hid (by
                rw [← HREST2.out]; simp only [okLine]; rw [HM.out, decide_eq_false (show ¬ la < r by omega)]; simp)
              clear am
              refine wp_region_quiet_grown hmo (by kernel_rfl) ?_
              repeat (go_big_quiet_step ((go_at_call 45; refine Calls.grown_of (MO.out _ _))))
              refine wpQuiet_nil ?_
              intro _ hw'
              obtain ⟨⟨nq, osq⟩, hw''⟩ := hw'
              subst hw''
              go_wp2
              go_ret
              exact ⟨ret_int (by rw [HFF.out]; rfl), HWB.out.trans ((below_grow' nq osq).mono HWB.out.size)⟩
            have c4 : decide (r ≤ la) = false := decide_eq_false am
            by_cases m5 : lm = 1 + (cnt : Int) + 2 * k + 1 + j + 1
            · have hnn : ((1 + cnt + 2 * k + 1 + j + 1 : Nat) : Int) = 1 + (cnt : Int) + 2 * k + 1 + j + 1 := by push_cast; rfl
              have HFF : Hid ((okLines p ⟨nm, ls⟩ (1 + cnt + 2 * k + 1 + (j + 1)) (ls.drop (j + 1)) && okThs p (cnt + ln) (1 + cnt + 2 * k + ln + 2) (ns ++ [nm.data.toList]) (p.ts.drop (k + 1))) = b) := Lib.hid (by
                have := HREST2.out
                simp only [okLine] at this
                rw [HM.out, decide_eq_true (show 1 ≤ (kk : Int) by omega), decide_eq_true (show (kk : Int) ≤ 7 by omega), decide_eq_true (show 0 ≤ la by omega), decide_eq_true (show la < r by omega), decide_eq_true (show lm = ((1 + cnt + 2 * k + 1 + j + 1 : Nat) : Int) by rw [hnn]; exact m5)] at this
                have h2 : (okLines p ⟨nm, ls⟩ (1 + cnt + 2 * k + 1 + j + 1) (ls.drop (j + 1)) && okThs p (cnt + ln) (1 + cnt + 2 * k + ln + 2) (ns ++ [nm.data.toList]) (p.ts.drop (k + 1))) = b := by simpa using this
                exact h2)
              clear hnn
              subst m5
              clear am
              refine wp_region_quiet_grown hmo (by kernel_rfl) ?_
              repeat (go_big_quiet_step ((go_at_call 45; refine Calls.grown_of (MO.out _ _))))
              refine wpQuiet_nil ?_
              intro _ hw'
              obtain ⟨⟨nq, osq⟩, hw''⟩ := hw'
              subst hw''
              go_wp2
              go_roundw
              case rel => exact ⟨j + 1, by omega, by go_num, by go_num, Lib.hid ⟨hf4.out.trans ((below_grow' nq osq).mono hf4.out.size), HFF.out⟩⟩
              case measure => simp [intOf]; omega
            · have c5 : (lm == 1 + (cnt : Int) + 2 * k + 1 + j + 1) = false := by simpa using m5
              have c6 : (lm != 1 + (cnt : Int) + 2 * k + 1 + j + 1) = true := by simpa using m5
              have HFF : Hid (b = false) := Lib.hid (by
                rw [← HREST2.out]; simp only [okLine]; rw [decide_eq_false (show ¬ lm = ((1 + cnt + 2 * k + 1 + j + 1 : Nat) : Int) by push_cast; exact m5)]; simp)
              clear m5 am
              refine wp_region_quiet_grown hmo (by kernel_rfl) ?_
              repeat (go_big_quiet_step ((go_at_call 45; refine Calls.grown_of (MO.out _ _))))
              refine wpQuiet_nil ?_
              intro _ hw'
              obtain ⟨⟨nq, osq⟩, hw''⟩ := hw'
              subst hw''
              go_wp2
              go_ret
              exact ⟨ret_int (by rw [HFF.out]; rfl), HWB.out.trans ((below_grow' nq osq).mono HWB.out.size)⟩
          · obtain rfl : j = ln := by omega
            have HFF : Hid (okThs p (cnt + j) (1 + (cnt + j) + 2 * (k + 1)) (ns ++ [nm.data.toList]) (p.ts.drop (k + 1)) = b) := Lib.hid (by
              rw [← hrest2, (List.drop_of_length_le (show ls.length ≤ j by rw [HLN.out]; exact Nat.le_refl _) : ls.drop j = [])]
              simp only [okLines, Bool.true_and]
              congr 1; omega)
            have HSS : Hid (SetAt wr (w.heap.size + 1) (ns ++ [nm.data.toList]) ∧ Below w.heap.size w wr ∧ Blk wr w.heap.size 28 #[.int .i64 v, .slice (some ad) n c] ∧ (ns ++ [nm.data.toList]).length = k + 1) := Lib.hid ⟨HS5.out.below hbq (by omega), HBW5.out.trans (hbq.mono (by omega)), HP5.out.below hbq (by omega), by simp [HNS.out]⟩
            clear hrest2 hbq
            go_wp2
            go_roundw
            case rel => exact ⟨k + 1, cnt + j, ns ++ [nm.data.toList], by omega, by omega, by omega, by go_num, by go_num, by go_num, Lib.hid ⟨HSS.out.2.2.2, HSS.out.1, HSS.out.2.1, HSS.out.2.2.1, HFF.out⟩⟩
            case measure => simp [intOf]; omega
      · obtain rfl : k = n := by omega
        have HF : Hid (b = true) := Lib.hid (by
          rw [← hrest, List.drop_of_length_le (by rw [HN.out]; exact Nat.le_refl _)]; rfl)
        have HBW := Lib.hid hbw
        clear hrest hbw hset hpb hns
        go_wp2
        go_ret
        exact ⟨ret_int (by rw [HF.out]; rfl), HBW.out⟩
  · have HF : Hid (b = false) := Lib.hid (by
      rw [← HB.out, checkP, HN.out]
      by_cases h1 : 1 ≤ p.v
      · by_cases h2 : p.v ≤ 8
        · rw [decide_eq_false (show ¬ n ≠ 0 by omega)]; simp
        · rw [decide_eq_false h2]; simp
      · rw [decide_eq_false h1]; simp)
    clear HB
    generalize p.v = v at *
    by_cases h1 : v < 1
    · have e1 : decide (v < 1) = true := decide_eq_true h1
      go_enter Tryz.func18, Tryz.ntmps18
      go_wp2
      go_ret
      exact ⟨ret_int (by rw [HF.out]; rfl), (Below.refl _ _).alloc (Nat.le_refl _) _⟩
    have e1 : decide (v < 1) = false := decide_eq_false h1
    by_cases h8 : 8 < v
    · have e2 : decide (8 < v) = true := decide_eq_true h8
      go_enter Tryz.func18, Tryz.ntmps18
      go_wp2
      go_ret
      exact ⟨ret_int (by rw [HF.out]; rfl), (Below.refl _ _).alloc (Nat.le_refl _) _⟩
    have e2 : decide (8 < v) = false := decide_eq_false h8
    obtain rfl : n = 0 := by omega
    go_enter Tryz.func18, Tryz.ntmps18
    go_wp2
    go_ret
    exact ⟨ret_int (by rw [HF.out]; rfl), (Below.refl _ _).alloc (Nat.le_refl _) _⟩
end Go.Proofs.YtpkefohcccpncaaGreatDoor
