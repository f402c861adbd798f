/- ProgramSteps: what holds all along. A slice literal of values of one cell each. -/
import Derived.Test.YtpkefohcccpncaaGreatDoorQAq
import Derived.Test.YtpkefohcccpncaaGreatDoorQAm
import Derived.Test.YtpkefohcccpncaaGreatDoorQAu
import Derived.Test.YtpkefohcccpncaaGreatDoorQAx
import Derived.Test.YtpkefohcccpncaaGreatDoorQBa
import Derived.Test.YtpkefohcccpncaaGreatDoorQBb
import Derived.Test.YtpkefohcccpncaaGreatDoorQAw
import Derived.Great.BuildSlice
namespace Go.Proofs.YtpkefohcccpncaaGreatDoor
open Go.RowKit
set_option linter.unusedSimpArgs false
set_option linter.unusedVariables false

theorem own_mono {w : World} {B B' : Nat} {e size n : Nat} {v : Value} {xs : List Value} (h : w.ownsRow B e size v n xs) (hb : B' ≤ B) : w.ownsRow B' e size v n xs := by
  obtain ⟨h1, h2⟩ := h
  refine ⟨h1, ?_⟩
  rcases h2 with h2 | ⟨g, cap, cur, h3, h4, h5⟩
  · exact .inl h2
  · exact .inr ⟨g, cap, cur, h3, by omega, h5⟩
theorem stepsP_le (p : Prg) (v : Int) (cs : List Int) : (stepsP p v cs).2.length ≤ 12 := by
  by_cases h : (stepsP p v cs).1 = 0
  · obtain ⟨_, _, _, _, _, h5⟩ := steps_ok h
    rw [h5]
    have h1 := stepsTo_le p v cs (placesP p) (placesP p).length
    have h2 := placesP_le p
    omega
  · rw [stepsP_err h]; simp
theorem doP_le (p : Prg) (v : Int) (cs : List Int) (e : Ev) : (doP p v cs e).2.2.length ≤ 6 := by
  by_cases h : (stepsP p v cs).1 = 0
  · obtain ⟨_, _, _, _, h5, _⟩ := steps_ok h
    have h2 := placesP_le p
    unfold doP
    rw [if_neg (by rw [h]; simp)]
    split
    · simp
    · split
      · simp
      · rw [doC_length]; omega
  · unfold doP
    rw [if_pos h]; simp
theorem neArr (a b a' b' : Int) (w : World) : (binOp .neq 56 (.agg #[.int .i64 a, .int .i64 b]) (.agg #[.int .i64 a', .int .i64 b'])).run Tryz.prog w = .ok (.bool (!(a == a' && b == b'))) w := by
  have u3 := Tryz.underlying3
  have a3 := Tryz.isAgg3
  have z3 := Tryz.sizeOf3
  have u4 := Tryz.underlying56
  rw [run_neq_struct, show (10000 : Nat) = 9998 + 1 + 1 from rfl]
  unfold Op.equalIn
  simp only [Sem.run_bind, run_underlying u4, Result.andThen_ok, Std.Legacy.Range.forIn_eq_forIn_range', Std.Legacy.Range.size]
  go_simp
  simp only [show List.range' 0 2 = [0, 1] from rfl, List.forIn_cons, List.forIn_nil]
  go_simp
  by_cases h1 : a = a' <;> by_cases h2 : b = b' <;> simp [h1, h2]
/-- the program's Text at any program -/
theorem gtext_any (p : Prg) (A : Option Addr) (n c : Nat) (w : World) (hT : ThsAt w w.heap.size A p.ts) (hn : p.ts.length = n) (hg : GlobP w) (hok : PrgOk p) (b : Bool) (hb : checkP p = b) :
    Calls Tryz.prog 16 #[.agg #[.int .i64 p.v, .slice A n c]] w (RTextPost w p b) := by
  rcases b with _ | _
  · have CK : Hid (∀ o, Calls Tryz.prog 18 #[.agg #[.int .i64 p.v, .slice A n c]] (w.alloc o) fun e w' => e = .returned (.int .i64 47) ∧ Below (w.alloc o).heap.size (w.alloc o) w') := Lib.hid (fun o =>
      check_any p A n c (w.alloc o) (hT.up ((Below.refl _ _).alloc (Nat.le_refl _) o)) hn (hg.below ((Below.refl _ _).alloc (Nat.le_refl _) o)) hok false hb)
    generalize p.v = v at *
    clear hT hn hg hok hb
    go_enter Tryz.func16, Tryz.ntmps16
    go_wp2_with (go_at_call 18; go_must (refine (CK.out _).mono ?_; rintro e w1 ⟨rfl, hb1⟩))
    go_ret2
    exact ⟨((Below.refl _ _).alloc (Nat.le_refl _) _).trans (hb1.mono (by simp)), _, rfl, rfl⟩
  · refine (text_any p A n c w hT hn hg hok true hb).mono fun e w' h => ?_
    obtain ⟨h1, s, h2, h3⟩ := h
    exact ⟨h1, s, h2, h3 rfl⟩
/-- the dice, the three programs, the event -/
structure SpI (w W : World) (b pb ga : Nat) (p q raw : Prg) (PA QA RA : Option Addr) (pc qc rc : Nat) (e : Ev) : Prop where
  di : DiceOk W b
  be : Below w.heap.size w W
  pr : Blk W pb 28 #[.int .i64 p.v, .slice PA p.ts.length pc]
  ar : Blk W ga 28 #[.int .i64 p.v, .slice PA p.ts.length pc, .int .i64 q.v, .slice QA q.ts.length qc, .int .i64 raw.v, .slice RA raw.ts.length rc]
  ev : Blk W (w.heap.size + 1) 38 #[.int .i64 e.th, .int .i64 e.ln, .int .i64 e.nu, .int .i64 e.va, .int .i64 e.nx]
  tp : ThsAt W ga PA p.ts
  tq : ThsAt W ga QA q.ts
  tr : ThsAt W ga RA raw.ts
  bl : w.heap.size + 1 < b ∧ b < pb ∧ pb < ga
section
variable {w W W' : World} {b pb ga : Nat} {p q raw : Prg} {PA QA RA : Option Addr} {pc qc rc : Nat} {e : Ev}
theorem SpI.past (h : SpI w W b pb ga p q raw PA QA RA pc qc rc e) (hb : Below (ga + 1) W W') : SpI w W' b pb ga p q raw PA QA RA pc qc rc e := by
  have hl := h.bl
  exact ⟨h.di.below hb (by omega), h.be.trans (hb.mono (by omega)), h.pr.below hb (by omega), h.ar.below hb (by omega), h.ev.below hb (by omega), h.tp.below (hb.mono (by omega)), h.tq.below (hb.mono (by omega)), h.tr.below (hb.mono (by omega)), hl⟩
theorem SpI.below (h : SpI w W b pb ga p q raw PA QA RA pc qc rc e) (hb : Below W.heap.size W W') : SpI w W' b pb ga p q raw PA QA RA pc qc rc e := h.past (hb.mono h.ar.lt)
theorem SpI.alloc (h : SpI w W b pb ga p q raw PA QA RA pc qc rc e) (o : Obj) : SpI w (W.alloc o) b pb ga p q raw PA QA RA pc qc rc e := h.below ((Below.refl _ _).alloc (Nat.le_refl _) o)
theorem SpI.drewN (h : SpI w W b pb ga p q raw PA QA RA pc qc rc e) (n : Nat) : SpI w (W.drewN n) b pb ga p q raw PA QA RA pc qc rc e := h.below (below_drewN (Below.refl _ _) n)
theorem SpI.pick (h : SpI w W b pb ga p q raw PA QA RA pc qc rc e) (hd : DiceOk W' b) (hg : W.grownBy W' (some b)) : SpI w W' b pb ga p q raw PA QA RA pc qc rc e := by
  have hl := h.bl
  have hne : ∀ k, k ≠ b → some k ≠ some b := fun k hk e => by injection e with e; exact hk e
  have hga := Nat.le_of_lt h.ar.lt
  exact ⟨hd, h.be.grown hg h.be.size (fun k hk => by cases hk; omega), h.pr.grown hg (hne _ (by omega)), h.ar.grown hg (hne _ (by omega)), h.ev.grown hg (hne _ (by omega)), h.tp.pickB hga h.di hg, h.tq.pickB hga h.di hg, h.tr.pickB hga h.di hg, hl⟩
/-- one of the three programs -/
theorem SpI.prog (hp : PrgOk p) (hq : PrgOk q) (hr : PrgOk raw) {i : Nat} (hi : i < 3) : ∃ (x : Prg) (XA : Option Addr) (xc : Nat), PrgOk x ∧ ∀ W, SpI w W b pb ga p q raw PA QA RA pc qc rc e →
    W.cell? ⟨ga, i * 2, none⟩ = some (.int .i64 x.v) ∧ W.cell? ⟨ga, i * 2 + 1, none⟩ = some (.slice XA x.ts.length xc) ∧ ThsAt W W.heap.size XA x.ts := by
  have : i = 0 ∨ i = 1 ∨ i = 2 := by omega
  rcases this with rfl | rfl | rfl
  · exact ⟨p, PA, pc, hp, fun W h => ⟨h.ar.cell 0, h.ar.cell 1, h.tp.more (Nat.le_of_lt h.ar.lt)⟩⟩
  · exact ⟨q, QA, qc, hq, fun W h => ⟨h.ar.cell 2, h.ar.cell 3, h.tq.more (Nat.le_of_lt h.ar.lt)⟩⟩
  · exact ⟨raw, RA, rc, hr, fun W h => ⟨h.ar.cell 4, h.ar.cell 5, h.tr.more (Nat.le_of_lt h.ar.lt)⟩⟩
end
/-- and the program at hand in its box -/
structure SpX (w W : World) (b pb ga : Nat) (p q raw : Prg) (PA QA RA : Option Addr) (pc qc rc : Nat) (e : Ev) (gx : Nat) (x : Prg) (XA : Option Addr) (xc : Nat) : Prop where
  i : SpI w W b pb ga p q raw PA QA RA pc qc rc e
  bx : Blk W gx 28 #[.int .i64 x.v, .slice XA x.ts.length xc]
  tx : ThsAt W gx XA x.ts
  lx : ga < gx
section
variable {w W W' : World} {b pb ga gx : Nat} {p q raw x : Prg} {PA QA RA XA : Option Addr} {pc qc rc xc : Nat} {e : Ev}
theorem SpX.past (h : SpX w W b pb ga p q raw PA QA RA pc qc rc e gx x XA xc) (hb : Below (gx + 1) W W') : SpX w W' b pb ga p q raw PA QA RA pc qc rc e gx x XA xc :=
  ⟨h.i.past (hb.mono (by have := h.lx; omega)), h.bx.below hb (by omega), h.tx.below (hb.mono (by omega)), h.lx⟩
theorem SpX.below (h : SpX w W b pb ga p q raw PA QA RA pc qc rc e gx x XA xc) (hb : Below W.heap.size W W') : SpX w W' b pb ga p q raw PA QA RA pc qc rc e gx x XA xc := h.past (hb.mono h.bx.lt)
theorem SpX.alloc (h : SpX w W b pb ga p q raw PA QA RA pc qc rc e gx x XA xc) (o : Obj) : SpX w (W.alloc o) b pb ga p q raw PA QA RA pc qc rc e gx x XA xc := h.below ((Below.refl _ _).alloc (Nat.le_refl _) o)
theorem SpX.drewN (h : SpX w W b pb ga p q raw PA QA RA pc qc rc e gx x XA xc) (n : Nat) : SpX w (W.drewN n) b pb ga p q raw PA QA RA pc qc rc e gx x XA xc := h.below (below_drewN (Below.refl _ _) n)
theorem SpX.pick (h : SpX w W b pb ga p q raw PA QA RA pc qc rc e gx x XA xc) (hd : DiceOk W' b) (hg : W.grownBy W' (some b)) : SpX w W' b pb ga p q raw PA QA RA pc qc rc e gx x XA xc := by
  have hl := h.i.bl
  have hlx := h.lx
  exact ⟨h.i.pick hd hg, h.bx.grown hg (fun e => by injection e with e; omega), h.tx.pickB (Nat.le_of_lt h.bx.lt) h.i.di hg, hlx⟩
theorem SpX.th (h : SpX w W b pb ga p q raw PA QA RA pc qc rc e gx x XA xc) : ThsAt W W.heap.size XA x.ts := h.tx.more (Nat.le_of_lt h.bx.lt)
theorem SpX.cells (h : SpX w W b pb ga p q raw PA QA RA pc qc rc e gx x XA xc) : W.cell? ⟨gx, 0, none⟩ = some (.int .i64 x.v) ∧ W.cell? ⟨gx, 1, none⟩ = some (.slice XA x.ts.length xc) ∧ W.cell? ⟨pb, 0, none⟩ = some (.int .i64 p.v) ∧ W.cell? ⟨pb, 1, none⟩ = some (.slice PA p.ts.length pc) := ⟨h.bx.cell 0, h.bx.cell 1, h.i.pr.cell 0, h.i.pr.cell 1⟩
/-- the box that a round makes -/
theorem SpX.mk_ (h : SpI w W b pb ga p q raw PA QA RA pc qc rc e) (ht : ThsAt W W.heap.size XA x.ts) (t : TypeId) (ht2 : t = 28) : SpX w (W.alloc (.cells #[.int .i64 x.v, .slice XA x.ts.length xc] t)) b pb ga p q raw PA QA RA pc qc rc e W.heap.size x XA xc := by
  subst ht2
  exact ⟨h.alloc _, Blk.new _ _ _, ht.below ((Below.refl _ _).alloc (Nat.le_refl _) _), h.ar.lt⟩
end
end Go.Proofs.YtpkefohcccpncaaGreatDoor
namespace Go.Proofs.YtpkefohcccpncaaGreatDoor
open Go.RowKit
set_option linter.unusedSimpArgs false
set_option linter.unusedVariables false

theorem wp_build_vals {P : Program} {o : Oper} {a : Act} {w : World} {K : Act → World → Prop} {Q : Exit → Act → World → Prop} (t e : TypeId) (len : Nat) (parts : Array (Nat × Operand)) (ho : o.op = .buildSlice t len parts) (vs : List Value)
    (hu : P.underlying t = some (.slice e)) (hsz : (P.info? e).map (·.size) = some 1) (hz : ((P.info? e).bind (·.zero)).isSome = true)
    (hlen : len = vs.length) (hpos : 0 < len) (hsmall : len ≤ 2 ^ 24) (h1 : ∀ v ∈ vs, v.cells = #[v])
    (hparts : (parts.map fun (i, x) => (i, a.eval x)).toList = (vs.zipIdx 0).map fun x => (x.2, x.1))
    (h : K (a.put o.dst (.slice (some ⟨w.heap.size, 0, none⟩) len len)) (w.alloc (.cells vs.toArray e))) : o.wp P a w K Q := by
  cases hie : P.info? e with
  | none => simp [hie] at hsz
  | some ie =>
    simp only [hie, Option.map_some, Option.some.injEq, Option.bind_some] at hsz hz
    obtain ⟨z, hzz⟩ := Option.isSome_iff_exists.1 hz
    refine wp_buildSlice t e len parts ho _ ie z hu hie hzz (by rw [hsz]; omega) (by rw [hsz]; omega) ?_ h
    rw [hparts, hsz]
    exact Great.fill_flat _ _ h1 (by simp [hlen])
end Go.Proofs.YtpkefohcccpncaaGreatDoor
