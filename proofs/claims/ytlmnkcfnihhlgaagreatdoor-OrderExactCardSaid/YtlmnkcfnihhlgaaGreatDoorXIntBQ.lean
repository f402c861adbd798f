/- Part of a proof of orderExact_card. -/
import Derived.Test.YtlmnkcfnihhlgaaGreatDoorXIntAQ
import Derived.Test.YtlmnkcfnihhlgaaGreatDoorSortLayIQ
import Derived.Test.YtlmnkcfnihhlgaaGreatDoorXLeqAQ
import Derived.Shelf.SlSortCmp.Whole1
set_option maxRecDepth 100000
set_option maxHeartbeats 16000000
namespace Go.Proofs.YtlmnkcfnihhlgaaGreatDoor
open Go.RowKit Go.Sort
set_option linter.unusedSimpArgs false
set_option linter.unusedVariables false
def KI (w : World) (S : Nat → Prop) : Type := { x : IS // IAt w S x.2 x.1 }
instance (w : World) (S : Nat → Prop) : Inhabited (KI w S) := ⟨⟨([], .slice none 0 0), IAt.nil _ _ (Nat.zero_le _)⟩⟩
def encKI {w : World} {S : Nat → Prop} (x : KI w S) : Value := x.1.2
def cmpKI {w : World} {S : Nat → Prop} (x y : KI w S) : Int := cmpV (wdV x.1.1) (wdV y.1.1)
theorem oneKI (w : World) (S : Nat → Prop) : OneCell (encKI (w := w) (S := S)) := fun x => by
 obtain ⟨A, n, c, e, _⟩ := x.2.form
 unfold encKI; rw [e]; rfl
theorem swoKI (w : World) (S : Nat → Prop) : SWO (ltOf (cmpKI (w := w) (S := S))) where
 irrefl x := by simp [ltOf, cmpKI, cmp_self]
 trans x y z h1 h2 := by
   have h1 : cmpV (wdV x.1.1) (wdV y.1.1) < 0 := of_decide_eq_true h1
   have h2 : cmpV (wdV y.1.1) (wdV z.1.1) < 0 := of_decide_eq_true h2
   refine decide_eq_true (p := cmpV (wdV x.1.1) (wdV z.1.1) < 0) ?_
   have r1 := cmp_range (wdV x.1.1) (wdV y.1.1)
   have r2 := cmp_range (wdV y.1.1) (wdV z.1.1)
   have := cmp_trans (wdV x.1.1) (wdV y.1.1) (wdV z.1.1) (by omega) (by omega)
   omega
 ntrans x y z h1 h2 := by
   have h1 : ¬ cmpV (wdV x.1.1) (wdV y.1.1) < 0 := of_decide_eq_false h1
   have h2 : ¬ cmpV (wdV y.1.1) (wdV z.1.1) < 0 := of_decide_eq_false h2
   refine decide_eq_false (p := cmpV (wdV x.1.1) (wdV z.1.1) < 0) ?_
   have a1 := cmp_anti (wdV x.1.1) (wdV y.1.1)
   have a2 := cmp_anti (wdV y.1.1) (wdV z.1.1)
   have a3 := cmp_anti (wdV x.1.1) (wdV z.1.1)
   have := cmp_le_trans (a := wdV z.1.1) (b := wdV y.1.1) (c := wdV x.1.1) (by omega) (by omega)
   omega
def attachI {w : World} {S : Nat → Prop} : (ps : List IS) → (∀ p ∈ ps, IAt w S p.2 p.1) → List (KI w S)
 | [], _ => []
 | p :: r, h => ⟨p, h p (by simp)⟩ :: attachI r fun q hq => h q (by simp [hq])
theorem pairsI_attach {w : World} {S : Nat → Prop} : ∀ (ps : List IS) (h : ∀ p ∈ ps, IAt w S p.2 p.1), (attachI ps h).map (·.1) = ps
 | [], _ => rfl
 | p :: r, h => congrArg (p :: ·) (pairsI_attach r _)
theorem holdsI_row {w : World} {S : Nat → Prop} {B g n c : Nat} {ps : List IS} (h : IRow w B S (.slice (some ⟨g, 0, none⟩) n c) ps) (hn : ps.length = n) : Holds encKI w g 0 (attachI ps h.kid).toArray := by
 subst hn
 intro j hj
 have e := pairsI_attach ps h.kid
 have hl : (attachI ps h.kid).length = ps.length := by
   have := congrArg List.length e
   simpa using this
 have hj1 : j < (attachI ps h.kid).length := by simpa using hj
 refine ⟨?_, h.own.frozenAt _⟩
 rw [Nat.zero_add, h.own.cellAt j (by omega)]
 have e2 : (ps.map (·.2))[j]? = ((attachI ps h.kid).map encKI)[j]? := by
   conv => lhs; rw [← e]
   rw [List.map_map]; rfl
 rw [e2, List.getElem?_map, List.getElem?_eq_getElem hj1, getElem!_pos _ j hj]
 simp
theorem insNoneI_any (A : Option Addr) (c : Nat) (fv : Value) (w : World) : Calls Tryz.prog 179 #[.slice A 0 c, .int .i64 0, .int .i64 0, fv] w fun e w' => e = .returned (.tuple #[]) ∧ w = w' := by
 go_enter Tryz.func179, Tryz.ntmps179
 go_wp2
 refine wp_loop_rounds 1 ?_
 rw [rounds_succ]
 go_wp2
 go_end0
 exact ⟨rfl, rfl⟩
theorem pdqNoneI_any (A : Option Addr) (c : Nat) (lim : Int) (fv : Value) (w : World) : Calls Tryz.prog 144 #[.slice A 0 c, .int .i64 0, .int .i64 0, .int .i64 lim, fv] w fun e w' => e = .returned (.tuple #[]) ∧ w = w' := by
 go_enter Tryz.func144, Tryz.ntmps144
 go_wp2
 refine wp_loop_rounds 1 ?_
 rw [rounds_succ]
 go_wp2_with (go_at_call 179; refine (insNoneI_any A c fv _).mono ?_; rintro e w' ⟨rfl, rfl⟩)
 (try simp only [Exit.inBlock, Exit.then]); refine bodyPost_ret (results_none rfl _ _ _) rfl ?_
 exact ⟨rfl, rfl⟩
theorem sortNoneI_any (A : Option Addr) (c : Nat) (fv : Value) (w : World) : Calls Tryz.prog 116 #[.slice A 0 c, fv] w fun e w' => e = .returned (.tuple #[]) ∧ w = w' := by
 have hl : Calls Tryz.prog 125 #[.int .u64 0] w fun e w' => e = .returned (.int .i64 ((Lib.bitLen 0 : Nat) : Int)) ∧ w = w' := (Tryz.bits_Len 0 w (by omega) (by omega)).mono fun e w' h => ⟨h.1, h.2.symm⟩
 generalize ((Lib.bitLen 0 : Nat) : Int) = r at hl
 go_enter Tryz.func116, Tryz.ntmps116
 go_wp2_with (first | (go_at_call 125; go_must (refine hl.mono ?_; rintro e w' ⟨rfl, rfl⟩)) | (go_at_call 144; go_must (refine (pdqNoneI_any A c r fv _).mono ?_; rintro e w' ⟨rfl, rfl⟩)))
 go_end0
 exact ⟨rfl, rfl⟩
def SortIPost (w : World) (B : Nat) (S : Nat → Prop) (s : Value) (ps : List IS) (e : Ending) (w' : World) : Prop := e = .returned (.tuple #[]) ∧ ∃ qs, IRow w' B S s qs ∧ qs.length = ps.length ∧ w.grownBy w' s.ownBlock
theorem sortI_any (B : Nat) (S : Nat → Prop) (ps : List IS) (s : Value) (w : World) (h : IRow w B S s ps) (hS : ∀ b, S b → b < w.heap.size ∧ s.ownBlock ≠ some b) (h9 : ps.length ≤ 1000000) :
   Calls Tryz.prog 116 #[s, .func (.func 117) #[] #[]] w (SortIPost w B S s ps) := by
 obtain ⟨A, c, rfl, bn, mn⟩ := own_bounds h.own
 by_cases h0 : ps.length = 0
 · obtain rfl := List.eq_nil_of_length_eq_zero h0
   refine (sortNoneI_any A c _ w).mono ?_
   rintro e w' ⟨rfl, rfl⟩
   exact ⟨rfl, [], h, rfl, World.grownBy.refl _ _⟩
 · obtain ⟨g, rfl, -, hLg, hgl, -⟩ := own_at h.own (by omega : 0 < ps.length)
   have hat := pairsI_attach ps h.kid
   have hl : (attachI ps h.kid).length = ps.length := by
     have := congrArg List.length hat
     simpa using this
   have hH := holdsI_row h rfl
   have hcon := Any.slices_SortFunc Tryz.sortInts encKI (oneKI w S) cmpKI (swoKI w S) 117 #[] g 0 c (attachI ps h.kid).toArray w (enters_of Tryz.func117 (by kernel_rfl) rfl)
     (fun m os dk hdk x y => by
       have key : ∀ z : KI w S, IB (sortWorld encKI w g 0 m dk os) (sortWorld encKI w g 0 m dk os).heap.size z.1.2 z.1.1 := fun z => z.2.keep (fun b hb => by
           have h1 := (hS b hb).1
           unfold sortWorld
           simp only [size_grow, Sort.size_putRow]
           exact Nat.lt_of_lt_of_le h1 (Nat.le_add_right _ _)) (fun p hp => by
           have h1 := (hS _ hp).1
           have h2 : p.block ≠ g := fun e => (hS _ hp).2 (by rw [e]; rfl)
           unfold sortWorld
           rw [cell?_grow _ _ _ (by rw [Sort.size_putRow]; exact h1), cell?_putRow_other _ _ _ _ _ _ (.inl h2)]
           rfl)
       refine (wCompare_any x.1.1 y.1.1 x.1.2 y.1.2 _ (key x) (key y)).mono ?_
       rintro e w' ⟨rfl, hg⟩
       obtain ⟨q, os', e⟩ := hg.form
       exact ⟨rfl, q, os', e⟩) hH hgl (by simp [hl]; omega)
   have hcon' := hcon
   rw [show (attachI ps h.kid).toArray.size = ps.length by simp [hl]] at hcon'
   change Calls Tryz.prog 116 _ _ _ at hcon'
   refine hcon'.mono ?_
   rintro e w' ⟨rfl, d', q, os, hp, hs, rfl⟩
   obtain ⟨d2, rfl⟩ : ∃ d2 : List (KI w S), d' = d2.toArray := ⟨d'.toList, by simp⟩
   have hl2 : d2.length = (attachI ps h.kid).length := by simpa using hp.1
   have hw : sortWorld encKI w g 0 q d2.toArray os = grow ((w.drewN q).setCells g 0 (d2.map encKI)) os := by
     unfold sortWorld
     rw [Go.Lib.putRow_eq_setCells encKI w g 0 (attachI ps h.kid).toArray d2 q hH (by simpa using hl2)]
   rw [hw]
   have ho : ((w.drewN q).setCells g 0 (d2.map encKI)).ownsRow B 22 1 (.slice (some ⟨g, 0, none⟩) ps.length c) ps.length (d2.map encKI) := by
     have := setCells_own1 (d2.map encKI) 0 (w.drewN q) _ (show (w.drewN q).ownsRow B 22 1 (.slice (some ⟨g, 0, none⟩) ps.length c) ps.length (ps.map (·.2)) from h.own) (by simp; omega)
     simpa using this
   have hgb : w.grownBy ((w.drewN q).setCells g 0 (d2.map encKI)) (some g) := setCells_gb1 _ _ _ ⟨rfl, rfl, rfl, Nat.le_refl _, fun _ _ _ => rfl⟩
   have hgb2 : w.grownBy (grow ((w.drewN q).setCells g 0 (d2.map encKI)) os) (some g) := grownBy_trans hgb (gb_grow1 _ _ _)
   refine ⟨rfl, d2.map (·.1), ⟨?_, fun p hp => ?_⟩, by simp; omega, hgb2⟩
   · have e1 : (d2.map (·.1)).map (·.2) = d2.map encKI := by rw [List.map_map]; rfl
     rw [e1, List.length_map, hl2, hl]
     exact ho.kept (gb_grow1 _ os none) (.inr (by simp [Value.ownBlock]))
   · obtain ⟨x, -, rfl⟩ := List.mem_map.1 hp
     exact x.2.keep (fun _ hb => hb) (fun q hq => World.cell?_of_block (hgb2.block q.block (hS _ hq).1 (fun e => (hS _ hq).2 (by rw [e]; rfl))))
end Go.Proofs.YtlmnkcfnihhlgaaGreatDoor
namespace Go.Proofs.YtlmnkcfnihhlgaaGreatDoor
open Go.RowKit
set_option linter.unusedSimpArgs false
set_option linter.unusedVariables false
def CompIPost (w : World) (row : Option Nat) (n : Nat) (e : Ending) (w' : World) : Prop := ∃ A m c, e = .returned (.slice A m c) ∧ (m = 0 ↔ n = 0) ∧ w.grownBy w' row
theorem compactI_any (B : Nat) (S : Nat → Prop) (ps : List IS) (s : Value) (w : World) (h : IRow w B S s ps) (hS : ∀ b, S b → b < w.heap.size ∧ s.ownBlock ≠ some b) (h9 : ps.length ≤ 1000000) :
   Calls Tryz.prog 118 #[s, .func (.func 119) #[] #[]] w (CompIPost w s.ownBlock ps.length) := by
 obtain ⟨A, c, rfl, bn, mn⟩ := own_bounds h.own
 unfold maxLen at mn
 generalize hn : ps.length = n at *
 by_cases h2 : n < 2
 · have d1 : decide ((n : Int) < 2) = true := decide_eq_true (by omega)
   clear h hS
   go_enter Tryz.func118, Tryz.ntmps118
   go_wp2
   go_ret
   exact ⟨A, n, c, rfl, Iff.rfl, World.grownBy.refl _ _⟩
 have d1 : decide ((n : Int) < 2) = false := decide_eq_false (by omega)
 obtain ⟨g, rfl, -, hLg, hgl, -⟩ := own_at (by have := h.own; rwa [hn] at this) (by omega : 0 < n)
 have HS : Hid (∀ b, S b → b < w.heap.size ∧ b ≠ g) := Lib.hid (fun b hb => ⟨(hS b hb).1, fun e => (hS b hb).2 (by rw [e]; rfl)⟩)
 have H : Hid (IRow w B S (.slice (some ⟨g, 0, none⟩) n c) ps ∧ ps.length = n) := Lib.hid ⟨h, hn⟩
 have n2 : 2 ≤ n := by omega
 clear h hS h2 hn
 show Calls _ _ _ _ (CompIPost w (some g) n)
 have STEP : Hid (∀ W qs (k j : Nat), w.grownBy W (some g) → IRow W B S (.slice (some ⟨g, 0, none⟩) n c) qs → qs.length = n → k < n → j < n → ∃ xA xn xc yA yn yc q, (∀ P : BwOf W, P.val.cell? ⟨g, k, none⟩ = some (.slice xA xn xc)) ∧ (∀ P : BwOf W, P.val.cell? ⟨g, j, none⟩ = some (.slice yA yn yc)) ∧ (∀ P : BwOf W, P.val.frozen? ⟨g, j, none⟩ = false) ∧
     (∀ P : BwOf W, Calls Tryz.prog 119 #[.slice xA xn xc, .slice yA yn yc] P.val (BoolPost P.val q))) := Lib.hid (fun W qs k j hg hi hq hk hj => by
   obtain ⟨xA, xn, xc, e1, -, -, -, i1, -⟩ := hi.at_ hq hk
   obtain ⟨yA, yn, yc, e2, f2, -, -, i2, -⟩ := hi.at_ hq hj
   have hgW : g < W.heap.size := Nat.lt_of_lt_of_le hgl hg.size
   refine ⟨xA, xn, xc, yA, yn, yc, decide ((qs[k]'(by omega)).1 = (qs[j]'(by omega)).1), fun P => (P.bw.b.cell (p := ⟨g, k, none⟩) hgW).trans e1, fun P => (P.bw.b.cell (p := ⟨g, j, none⟩) hgW).trans e2, fun P => ?_, fun P => ?_⟩
   · obtain ⟨_, _, _, -, f, -⟩ := (hi.bw (fun b hb => Nat.lt_of_lt_of_le (HS.out b hb).1 hg.size) P.bw).at_ hq hj
     exact f
   · exact eqInts_any _ _ _ _ _ (i1.keep (fun b hb => Nat.lt_of_lt_of_le (Nat.lt_of_lt_of_le (HS.out b hb).1 hg.size) P.bw.size) (fun p hp => P.bw.b.cell (Nat.lt_of_lt_of_le (HS.out _ hp).1 hg.size))) (i2.keep (fun b hb => Nat.lt_of_lt_of_le (Nat.lt_of_lt_of_le (HS.out b hb).1 hg.size) P.bw.size) (fun p hp => P.bw.b.cell (Nat.lt_of_lt_of_le (HS.out _ hp).1 hg.size))))
 unfold BoolPost at STEP
 go_enter Tryz.func118, Tryz.ntmps118
 go_wp2_with fail
 go_loopw [5] (fun i wr => ∃ k : Nat, 1 ≤ k ∧ k ≤ n ∧ i = .int .i64 k ∧ Hid (∃ qs, IRow wr B S (.slice (some ⟨g, 0, none⟩) n c) qs ∧ qs.length = n ∧ w.grownBy wr (some g))) (fun i _ => n - (intOf i).toNat)
 case atStart => exact ⟨1, by omega, by omega, rfl, Lib.hid ⟨ps, H.out.1, H.out.2, World.grownBy.refl _ _⟩⟩
 case round =>
   obtain ⟨k, hk1, hk, rfl, HR⟩ := hrel
   by_cases hlt : k < n
   rotate_left
   · obtain rfl : k = n := by omega
     go_wp2
     go_ret
     obtain ⟨qs, -, -, hg⟩ := HR.out
     exact ⟨_, k, c, rfl, Iff.rfl, hg⟩
   obtain ⟨j, rfl⟩ : ∃ j, k = j + 1 := ⟨k - 1, by omega⟩
   have SS : Hid (∃ xA xn xc yA yn yc q, (∀ P : BwOf wr, P.val.cell? ⟨g, j + 1, none⟩ = some (.slice xA xn xc)) ∧ (∀ P : BwOf wr, P.val.cell? ⟨g, j, none⟩ = some (.slice yA yn yc)) ∧
     (∀ P : BwOf wr, Calls Tryz.prog 119 #[.slice xA xn xc, .slice yA yn yc] P.val (fun e w' => e = .returned (.bool q) ∧ Bw P.val w'))) := Lib.hid (by
       obtain ⟨qs, hi, hq, hg⟩ := HR.out
       obtain ⟨xA, xn, xc, yA, yn, yc, q, h1, h2, -, h3⟩ := STEP.out wr qs (j + 1) j hg hi hq hlt (by omega)
       exact ⟨xA, xn, xc, yA, yn, yc, q, h1, h2, h3⟩)
   obtain ⟨xA, xn, xc, yA, yn, yc, q, q1, q2, q3⟩ := SS.out
   have D1 := Lib.hid q3
   have wj : wrap64 (j : Int) = (j : Int) := by unfold wrap64; omega
   clear q3 SS
   go_wp2_with fail
   refine wp_region_quiet_bw mixedO (by kernel_rfl) ?_
   repeat (go_big_quiet_step ((first | (go_at_call 119; with_reducible exact calls_bw _ (D1.out _)))))
   refine wpQuiet_nil ?_
   intro w6 hw'
   have hg6 : Bw wr w6 := by obtain ⟨p, e⟩ := hw'; rw [e]; exact p.bw
   have HR6 : Hid (∃ qs, IRow w6 B S (.slice (some ⟨g, 0, none⟩) n c) qs ∧ qs.length = n ∧ w.grownBy w6 (some g)) := Lib.hid (by
     obtain ⟨qs, hi, hq, hg⟩ := HR.out
     exact ⟨qs, hi.bw (fun b hb => Nat.lt_of_lt_of_le (HS.out b hb).1 hg.size) hg6, hq, grownBy_trans hg (bw_gr1 hg6 _)⟩)
   clear hw' hg6 q1 q2 D1 HR
   rcases q with _ | _
   · go_wp2
     go_roundw
     case rel => exact ⟨j + 1 + 1, by omega, by omega, by go_num, HR6⟩
     case measure => simp [intOf]; omega
   · go_wp2_with fail
     have HL : Hid (j + 1 + (n - (j + 1)) = n) := Lib.hid (by omega)
     have hl0 : n - (j + 1) ≤ 1000000 := by omega
     have hl1 : 1 ≤ n - (j + 1) := by omega
     generalize n - (j + 1) = l at *
     generalize c - (j + 1) = cl at *
     go_loopw [5, 7] (fun s5 s7 wr => ∃ k k2 : Nat, 1 ≤ k ∧ 1 ≤ k2 ∧ k2 ≤ l ∧ k < j + 1 + k2 ∧ s5 = .int .i64 k ∧ s7 = .int .i64 k2 ∧ Hid (∃ qs, IRow wr B S (.slice (some ⟨g, 0, none⟩) n c) qs ∧ qs.length = n ∧ w.grownBy wr (some g))) (fun _ s7 _ => l - (intOf s7).toNat)
     case atStart => exact ⟨j + 1, 1, by omega, by omega, by omega, by omega, by go_num, rfl, HR6⟩
     case round =>
       obtain ⟨k, k2, h1, h2, h3, h4, rfl, rfl, HR⟩ := hrel
       obtain ⟨i, rfl⟩ : ∃ i, k = i + 1 := ⟨k - 1, by omega⟩
       by_cases hlt2 : k2 < l
       rotate_left
       · obtain rfl : k2 = l := by omega
         have hin : i + 1 < n := by have := HL.out; omega
         have HCL : Hid (∃ w9, (∀ ty, (Builtin.clear_ #[106] ty #[.slice (some ⟨g, i + 1, none⟩) (n - (i + 1)) (c - (i + 1))]).run Tryz.prog wr = .ok (.tuple #[]) w9) ∧ w.grownBy w9 (some g)) := Lib.hid (by
           obtain ⟨qs, hi, hq, hg⟩ := HR.out
           exact ⟨_, fun ty => (own_clearI hi hq hin ty).1, grownBy_trans hg (own_clearI hi hq hin 0).2⟩)
         obtain ⟨w9, hcl, hg9⟩ := HCL.out
         have HG9 := Lib.hid hg9
         clear hg9 HCL HR
         go_wp2
         go_ret
         exact ⟨_, i + 1, c, rfl, by omega, HG9.out⟩
       obtain ⟨m, hm⟩ : ∃ m, k2 = m + 1 := ⟨k2 - 1, by omega⟩
       have HM := Lib.hid hm
       have HH := Lib.hid (And.intro h3 (And.intro h4 hlt2))
       have d2 : decide (k2 < l) = true := decide_eq_true hlt2
       have n1 : j + 1 + (m + 1) < n := by have := HL.out; omega
       have n3 : j + 1 + m < n := by omega
       have n4 : i + 1 < n := by omega
       have SS : Hid (∃ xA xn xc yA yn yc q, (∀ P : BwOf wr, P.val.cell? ⟨g, j + 1 + (m + 1), none⟩ = some (.slice xA xn xc)) ∧ (∀ P : BwOf wr, P.val.cell? ⟨g, j + 1 + m, none⟩ = some (.slice yA yn yc)) ∧
         (∀ P : BwOf wr, Calls Tryz.prog 119 #[.slice xA xn xc, .slice yA yn yc] P.val (fun e w' => e = .returned (.bool q) ∧ Bw P.val w')) ∧
         (∀ W, Bw wr W → (∃ u, W.cell? ⟨g, i + 1, none⟩ = some u) ∧ W.frozen? ⟨g, i + 1, none⟩ = false ∧ W.cell? ⟨g, j + 1 + (m + 1), none⟩ = some (.slice xA xn xc) ∧ (∃ qs, IRow W B S (.slice (some ⟨g, 0, none⟩) n c) qs ∧ qs.length = n ∧ w.grownBy W (some g)) ∧
           ∃ qs, IRow (W.setCell ⟨g, i + 1, none⟩ (.slice xA xn xc)) B S (.slice (some ⟨g, 0, none⟩) n c) qs ∧ qs.length = n ∧ w.grownBy (W.setCell ⟨g, i + 1, none⟩ (.slice xA xn xc)) (some g))) := Lib.hid (by
           obtain ⟨qs, hi, hq, hg⟩ := HR.out
           obtain ⟨xA, xn, xc, yA, yn, yc, q, h1, h2, -, h3⟩ := STEP.out wr qs (j + 1 + (m + 1)) (j + 1 + m) hg hi hq n1 n3
           refine ⟨xA, xn, xc, yA, yn, yc, q, h1, h2, h3, fun W hW => ?_⟩
           have hiW := hi.bw (fun b hb => Nat.lt_of_lt_of_le (HS.out b hb).1 hg.size) hW
           have hgW := grownBy_trans hg (bw_gr1 hW (some g))
           obtain ⟨zA, zn, zc, e1, f1, -⟩ := hiW.at_ hq (k := i + 1) n4
           obtain ⟨xA', xn', xc', e2, -, -, -, i2, es⟩ := hiW.at_ hq (k := j + 1 + (m + 1)) n1
           have e3 := h1 ⟨W, hW⟩
           have e4 : Value.slice xA' xn' xc' = .slice xA xn xc := Option.some.inj (e2.symm.trans e3)
           refine ⟨⟨_, e1⟩, f1, e3, ⟨qs, hiW, hq, hgW⟩, qs.set (i + 1) (qs[j + 1 + (m + 1)]'(by omega)), ?_, by simpa using hq, grownBy_setCell (p := ⟨g, i + 1, none⟩) hgW (.inl rfl) _⟩
           have := hiW.put hq (fun b hb => (HS.out b hb).2) (i + 1) (p := qs[j + 1 + (m + 1)]'(by omega)) (by rw [es]; exact i2)
           rw [es, e4] at this
           exact this)
       obtain ⟨xA, xn, xc, yA, yn, yc, q, q1, q2, q3, q4⟩ := SS.out
       have wm : wrap64 ((k2 : Int) - 1) = (m : Int) := by unfold wrap64; omega
       have mk : m < l := by omega
       have HN2 : Hid (i + 1 < n) := Lib.hid n4
       have hkk : j + 1 + (m + 1) = j + 1 + k2 := by omega
       have hm2 : j + 1 + m = j + 1 + (k2 - 1) := by omega
       rw [hkk] at q1 q4
       rw [hm2] at q2
       have mk2 : k2 - 1 < l := by omega
       have D1 := Lib.hid q3
       have D2 := Lib.hid q4
       clear q3 q4 SS HR n1 n3 hkk hm2 hm h3 h4 mk
       go_upto_region 11 with fail
       refine wp_region_quiet_bw mixedO (by kernel_rfl) ?_
       repeat (go_big_quiet_step ((first | (go_at_call 119; with_reducible exact calls_bw _ (D1.out _)))))
       refine wpQuiet_nil ?_
       intro w7 hw'
       have hg7 : Bw wr w7 := by obtain ⟨p, e⟩ := hw'; rw [e]; exact p.bw
       obtain ⟨⟨u, r0⟩, r1, r2, r3, r4⟩ := D2.out w7 hg7
       have HR3 := Lib.hid r3
       have HR4 := Lib.hid r4
       clear hw' hg7 q1 q2 D1 D2 r3 r4
       rcases q with _ | _
       · go_wp2
         go_roundw
         case rel => exact ⟨i + 1 + 1, k2 + 1, by omega, by omega, by have := HH.out; omega, by have := HH.out; omega, by go_num, by go_num, HR4⟩
         case measure => simp [intOf]; omega
       · go_wp2
         go_roundw
         case rel => exact ⟨i + 1, k2 + 1, by omega, by omega, by have := HH.out; omega, by have := HH.out; omega, by go_num, by go_num, HR3⟩
         case measure => simp [intOf]; omega
abbrev DS (w : World) (v : Value) : Nat → Prop := fun b => b < w.heap.size ∧ v.ownBlock ≠ some b
abbrev DRow (w : World) (B : Nat) (v : Value) (ps : List IS) : Prop := IRow w B (DS w v) v ps
section
variable {w A W : World} {B : Nat} {v v' : Value} {ps : List IS}
theorem DRow.nil (w : World) (B : Nat) : DRow w B (.slice none 0 0) [] := ⟨World.ownsRow_nil _ _ _ _, fun p h => absurd h (by simp)⟩
theorem DRow.bw (h : DRow A B v ps) (hg : Bw A W) : DRow W B v ps :=
 ⟨h.own.kept (bw_gr1 hg none) (by rcases hv : v.ownBlock with _ | k <;> simp), fun p hp => (h.kid p hp).keep (fun b hb => ⟨Nat.lt_of_lt_of_le hb.1 hg.size, hb.2⟩) (fun q hq => hg.b.cell hq.1)⟩
theorem DRow.push (h : DRow A B v ps) {x : List Int} {s : Value} (hs : IAt A (DS A v) s x) (hown : W.ownsRow B 22 1 v' (ps.length + 1) (ps.map (·.2) ++ [s])) (hg : A.grownBy W v.ownBlock) (hv : v'.ownBlock = v.ownBlock ∨ v'.ownBlock = some A.heap.size) :
   DRow W B v' (ps ++ [(x, s)]) := by
 have key : ∀ {s : Value} {x : List Int}, IAt A (DS A v) s x → IAt W (DS W v') s x := fun h => h.keep (fun b hb => ⟨Nat.lt_of_lt_of_le hb.1 hg.size, by
   rcases hv with e | e
   · rw [e]; exact hb.2
   · rw [e]; intro e2; injection e2 with e2; have := hb.1; omega⟩) (fun p hp => World.cell?_of_block (hg.block p.block hp.1 (fun e => hp.2 e.symm)))
 refine ⟨by simpa using hown, fun p hp => ?_⟩
 rcases List.mem_append.1 hp with hp | hp
 · exact key (h.kid p hp)
 · obtain rfl := List.mem_singleton.1 hp
   exact key hs
end
theorem drops_cons2 (r : Int → Int) (a b : Int) (l : List Int) : dropsB r (a :: b :: l) = (decide (r a ≤ r b) || dropsB r (b :: l)) := rfl
theorem drops_one (r : Int → Int) (a : Int) : dropsB r [a] = false := rfl
theorem drops_step {r : Int → Int} {x : List Int} {i : Nat} (h : i + 1 < x.length) : dropsB r (x.drop i) = (decide (r (x[i]'(by omega)) ≤ r x[i + 1]) || dropsB r (x.drop (i + 1))) := by
 rw [List.drop_eq_getElem_cons (by omega : i < x.length), List.drop_eq_getElem_cons h, drops_cons2]
theorem drops_end {r : Int → Int} {x : List Int} {i : Nat} (h : x.length ≤ i + 1) : dropsB r (x.drop i) = false := by
 by_cases h2 : i < x.length
 · rw [List.drop_eq_getElem_cons h2, List.drop_eq_nil_of_le h, drops_one]
 · rw [List.drop_eq_nil_of_le (by omega)]; rfl
theorem cutI_h (A : Option Addr) (n c m : Nat) (h2 : m ≤ c) (W : World) : (Instr.slice 22 (.slice A n c) none (some (.int .i64 (m : Int))) none).run Tryz.prog W = .ok (sliced A 0 m c 1) W := by
 rw [run_slice_h W 22 A n c (by kernel_rfl) .i64 (m : Int) (by omega) (by omega)]
 have : (sizeOf (Tryz.prog.elem 22)).run Tryz.prog W = .ok 1 W := by kernel_rfl
 rw [this]; simp [Result.andThen]
theorem reads_newv (W : World) (t : TypeId) (s : Value) : Reads (W.alloc (.cells #[s] t)) (W.heap.size + 1) 1 (some ⟨W.heap.size, 0, none⟩) 1 [s] := reads_blk (n := 1) (Blk.new W t #[s]) (by omega) rfl
theorem iiat_two {w : World} {a b : Value} {x y : List Int} {ty : TypeId} (ha : IB w w.heap.size a x) (hb : IB w w.heap.size b y) : IIAt (w.alloc (.cells #[a, b] ty)) (· < (w.alloc (.cells #[a, b] ty)).heap.size) (.slice (some ⟨w.heap.size, 0, none⟩) 2 2) [x, y] := by
 have hk := Blk.new w ty #[a, b]
 have key : ∀ {s : Value} {l : List Int}, IB w w.heap.size s l → IAt (w.alloc (.cells #[a, b] ty)) (· < (w.alloc (.cells #[a, b] ty)).heap.size) s l := fun h => h.keep (fun b hb => by simp; omega) (fun p hp => World.cell?_alloc_lt w _ p hp)
 refine ⟨_, 2, 2, [a, b], rfl, rfl, rfl, Nat.le_refl _, by unfold maxLen; omega, fun _ => ⟨_, rfl, by simp, fun k h => ?_⟩, fun k h h' => ?_⟩
 · match k, h with
   | 0, _ => exact hk.cell 0
   | 1, _ => exact hk.cell 1
 · match k, h, h' with
   | 0, _, _ => exact key ha
   | 1, _, _ => exact key hb
def DropPost (w : World) (b : Bool) (e : Ending) (w' : World) : Prop := ∃ A m c, e = .returned (.slice A m c) ∧ (m = 0 ↔ b = false) ∧ Bw w w'
theorem pDrops_any (r x : List Int) (s u : Value) (w : World) (h : IB w w.heap.size s r) (hx : IB w w.heap.size u x) (hv : wordP r x = true) : Calls Tryz.prog 89 #[s, u] w (DropPost w (dropsB (rankAt r) x)) := by
 obtain ⟨RA, rn, rc, rfl, lr, mr⟩ := h.form'
 obtain ⟨XA, xn, xc, rfl, lx, mx⟩ := hx.form'
 have PV : Hid (∀ W, Bw w W → Calls Tryz.prog 66 #[.slice RA rn rc, .slice XA xn xc] W (BoolPost W true)) := Lib.hid (fun W g => by rw [← hv]; exact pValid_any r x _ _ W (h.bw g) (hx.bw g))
 go_enter Tryz.func89, Tryz.ntmps89
 go_wp2_with (go_at_call 66; go_must ((with_reducible refine (PV.out _ (Bw.refl _)).mono ?_); rintro e w6 ⟨rfl, hg6⟩))
 have HG6 := Lib.hid hg6
 have HLO : Hid (LettersOk r x) := Lib.hid (by
   intro y hy
   unfold wordP at hv
   simp only [Bool.and_eq_true, Bool.not_eq_true', List.any_eq_false] at hv
   have := hv.2 y hy
   unfold badX at this
   simp only [Bool.or_eq_true, decide_eq_true_eq, not_or] at this
   omega)
 have H12 : xn ≤ 12 := by
   unfold wordP at hv
   simp only [Bool.and_eq_true, decide_eq_true_eq] at hv
   omega
 have HR := Lib.hid h
 have HX := Lib.hid hx
 have LX := Lib.hid lx
 have LR := Lib.hid lr
 clear hg6 h hx hv lx lr PV
 go_loopw [5, 6] (fun s5 s6 wr => ∃ i : Nat, i ≤ xn ∧ s6 = .int .i64 i ∧ Hid (∃ ps, DRow wr w.heap.size s5 ps ∧ ps.length ≤ i ∧ Bw w wr ∧ (ps.length = 0 → dropsB (rankAt r) x = dropsB (rankAt r) (x.drop i)) ∧ (0 < ps.length → dropsB (rankAt r) x = true))) (fun _ s6 _ => xn - (intOf s6).toNat)
 case atStart => exact ⟨0, by omega, rfl, Lib.hid ⟨[], DRow.nil _ _, by simp, HG6.out, fun _ => by simp, fun h => by simp at h⟩⟩
 case round =>
   obtain ⟨i, hi, rfl, HI⟩ := hrel
   obtain ⟨ps, hps, hpl, hg, hz, hnz⟩ := HI.out
   obtain ⟨OA, oc, rfl, ob1, ob2⟩ := own_bounds hps.own
   by_cases hlt : i + 1 < xn
   rotate_left
   · have d1 : decide ((i : Int) + 1 < (xn : Int)) = false := decide_eq_false (by omega)
     have HQ : Hid (ps.length = 0 ↔ dropsB (rankAt r) x = false) := Lib.hid (by
       constructor
       · intro h0
         rw [hz h0]
         exact drops_end (by rw [LX.out]; omega)
       · intro h0
         rcases Nat.eq_zero_or_pos ps.length with h1 | h1
         · exact h1
         · rw [hnz h1] at h0; cases h0)
     have SI := Lib.hid (sortI_any w.heap.size (DS wr (.slice OA ps.length oc)) ps _ wr hps (fun b hb => hb) (by omega))
     unfold SortIPost at SI
     have HG := Lib.hid hg
     have HOWN := Lib.hid hps.own
     clear hps hz hnz hg HI
     go_wp2_with (first
       | (go_at_call 116; go_must ((with_reducible refine SI.out.mono ?_); rintro e w7 ⟨rfl, qs, hq, hql, hg7⟩; (have HQ7 := Lib.hid hq); (have HL7 := Lib.hid hql); (have HG7 := Lib.hid hg7); (have CP := Lib.hid (compactI_any w.heap.size (DS wr (.slice OA ps.length oc)) qs _ w7 hq (fun b hb => ⟨Nat.lt_of_lt_of_le hb.1 hg7.size, hb.2⟩) (by omega))); unfold CompIPost at CP; clear hq hql hg7))
       | (go_at_call 118; go_must ((with_reducible refine CP.out.mono ?_); rintro e w8 ⟨A8, m8, c8, rfl, hm8, hg8⟩; (have HM8 := Lib.hid hm8); (have HG8 := Lib.hid hg8); clear hm8 hg8)))
     go_ret
     refine ⟨A8, m8, c8, rfl, ?_, Below.grown HG.out (grownBy_trans HG7.out HG8.out) HG.out.size (fun r e => (HOWN.out.lt r e).1)⟩
     rw [HM8.out, HL7.out]
     exact HQ.out
   have i0 : i < xn := by omega
   have wi : IntKind.i64.wrap ((i : Int) + 1) = (i : Int) + 1 := by simp [IntKind.wrap, IntKind.bits, IntKind.signed]; omega
   have ti : ((i : Int) + 1).toNat = i + 1 := by omega
   have t0 : 0 ≤ (i : Int) + 1 := by omega
   have t1 : (i : Int) + 1 < (xn : Int) := by omega
   have e0 : i < x.length := by rw [LX.out]; omega
   have e1 : i + 1 < x.length := by rw [LX.out]; omega
   obtain ⟨k0, hk0, y0, z0⟩ := rankAt_get (HLO.out _ (List.getElem_mem e0))
   obtain ⟨k1, hk1, y1, z1⟩ := rankAt_get (HLO.out _ (List.getElem_mem e1))
   have HXW := HX.out.bw hg
   have HRW := HR.out.bw hg
   obtain ⟨xd, rfl, hxb, q0⟩ := HXW.at_ e0
   obtain ⟨xd', ex', _, q1⟩ := HXW.at_ e1
   obtain rfl : xd = xd' := Option.some.inj ex'
   obtain ⟨rd, rfl, hrb, q2⟩ := HRW.at_ hk0
   obtain ⟨rd', er', _, q3⟩ := HRW.at_ hk1
   obtain rfl : rd = rd' := Option.some.inj er'
   rw [y0] at q0
   rw [y1] at q1
   have q1b : wr.cell? ⟨xd.block, xd.off + (i + 1), none⟩ = some (.int .i64 (k1 : Int)) := by simpa [Addr.add] using q1
   have HD : Hid (dropsB (rankAt r) (x.drop i) = (decide (r[k0] ≤ r[k1]) || dropsB (rankAt r) (x.drop (i + 1)))) := Lib.hid (by rw [drops_step e1, z0, z1])
   have r0 : k0 < rn := by rw [LR.out] at hk0; exact hk0
   have r1 : k1 < rn := by rw [LR.out] at hk1; exact hk1
   have HI2 := Lib.hid (And.intro hps (And.intro hz (And.intro hnz hg)))
   have HPL := Lib.hid hpl
   clear ex' er' hps hz hnz hg HI y0 y1 z0 z1 HXW HRW
   generalize r[k0] = a0 at *
   generalize r[k1] = a1 at *
   by_cases hle : a0 ≤ a1
   rotate_left
   · have d1 : decide (a0 ≤ a1) = false := decide_eq_false hle
     have HF : Hid (dropsB (rankAt r) (x.drop i) = dropsB (rankAt r) (x.drop (i + 1))) := Lib.hid (by rw [HD.out, d1]; rfl)
     clear HD hle
     go_wp2_with fail
     go_quiet (fail)
     go_wp2
     go_roundw
     case rel =>
       obtain ⟨h1, h2, h3, h4⟩ := HI2.out
       exact ⟨i + 1, by omega, by go_num, Lib.hid ⟨ps, h1.bw ((Bw.refl _).drewN _), by have := HPL.out; omega, h4.drewN _, fun h => by rw [h2 h, HF.out], h3⟩⟩
     case measure => simp [intOf]; omega
   · have d1 : decide (a0 ≤ a1) = true := decide_eq_true hle
     have HF : Hid (dropsB (rankAt r) (x.drop i) = true) := Lib.hid (by rw [HD.out, d1]; rfl)
     clear HD hle
     go_wp2_with fail
     go_quiet (fail)
     go_wp2_with fail
     have hg := HI2.out.2.2.2
     have hxw := HX.out.bw hg
     have bx : xn ≤ xc := by
       obtain ⟨_, _, _, e, _, h3, _⟩ := hxw.form
       injection e with _ e2 e3
       omega
     have p1 := hxw.part (k := 0) (m := i) (Nat.zero_le _) (by omega)
     have p2 := hxw.part (k := i + 1) (m := xn) (by omega) (Nat.le_refl _)
     have hc1 := fun W => cutI_h (some xd) xn xc i (by omega) W
     have hc2 := fun W => cutI_l (some xd) xn xc (i + 1) (by omega) W
     obtain ⟨P1, hP1⟩ := sliced_form (some xd) 0 i xc 1
     obtain ⟨P2, hP2⟩ := sliced_form (some xd) (i + 1) xn xc 1
     rw [Nat.sub_zero, Nat.sub_zero] at hP1
     rw [hP1] at p1 hc1
     rw [hP2] at p2 hc2
     rw [List.drop_zero] at p1
     rw [List.take_of_length_le (by rw [LX.out]; omega)] at p2
     push_cast at hc2
     have HYL : Hid ((x.take i ++ x.drop (i + 1)).length ≤ 1000000) := Lib.hid (by simp; have := LX.out; omega)
     have CC : Hid (∀ W b, Bw wr W → b = W.heap.size → Calls Tryz.prog 115 #[.slice (some ⟨b, 0, none⟩) 2 2] (W.alloc (.cells #[.slice P1 i xc, .slice P2 (xn - (i + 1)) (xc - (i + 1))] 22)) (IntsPost (W.alloc (.cells #[.slice P1 i xc, .slice P2 (xn - (i + 1)) (xc - (i + 1))] 22)) (x.take i ++ x.drop (i + 1)))) := Lib.hid (fun W b g hb => by
       subst hb
       have := concatI_any [x.take i, x.drop (i + 1)] (by simpa using HYL.out) _ _ (iiat_two (ty := 22) (p1.bw g) (p2.bw g))
       simpa using this)
     have HDR := Lib.hid HI2.out.1
     have HG := Lib.hid hg
     have HT : Hid (dropsB (rankAt r) x = true) := Lib.hid (by
       rcases Nat.eq_zero_or_pos ps.length with h | h
       · rw [HI2.out.2.1 h, HF.out]
       · exact HI2.out.2.2.1 h)
     have hpl := HPL.out
     have hsz : w.heap.size ≤ wr.heap.size := hg.size
     unfold IntsPost at CC
     generalize hy : x.take i ++ x.drop (i + 1) = y at *
     generalize xn - (i + 1) = m2 at *
     generalize xc - (i + 1) = q2 at *
     obtain ⟨i0, hi, hz0, hz1, hz2⟩ := info_parts infoIntsI
     clear hxw p1 p2 hP1 hP2 hg HYL hy HF HI2
     go_region_law (first
       | (go_simp; go_at_call 115; refine (CC.out _ _ (by exact (Bw.refl wr).drewN _) rfl).mono ?_; rintro e w6 ⟨s6, rfl, hk6, hg6⟩; obtain ⟨A6, n6, c6, rfl, -, -, -⟩ := hk6.form; have HK6 := Lib.hid hk6; have HG6 : Hid (Bw wr w6) := Lib.hid ((((Bw.refl wr).drewN _).alloc _).trans hg6); have hs6 : wr.heap.size ≤ w6.heap.size := HG6.out.size; clear hk6 hg6)
       | (refine step_append_any _ rfl (.tmp 34) (.tmp 44) 106 rfl w.heap.size 22 i0 _ 1 24 Tryz.underlying106 hi hz0 hz1 hz2 rfl (by decide) (.slice OA ps.length oc) ps.length (ps.map (·.2)) (by simp [Act.eval, Act.put]) (HDR.out.bw (HG6.out.alloc _)).own (w6.heap.size + 1) (some ⟨w6.heap.size, 0, none⟩) 1 1 [.slice A6 n6 c6] (by simp [Act.eval, Act.put]) (reads_newv w6 _ _) (by simp [Value.oneCell']) (by unfold maxLen; omega) (by omega) (by simp; omega) ?_; intro v7 w7 hown7 hgr7 hl7; obtain ⟨A7, c7, rfl, -, -⟩ := own_bounds hown7; have HO7 := Lib.hid hown7; have HG7 := Lib.hid hgr7; have HL7 := Lib.hid hl7; clear hown7 hgr7 hl7))
     all_goals
       go_wp2
       go_roundw
       case rel =>
         have hA := HDR.out.bw (HG6.out.alloc (.cells #[.slice A6 n6 c6] 22))
         refine ⟨i + 1, by omega, by go_num, Lib.hid ⟨ps ++ [(y, .slice A6 n6 c6)], hA.push (HK6.out.keep (fun b hb => ⟨?_, fun e => ?_⟩) (fun p hp => World.cell?_alloc_lt w6 _ p hp.2)) HO7.out HG7.out HL7.out, by simp; omega, Below.grown (HG.out.trans (HG6.out.alloc _)) HG7.out (HG.out.trans (HG6.out.alloc _)).size (fun r e => (hA.own.lt r e).1), fun h => by simp at h, fun _ => HT.out⟩⟩
         · have := hb.2; simp; omega
         · have h1 := (HDR.out.own.lt b e).2
           have h2 := hb.1
           simp at h2
           omega
       case measure => simp [intOf]; omega
end Go.Proofs.YtlmnkcfnihhlgaaGreatDoor
