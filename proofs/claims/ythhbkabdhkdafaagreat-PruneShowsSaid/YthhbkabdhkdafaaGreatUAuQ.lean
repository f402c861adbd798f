/- Part of a proof of pruneShows_holds. -/
import Derived.Test.YthhbkabdhkdafaaGreatUAtQ
set_option linter.unusedSimpArgs false
set_option linter.unusedVariables false
set_option maxRecDepth 100000
set_option maxHeartbeats 16000000
namespace Go.Proofs.YthhbkabdhkdafaaGreat
section
open Go.RowKit
def DrewTrue (w : World) (e : Ending) (w' : World) : Prop := e = .returned (.bool true) ∧ ∃ q, w' = w.drewN q
theorem equalI_same (cs : List Int) (s1 s2 : Value) (w : World) (B : Nat) (h1 : IB w B s1 cs) (h2 : IB w B s2 cs) (h9 : cs.length ≤ 1000000) : Calls Tryz.prog 234 #[s1, s2] w (DrewTrue w) := by
 obtain ⟨A1, n, c1, rfl, l1, b1, m1⟩ := h1.form
 obtain ⟨A2, n2, c2, rfl, l2, b2, m2⟩ := h2.form
 obtain rfl : n = n2 := by omega
 rw [l1] at h9
 have c0 : ((n : Int) != n) = false := by simp
 have H1 := Lib.hid h1
 have H2 := Lib.hid h2
 have L1 := Lib.hid l1
 clear h1 h2 l1 l2
 unfold DrewTrue
 go_enter Tryz.func234, Tryz.ntmps234
 go_wp2
 go_loopw [13] (fun i wr => ∃ (k q : Nat), k ≤ n ∧ i = .int .i64 k ∧ Hid (wr = w.drewN q)) (fun i _ => n - (intOf i).toNat)
 case atStart => exact ⟨0, 0, by omega, rfl, Lib.hid rfl⟩
 case round =>
   obtain ⟨k, q, hk, rfl, HR⟩ := hrel
   have hw := HR.out
   subst hw
   by_cases hlt : k < n
   · have e1 : k < cs.length := by rw [L1.out]; exact hlt
     obtain ⟨ad, rfl, hb, q0⟩ := H1.out.at_ e1
     obtain ⟨ad', rfl, hb', q1⟩ := H2.out.at_ e1
     clear HR
     generalize cs[k] = x at *
     have d1 : (x != x) = false := by simp
     go_wp2_with fail
     go_quiet (fail)
     go_wp2
     go_roundw
     case rel => exact ⟨k + 1, _, by omega, by go_num, Lib.hid rfl⟩
     case measure => simp [intOf]; omega
   · obtain rfl : k = n := by omega
     go_wp2
     go_ret
     exact ⟨rfl, _, rfl⟩
theorem equalT_nil (w : World) : Calls Tryz.prog 235 #[.slice none 0 0, .slice none 0 0] w (DrewTrue w) := by
 unfold DrewTrue
 go_enter Tryz.func235, Tryz.ntmps235
 go_wp2
 go_loopw [13] (fun i wr => i = .int .i64 0 ∧ wr = w) (fun i _ => 0)
 case atStart => exact ⟨rfl, rfl⟩
 case round =>
   obtain ⟨rfl, rfl⟩ := hrel
   go_wp2
   go_ret
   exact ⟨rfl, 0, rfl⟩
theorem rlbox {w : World} {nm : ByteArray} {fr tz : Int} {nd gv : Value} : ∀ W, Bw (w.alloc (.cells #[.string nm, .int .i64 fr, .int .i64 tz, nd, gv, .slice none 0 0, .int .i64 0, .int .i64 0, .int .i64 0, .slice none 0 0, .slice none 0 0, .slice none 0 0, .slice none 0 0, .int .i64 0] 75)) W → w.heap.size < W.heap.size ∧ Bw w W ∧
   W.cell? ⟨w.heap.size, 0, none⟩ = some (.string nm) ∧ W.cell? ⟨w.heap.size, 1, none⟩ = some (.int .i64 fr) ∧ W.cell? ⟨w.heap.size, 2, none⟩ = some (.int .i64 tz) ∧ W.cell? ⟨w.heap.size, 3, none⟩ = some nd ∧ W.cell? ⟨w.heap.size, 4, none⟩ = some gv ∧ W.cell? ⟨w.heap.size, 5, none⟩ = some (.slice none 0 0) ∧
   W.cell? ⟨w.heap.size, 6, none⟩ = some (.int .i64 0) ∧ W.cell? ⟨w.heap.size, 7, none⟩ = some (.int .i64 0) ∧ W.cell? ⟨w.heap.size, 8, none⟩ = some (.int .i64 0) ∧ W.cell? ⟨w.heap.size, 9, none⟩ = some (.slice none 0 0) ∧ W.cell? ⟨w.heap.size, 10, none⟩ = some (.slice none 0 0) ∧
   W.cell? ⟨w.heap.size, 11, none⟩ = some (.slice none 0 0) ∧ W.cell? ⟨w.heap.size, 12, none⟩ = some (.slice none 0 0) ∧ W.cell? ⟨w.heap.size, 13, none⟩ = some (.int .i64 0) := by
 intro W g
 have b := (Blk.new w 75 #[.string nm, .int .i64 fr, .int .i64 tz, nd, gv, .slice none 0 0, .int .i64 0, .int .i64 0, .int .i64 0, .slice none 0 0, .slice none 0 0, .slice none 0 0, .slice none 0 0, .int .i64 0]).below g.b (by simp)
 exact ⟨b.lt, ((Bw.refl w).alloc _).trans g, b.cell 0, b.cell 1, b.cell 2, b.cell 3, b.cell 4, b.cell 5, b.cell 6, b.cell 7, b.cell 8, b.cell 9, b.cell 10, b.cell 11, b.cell 12, b.cell 13⟩
theorem same_self (r : Rul) (nd gv : Value) (w : World) (h1 : IB w w.heap.size nd r.need) (h2 : IB w w.heap.size gv r.give) (h9 : r.need.length ≤ 1000) (h8 : r.give.length ≤ 1000) : Calls Tryz.prog 166 #[aggR r nd gv, aggR r nd gv] w (BoolPost w true) := by
 obtain ⟨A1, n1, c1, rfl, _, _, _⟩ := h1.form
 obtain ⟨A2, n2, c2, rfl, _, _, _⟩ := h2.form
 have E1 : Hid (∀ W, Bw w W → Calls Tryz.prog 234 #[.slice A1 n1 c1, .slice A1 n1 c1] W (DrewTrue W)) := Lib.hid (fun W g => equalI_same _ _ _ W _ (h1.bw g) (h1.bw g) (by omega))
 have E2 : Hid (∀ W, Bw w W → Calls Tryz.prog 234 #[.slice A2 n2 c2, .slice A2 n2 c2] W (DrewTrue W)) := Lib.hid (fun W g => equalI_same _ _ _ W _ (h2.bw g) (h2.bw g) (by omega))
 have E0 : Hid (∀ W, Calls Tryz.prog 234 #[.slice none 0 0, .slice none 0 0] W (DrewTrue W)) := Lib.hid (fun W => equalI_same [] _ _ W W.heap.size (IAt.nil _ _ (Nat.zero_le _)) (IAt.nil _ _ (Nat.zero_le _)) (by simp))
 have E3 : Hid (∀ W, Calls Tryz.prog 235 #[.slice none 0 0, .slice none 0 0] W (DrewTrue W)) := Lib.hid (fun W => equalT_nil W)
 unfold DrewTrue at E0 E1 E2 E3
 clear h1 h2
 unfold aggR
 generalize r.nm = nm at *
 generalize r.fr = fr at *
 generalize r.tz = tz at *
 have s0 : (nm.toList == nm.toList) = true := by simp
 have s1 : (fr == fr) = true := by simp
 have s2 : (tz == tz) = true := by simp
 clear h9 h8
 have HB : Hid (∀ o1 o2, Bw w ((w.alloc o1).alloc o2)) := Lib.hid (fun o1 o2 => ((Bw.refl _).alloc _).alloc _)
 go_enter Tryz.func166, Tryz.ntmps166
 go_wp2_with (first
   | (go_at_call 234; (with_reducible refine (E1.out _ (by repeat (first | exact HB.out _ _ | refine Bw.drewN ?_ _))).mono ?_); rintro e w' ⟨rfl, q, rfl⟩)
   | (go_at_call 234; (with_reducible refine (E2.out _ (by repeat (first | exact HB.out _ _ | refine Bw.drewN ?_ _))).mono ?_); rintro e w' ⟨rfl, q, rfl⟩)
   | (go_at_call 234; go_must (refine (E0.out _).mono ?_; rintro e w' ⟨rfl, q, rfl⟩))
   | (go_at_call 235; go_must (refine (E3.out _).mono ?_; rintro e w' ⟨rfl, q, rfl⟩)))
 go_ret
 exact ⟨rfl, by repeat (first | exact HB.out _ _ | refine Bw.drewN ?_ _)⟩
theorem changes1_in (x : Int) (w : World) (h0 : 0 ≤ x) (h1 : x ≤ 16) : Calls Tryz.prog 226 #[.int .i64 x] w fun e w' => e = .returned (.bool true) ∧ w = w' := by
 go_enter Tryz.func226, Tryz.ntmps226
 go_wp2_with (go_at_call 93; go_must (refine (between_in _ _ _ _ (by omega) (by omega)).mono ?_; rintro e w' ⟨rfl, rfl⟩))
 go_ret
 exact ⟨rfl, rfl⟩
theorem all1_in (x : Int) (b : Nat) (w : World) (h0 : 0 ≤ x) (h1 : x ≤ 16) (hc : w.cell? ⟨b, 0, none⟩ = some (.func (.func 226) #[] #[])) : Calls Tryz.prog 233 (#[.int .i64 x] ++ #[.pointer (some ⟨b, 0, none⟩)]) w (BoolPost w false) := by
 have eg : ∀ args w, (callFunc 226 args).run Tryz.prog w = .ok (.enter 226 args) w := enters_of Tryz.func226 (by kernel_rfl) rfl
 have CM := Lib.hid (changes1_in x w h0 h1)
 clear h0 h1
 go_enter Tryz.func233, Tryz.ntmps233
 go_wp2_with (go_at_fn 226; go_must (refine CM.out.mono ?_; rintro e w' ⟨rfl, rfl⟩))
 go_ret
 exact ⟨rfl, Bw.refl _⟩
theorem all_in (cs : List Int) (s : Value) (w : World) (h : IB w w.heap.size s cs) (hb : ∀ x ∈ cs, 0 ≤ x ∧ x ≤ 16) : Calls Tryz.prog 164 #[s, .func (.func 226) #[] #[]] w (BoolPost w true) := by
 obtain ⟨A, n, c, rfl, _, _, _⟩ := h.form
 have CF : Hid (Calls Tryz.prog 149 #[.slice A n c, .func (.func 233) #[] #[.pointer (some ⟨w.heap.size, 0, none⟩)]] (w.alloc (.cells #[.func (.func 226) #[] #[]] 176)) (BoolPost (w.alloc (.cells #[.func (.func 226) #[] #[]] 176)) false)) := Lib.hid (by
   have hbx := Blk.new w 176 #[.func (.func 226) #[] #[]]
   have := contInt_any cs (fun _ => false) 233 #[.pointer (some ⟨w.heap.size, 0, none⟩)] (enters_of Tryz.func233 (by kernel_rfl) rfl) _ _ (h.bw ((Bw.refl _).alloc _)) (fun v hv u W hg _ => all1_in v _ W (hb v hv).1 (hb v hv).2 ((hbx.below hg.b hbx.lt).cell 0))
   have e : cs.any (fun _ => false) = false := by simp
   rwa [e] at this)
 clear h hb
 go_enter Tryz.func164, Tryz.ntmps164
 go_wp2_with (go_at_call 149; go_must (refine CF.out.mono ?_; rintro e w6 ⟨rfl, hg6⟩; (have HG6 := Lib.hid hg6); clear hg6))
 go_ret
 exact ⟨rfl, ((Bw.refl _).alloc _).trans HG6.out⟩
theorem mrbox {w : World} {sv pv rv kv : Value} {nm : ByteArray} {fr tz : Int} {nd gv : Value} : Bw w ((w.alloc (.cells #[.int .i64 1, sv, pv, .slice none 0 0, .slice none 0 0, .int .i64 0, .int .i64 0, rv, .int .i64 0, kv] 33)).alloc (.cells #[.string nm, .int .i64 fr, .int .i64 tz, nd, gv, .slice none 0 0, .int .i64 0, .int .i64 0, .int .i64 0, .slice none 0 0, .slice none 0 0, .slice none 0 0, .slice none 0 0, .int .i64 0] 75)) ∧
   ∀ W, Bw ((w.alloc (.cells #[.int .i64 1, sv, pv, .slice none 0 0, .slice none 0 0, .int .i64 0, .int .i64 0, rv, .int .i64 0, kv] 33)).alloc (.cells #[.string nm, .int .i64 fr, .int .i64 tz, nd, gv, .slice none 0 0, .int .i64 0, .int .i64 0, .int .i64 0, .slice none 0 0, .slice none 0 0, .slice none 0 0, .slice none 0 0, .int .i64 0] 75)) W → w.heap.size + 1 < W.heap.size ∧ Bw w W ∧
   (W.cell? ⟨w.heap.size, 0, none⟩ = some (.int .i64 1) ∧ W.cell? ⟨w.heap.size, 1, none⟩ = some sv ∧ W.cell? ⟨w.heap.size, 2, none⟩ = some pv ∧ W.cell? ⟨w.heap.size, 3, none⟩ = some (.slice none 0 0) ∧ W.cell? ⟨w.heap.size, 4, none⟩ = some (.slice none 0 0) ∧
   W.cell? ⟨w.heap.size, 5, none⟩ = some (.int .i64 0) ∧ W.cell? ⟨w.heap.size, 6, none⟩ = some (.int .i64 0) ∧ W.cell? ⟨w.heap.size, 7, none⟩ = some rv ∧ W.cell? ⟨w.heap.size, 8, none⟩ = some (.int .i64 0) ∧ W.cell? ⟨w.heap.size, 9, none⟩ = some kv) ∧
   (W.cell? ⟨w.heap.size + 1, 0, none⟩ = some (.string nm) ∧ W.cell? ⟨w.heap.size + 1, 1, none⟩ = some (.int .i64 fr) ∧ W.cell? ⟨w.heap.size + 1, 2, none⟩ = some (.int .i64 tz) ∧ W.cell? ⟨w.heap.size + 1, 3, none⟩ = some nd ∧ W.cell? ⟨w.heap.size + 1, 4, none⟩ = some gv ∧ W.cell? ⟨w.heap.size + 1, 5, none⟩ = some (.slice none 0 0) ∧
   W.cell? ⟨w.heap.size + 1, 6, none⟩ = some (.int .i64 0) ∧ W.cell? ⟨w.heap.size + 1, 7, none⟩ = some (.int .i64 0) ∧ W.cell? ⟨w.heap.size + 1, 8, none⟩ = some (.int .i64 0) ∧ W.cell? ⟨w.heap.size + 1, 9, none⟩ = some (.slice none 0 0) ∧ W.cell? ⟨w.heap.size + 1, 10, none⟩ = some (.slice none 0 0) ∧
   W.cell? ⟨w.heap.size + 1, 11, none⟩ = some (.slice none 0 0) ∧ W.cell? ⟨w.heap.size + 1, 12, none⟩ = some (.slice none 0 0) ∧ W.cell? ⟨w.heap.size + 1, 13, none⟩ = some (.int .i64 0)) := by
 refine ⟨((Bw.refl _).alloc _).alloc _, fun W g => ?_⟩
 obtain ⟨a0, a1, a2⟩ := mdbox (sv := sv) (pv := pv) (rv := rv) (kv := kv) W (((Bw.refl _).alloc _).trans g)
 have h2 := rlbox (w := w.alloc (.cells #[.int .i64 1, sv, pv, .slice none 0 0, .slice none 0 0, .int .i64 0, .int .i64 0, rv, .int .i64 0, kv] 33)) W g
 rw [World.size_alloc] at h2
 exact ⟨h2.1, a1, a2, h2.2.2⟩
theorem changes_any (m : Mdl) (r : Rul) (hr : RulOk m.ss.length m.ps.length r) (hk : m.ps.length ≤ 6) (sv pv rv kv nd gv : Value) (w : World) (h : MB w w.heap.size sv pv rv kv m) (h1 : IB w w.heap.size nd r.need) (h2 : IB w w.heap.size gv r.give) :
   Calls Tryz.prog 159 #[aggM sv pv rv kv, aggR r nd gv] w (BoolPost w true) := by
 obtain ⟨A1, c1, A2, c2, A3, c3, A4, c4, rfl, rfl, rfl, rfl⟩ := h.form
 obtain ⟨B1, n1, d1, rfl, l1, _, _⟩ := h1.form
 obtain ⟨B2, n2, d2, rfl, l2, _, _⟩ := h2.form
 obtain rfl : m.ps.length = n1 := by rw [← l1]; exact hr.nl.symm
 obtain rfl : m.ps.length = n2 := by rw [← l2]; exact hr.gl.symm
 have hin : ∀ {l : List Int}, l.length = m.ps.length → (∀ j, j < m.ps.length → 0 ≤ l.getD j 0 ∧ l.getD j 0 ≤ 16) → ∀ x ∈ l, 0 ≤ x ∧ x ≤ 16 := fun {l} hl hj x hx => by
   obtain ⟨j, hj2, rfl⟩ := List.getElem_of_mem hx
   have := hj j (by omega)
   simpa [List.getD, hj2] using this
 have C1 : Hid (∀ W, Bw w W → Calls Tryz.prog 164 #[.slice B1 m.ps.length d1, .func (.func 226) #[] #[]] W (BoolPost W true)) := Lib.hid (fun W g => all_in _ _ W (h1.bw g) (hin l1 hr.n0))
 have C2 : Hid (∀ W, Bw w W → Calls Tryz.prog 164 #[.slice B2 m.ps.length d2, .func (.func 226) #[] #[]] W (BoolPost W true)) := Lib.hid (fun W g => all_in _ _ W (h2.bw g) (hin l2 hr.g0))
 clear h h1 h2 hin l1 l2 hr
 unfold aggR aggM
 generalize r.nm = nm at *
 generalize r.fr = fr at *
 generalize r.tz = tz at *
 generalize m.ss.length = n at *
 generalize m.ps.length = k at *
 generalize m.rs.length = q at *
 generalize 1 + m.cs.length = z at *
 have TX := Lib.hid (mrbox (w := w) (sv := .slice A1 n c1) (pv := .slice A2 k c2) (rv := .slice A3 q c3) (kv := .slice A4 z c4) (nm := nm) (fr := fr) (tz := tz) (nd := .slice B1 k d1) (gv := .slice B2 k d2))
 have s0 : ((k : Int) == (k : Int)) = true := by simp
 go_enter Tryz.func159, Tryz.ntmps159
 go_wp2_with (first
   | (go_at_call 164; (with_reducible refine (C1.out _ TX.out.1).mono ?_); rintro e w6 ⟨rfl, hg6⟩; (obtain ⟨y0, -, ⟨y1, y2, y3, y4, y5, y6, y7, y8, y9, y10⟩, ⟨x0, x1, x2, x3, x4, x5, x6, x7, x8, x9, x10, x11, x12, x13⟩⟩ := TX.out.2 _ hg6); (have HG6 := Lib.hid hg6); clear hg6)
   | (go_at_call 164; go_must (refine (C2.out _ (TX.out.1.trans HG6.out)).mono ?_; rintro e w7 ⟨rfl, hg7⟩; (have HG7 := Lib.hid (HG6.out.trans hg7)); clear hg7)))
 go_ret
 exact ⟨rfl, TX.out.1.trans HG7.out⟩
theorem moves_any (k : Nat) (A : Option Addr) (c : Nat) (sv rv kv : Value) (r : Rul) (nd gv : Value) (w : World) :
   Calls Tryz.prog 160 #[aggM sv (.slice A k c) rv kv, aggR r nd gv] w (BoolPost w true) := by
 unfold aggR aggM
 generalize r.nm = nm at *
 generalize r.fr = fr at *
 generalize r.tz = tz at *
 go_enter Tryz.func160, Tryz.ntmps160
 go_wp2
 go_ret
 exact ⟨rfl, (((Bw.refl _).alloc _).alloc _).alloc _⟩
end
end Go.Proofs.YthhbkabdhkdafaaGreat
