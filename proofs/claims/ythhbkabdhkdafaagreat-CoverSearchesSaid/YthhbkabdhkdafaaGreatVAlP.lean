/- Part of a proof of coverSearches_holds. -/
import Derived.Test.YthhbkabdhkdafaaGreatVAkP
import Derived.Lay
import Derived.LaidSub
import Derived.LaidLaws
import Derived.Shelf.Vars
import Derived.HandedShaped
import Derived.MakeChecks
import Derived.Stop.Joined
import Derived.ProofKit
import Derived.Below
import Derived.ChangeSame
set_option linter.unusedSimpArgs false
set_option linter.unusedVariables false
set_option maxRecDepth 100000
set_option maxHeartbeats 16000000
namespace Go.Proofs.YthhbkabdhkdafaaGreat
section
open Go.RowKit
section
variable {w A W : World} {B : Nat} {v v' : Value} {ps qs : List VS}
end
theorem pcells_one {w : World} {S : Nat → Prop} {ps : List VS} (h : ∀ p ∈ ps, KAt w S p.2 p.1.ks) : ∀ u ∈ pCells ps, u.oneCell' = true := by
 intro u hu
 obtain ⟨p, hp, hu⟩ := List.mem_flatMap.1 hu
 obtain ⟨A, n, c, e, _⟩ := (h p hp).form
 rw [e] at hu
 simp only [List.mem_cons, List.not_mem_nil, or_false] at hu
 rcases hu with rfl | rfl <;> rfl
theorem KAt.rows {w : World} {B : Nat} {A : Option Addr} {n c : Nat} {l : List V} (h : KAt w (· < B) (.slice A n c) l) :
   ∃ ps : List VS, ps.length = n ∧ ps.map (·.1) = l ∧ Reads w B 2 A n (pCells ps) ∧ ∀ p ∈ ps, KAt w (· < B) p.2 p.1.ks := by
 cases h with
 | mk _ _ _ _ ss hl hs hc hm ha hk =>
   refine ⟨l.zip ss, by simp; omega, by rw [List.map_fst_zip (by omega)], ⟨by rw [pCells_length, List.length_zip]; omega, fun hn => ?_⟩, ?_⟩
   · obtain ⟨ad, rfl, hS, h2⟩ := ha hn
     refine ⟨ad, rfl, hS, fun j u hu => ?_⟩
     have hj : j < n * 2 := by
       have : j < (pCells (l.zip ss)).length := by
         rcases Nat.lt_or_ge j (pCells (l.zip ss)).length with h | h
         · exact h
         · rw [List.getElem?_eq_none h] at hu; cases hu
       rw [pCells_length, List.length_zip] at this; omega
     have hk2 : j / 2 < (l.zip ss).length := by rw [List.length_zip]; omega
     have h3 := h2 (j / 2) (by omega) (by omega)
     have h4 := pCells_get hk2
     have e := Nat.div_add_mod j 2
     rcases Nat.mod_two_eq_zero_or_one j with h0 | h0
     · have e1 : j / 2 * 2 = j := by omega
       rw [e1] at h3 h4
       rw [h3.1, ← hu, h4.1]; simp
     · have e1 : j = j / 2 * 2 + 1 := by omega
       rw [e1] at hu ⊢
       rw [h4.2] at hu
       have := add_off ad (j / 2 * 2) 0
       rw [Nat.zero_add] at this
       rw [this, ← hu, h3.2]; simp
   · intro p hp
     obtain ⟨k, hk1, rfl⟩ := List.getElem_of_mem hp
     rw [List.length_zip] at hk1
     have := hk k (by omega) (by omega)
     simpa using this
theorem own_kindP {w : World} {B e size n : Nat} {v : Value} {xs : List Value} (hown : w.ownsRow B e size v n xs) : ∀ g, v.ownBlock = some g → ∃ c fz, w.heap[g]? = some (.cells c e fz) := by
 intro g hg
 rcases hown.2 with ⟨rfl, _⟩ | ⟨g', cap, cur, rfl, _, hh, _⟩
 · cases hg
 · have : g' = g := by simpa [Value.ownBlock] using hg
   subst this; exact ⟨_, _, hh⟩
theorem own_own_ne {w : World} {B e size n B' e' size' n' : Nat} {v v' : Value} {xs xs' : List Value} (h : w.ownsRow B e size v n xs) (h' : w.ownsRow B' e' size' v' n' xs') (hne : e ≠ e') : ∀ g, v.ownBlock = some g → v'.ownBlock ≠ some g := by
 intro g hg hg'
 obtain ⟨c, fz, h1⟩ := own_kindP h g hg
 obtain ⟨c', fz', h2⟩ := own_kindP h' g hg'
 rw [h1] at h2
 injection h2 with h2
 injection h2 with _ h2
 exact hne h2
theorem own_kept_grow {w w' : World} {B e size n B' e' size' n' : Nat} {v v' : Value} {xs xs' : List Value} (h : w.ownsRow B e size v n xs) (h' : w.ownsRow B' e' size' v' n' xs') (hne : e ≠ e') (hg : w.grownBy w' v'.ownBlock) : w'.ownsRow B e size v n xs := by
 refine h.kept hg ?_
 rcases ho : v.ownBlock with _ | k
 · exact .inl rfl
 · exact .inr (fun e => own_own_ne h h' hne k ho e.symm)
end
section
variable {m : Mdl}
end
section
variable {m : Mdl}
theorem cfgV_size (s : Int) (cs : List Int) : (cfgV s cs).size = 2 + cs.length := by
 have : ∀ l : List Int, sizeL (l.map fun c => V.mk c []) = l.length := by
   intro l
   induction l with
   | nil => rfl
   | cons x r ih => simp [sizeL, V.size, ih]; omega
 simp [cfgV, V.size, sizeL, this]; omega
theorem cfg_parts {v : V} (h : oneP 8 m.t v = true) : ∃ s cs, v = cfgV s cs ∧ 0 ≤ s ∧ s < m.ss.length ∧ cs.length = m.ps.length ∧ ∀ c ∈ cs, 0 ≤ c ∧ c ≤ 1048576 := one_flat.1 h
theorem validM (h : MdlOk m) {v : V} (hv : oneP 8 m.t v = true) : validP m.t v = true := by
 unfold validP
 obtain ⟨s, cs, rfl, _, _, hl, _⟩ := cfg_parts hv
 have := h.k1.2
 rw [h.right, hv, decide_eq_true (by rw [cfgV_size]; omega)]
 rfl
theorem one_size (h : MdlOk m) {v : V} (hv : oneP 8 m.t v = true) : v.size ≤ 8 := by
 obtain ⟨s, cs, rfl, _, _, hl, _⟩ := cfg_parts hv
 have := h.k1.2
 rw [cfgV_size]; omega
theorem check_min (h : MdlOk m) {l : List V} (hl : ∀ v ∈ l, oneP 8 m.t v = true) (hn : (minimalP (belowP 8 m.t) l).length ≤ 256) : checkB m.t (minimalP (belowP 8 m.t) l) = 0 := by
 obtain ⟨h1, h2, _⟩ := minP_spec h.ord hl
 exact checkB_zero.2 ⟨h.right, hn, fun v hv => validM h (hl v (h2 v hv)), minP_asc h.ord hl, h1⟩
structure SkOk (m : Mdl) (s : Sk) : Prop where
 ba : checkB m.t s.ba = 0
 og : ∀ o ∈ s.og, oneP 8 m.t o.v = true ∧ o.nx.size ≤ 8 ∧ (o.r = -2 ∨ (0 ≤ o.r ∧ o.r.toNat < m.rs.length ∧ oneP 8 m.t o.nx = true))
 fr : ∀ v ∈ s.fr, oneP 8 m.t v = true
 cnt : s.us + s.fr.length = s.og.length
 us : 0 ≤ s.us
 ol : s.og.length ≤ 512
theorem SkOk.one {s : Sk} (h : SkOk m s) : ∀ v ∈ s.ba, oneP 8 m.t v = true := fun v hv => validP_one ((checkB_zero.1 h.ba).2.2.1 v hv)
theorem SkOk.blen {s : Sk} (h : SkOk m s) : s.ba.length ≤ 256 := (checkB_zero.1 h.ba).2.1
theorem SkOk.flen {s : Sk} (h : SkOk m s) : s.fr.length ≤ 512 := by have := h.cnt; have := h.us; have := h.ol; omega
theorem limB_len {l : List V} (h : (limB l).2 = 0) : l.length ≤ 256 ∧ limB l = (l, 0) := by
 unfold limB at h ⊢
 split at h
 · cases h
 · rename_i h1; exact ⟨by omega, by rw [if_neg h1]⟩
theorem start_ok (h : MdlOk m) {l : List V} (hl : ∀ v ∈ l, oneP 8 m.t v = true) (he : (startS m.t l).2 = 0) : SkOk m (startS m.t l).1 := by
 unfold startS at he ⊢
 simp only at he ⊢
 by_cases h1 : (limB (minimalP (belowP 8 m.t) l)).2 = 0
 · obtain ⟨h2, h3⟩ := limB_len h1
   rw [if_neg (by rw [h1]; decide), h3]
   obtain ⟨_, h4, _⟩ := minP_spec h.ord hl
   have h5 : ∀ v ∈ minimalP (belowP 8 m.t) l, oneP 8 m.t v = true := fun v hv => hl v (h4 v hv)
   refine ⟨check_min h hl h2, fun o ho => ?_, h5, by simp, by simp, by simp; omega⟩
   obtain ⟨v, hv, rfl⟩ := List.mem_map.1 ho
   exact ⟨h5 v hv, by simp [V.size, sizeL], .inl rfl⟩
 · rw [if_pos h1] at he; exact absurd he h1
theorem add_ok (h : MdlOk m) {s : Sk} (hs : SkOk m s) {v x : V} (hv : oneP 8 m.t v = true) (hx : oneP 8 m.t x = true) {k : Nat} (hk : k < m.rs.length) (he : (addS m.t s v (k : Int) x).2 = 0) : SkOk m (addS m.t s v (k : Int) x).1 := by
 unfold addS at he ⊢
 by_cases hh : hasP m.t s.ba v = true
 · rw [if_pos hh]; exact hs
 · rw [if_neg hh] at he ⊢
   simp only at he ⊢
   by_cases h1 : (limB (minimalP (belowP 8 m.t) (s.ba ++ [v]))).2 = 0
   · obtain ⟨h2, h3⟩ := limB_len h1
     rw [if_neg (by rw [h1]; decide)] at he ⊢
     by_cases h4 : 512 ≤ s.og.length
     · rw [if_pos h4] at he; cases he
     · rw [if_neg h4, h3]
       have hl : ∀ u ∈ s.ba ++ [v], oneP 8 m.t u = true := fun u hu => by
         rcases List.mem_append.1 hu with hu | hu
         · exact hs.one u hu
         · obtain rfl := List.mem_singleton.1 hu; exact hv
       refine ⟨check_min h hl h2, fun o ho => ?_, fun u hu => ?_, by have := hs.cnt; simp; omega, hs.us, by simp; omega⟩
       · rcases List.mem_append.1 ho with ho | ho
         · exact hs.og o ho
         · obtain rfl := List.mem_singleton.1 ho
           exact ⟨hv, one_size h hx, .inr ⟨(by show (0 : Int) ≤ (k : Int); omega), (by show ((k : Int)).toNat < _; simpa using hk), hx⟩⟩
       · rcases List.mem_append.1 hu with hu | hu
         · exact hs.fr u hu
         · obtain rfl := List.mem_singleton.1 hu; exact hv
   · rw [if_pos h1] at he; exact absurd he h1
theorem addAll_ok (h : MdlOk m) {x : V} (hx : oneP 8 m.t x = true) {k : Nat} (hk : k < m.rs.length) : ∀ (l : List V) {s : Sk}, SkOk m s → (∀ v ∈ l, oneP 8 m.t v = true) → (addAll m.t s (k : Int) x l).2 = 0 → SkOk m (addAll m.t s (k : Int) x l).1 := by
 intro l
 induction l with
 | nil => intro s hs _ _; exact hs
 | cons v l ih =>
   intro s hs hl he
   rw [addAll] at he ⊢
   (try simp only at he ⊢)
   by_cases h1 : (addS m.t s v (k : Int) x).2 = 0
   · rw [if_neg (by rw [h1]; decide)] at he ⊢
     exact ih (add_ok h hs (hl v (by simp)) hx hk h1) (fun u hu => hl u (by simp [hu])) he
   · rw [if_pos h1] at he; exact absurd he h1
theorem lookR_ok (h : MdlOk m) {x : V} (hx : oneP 8 m.t x = true) : ∀ (rs : List Rul) (k : Nat) {s : Sk}, m.rs.drop k = rs → SkOk m s → (lookR m.t x k rs s).2 = 0 → SkOk m (lookR m.t x k rs s).1 := by
 intro rs
 induction rs with
 | nil => intro k s _ hs _; exact hs
 | cons r rs ih =>
   intro k s hd hs he
   have hk : k < m.rs.length := by
     rcases Nat.lt_or_ge k m.rs.length with h1 | h1
     · exact h1
     · rw [List.drop_eq_nil_of_le h1] at hd; cases hd
   have e := List.drop_eq_getElem_cons hk
   rw [hd] at e
   injection e with e1 e2
   rw [lookR] at he ⊢
   (try simp only at he ⊢)
   by_cases h1 : (addAll m.t s (k : Int) x (predR r x)).2 = 0
   · rw [if_neg (by rw [h1]; decide)] at he ⊢
     exact ih (k + 1) e2.symm (addAll_ok h hx hk _ hs (fun v hv => pred_ok h (by rw [e1]; exact List.getElem_mem hk) hx hv) h1) he
   · rw [if_pos h1] at he; exact absurd he h1
theorem front_ok {s : Sk} {x : V} {fr : List V} (hs : SkOk m s) (hf : s.fr = x :: fr) : SkOk m ⟨s.ba, s.og, fr, s.us + 1⟩ :=
 ⟨hs.ba, hs.og, fun v hv => hs.fr v (by rw [hf]; simp [hv]), by have := hs.cnt; rw [hf] at this; simp at this ⊢; omega, by have := hs.us; simp; omega, hs.ol⟩
theorem look_ok (h : MdlOk m) {s : Sk} (hs : SkOk m s) (he : (lookS m s).2 = 0) : SkOk m (lookS m s).1 := by
 unfold lookS at he ⊢
 rcases hf : s.fr with _ | ⟨x, fr⟩
 · simpa [hf] using hs
 · rw [hf] at he
   simp only at he ⊢
   have hfo := front_ok hs hf
   by_cases hb : (s.ba.any fun b => cmpV b x == 0) = true
   · rw [if_pos hb] at he ⊢
     exact lookR_ok h (hs.fr x (by rw [hf]; simp)) _ 0 rfl hfo he
   · rw [if_neg hb]; exact hfo
theorem step_ok (h : MdlOk m) {s : Sk} (hs : SkOk m s) (he : (stepS m s).2.2 = 0) : SkOk m (stepS m s).1 := by
 unfold stepS at he ⊢
 rcases hf : s.fr with _ | ⟨x, fr⟩
 · exact hs
 · rw [hf] at he
   simp only at he ⊢
   by_cases h1 : (lookS m s).2 = 0
   · rw [if_neg (by rw [h1]; decide)]; exact look_ok h hs h1
   · rw [if_pos h1] at he; exact absurd he h1
end
section
open Go.RowKit
def ordI (x y : Int) : Int := if x < y then -1 else if y < x then 1 else 0
theorem r1Order_any (x y : Int) (w : World) : Calls Tryz.prog 143 #[.int .i64 x, .int .i64 y] w fun e w' => e = .returned (.int .i64 (ordI x y)) ∧ w = w' := by
 unfold ordI
 by_cases h1 : x < y
 · rw [if_pos h1]
   go_enter Tryz.func143, Tryz.ntmps143
   go_wp2
   go_ret
   exact ⟨rfl, rfl⟩
 · rw [if_neg h1]
   by_cases h2 : y < x
   · rw [if_pos h2]
     go_enter Tryz.func143, Tryz.ntmps143
     go_wp2
     go_ret
     exact ⟨rfl, rfl⟩
   · rw [if_neg h2]
     go_enter Tryz.func143, Tryz.ntmps143
     go_wp2
     go_ret
     exact ⟨rfl, rfl⟩
theorem vbox2 {w : World} {x y : Int} {s u : Value} : Bw w ((w.alloc (.cells #[.int .i64 x, s] 31)).alloc (.cells #[.int .i64 y, u] 31)) ∧ ∀ W, Bw ((w.alloc (.cells #[.int .i64 x, s] 31)).alloc (.cells #[.int .i64 y, u] 31)) W →
   w.heap.size + 1 < W.heap.size ∧ Bw w W ∧ W.cell? ⟨w.heap.size, 0, none⟩ = some (.int .i64 x) ∧ W.cell? ⟨w.heap.size, 1, none⟩ = some s ∧ W.cell? ⟨w.heap.size + 1, 0, none⟩ = some (.int .i64 y) ∧ W.cell? ⟨w.heap.size + 1, 1, none⟩ = some u := by
 have b0 : Bw w ((w.alloc (.cells #[.int .i64 x, s] 31)).alloc (.cells #[.int .i64 y, u] 31)) := ((Bw.refl _).alloc _).alloc _
 have b1 := (Blk.new w 31 #[.int .i64 x, s]).alloc (.cells #[.int .i64 y, u] 31)
 have b2 := Blk.new (w.alloc (.cells #[.int .i64 x, s] 31)) 31 #[.int .i64 y, u]
 rw [World.size_alloc] at b2
 refine ⟨b0, fun W g => ?_⟩
 have b3 := b1.below g.b b1.lt
 have b4 := b2.below g.b b2.lt
 exact ⟨b4.lt, b0.trans g, b3.cell 0, b3.cell 1, b4.cell 0, b4.cell 1⟩
theorem cmpV_n {a b : V} (h : a.n ≠ b.n) : cmpV a b = ordI a.n b.n := by
 cases a; cases b
 simp only [V.n_mk] at h
 simp only [cmpV, V.n_mk, ordI]
 by_cases h1 : ‹Int› < ‹Int›
 all_goals (repeat' split) <;> omega
theorem cmpV_l {a b : V} (h : a.n = b.n) (h2 : a.ks.length ≠ b.ks.length) : cmpV a b = ordI (a.ks.length : Int) (b.ks.length : Int) := by
 cases a; cases b
 simp only [V.n_mk] at h
 simp only [V.ks_mk] at h2
 subst h
 simp only [cmpV, V.ks_mk, ordI]
 (repeat' split) <;> omega
theorem cmpV_k {a b : V} (h : a.n = b.n) (h2 : a.ks.length = b.ks.length) : cmpV a b = cmpL a.ks b.ks := by
 cases a; cases b
 simp only [V.n_mk] at h
 simp only [V.ks_mk] at h2
 subst h
 simp only [cmpV, V.ks_mk]
 (repeat' split) <;> first | omega | rfl
theorem r6cmp_step (a b : V) (s1 s2 : Value) (w : World) (hk : ∀ k ∈ a.ks, ∀ (u : V) (s1 s2 : Value) (W : World), KB W W.heap.size s1 k.ks → KB W W.heap.size s2 u.ks → Calls Tryz.prog 86 #[aggV k s1, aggV u s2] W (NumPost W (cmpV k u)))
   (h1 : KB w w.heap.size s1 a.ks) (h2 : KB w w.heap.size s2 b.ks) : Calls Tryz.prog 86 #[.agg #[.int .i64 a.n, s1], .agg #[.int .i64 b.n, s2]] w (NumPost w (cmpV a b)) := by
 obtain ⟨A, n, c, rfl, ln, bn, mn⟩ := h1.form
 obtain ⟨B, m, e, rfl, lm, bm, mm⟩ := h2.form
 unfold maxLen at mn mm
 have HK := Lib.hid hk
 have H1 := Lib.hid h1
 have H2 := Lib.hid h2
 have VX := Lib.hid (vbox2 (w := w) (x := a.n) (y := b.n) (s := .slice A n c) (u := .slice B m e))
 have LN := Lib.hid ln
 have LM := Lib.hid lm
 by_cases e1 : a.n = b.n
 · by_cases e2 : n = m
   · have HC : Hid (cmpV a b = cmpL a.ks b.ks) := Lib.hid (cmpV_k e1 (by omega))
     subst e2
     clear hk h1 h2 ln lm
     generalize hr : cmpV a b = r at *
     clear hr
     rw [e1] at VX ⊢
     clear e1
     generalize b.n = x at *
     go_enter Tryz.func86, Tryz.ntmps86
     go_wp2
     go_loopw [5] (fun i wr => ∃ k : Nat, k ≤ n ∧ i = .int .i64 k ∧ Hid (Bw ((w.alloc (.cells #[.int .i64 x, .slice A n c] 31)).alloc (.cells #[.int .i64 x, .slice B n e] 31)) wr ∧ cmpL a.ks b.ks = cmpL (a.ks.drop k) (b.ks.drop k))) (fun i _ => n - (intOf i).toNat)
     case atStart => exact ⟨0, by omega, by go_num, Lib.hid ⟨Bw.refl _, rfl⟩⟩
     case round =>
       obtain ⟨k, hk, rfl, HR⟩ := hrel
       obtain ⟨hg, hc⟩ := HR.out
       obtain ⟨y0, hw, y1, y2, y3, y4⟩ := VX.out.2 wr hg
       by_cases hlt : k < n
       · have e1 : k < a.ks.length := by rw [LN.out]; exact hlt
         have e2 : k < b.ks.length := by rw [LM.out]; exact hlt
         rw [cmpL_step e1 e2] at hc
         obtain ⟨ad, sA, sn, sc, rfl, hb, q0, q1, sl, hs⟩ := (H1.out.bw hw).at_ e1
         obtain ⟨ad', tA, tn, tc, rfl, hb', q2, q3, tl, ht⟩ := (H2.out.bw hw).at_ e2
         have CM : Hid (∀ W, Bw wr W → Calls Tryz.prog 86 #[.agg #[.int .i64 a.ks[k].n, .slice sA sn sc], .agg #[.int .i64 b.ks[k].n, .slice tA tn tc]] W (NumPost W (cmpV a.ks[k] b.ks[k]))) := Lib.hid (fun W g => HK.out _ (List.getElem_mem e1) _ _ _ W (hs.bw g) (ht.bw g))
         have KS : Hid (∀ w', Bw wr w' → w'.cell? ⟨w.heap.size, 1, none⟩ = some (.slice (some ad) n c) ∧ w'.cell? ⟨w.heap.size + 1, 1, none⟩ = some (.slice (some ad') n e) ∧ w'.cell? (ad.add (k * 2)) = some (.int .i64 a.ks[k].n) ∧ w'.cell? ⟨(ad.add (k * 2)).block, (ad.add (k * 2)).off + 1, none⟩ = some (.slice sA sn sc) ∧ w'.cell? (ad'.add (k * 2)) = some (.int .i64 b.ks[k].n) ∧ w'.cell? ⟨(ad'.add (k * 2)).block, (ad'.add (k * 2)).off + 1, none⟩ = some (.slice tA tn tc) ∧ Bw wr w') :=
           Lib.hid (fun w' h => ⟨(VX.out.2 w' (hg.trans h)).2.2.2.1, (VX.out.2 w' (hg.trans h)).2.2.2.2.2, (h.b.cell (by rw [add_block]; exact hb)).trans q0, (h.b.cell (by simp only [add_block]; exact hb)).trans q1, (h.b.cell (by rw [add_block]; exact hb')).trans q2, (h.b.cell (by simp only [add_block]; exact hb')).trans q3, h⟩)
         have HG := Lib.hid hg
         have HCC := Lib.hid hc
         have HW := Lib.hid hw
         clear hs ht q0 q1 q2 q3 sl tl hg hc hw HR y1 y3 hb hb'
         generalize hz : cmpV a.ks[k] b.ks[k] = z at *
         clear hz
         generalize a.ks[k].n = x1 at *
         generalize b.ks[k].n = x2 at *
         generalize w.heap.size = y at *
         have dz : (0 : Int) ≤ (k : Int) := by omega
         have dz1 : (k : Int) < (n : Int) := by omega
         go_wp2_with fail
         go_region_held3 (fun w' => w'.cell? ⟨y, 1, none⟩ = some (.slice (some ad) n c) ∧ w'.cell? ⟨y + 1, 1, none⟩ = some (.slice (some ad') n e) ∧ w'.cell? (ad.add (k * 2)) = some (.int .i64 x1) ∧ w'.cell? ⟨(ad.add (k * 2)).block, (ad.add (k * 2)).off + 1, none⟩ = some (.slice sA sn sc) ∧ w'.cell? (ad'.add (k * 2)) = some (.int .i64 x2) ∧ w'.cell? ⟨(ad'.add (k * 2)).block, (ad'.add (k * 2)).off + 1, none⟩ = some (.slice tA tn tc) ∧ Bw wr w') (first | (refine KS.out _ ?_; first | exact (Bw.refl _).drew | exact (Bw.refl _).drew.trans hg6)) (first | (go_at_call 86; (with_reducible refine (CM.out _ (Bw.refl _).drew).mono ?_); rintro e6 w6 ⟨rfl, hg6⟩))
         have HG6 : Hid (Bw wr w6) := Lib.hid ((Bw.refl _).drew.trans hg6)
         clear hg6
         by_cases hz0 : z = 0
         · have HC2 : Hid (cmpL a.ks b.ks = cmpL (a.ks.drop (k + 1)) (b.ks.drop (k + 1))) := Lib.hid (by have := HCC.out; rwa [if_pos hz0] at this)
           have d2 : (z == 0) = true := by simpa using hz0
           have d3 : (z != 0) = false := by simp [hz0]
           subst hz0
           go_wp2
           go_roundw
           case rel => exact ⟨k + 1, by omega, by go_num, Lib.hid ⟨HG.out.trans HG6.out, HC2.out⟩⟩
           case measure => simp [intOf]; omega
         · have HC2 : Hid (r = z) := Lib.hid (by have := HCC.out; rw [if_neg hz0] at this; rw [HC.out]; exact this)
           have d2 : (z == 0) = false := by simpa using hz0
           have d3 : (z != 0) = true := by simp [hz0]
           go_wp2
           go_ret
           exact ⟨ret_int HC2.out.symm, HW.out.trans HG6.out⟩
       · obtain rfl : k = n := by omega
         have HC2 : Hid (r = 0) := Lib.hid (by rw [HC.out, hc, cmpL_end LN.out, if_neg (by rw [LN.out, LM.out]; omega)])
         have HW := Lib.hid hw
         clear hg hc hw HR
         go_wp2
         go_ret
         exact ⟨ret_int HC2.out.symm, HW.out⟩
   · have HC : Hid (cmpV a b = ordI (n : Int) (m : Int)) := Lib.hid (by rw [← ln, ← lm]; exact cmpV_l e1 (by omega))
     have OC := Lib.hid (fun W => r1Order_any (n : Int) (m : Int) W)
     rw [HC.out]
     clear hk h1 h2 ln lm HC HK H1 H2
     generalize ordI (n : Int) (m : Int) = r at *
     rw [e1] at VX ⊢
     clear e1
     generalize b.n = x at *
     go_enter Tryz.func86, Tryz.ntmps86
     go_wp2_with (go_at_call 143; go_must (refine (OC.out _).mono ?_; rintro e6 w6 ⟨rfl, rfl⟩))
     go_ret
     exact ⟨rfl, VX.out.1⟩
 · have HC : Hid (cmpV a b = ordI a.n b.n) := Lib.hid (cmpV_n e1)
   have OC := Lib.hid (fun W => r1Order_any a.n b.n W)
   rw [HC.out]
   clear hk h1 h2 ln lm HC HK H1 H2
   generalize ordI a.n b.n = r at *
   generalize a.n = x at *
   generalize b.n = x2 at *
   go_enter Tryz.func86, Tryz.ntmps86
   go_wp2_with (go_at_call 143; go_must (refine (OC.out _).mono ?_; rintro e6 w6 ⟨rfl, rfl⟩))
   go_ret
   exact ⟨rfl, VX.out.1⟩
theorem r6cmp_any (a : V) : ∀ (b : V) (s1 s2 : Value) (w : World), KB w w.heap.size s1 a.ks → KB w w.heap.size s2 b.ks → Calls Tryz.prog 86 #[aggV a s1, aggV b s2] w (NumPost w (cmpV a b)) := by
 induction a using V.ind with
 | h n ks ih => exact fun b s1 s2 w h1 h2 => r6cmp_step (.mk n ks) b s1 s2 w (fun k hk u s1 s2 W a1 a2 => ih k hk u s1 s2 W a1 a2) h1 h2
theorem r6same_any (a b : V) (s1 s2 : Value) (w : World) (h1 : KB w w.heap.size s1 a.ks) (h2 : KB w w.heap.size s2 b.ks) : Calls Tryz.prog 47 #[.agg #[.int .i64 a.n, s1], .agg #[.int .i64 b.n, s2]] w (BoolPost w (decide (a = b))) := by
 obtain ⟨A, n, c, rfl, _, _, _⟩ := h1.form
 obtain ⟨B, m, e, rfl, _, _, _⟩ := h2.form
 have CM : Hid (∀ W, Bw w W → Calls Tryz.prog 86 #[.agg #[.int .i64 a.n, .slice A n c], .agg #[.int .i64 b.n, .slice B m e]] W (NumPost W (cmpV a b))) := Lib.hid (fun W g => r6cmp_any a b _ _ W (h1.bw g) (h2.bw g))
 have VX := Lib.hid (vbox2 (w := w) (x := a.n) (y := b.n) (s := .slice A n c) (u := .slice B m e))
 have HD : Hid (decide (a = b) = (cmpV a b == 0)) := Lib.hid (by
   rw [Bool.eq_iff_iff]; simp [cmp_eq])
 rw [HD.out]
 clear HD h1 h2
 generalize cmpV a b = r at *
 generalize a.n = x at *
 generalize b.n = x2 at *
 go_enter Tryz.func47, Tryz.ntmps47
 go_wp2_with (go_at_call 86; go_must (refine (CM.out _ VX.out.1).mono ?_; rintro e6 w6 ⟨rfl, hg6⟩; (have HG6 := Lib.hid hg6); clear hg6))
 go_ret
 exact ⟨rfl, VX.out.1.trans HG6.out⟩
end
def allP (s : Int) (cs : List Int) : Nat → List Rul → Option (List St)
 | _, [] => some []
 | k, r :: rs => if (applyP r s cs).2 = 0 then (allP s cs (k + 1) rs).map (⟨(k : Int), (applyP r s cs).1⟩ :: ·) else if (applyP r s cs).2 = 18 then allP s cs (k + 1) rs else none
theorem apply_cases (r : Rul) (s : Int) (cs : List Int) : (canB r s cs = true ∧ (fireC cs r.need r.give).any (fun x => decide (1048576 < x)) = false ∧ applyP r s cs = (cfgV r.tz (fireC cs r.need r.give), 0)) ∨
   (canB r s cs = true ∧ (fireC cs r.need r.give).any (fun x => decide (1048576 < x)) = true ∧ applyP r s cs = (.mk 0 [], 1)) ∨ (canB r s cs = false ∧ applyP r s cs = (.mk 0 [], 18)) := by
 unfold applyP
 rcases canB r s cs with _ | _
 · exact .inr (.inr ⟨rfl, by simp⟩)
 · rcases (fireC cs r.need r.give).any (fun x => decide (1048576 < x)) with _ | _
   · exact .inl ⟨rfl, rfl, by simp⟩
   · exact .inr (.inl ⟨rfl, rfl, by simp⟩)
theorem allP_mem {s : Int} {cs : List Int} : ∀ (rs : List Rul) (k : Nat) {l : List St}, allP s cs k rs = some l →
   (∀ x ∈ l, ∃ r ∈ rs, canB r s cs = true ∧ (fireC cs r.need r.give).any (fun x => decide (1048576 < x)) = false ∧ x.v = cfgV r.tz (fireC cs r.need r.give)) ∧
   (∀ r ∈ rs, canB r s cs = true → (fireC cs r.need r.give).any (fun x => decide (1048576 < x)) = false ∧ ∃ x ∈ l, x.v = cfgV r.tz (fireC cs r.need r.give)) ∧ l.length ≤ rs.length := by
 intro rs
 induction rs with
 | nil => intro k l h; simp [allP] at h; subst h; simp
 | cons r rs ih =>
   intro k l h
   rw [allP] at h
   rcases apply_cases r s cs with ⟨h1, h2, h3⟩ | ⟨h1, h2, h3⟩ | ⟨h1, h3⟩ <;> rw [h3] at h
   · rw [if_pos rfl] at h
     obtain ⟨l', hl', rfl⟩ := Option.map_eq_some_iff.1 h
     obtain ⟨a, b, c⟩ := ih _ hl'
     refine ⟨fun x hx => ?_, fun q hq hc => ?_, by simpa using c⟩
     · rcases List.mem_cons.1 hx with rfl | hx
       · exact ⟨r, by simp, h1, h2, rfl⟩
       · obtain ⟨q, hq, h⟩ := a x hx
         exact ⟨q, by simp [hq], h⟩
     · rcases List.mem_cons.1 hq with rfl | hq
       · exact ⟨h2, _, List.mem_cons_self, rfl⟩
       · obtain ⟨e, x, hx, h⟩ := b q hq hc
         exact ⟨e, x, by simp [hx], h⟩
   · simp at h
   · simp at h
     obtain ⟨a, b, c⟩ := ih _ h
     refine ⟨fun x hx => ?_, fun q hq hc => ?_, by simp; omega⟩
     · obtain ⟨q, hq, h⟩ := a x hx
       exact ⟨q, by simp [hq], h⟩
     · rcases List.mem_cons.1 hq with rfl | hq
       · rw [h1] at hc; cases hc
       · exact b q hq hc
inductive Rch (m : Mdl) : V → Prop
 | start : Rch m m.start
 | step {s : Int} {cs : List Int} {r : Rul} (h : Rch m (cfgV s cs)) (hr : r ∈ m.rs) (hc : canB r s cs = true) (ho : (fireC cs r.need r.give).any (fun x => decide (1048576 < x)) = false) : Rch m (cfgV r.tz (fireC cs r.need r.give))
section
variable {m : Mdl}
theorem fire_ok (hm : MdlOk m) {s : Int} {cs : List Int} {r : Rul} (h : oneP 8 m.t (cfgV s cs) = true) (hr : r ∈ m.rs) (hc : canB r s cs = true) (ho : (fireC cs r.need r.give).any (fun x => decide (1048576 < x)) = false) : oneP 8 m.t (cfgV r.tz (fireC cs r.need r.give)) = true := by
 obtain ⟨s', cs', e, s0, s1, hl, hb⟩ := one_flat.1 h
 obtain ⟨rfl, rfl⟩ := cfgV_inj e
 have R := hm.ru r hr
 unfold canB at hc
 rw [Bool.and_eq_true, decide_eq_true_eq, leC_iff (by rw [R.nl, hl])] at hc
 have hfl := fireC_length (cs := cs) (ns := r.need) (gs := r.give) (by rw [R.nl, hl]) (by rw [R.gl, hl])
 refine one_flat.2 ⟨_, _, rfl, R.tz.1, R.tz.2, by rw [hfl, hl], fun c hcm => ?_⟩
 have h2 := List.any_eq_false.1 ho c hcm
 refine ⟨?_, by simpa using h2⟩
 obtain ⟨j, hj, rfl⟩ := List.getElem_of_mem hcm
 have hj' : j < cs.length := by omega
 have h3 := fireC_get (cs := cs) (ns := r.need) (gs := r.give) (by rw [R.nl, hl]) (by rw [R.gl, hl]) hj'
 rw [show (fireC cs r.need r.give).getD j 0 = (fireC cs r.need r.give)[j] by simp [List.getD, hj]] at h3
 have h4 := hc.2 j hj'
 have h5 := R.g0 j (by omega)
 omega
theorem rch_ok (hm : MdlOk m) {v : V} (h : Rch m v) : oneP 8 m.t v = true := by
 induction h with
 | start => exact hm.st
 | step _ hr hc ho ih => exact fire_ok hm ih hr hc ho
theorem trail_rch (hm : MdlOk m) {tg : List V} {og : List Ori} (hog : ∀ o ∈ og, o.r = -2 → o.v ∈ tg) : ∀ (n : Nat) (c : V) (run : List St), Rch m c → (trailS m og n c run).1 = 0 → ∃ v, Rch m v ∧ ∃ t ∈ tg, belowP 8 m.t t v = true := by
 intro n
 induction n with
 | zero =>
   intro c run h he
   unfold trailS at he
   split at he
   · cases he
   · rename_i o ho
     split at he
     · rename_i hr
       exact ⟨c, h, o.v, hog o (List.mem_of_find?_eq_some ho) hr, by simpa using List.find?_some ho⟩
     · split at he
       · cases he
       · split at he
         · cases he
         · simp only at he
           split at he
           · cases he
           · split at he <;> cases he
 | succ n ih =>
   intro c run h he
   unfold trailS at he
   split at he
   · cases he
   · rename_i o ho
     split at he
     · rename_i hr
       exact ⟨c, h, o.v, hog o (List.mem_of_find?_eq_some ho) hr, by simpa using List.find?_some ho⟩
     · split at he
       · cases he
       · rename_i r hr
         split at he
         · cases he
         · rename_i hg
           simp only at he
           split at he
           · cases he
           · rename_i hov
             split at he
             · cases he
             · refine ih _ _ ?_ he
               obtain ⟨s, cs, rfl, _⟩ := one_flat.1 (rch_ok hm h)
               simp only [stV_cfg, csV_cfg] at hg hov ⊢
               refine .step h (List.mem_of_getElem? hr) ?_ (by simpa using hov)
               have hg := Classical.not_not.1 hg
               unfold canB
               rw [hg.2, decide_eq_true hg.1]; rfl
theorem decide_inv (hm : MdlOk m) {tg : List V} (htg : ∀ x ∈ tg, oneP 8 m.t x = true) {n : Nat} {c : Cov} (h : decideS m tg n = (c, 0)) : ∃ s, SInv m tg noV s ∧ finishS m s = (c, 0) := by
 unfold decideS at h
 simp only at h
 by_cases h0 : (startS m.t tg).2 = 0
 · rw [if_neg (by rw [h0]; decide)] at h
   by_cases h1 : (loopS m n (startS m.t tg).1).2 = 0
   · rw [if_neg (by rw [h1]; decide)] at h
     exact ⟨_, loop_inv hm htg n (start_inv hm htg h0) h1, h⟩
   · rw [if_pos h1] at h
     exact absurd (congrArg Prod.snd h) h1
 · rw [if_pos h0] at h
   exact absurd (congrArg Prod.snd h) h0
theorem decide_no (hm : MdlOk m) {tg : List V} (htg : ∀ x ∈ tg, oneP 8 m.t x = true) {n : Nat} {c : Cov} (h : decideS m tg n = (c, 0)) (hd : c.dec = true) (hy : c.yes = false) {v : V} (hv : Rch m v) {t : V} (ht : t ∈ tg) : belowP 8 m.t t v = false := by
 obtain ⟨s, S, hf⟩ := decide_inv hm htg h
 unfold finishS at hf
 have hh : hitS m s = false := by
   rcases hh : hitS m s with _ | _
   · rfl
   · rw [if_pos hh] at hf
     simp only at hf
     split at hf
     · have hc := congrArg Prod.fst hf; simp only at hc; subst hc; cases hd
     · have hc := congrArg Prod.fst hf; simp only at hc; subst hc; cases hy
 rw [if_neg (by rw [hh]; decide)] at hf
 have hfr : s.fr = [] := by
   rcases hx : s.fr.isEmpty with _ | _
   · rw [if_neg (by rw [hx]; decide)] at hf
     have hc := congrArg Prod.fst hf; simp only at hc; subst hc; cases hd
   · simpa using hx
 have hup : ∀ v, Rch m v → ¬ up m s.ba v := by
   intro v hv
   induction hv with
   | start =>
     intro hu
     have : hitS m s = true := hasP_up.2 hu
     rw [hh] at this; cases this
   | @step s1 cs r h1 hr hc ho ih =>
     intro hu
     refine ih ?_
     have hone := rch_ok hm h1
     unfold canB at hc
     rw [Bool.and_eq_true, decide_eq_true_eq] at hc
     rw [hc.1] at hone ⊢
     exact closed_step hm S hfr hr hone hc.2 hu
 rcases hb : belowP 8 m.t t v with _ | _
 · rfl
 · obtain ⟨x, hx, hxt⟩ := S.tu t ht
   exact absurd ⟨x, hx, hm.ord.trans x t v (S.ok x hx) (htg t ht) (rch_ok hm hv) hxt hb⟩ (hup v hv)
theorem decide_yes (hm : MdlOk m) {tg : List V} (htg : ∀ x ∈ tg, oneP 8 m.t x = true) {n : Nat} {c : Cov} (h : decideS m tg n = (c, 0)) (hd : c.dec = true) (hy : c.yes = true) : ∃ v, Rch m v ∧ ∃ t ∈ tg, belowP 8 m.t t v = true := by
 obtain ⟨s, S, hf⟩ := decide_inv hm htg h
 unfold finishS at hf
 rcases hh : hitS m s with _ | _
 · rw [if_neg (by rw [hh]; decide)] at hf
   split at hf
   · have hc := congrArg Prod.fst hf; simp only at hc; subst hc; cases hy
   · have hc := congrArg Prod.fst hf; simp only at hc; subst hc; cases hy
 · rw [if_pos hh] at hf
   simp only at hf
   by_cases h0 : (trailS m s.og 64 m.start []).1 = 0
   · refine trail_rch hm (og := s.og) (fun o ho hr => ?_) 64 m.start [] .start h0
     rcases S.og o ho with ⟨_, h2⟩ | ⟨h2, _⟩
     · exact h2
     · omega
   · rw [if_pos h0] at hf
     exact absurd (congrArg Prod.snd hf) h0

/-! ### the law's own search -/
def addF (f : List V) (l : List St) : List V := l.foldl (fun f x => if x.v ∈ f then f else f ++ [x.v]) f
theorem addF_mem : ∀ (l : List St) (f : List V) (v : V), v ∈ addF f l ↔ v ∈ f ∨ ∃ x ∈ l, x.v = v := by
 intro l
 induction l with
 | nil => intro f v; simp [addF]
 | cons x l ih =>
   intro f v
   rw [show addF f (x :: l) = addF (if x.v ∈ f then f else f ++ [x.v]) l from rfl, ih]
   split
   · rename_i hx
     constructor
     · rintro (h | ⟨y, hy, rfl⟩)
       · exact .inl h
       · exact .inr ⟨y, by simp [hy], rfl⟩
     · rintro (h | ⟨y, hy, rfl⟩)
       · exact .inl h
       · rcases List.mem_cons.1 hy with rfl | hy
         · exact .inl hx
         · exact .inr ⟨y, hy, rfl⟩
   · rw [List.mem_append, List.mem_singleton]
     constructor
     · rintro ((h | rfl) | ⟨y, hy, rfl⟩)
       · exact .inl h
       · exact .inr ⟨x, by simp, rfl⟩
       · exact .inr ⟨y, by simp [hy], rfl⟩
     · rintro (h | ⟨y, hy, rfl⟩)
       · exact .inl (.inl h)
       · rcases List.mem_cons.1 hy with rfl | hy
         · exact .inl (.inr rfl)
         · exact .inr ⟨y, hy, rfl⟩
theorem addF_pre : ∀ (l : List St) (f : List V), ∃ g, addF f l = f ++ g ∧ g.length ≤ l.length := by
 intro l
 induction l with
 | nil => intro f; exact ⟨[], by simp [addF], by simp⟩
 | cons x l ih =>
   intro f
   rw [show addF f (x :: l) = addF (if x.v ∈ f then f else f ++ [x.v]) l from rfl]
   split
   · obtain ⟨g, h1, h2⟩ := ih f
     exact ⟨g, h1, by simp; omega⟩
   · obtain ⟨g, h1, h2⟩ := ih (f ++ [x.v])
     exact ⟨x.v :: g, by rw [h1]; simp, by simp; omega⟩
def abovB (m : Mdl) (tg : List V) (v : V) : Bool := tg.any fun t => belowP 8 m.t t v
structure CvI (m : Mdl) (tg : List V) (f : List V) (i : Nat) (hit : Bool) : Prop where
 le : i ≤ f.length
 st : m.start ∈ f
 rc : ∀ v ∈ f, Rch m v
 cl : ∀ k (h : k < i) (h' : k < f.length), ∀ r ∈ m.rs, ∀ s cs, f[k] = cfgV s cs → canB r s cs = true → (fireC cs r.need r.give).any (fun x => decide (1048576 < x)) = false → cfgV r.tz (fireC cs r.need r.give) ∈ f
 hi : hit = (f.take i).any (abovB m tg)
theorem CvI.begin (m : Mdl) (tg : List V) : CvI m tg [m.start] 0 false := ⟨by simp, by simp, fun v hv => by rw [List.mem_singleton.1 hv]; exact .start, fun k h => absurd h (by omega), by simp⟩
theorem CvI.next {tg f : List V} {i : Nat} {hit : Bool} (h : CvI m tg f i hit) (hi : i < f.length) {s : Int} {cs : List Int} (hf : f[i] = cfgV s cs) {l : List St} (hl : allP s cs 0 m.rs = some l) : CvI m tg (addF f l) (i + 1) (hit || abovB m tg f[i]) := by
 obtain ⟨g, hg, _⟩ := addF_pre l f
 obtain ⟨a1, a2, _⟩ := allP_mem m.rs 0 hl
 refine ⟨by rw [hg, List.length_append]; omega, (addF_mem l f _).2 (.inl h.st), fun v hv => ?_, fun k hk hk' r hr s' cs' he hc ho => ?_, ?_⟩
 · rcases (addF_mem l f v).1 hv with hv | ⟨x, hx, rfl⟩
   · exact h.rc v hv
   · obtain ⟨r, hr, h1, h2, h3⟩ := a1 x hx
     rw [h3]
     exact .step (by rw [← hf]; exact h.rc _ (List.getElem_mem hi)) hr h1 h2
 · have hkf : k < f.length := by omega
   have e : (addF f l)[k] = f[k] := by simp only [hg]; exact List.getElem_append_left hkf
   rw [e] at he
   by_cases hki : k = i
   · subst hki
     rw [hf] at he
     obtain ⟨rfl, rfl⟩ := cfgV_inj he
     obtain ⟨_, x, hx, hxe⟩ := a2 r hr hc
     exact (addF_mem l f _).2 (.inr ⟨x, hx, hxe⟩)
   · exact (addF_mem l f _).2 (.inl (h.cl k (by omega) hkf r hr s' cs' he hc ho))
 · rw [hg, List.take_append_of_le_length (by omega), List.take_succ_eq_append_getElem hi, List.any_append, ← h.hi]
   simp
theorem CvI.fin (hm : MdlOk m) {tg f : List V} {i : Nat} {hit : Bool} (h : CvI m tg f i hit) (htg : ∀ x ∈ tg, oneP 8 m.t x = true) {n : Nat} {c : Cov} (hd : decideS m tg n = (c, 0)) (hdec : c.dec = true) (he : f.length ≤ i ∨ 200 ≤ f.length) :
   (if hit then c.yes else (decide (200 ≤ f.length) || !c.yes)) = true := by
 rcases hit with _ | _
 · simp only [Bool.false_eq_true, if_false]
   by_cases hn : 200 ≤ f.length
   · rw [decide_eq_true hn]; rfl
   · rw [decide_eq_false hn, Bool.false_or]
     rcases hy : c.yes with _ | _
     · rfl
     · exfalso
       obtain ⟨v, hv, t, ht, hb⟩ := decide_yes hm htg hd hdec hy
       have hi : i = f.length := by have := h.le; omega
       have hall : ∀ v, Rch m v → v ∈ f := by
         intro v hv
         induction hv with
         | start => exact h.st
         | @step s cs r h1 hr hc ho ih =>
           obtain ⟨k, hk, e⟩ := List.getElem_of_mem ih
           exact h.cl k (by omega) hk r hr s cs e hc ho
       have h1 := h.hi
       rw [hi, List.take_length] at h1
       have h2 := List.any_eq_false.1 h1.symm v (hall v hv)
       exact h2 (List.any_eq_true.2 ⟨t, ht, hb⟩)
 · simp only [if_true]
   obtain ⟨v, hv, hva⟩ := List.any_eq_true.1 h.hi.symm
   obtain ⟨t, ht, hb⟩ := List.any_eq_true.1 hva
   rcases hy : c.yes with _ | _
   · have := decide_no hm htg hd hdec hy (h.rc v (List.mem_of_mem_take hv)) ht
     rw [this] at hb; cases hb
   · rfl
end
section
open Go.RowKit
def exC (gs cs : List Int) (k : Nat) : Int := max 0 (cs.getD k 0 - gs.getD k 0)
def unitC (n k : Nat) (e : Int) : List Int := (List.replicate n (0 : Int)).set k e
def addC (a b : List Int) : List Int := List.zipWith (· + ·) a b
def uptoC (ns gs cs : List Int) : Nat → List Int
 | 0 => ns
 | k + 1 => addC (uptoC ns gs cs k) (unitC cs.length k (exC gs cs k))
theorem unitC_length (n k : Nat) (e : Int) : (unitC n k e).length = n := by simp [unitC]
theorem unitC_get {n k j : Nat} {e : Int} (hj : j < n) : (unitC n k e).getD j 0 = if k = j then e else 0 := by
 unfold unitC
 rw [List.getD_eq_getElem?_getD, List.getElem?_set]
 by_cases h : k = j
 · subst h; simp [hj]
 · simp [h, hj]
theorem addC_length {a b : List Int} (h : b.length = a.length) : (addC a b).length = a.length := by simp [addC, h]
theorem addC_get {a b : List Int} (h : b.length = a.length) {j : Nat} (hj : j < a.length) : (addC a b).getD j 0 = a.getD j 0 + b.getD j 0 := by
 have h2 : j < b.length := by omega
 have h3 : j < (addC a b).length := by rw [addC_length h]; exact hj
 simp only [List.getD_eq_getElem?_getD, List.getElem?_eq_getElem hj, List.getElem?_eq_getElem h2, List.getElem?_eq_getElem h3, Option.getD_some]
 simp [addC]
theorem uptoC_length {ns gs cs : List Int} (h : ns.length = cs.length) : ∀ k, (uptoC ns gs cs k).length = cs.length
 | 0 => h
 | k + 1 => by rw [uptoC, addC_length (by rw [unitC_length, uptoC_length h k]), uptoC_length h k]
theorem uptoC_get {ns gs cs : List Int} (h : ns.length = cs.length) {j : Nat} (hj : j < cs.length) : ∀ k, (uptoC ns gs cs k).getD j 0 = ns.getD j 0 + if j < k then exC gs cs j else 0
 | 0 => by simp [uptoC]
 | k + 1 => by
   rw [uptoC, addC_get (by rw [unitC_length, uptoC_length h k]) (by rw [uptoC_length h k]; exact hj), uptoC_get h hj k, unitC_get hj]
   by_cases e : k = j
   · subst e; simp
   · have h1 : (j < k + 1) ↔ j < k := by omega
     simp only [e, if_false, h1]; omega
theorem askC_none : ∀ {ns gs cs : List Int}, ns.length = cs.length → gs.length = cs.length → ∀ {k}, k < cs.length → 1048576 - ns.getD k 0 < exC gs cs k → askC ns gs cs = none := by
 intro ns
 induction ns with
 | nil =>
   intro gs cs h1 _ k hk _
   obtain rfl : cs = [] := by simpa using h1.symm
   simp at hk
 | cons n ns ih =>
   intro gs cs h1 h2 k hk h
   cases cs with
   | nil => simp at h1
   | cons c cs =>
     cases gs with
     | nil => simp at h2
     | cons g gs =>
       rw [askC]
       cases k with
       | zero =>
         rw [if_neg]
         simp [exC] at h
         omega
       | succ k =>
         rw [ih (by simpa using h1) (by simpa using h2) (k := k) (by simpa using hk) (by simpa [exC] using h)]
         simp
theorem askC_has : ∀ {ns gs cs : List Int}, ns.length = cs.length → gs.length = cs.length → (∀ k, k < cs.length → exC gs cs k ≤ 1048576 - ns.getD k 0) → ∃ l, askC ns gs cs = some l := by
 intro ns
 induction ns with
 | nil =>
   intro gs cs h1 _ _
   obtain rfl : cs = [] := by simpa using h1.symm
   exact ⟨[], by simp [askC]⟩
 | cons n ns ih =>
   intro gs cs h1 h2 h
   cases cs with
   | nil => simp at h1
   | cons c cs =>
     cases gs with
     | nil => simp at h2
     | cons g gs =>
       obtain ⟨l, hl⟩ := ih (gs := gs) (cs := cs) (by simpa using h1) (by simpa using h2) (fun k hk => by simpa [exC] using h (k + 1) (by simpa using hk))
       have h0 := h 0 (by simp)
       simp [exC] at h0
       exact ⟨_, by rw [askC, if_pos (by omega), hl]; rfl⟩
theorem askC_all {ns gs cs : List Int} (h1 : ns.length = cs.length) (h2 : gs.length = cs.length) (h : ∀ k, k < cs.length → exC gs cs k ≤ 1048576 - ns.getD k 0) : askC ns gs cs = some (uptoC ns gs cs cs.length) := by
 obtain ⟨l, hl⟩ := askC_has h1 h2 h
 obtain ⟨e1, e2⟩ := askC_len h1 h2 hl
 rw [hl]
 congr 1
 refine ext_getD (by rw [e1, uptoC_length h1]) fun j hj => ?_
 rw [e1] at hj
 rw [(e2 j hj).1, uptoC_get h1 hj, if_pos hj]; rfl
def mixA (a b : List Int) (k : Nat) : List Int := (addC a b).take k ++ a.drop k
section
variable {a b : List Int} {k : Nat}
theorem mixA_zero : mixA a b 0 = a := by simp [mixA]
theorem mixA_all (h : b.length = a.length) : mixA a b a.length = addC a b := by
 unfold mixA
 rw [List.take_of_length_le (by rw [addC_length h]; exact Nat.le_refl _), List.drop_length, List.append_nil]
theorem mixA_get (h : b.length = a.length) (hk : k < a.length) : (intVs (mixA a b k))[k]? = some (.int .i64 a[k]) := by
 have hl : ((addC a b).take k).length = k := by simp [addC_length h]; omega
 unfold mixA
 rw [intVs, List.getElem?_map, List.getElem?_append_right (by omega), hl, Nat.sub_self, List.getElem?_drop, Nat.add_zero, List.getElem?_eq_getElem (by omega)]
 rfl
theorem mixA_set (h : b.length = a.length) (hk : k < a.length) : (intVs (mixA a b k)).set k (.int .i64 (a[k] + b[k]'(by omega))) = intVs (mixA a b (k + 1)) := by
 have hl : ((addC a b).take k).length = k := by simp [addC_length h]; omega
 have hf : k < (addC a b).length := by rw [addC_length h]; exact hk
 have e : a[k] + b[k]'(by omega) = (addC a b)[k] := by simp [addC]
 rw [e]
 unfold mixA
 rw [intVs, intVs, List.map_append, List.map_append, List.set_append_right _ _ (by rw [List.length_map, hl]; exact Nat.le_refl _), List.length_map, hl, Nat.sub_self, List.drop_eq_getElem_cons hk, List.map_cons, List.set_cons_zero, List.take_succ_eq_append_getElem hf, List.map_append]
 simp
end
end
section
open Go.RowKit Go.WideShapes Go.ChangeShapes Go.ChangeAt
theorem own : ownKnob Tryz.prog.godebug = none := by kernel_rfl

section
variable {H : Type} {enc : TypeId × Value → H} {P : Program}
end
end
end Go.Proofs.YthhbkabdhkdafaaGreat
