/- Part of a proof of basisSets_holds. -/
import Derived.Test.YtbmheekaclmibaaGreatXMgaAQ
import Derived.Test.YtbmheekaclmibaaGreatXMeeCQ
set_option maxRecDepth 100000
set_option maxHeartbeats 16000000
namespace Go.Proofs.YtbmheekaclmibaaGreat
open Go.RowKit
set_option linter.unusedSimpArgs false
set_option linter.unusedVariables false
theorem merge_len (f : V → V → List V) : ∀ (n : Nat) (a b : List V), a.length + b.length ≤ n → (mergeP f a b).length ≤ 3 ^ n := by
 intro n
 induction n with
 | zero =>
   intro a b h
   have e1 : a = [] := List.eq_nil_of_length_eq_zero (by omega)
   subst e1
   rw [merge_nil]; simp
 | succ n ih =>
   intro a b h
   have h3 : 1 ≤ 3 ^ n := Nat.one_le_pow _ _ (by omega)
   match a, b with
   | [], b => rw [merge_nil]; simp [Nat.pow_succ]; omega
   | x :: a, [] => rw [merge_nil2]; simp [Nat.pow_succ]; omega
   | x :: a, y :: b =>
     simp only [List.length_cons] at h
     have h1 := ih a (y :: b) (by simp; omega)
     have h2 := ih (x :: a) b (by simp; omega)
     have h4 := ih a b (by omega)
     rw [merge_cons, List.length_append, List.length_append, List.length_map, List.length_map, Nat.pow_succ]
     split
     · simp; omega
     · rw [List.length_map]; omega
theorem merge_ks (f : V → V → List V) : ∀ (n : Nat) (a b : List V), a.length + b.length ≤ n → ∀ w ∈ mergeP f a b, w.ks.length ≤ a.length + b.length := by
 intro n
 induction n with
 | zero =>
   intro a b h w hw
   have e1 : a = [] := List.eq_nil_of_length_eq_zero (by omega)
   subst e1
   rw [merge_nil] at hw
   obtain rfl := List.mem_singleton.1 hw
   show b.length ≤ _
   simp
 | succ n ih =>
   intro a b h w hw
   match a, b with
   | [], b =>
     rw [merge_nil] at hw
     obtain rfl := List.mem_singleton.1 hw
     show b.length ≤ _
     simp
   | x :: a, [] =>
     rw [merge_nil2] at hw
     obtain rfl := List.mem_singleton.1 hw
     show (x :: a).length ≤ _
     simp
   | x :: a, y :: b =>
     simp only [List.length_cons] at h ⊢
     rw [merge_cons, List.mem_append, List.mem_append] at hw
     rcases hw with (hw | hw) | hw
     · obtain ⟨u, hu, rfl⟩ := List.mem_map.1 hw
       have := ih a (y :: b) (by simp; omega) u hu
       rw [hdV_ks]; simp only [List.length_cons] at this ⊢; omega
     · obtain ⟨u, hu, rfl⟩ := List.mem_map.1 hw
       have := ih (x :: a) b (by simp; omega) u hu
       rw [hdV_ks]; simp only [List.length_cons] at this ⊢; omega
     · split at hw
       · simp at hw
       · obtain ⟨u, hu, rfl⟩ := List.mem_map.1 hw
         have := ih a b (by omega) u hu
         rw [hdV_ks]; simp only [List.length_cons]; omega
structure MgS (S : Nat → Prop) (B g : Nat) (W1 W : World) (cur : Value) (l : List V) (ss : List Value) : Prop where
 bel : Below g W1 W
 out : Blk W g 31 #[cur]
 row : QRow W 39 (fun b => (S b ∨ B ≤ b) ∧ b ≠ g) (g + 1) cur l ss
def BegR (S : Nat → Prop) (B g : Nat) (W1 : World) (l : List V) (e : Ending) (W : World) : Prop := e = .returned (.tuple #[]) ∧ ∃ cur ss, MgS S B g W1 W cur l ss
def MgPost (W : World) (S : Nat → Prop) (l : List V) (e : Ending) (w' : World) : Prop := ∃ s, e = .returned s ∧ KAt w' (fun x => (S x ∨ W.heap.size ≤ x) ∧ x < w'.heap.size) s l ∧ Bw W w'
section
variable {S : Nat → Prop} {B g : Nat} {W1 X w8 : World} {cur : Value} {l : List V} {ss : List Value}
theorem MgS.bw (h : MgS S B g W1 X cur l ss) (hb : Bw X w8) : MgS S B g W1 w8 cur l ss :=
 ⟨h.bel.trans (Below.mono hb (Nat.le_of_lt h.out.lt)), h.out.below hb h.out.lt, h.row.bw hb⟩
theorem MgS.begin (h : MgS S B g W1 X cur l ss) (hS : ∀ b, S b → b < B) (hBg : B ≤ g) (hb : Bw X w8) {x : V} {m : List V} {xA : Option Addr} {xn xc : Nat} {mA : Option Addr} {mn mc : Nat}
   (kx : KAt w8 (fun b => (S b ∨ X.heap.size ≤ b) ∧ b < w8.heap.size) (.slice xA xn xc) x.ks) (k8 : KAt w8 (fun b => (S b ∨ X.heap.size ≤ b) ∧ b < w8.heap.size) (.slice mA mn mc) m) (hl : l.length + m.length ≤ 100000) (hm : ∀ y ∈ m, y.ks.length ≤ 1000) :
   Calls Tryz.prog 126 (#[.agg #[.int .i64 x.n, .slice xA xn xc], .slice mA mn mc] ++ #[.pointer (some ⟨g, 0, none⟩)]) w8 (BegR S B g W1 (l ++ m.map (hdV x))) := by
 have h8 := h.bw hb
 have hgX := h.out.lt
 obtain ⟨VA, vc, rfl, _, _⟩ := h.row.form
 have hown : ∀ b, (Value.slice VA l.length vc).ownBlock = some b → g + 1 ≤ b ∧ b < X.heap.size := fun b e => h.row.own.lt b e
 have key : ∀ {s : Value} {ks : List V}, KAt w8 (fun b => (S b ∨ X.heap.size ≤ b) ∧ b < w8.heap.size) s ks → KAt w8 (CB (fun b => (S b ∨ B ≤ b) ∧ b ≠ g) (.slice VA l.length vc) w8) s ks := fun hk => hk.keep (fun b hb' => by
   obtain ⟨hb1, hb2⟩ := hb'
   rcases hb1 with hb1 | hb1
   · have := hS b hb1
     exact ⟨⟨.inl hb1, by omega⟩, hb2, fun e => by have := hown b e; omega⟩
   · exact ⟨⟨.inr (by omega), by omega⟩, hb2, fun e => by have := hown b e; omega⟩) (fun _ _ => rfl)
 refine (begin_any g (fun b => (S b ∨ B ≤ b) ∧ b ≠ g) x (xA, xn, xc) m (mA, mn, mc) l VA vc ss w8 (fun b hb => hb.2) (fun b hb => ⟨.inr (by omega), by omega⟩) hl hm h8.out h8.row (key kx) (key k8)).mono ?_
 rintro e W ⟨rfl, cur', ss', ho, hr, hbel⟩
 exact ⟨rfl, cur', ss', h8.bel.trans hbel, ho, hr⟩
end
def MgSays (t : T) (f : V → V → List V × Bool) (a b : List V) : Prop := ∀ (S : Nat → Prop) (rv pv sa sb : Value) (W : World), (∀ x, S x → x < W.heap.size) → TB W W.heap.size rv pv t → KAt W S sa a → KAt W S sb b → Calls Tryz.prog 100 #[.agg #[.int .i64 t.kind, .int .i64 t.size, rv, pv], sa, sb] W (MgPost W S (mergeP (fun x y => (f x y).1) a b))
theorem bmerge_nil (t : T) (f : V → V → List V × Bool) (a b : List V) (h0 : a = [] ∨ b = []) (h9 : a.length + b.length ≤ 1000) : MgSays t f a b := by
 intro S rv pv sa sb w hS hT ha hb
 have hm : mergeP (fun x y => (f x y).1) a b = [.mk 0 (a ++ b)] := by
   rcases h0 with rfl | rfl
   · rw [merge_nil]; rfl
   · rw [merge_nil2, List.append_nil]
 rw [hm]
 obtain ⟨A, n, c, rfl, ln, _, _⟩ := ha.form
 obtain ⟨B, m, e, rfl, lm, _, _⟩ := hb.form
 obtain ⟨A1, rn, c1, rfl, _, _⟩ := hT.1.form'
 obtain ⟨A2, pn, c2, rfl, _, _, _⟩ := hT.2.form
 have h00 : n = 0 ∨ (n ≠ 0 ∧ m = 0) := by
   rcases h0 with rfl | rfl
   · left; simpa using ln.symm
   · by_cases hn : n = 0
     · exact .inl hn
     · exact .inr ⟨hn, by simpa using lm.symm⟩
 have CC : Hid (∀ W, Bw w W → Calls Tryz.prog 59 #[.slice (some ⟨W.heap.size, 0, none⟩) 2 2] (W.alloc (.cells #[.slice A n c, .slice B m e] 31)) (fun e' w' => ∃ A' m' c', e' = .returned (.slice A' m' c') ∧ KAt w' (fun x => (S x ∨ w.heap.size ≤ x) ∧ x < w'.heap.size) (.slice A' m' c') (a ++ b) ∧ Bw W w')) := Lib.hid (fun W g => by
   have hbw : Bw W (W.alloc (.cells #[.slice A n c, .slice B m e] 31)) := (Bw.refl W).alloc _
   have hsz := g.size
   have key : ∀ {s : Value} {ks : List V}, KAt w S s ks → KAt (W.alloc (.cells #[.slice A n c, .slice B m e] 31)) (fun x => (S x ∨ w.heap.size ≤ x) ∧ x < (W.alloc (.cells #[.slice A n c, .slice B m e] 31)).heap.size) s ks := fun h => h.keep (fun x hx => ⟨.inl hx, by have := hS x hx; have := hbw.size; omega⟩) (fun q hq => (g.trans hbw).b.cell (hS _ hq))
   refine (concat_any [a, b] (by simp; omega) _ _ _ (fun x hx => hx.2) (LAt.two (Blk.new W 31 #[.slice A n c, .slice B m e]) ⟨.inr hsz, by simp⟩ (key ha) (key hb))).mono ?_
   rintro e' w' ⟨s, qs, rfl, hm, hk, hq, hg⟩
   obtain ⟨A', c', rfl, -, -⟩ := hm.form
   have hcat := cat_kat hm hk
   rw [hq, show [a, b].flatten = a ++ b by simp] at hcat
   have hs2 := hbw.size
   refine ⟨A', _, c', rfl, hcat.keep (fun x hx => ?_) (fun _ _ => rfl), hbw.trans hg⟩
   rcases hx with hx | hx
   · exact ⟨hx.1, Nat.lt_of_lt_of_le hx.2 hg.size⟩
   · have := hm.own.lt x hx
     exact ⟨.inr (by omega), this.2⟩)
 have HB1 : Hid (Bw w (w.alloc (.cells #[.int .i64 t.kind, .int .i64 t.size, .slice A1 rn c1, .slice A2 pn c2] 29))) := Lib.hid ((Bw.refl _).alloc _)
 have CC2 := CC.out _ HB1.out
 rw [World.size_alloc] at CC2
 have CC2 := Lib.hid CC2
 clear hT ha hb CC hm ln lm h0 h9
 unfold MgPost
 generalize t.kind = kd at *
 generalize t.size = z at *
 rcases h00 with rfl | ⟨hn0, rfl⟩
 · go_enter Tryz.func100, Tryz.ntmps100
   go_wp2_with (go_at_call 59; go_must ((with_reducible refine CC2.out.mono ?_); rintro e6 w6 ⟨A6, m6, c6, rfl, hk6, hg6⟩; (have HK6 := Lib.hid hk6); (have HG6 := Lib.hid (HB1.out.trans hg6)); clear hk6 hg6))
   go_ret
   have hg := HG6.out
   have hsz := hg.size
   refine ⟨_, rfl, KAt.oneAt (v := .mk 0 (a ++ b)) rfl ⟨.inr hsz, by simp⟩ ?_, hg.alloc _⟩
   exact HK6.out.keep (fun x hx => ⟨hx.1, by have := hx.2; simp; omega⟩) (fun q hq => World.cell?_alloc_lt w6 _ q hq.2)
 · have dn1 : ((n : Int) == 0) = false := by simpa using hn0
   have dn2 : ¬ (n : Int) = 0 := by omega
   go_enter Tryz.func100, Tryz.ntmps100
   go_wp2_with (go_at_call 59; go_must ((with_reducible refine CC2.out.mono ?_); rintro e6 w6 ⟨A6, m6, c6, rfl, hk6, hg6⟩; (have HK6 := Lib.hid hk6); (have HG6 := Lib.hid (HB1.out.trans hg6)); clear hk6 hg6))
   go_ret
   have hg := HG6.out
   have hsz := hg.size
   refine ⟨_, rfl, KAt.oneAt (v := .mk 0 (a ++ b)) rfl ⟨.inr hsz, by simp⟩ ?_, hg.alloc _⟩
   exact HK6.out.keep (fun x hx => ⟨hx.1, by have := hx.2; simp; omega⟩) (fun q hq => World.cell?_alloc_lt w6 _ q hq.2)
theorem kat_old {S : Nat → Prop} {w X : World} {s : Value} {l : List V} (h : KAt w S s l) (hS : ∀ x, S x → x < w.heap.size) (g : Bw w X) : KAt X S s l := h.keep (fun _ h => h) (fun q hq => g.b.cell (hS _ hq))
theorem bmerge_cons (t : T) (f : V → V → List V × Bool) (ok : V → Bool) (HA : AboveSays t ok f) (x y : V) (a b : List V) (h8 : (x :: a).length + (y :: b).length ≤ 8) (hox : ok x = true) (hoy : ok y = true)
   (M1 : MgSays t f a (y :: b)) (M2 : MgSays t f (x :: a) b) (M3 : MgSays t f a b) : MgSays t f (x :: a) (y :: b) := by
 intro S rv pv sa sb w hS hT ha hb
 obtain ⟨A, n, c, rfl, ln, bn, mn⟩ := ha.form
 obtain ⟨B, m, e, rfl, lm, bm, mm⟩ := hb.form
 obtain ⟨A1, rn, c1, rfl, _, _⟩ := hT.1.form'
 obtain ⟨A2, pn, c2, rfl, _, _, _⟩ := hT.2.form
 unfold maxLen at mn mm
 simp only [List.length_cons] at ln lm h8
 obtain ⟨ada, xA, xn, xc, rfl, ba, qa0, qa1, -, hxk⟩ := ha.at_ (k := 0) (by simp)
 obtain ⟨adb, yA, yn, yc, rfl, bb, qb0, qb1, -, hyk⟩ := hb.at_ (k := 0) (by simp)
 simp only [List.getElem_cons_zero] at qa0 qb0 hxk hyk
 have ka' := ha.part (k := 1) (m := n) (by omega) (Nat.le_refl _)
 have kb' := hb.part (k := 1) (m := m) (by omega) (Nat.le_refl _)
 rw [List.take_of_length_le (by simp; omega), List.drop_one, List.tail_cons] at ka' kb'
 have hca := fun W => cutV_l (some ada) n c 1 (by omega) W
 have hcb := fun W => cutV_l (some adb) m e 1 (by omega) W
 obtain ⟨PA, eA⟩ := sliced_form (some ada) 1 n c 2
 obtain ⟨PB, eB⟩ := sliced_form (some adb) 1 m e 2
 rw [eA] at ka' hca
 rw [eB] at kb' hcb
 push_cast at hca hcb
 have hbw1 : Bw w ((w.alloc (.cells #[.int .i64 t.kind, .int .i64 t.size, .slice A1 rn c1, .slice A2 pn c2] 29)).alloc (.cells #[.slice none 0 0] 31)) := ((Bw.refl _).alloc _).alloc _
 have hbT : Blk ((w.alloc (.cells #[.int .i64 t.kind, .int .i64 t.size, .slice A1 rn c1, .slice A2 pn c2] 29)).alloc (.cells #[.slice none 0 0] 31)) w.heap.size 29 #[.int .i64 t.kind, .int .i64 t.size, .slice A1 rn c1, .slice A2 pn c2] := (Blk.new _ _ _).alloc _
 have hbO : Blk ((w.alloc (.cells #[.int .i64 t.kind, .int .i64 t.size, .slice A1 rn c1, .slice A2 pn c2] 29)).alloc (.cells #[.slice none 0 0] 31)) (w.heap.size + 1) 31 #[.slice none 0 0] := by
   have := Blk.new (w.alloc (.cells #[.int .i64 t.kind, .int .i64 t.size, .slice A1 rn c1, .slice A2 pn c2] 29)) 31 #[.slice none 0 0]
   rwa [World.size_alloc] at this
 have HST : Hid (Bw w ((w.alloc (.cells #[.int .i64 t.kind, .int .i64 t.size, .slice A1 rn c1, .slice A2 pn c2] 29)).alloc (.cells #[.slice none 0 0] 31)) ∧ Blk ((w.alloc (.cells #[.int .i64 t.kind, .int .i64 t.size, .slice A1 rn c1, .slice A2 pn c2] 29)).alloc (.cells #[.slice none 0 0] 31)) w.heap.size 29 #[.int .i64 t.kind, .int .i64 t.size, .slice A1 rn c1, .slice A2 pn c2] ∧ MgS S w.heap.size (w.heap.size + 1) ((w.alloc (.cells #[.int .i64 t.kind, .int .i64 t.size, .slice A1 rn c1, .slice A2 pn c2] 29)).alloc (.cells #[.slice none 0 0] 31)) ((w.alloc (.cells #[.int .i64 t.kind, .int .i64 t.size, .slice A1 rn c1, .slice A2 pn c2] 29)).alloc (.cells #[.slice none 0 0] 31)) (.slice none 0 0) [] []) :=
   Lib.hid ⟨hbw1, hbT, ⟨Below.refl _ _, hbO, QRow.nil _ _ _ _⟩⟩
 have CM1 : Hid (∀ W, Bw w W → Calls Tryz.prog 100 #[.agg #[.int .i64 t.kind, .int .i64 t.size, .slice A1 rn c1, .slice A2 pn c2], .slice PA (n - 1) (c - 1), .slice (some adb) m e] W (MgPost W S (mergeP (fun x y => (f x y).1) a (y :: b)))) := Lib.hid (fun W g => M1 S _ _ _ _ W (fun q hq => Nat.lt_of_lt_of_le (hS q hq) g.size) (TAt.bw hT g) (kat_old ka' hS g) (kat_old hb hS g))
 have CM2 : Hid (∀ W, Bw w W → Calls Tryz.prog 100 #[.agg #[.int .i64 t.kind, .int .i64 t.size, .slice A1 rn c1, .slice A2 pn c2], .slice (some ada) n c, .slice PB (m - 1) (e - 1)] W (MgPost W S (mergeP (fun x y => (f x y).1) (x :: a) b))) := Lib.hid (fun W g => M2 S _ _ _ _ W (fun q hq => Nat.lt_of_lt_of_le (hS q hq) g.size) (TAt.bw hT g) (kat_old ha hS g) (kat_old kb' hS g))
 have CM3 : Hid (∀ W, Bw w W → Calls Tryz.prog 100 #[.agg #[.int .i64 t.kind, .int .i64 t.size, .slice A1 rn c1, .slice A2 pn c2], .slice PA (n - 1) (c - 1), .slice PB (m - 1) (e - 1)] W (MgPost W S (mergeP (fun x y => (f x y).1) a b))) := Lib.hid (fun W g => M3 S _ _ _ _ W (fun q hq => Nat.lt_of_lt_of_le (hS q hq) g.size) (TAt.bw hT g) (kat_old ka' hS g) (kat_old kb' hS g))
 have CA : Hid (∀ W, Bw w W → Calls Tryz.prog 62 #[.agg #[.int .i64 t.kind, .int .i64 t.size, .slice A1 rn c1, .slice A2 pn c2], .agg #[.int .i64 x.n, .slice xA xn xc], .agg #[.int .i64 y.n, .slice yA yn yc]] W (AbvPost W S (f x y).1 (f x y).2)) := Lib.hid (fun W g => HA x y hox hoy S _ _ _ _ W (fun q hq => Nat.lt_of_lt_of_le (hS q hq) g.size) (TAt.bw hT g) (kat_old hxk hS g) (kat_old hyk hS g))
 have KX : Hid (∀ X W, Bw w W → KAt W (fun q => (S q ∨ X ≤ q) ∧ q < W.heap.size) (.slice xA xn xc) x.ks ∧ KAt W (fun q => (S q ∨ X ≤ q) ∧ q < W.heap.size) (.slice yA yn yc) y.ks) := Lib.hid (fun X W g => ⟨(kat_old hxk hS g).keep (fun q hq => ⟨.inl hq, Nat.lt_of_lt_of_le (hS q hq) g.size⟩) (fun _ _ => rfl), (kat_old hyk hS g).keep (fun q hq => ⟨.inl hq, Nat.lt_of_lt_of_le (hS q hq) g.size⟩) (fun _ _ => rfl)⟩)
 have HCE : Hid (∀ W, Bw w W → W.cell? ada = some (.int .i64 x.n) ∧ W.cell? ⟨ada.block, ada.off + 1, none⟩ = some (.slice xA xn xc) ∧ W.cell? adb = some (.int .i64 y.n) ∧ W.cell? ⟨adb.block, adb.off + 1, none⟩ = some (.slice yA yn yc)) := Lib.hid (fun W g => by
   have e1 : ada.add (0 * 2) = ada := by simp [Addr.add]
   have e2 : adb.add (0 * 2) = adb := by simp [Addr.add]
   rw [e1] at qa0 qa1
   rw [e2] at qb0 qb1
   exact ⟨(g.b.cell (hS _ ba)).trans qa0, (g.b.cell (p := ⟨ada.block, ada.off + 1, none⟩) (hS _ ba)).trans qa1, (g.b.cell (hS _ bb)).trans qb0, (g.b.cell (p := ⟨adb.block, adb.off + 1, none⟩) (hS _ bb)).trans qb1⟩)
 have hl1 : Hid ((mergeP (fun x y => (f x y).1) a (y :: b)).length ≤ 6561 ∧ (mergeP (fun x y => (f x y).1) (x :: a) b).length ≤ 6561 ∧ (mergeP (fun x y => (f x y).1) a b).length ≤ 6561) := Lib.hid ⟨merge_len _ 8 _ _ (by simp; omega), merge_len _ 8 _ _ (by simp; omega), merge_len _ 8 _ _ (by omega)⟩
 have hk1 : Hid ((∀ v ∈ mergeP (fun x y => (f x y).1) a (y :: b), v.ks.length ≤ 1000) ∧ (∀ v ∈ mergeP (fun x y => (f x y).1) (x :: a) b, v.ks.length ≤ 1000) ∧ (∀ v ∈ mergeP (fun x y => (f x y).1) a b, v.ks.length ≤ 1000)) := Lib.hid ⟨fun v hv => by have := merge_ks _ 8 _ _ (by simp; omega) v hv; simp only [List.length_cons] at this; omega, fun v hv => by have := merge_ks _ 8 _ _ (by simp; omega) v hv; simp only [List.length_cons] at this; omega, fun v hv => by have := merge_ks _ 8 _ _ (by omega) v hv; omega⟩
 have HRES : Hid (mergeP (fun x y => (f x y).1) (x :: a) (y :: b) = (mergeP (fun x y => (f x y).1) a (y :: b)).map (hdV x) ++ (mergeP (fun x y => (f x y).1) (x :: a) b).map (hdV y) ++ (match (f x y).1 with | [] => [] | z :: _ => (mergeP (fun x y => (f x y).1) a b).map (hdV z))) := Lib.hid (merge_cons _ x y a b)
 have HSS := Lib.hid hS
 have hba : ada.block < w.heap.size := hS _ ba
 have hbb : adb.block < w.heap.size := hS _ bb
 have hn0 : n ≠ 0 := by omega
 have hm0 : m ≠ 0 := by omega
 have qn1 : 0 < n := by omega
 have qm1 : 0 < m := by omega
 have qn2 : ¬ n = 0 := hn0
 have qm2 : ¬ m = 0 := hm0
 have qz1 : (0 : Int) < (n : Int) := by omega
 have qz2 : (1 : Int) ≤ (n : Int) := by omega
 have qz3 : (0 : Int) < (m : Int) := by omega
 have qz4 : (1 : Int) ≤ (m : Int) := by omega
 clear hT ha hb M1 M2 M3 HA hxk hyk ka' kb' qa0 qa1 qb0 qb1 eA eB hbw1 hbT hbO ba bb ln lm
 generalize mergeP (fun x y => (f x y).1) a (y :: b) = m1 at *
 generalize mergeP (fun x y => (f x y).1) (x :: a) b = m2 at *
 generalize mergeP (fun x y => (f x y).1) a b = m3 at *
 generalize mergeP (fun x y => (f x y).1) (x :: a) (y :: b) = res at *
 generalize hxv : x.n = xv at *
 generalize hyv : y.n = yv at *
 have HXV := Lib.hid (And.intro hxv hyv)
 clear hxv hyv
 generalize t.kind = kd at *
 generalize t.size = z at *
 generalize (f x y).2 = fb at *
 generalize (f x y).1 = fl at *
 unfold MgPost at CM1 CM2 CM3 ⊢
 unfold AbvPost at CA
 have dn : ((n : Int) == 0) = false := by simpa using hn0
 have dm : ((m : Int) == 0) = false := by simpa using hm0
 go_enter Tryz.func100, Tryz.ntmps100
 go_upto_region 5 with fail
 refine wp_world (fun W => Hid (Bw w W ∧ Blk W w.heap.size 29 #[.int .i64 kd, .int .i64 z, .slice A1 rn c1, .slice A2 pn c2] ∧ MgS S w.heap.size (w.heap.size + 1) W W (.slice none 0 0) [] [])) HST ?_
 intro W1 HW1
 clear HST
 have HG1 : Hid (w.heap.size + 1 < W1.heap.size) := Lib.hid HW1.out.2.2.out.lt
 have KS : Hid (∀ X, Below (w.heap.size + 1) W1 X → X.cell? ⟨w.heap.size, 0, none⟩ = some (.int .i64 kd) ∧ X.cell? ⟨w.heap.size, 1, none⟩ = some (.int .i64 z) ∧ X.cell? ⟨w.heap.size, 2, none⟩ = some (.slice A1 rn c1) ∧ X.cell? ⟨w.heap.size, 3, none⟩ = some (.slice A2 pn c2) ∧ X.cell? ada = some (.int .i64 xv) ∧ X.cell? ⟨ada.block, ada.off + 1, none⟩ = some (.slice xA xn xc) ∧ X.cell? adb = some (.int .i64 yv) ∧ X.cell? ⟨adb.block, adb.off + 1, none⟩ = some (.slice yA yn yc) ∧ Bw w X) := Lib.hid (fun X hX => by
   have g : Bw w X := Below.trans HW1.out.1 (Below.mono hX (by omega))
   have b := HW1.out.2.1.below hX (by omega)
   obtain ⟨e0, e1, e2, e3⟩ := HCE.out X g
   exact ⟨b.cell 0, b.cell 1, b.cell 2, b.cell 3, e0, e1, e2, e3, g⟩)
 have DR : Hid (∀ X, Below (w.heap.size + 1) W1 X → Below (w.heap.size + 1) W1 X.drew ∧ ∀ X', Bw X.drew X' → Below (w.heap.size + 1) W1 X') := Lib.hid (fun X h => ⟨⟨h.os, h.tape, h.output, h.size, h.block⟩, fun X' g => Below.trans (b := X.drew) ⟨h.os, h.tape, h.output, h.size, h.block⟩ (Below.mono g (by have := h.size; have := HG1.out; simp only [World.drew]; omega))⟩)
 have HB0 := Lib.hid (Below.refl (w.heap.size + 1) W1)
 have HS0 := Lib.hid HW1.out.2.2
 clear HW1
 generalize hy : w.heap.size = y0 at *
 have HY := Lib.hid hy
 have BEG : Hid (∀ (X w8 : World) (cur : Value) (l : List V) (ss : List Value) (v : V) (vA : Option Addr) (vn vc : Nat) (ml : List V) (mA : Option Addr) (mn mc : Nat), MgS S y0 (y0 + 1) W1 X cur l ss → Bw X.drew w8 → KAt w8 (fun q => (S q ∨ X.drew.heap.size ≤ q) ∧ q < w8.heap.size) (.slice vA vn vc) v.ks → KAt w8 (fun q => (S q ∨ X.drew.heap.size ≤ q) ∧ q < w8.heap.size) (.slice mA mn mc) ml → l.length + ml.length ≤ 100000 → (∀ u ∈ ml, u.ks.length ≤ 1000) →
     Calls Tryz.prog 126 #[.agg #[.int .i64 v.n, .slice vA vn vc], .slice mA mn mc, .pointer (some ⟨y0 + 1, 0, none⟩)] w8 (BegR S y0 (y0 + 1) W1 (l ++ ml.map (hdV v)))) := Lib.hid (fun X w8 cur l ss v vA vn vc ml mA mn mc hs hb kv km hl hm => MgS.begin (hs.bw (Bw.refl X).drew) (fun q hq => by have := HSS.out q hq; omega) (by omega) hb kv km hl hm)
 clear hy
 go_region_held3 (fun X => X.cell? ⟨y0, 0, none⟩ = some (.int .i64 kd) ∧ X.cell? ⟨y0, 1, none⟩ = some (.int .i64 z) ∧ X.cell? ⟨y0, 2, none⟩ = some (.slice A1 rn c1) ∧ X.cell? ⟨y0, 3, none⟩ = some (.slice A2 pn c2) ∧ X.cell? ada = some (.int .i64 xv) ∧ X.cell? ⟨ada.block, ada.off + 1, none⟩ = some (.slice xA xn xc) ∧ X.cell? adb = some (.int .i64 yv) ∧ X.cell? ⟨adb.block, adb.off + 1, none⟩ = some (.slice yA yn yc) ∧ Bw w X)
   (first | (refine KS.out _ ?_; first | exact (DR.out _ HB0.out).1 | exact HB8.out | exact HST9.out.bel))
   (first
     | (go_at_call 100; (with_reducible refine (CM1.out _ (KS.out _ (DR.out _ HB0.out).1).2.2.2.2.2.2.2.2).mono ?_); rintro e' w8 ⟨s8, rfl, hk8, hg8⟩; obtain ⟨A8, n8, c8, rfl, -, -, -⟩ := hk8.form; (have HB8 : Hid (Below (y0 + 1) W1 w8) := Lib.hid ((DR.out _ HB0.out).2 _ hg8)); (have HC8 := Lib.hid (BEG.out W1 w8 _ _ _ x xA xn xc m1 A8 n8 c8 HS0.out hg8 (KX.out _ w8 (KS.out _ HB8.out).2.2.2.2.2.2.2.2).1 hk8 (by have := hl1.out.1; simp; omega) hk1.out.1)); (have HC8 : Hid (Calls Tryz.prog 126 #[.agg #[.int .i64 xv, .slice xA xn xc], .slice A8 n8 c8, .pointer (some ⟨y0 + 1, 0, none⟩)] w8 (BegR S y0 (y0 + 1) W1 ([] ++ m1.map (hdV x)))) := Lib.hid (by have h := HC8.out; rw [HXV.out.1] at h; exact h)); clear hk8 hg8)
     | (go_at_call 126; (with_reducible refine HC8.out.mono ?_); rintro e' w9 ⟨rfl, cur9, ss9, hst9⟩; (have HST9 := Lib.hid hst9); clear hst9))
 clear HC8 HB8 CM1
 go_upto_region 6 with fail
 obtain ⟨W2, hW2⟩ : ∃ W2, W2 = w9 := ⟨_, rfl⟩
 rw [← hW2] at HST9 ⊢
 clear hW2
 have HB2 := Lib.hid HST9.out.bel
 go_region_held3 (fun X => X.cell? ⟨y0, 0, none⟩ = some (.int .i64 kd) ∧ X.cell? ⟨y0, 1, none⟩ = some (.int .i64 z) ∧ X.cell? ⟨y0, 2, none⟩ = some (.slice A1 rn c1) ∧ X.cell? ⟨y0, 3, none⟩ = some (.slice A2 pn c2) ∧ X.cell? ada = some (.int .i64 xv) ∧ X.cell? ⟨ada.block, ada.off + 1, none⟩ = some (.slice xA xn xc) ∧ X.cell? adb = some (.int .i64 yv) ∧ X.cell? ⟨adb.block, adb.off + 1, none⟩ = some (.slice yA yn yc) ∧ Bw w X)
   (first | (refine KS.out _ ?_; first | exact (DR.out _ HB2.out).1 | exact HB10.out | exact HST11.out.bel))
   (first
     | (go_at_call 100; (with_reducible refine (CM2.out _ (KS.out _ (DR.out _ HB2.out).1).2.2.2.2.2.2.2.2).mono ?_); rintro e' w10 ⟨s10, rfl, hk10, hg10⟩; obtain ⟨A10, n10, c10, rfl, -, -, -⟩ := hk10.form; (have HB10 : Hid (Below (y0 + 1) W1 w10) := Lib.hid ((DR.out _ HB2.out).2 _ hg10)); (have HC10 := Lib.hid (BEG.out W2 w10 _ _ _ y yA yn yc m2 A10 n10 c10 HST9.out hg10 (KX.out _ w10 (KS.out _ HB10.out).2.2.2.2.2.2.2.2).2 hk10 (by have := hl1.out; simp; omega) hk1.out.2.1)); (have HC10 : Hid (Calls Tryz.prog 126 #[.agg #[.int .i64 yv, .slice yA yn yc], .slice A10 n10 c10, .pointer (some ⟨y0 + 1, 0, none⟩)] w10 (BegR S y0 (y0 + 1) W1 ([] ++ m1.map (hdV x) ++ m2.map (hdV y)))) := Lib.hid (by have h := HC10.out; rw [HXV.out.2] at h; exact h)); clear hk10 hg10)
     | (go_at_call 126; (with_reducible refine HC10.out.mono ?_); rintro e' w11 ⟨rfl, cur11, ss11, hst11⟩; (have HST11 := Lib.hid hst11); clear hst11))
 clear HC10 HB10 CM2 HB2 HST9
 go_upto_region 7 with fail
 obtain ⟨W3, hW3⟩ : ∃ W3, W3 = w11 := ⟨_, rfl⟩
 rw [← hW3] at HST11 ⊢
 clear hW3
 have HB3 := Lib.hid HST11.out.bel
 go_region_held3 (fun X => X.cell? ⟨y0, 0, none⟩ = some (.int .i64 kd) ∧ X.cell? ⟨y0, 1, none⟩ = some (.int .i64 z) ∧ X.cell? ⟨y0, 2, none⟩ = some (.slice A1 rn c1) ∧ X.cell? ⟨y0, 3, none⟩ = some (.slice A2 pn c2) ∧ X.cell? ada = some (.int .i64 xv) ∧ X.cell? ⟨ada.block, ada.off + 1, none⟩ = some (.slice xA xn xc) ∧ X.cell? adb = some (.int .i64 yv) ∧ X.cell? ⟨adb.block, adb.off + 1, none⟩ = some (.slice yA yn yc) ∧ Bw w X)
   (first | (refine KS.out _ ?_; first | exact (DR.out _ HB3.out).1 | exact HB12.out))
   (first
     | (go_at_call 62; (with_reducible refine (CA.out _ (KS.out _ (DR.out _ HB3.out).1).2.2.2.2.2.2.2.2).mono ?_); rintro e' w12 ⟨s12, rfl, hk12, hg12⟩; obtain ⟨A12, n12, c12, rfl, l12, b12, -⟩ := hk12.form; (have HB12 : Hid (Below (y0 + 1) W1 w12) := Lib.hid ((DR.out _ HB3.out).2 _ hg12)); (have HK12 := Lib.hid hk12); (have HG12 := Lib.hid hg12); clear hk12 hg12))
 have HS12 : Hid (MgS S y0 (y0 + 1) W1 w12 cur11 ([] ++ m1.map (hdV x) ++ m2.map (hdV y)) ss11) := Lib.hid ((HST11.out.bw (Bw.refl _).drew).bw HG12.out)
 clear CA
 have FIN : Hid (∀ (X : World) (cur : Value) (l : List V) (ss : List Value), MgS S y0 (y0 + 1) W1 X cur l ss → KAt X (fun q => (S q ∨ y0 ≤ q) ∧ q < X.heap.size) cur l ∧ Bw w X) := Lib.hid (fun X cur l ss h => ⟨(h.row.kat (fun q hq => ⟨.inr (by omega), by omega⟩)).keep (fun q hq => ⟨hq.1.1, hq.2⟩) (fun _ _ => rfl), (KS.out X h.bel).2.2.2.2.2.2.2.2⟩)
 rcases hfl : fl with _ | ⟨zv, r⟩
 · have HE : Hid (res = [] ++ m1.map (hdV x) ++ m2.map (hdV y)) := Lib.hid (by rw [HRES.out, hfl]; simp)
   have hn12 : n12 = 0 := by rw [hfl] at l12; simpa using l12.symm
   subst hn12
   obtain ⟨vA, vc, ecur, _, _⟩ := HS12.out.row.form
   have o0 := HS12.out.out.cell 0
   rw [ecur] at o0
   have HECUR := Lib.hid ecur
   clear HRES HK12 hfl ecur HST11
   generalize ([] ++ m1.map (hdV x) ++ m2.map (hdV y)).length = ll at *
   go_wp2_with fail
   go_ret
   obtain ⟨f1, f2⟩ := FIN.out _ _ _ _ HS12.out
   rw [HE.out, ← HECUR.out, HY.out]
   exact ⟨_, rfl, f1, f2⟩
 have HE : Hid (res = [] ++ m1.map (hdV x) ++ m2.map (hdV y) ++ m3.map (hdV zv)) := Lib.hid (by rw [HRES.out, hfl]; simp)
 have hn12 : n12 = r.length + 1 := by rw [hfl] at l12; simpa using l12.symm
 have qz5 : (0 : Int) < (n12 : Int) := by omega
 have qz6 : 0 < n12 := by omega
 have qz7 : ¬ n12 = 0 := by omega
 have hk12 := HK12.out
 rw [hfl] at hk12
 obtain ⟨adz, zA, zn, zc, rfl, bz, qz0, qz8, -, hzk⟩ := hk12.at_ (k := 0) (by simp)
 have ez : adz.add (0 * 2) = adz := by simp [Addr.add]
 simp only [List.getElem_cons_zero] at qz0 hzk
 rw [ez] at qz0 qz8
 have HZ : Hid (∀ X, Bw w12 X → X.cell? adz = some (.int .i64 zv.n) ∧ X.cell? ⟨adz.block, adz.off + 1, none⟩ = some (.slice zA zn zc) ∧ KAt X (fun q => (S q ∨ W3.drew.heap.size ≤ q) ∧ q < X.heap.size) (.slice zA zn zc) zv.ks) := Lib.hid (fun X g => ⟨(g.b.cell bz.2).trans qz0, (g.b.cell (p := ⟨adz.block, adz.off + 1, none⟩) bz.2).trans qz8, hzk.keep (fun q hq => ⟨hq.1, Nat.lt_of_lt_of_le hq.2 g.size⟩) (fun q hq => g.b.cell hq.2)⟩)
 clear HRES HK12 hfl hk12 hzk qz0 qz8 ez bz l12 b12
 generalize hzn : zv.n = zn0 at *
 have HZN := Lib.hid hzn
 clear hzn
 have KZ : Hid (∀ X, Bw w12 X → X.cell? ⟨y0, 0, none⟩ = some (.int .i64 kd) ∧ X.cell? ⟨y0, 1, none⟩ = some (.int .i64 z) ∧ X.cell? ⟨y0, 2, none⟩ = some (.slice A1 rn c1) ∧ X.cell? ⟨y0, 3, none⟩ = some (.slice A2 pn c2) ∧ X.cell? adz = some (.int .i64 zn0) ∧ X.cell? ⟨adz.block, adz.off + 1, none⟩ = some (.slice zA zn zc) ∧ Bw w X) := Lib.hid (fun X g => by
   have hb : Below (y0 + 1) W1 X := HB12.out.trans (Below.mono g (by have := HB12.out.size; have := HG1.out; omega))
   obtain ⟨k0, k1, k2, k3, -, -, -, -, k8⟩ := KS.out X hb
   exact ⟨k0, k1, k2, k3, (HZ.out X g).1, (HZ.out X g).2.1, k8⟩)
 obtain ⟨k0, k1, k2, k3, k4, k5, -⟩ := KZ.out w12 (Bw.refl _)
 go_upto_region 9 with fail
 have HSZ : Hid (W3.drew.heap.size ≤ w12.heap.size) := Lib.hid HG12.out.size
 go_region_law (first
   | (go_simp; go_at_call 100; refine (CM3.out _ (by exact (KZ.out w12 (Bw.refl _)).2.2.2.2.2.2.drewN _)).mono ?_; rintro e' w13 ⟨s13, rfl, hk13, hg13⟩; obtain ⟨A13, n13, c13, rfl, -, -, -⟩ := hk13.form; (have HG13 : Hid (Bw w12 w13) := Lib.hid (((Bw.refl w12).drewN _).trans hg13)); (obtain ⟨-, -, -, -, u4, u5, -⟩ := KZ.out w13 HG13.out); (have HC13 := Lib.hid (BEG.out W3 w13 _ _ _ zv zA zn zc m3 A13 n13 c13 HST11.out (HG12.out.trans HG13.out) (HZ.out w13 HG13.out).2.2 (KAt.keep hk13 (fun q hq => ⟨hq.1.imp id (fun h => Nat.le_trans HSZ.out h), hq.2⟩) (fun _ _ => rfl)) (by have := hl1.out; simp; omega) hk1.out.2.2)); (have HC13 : Hid (Calls Tryz.prog 126 #[.agg #[.int .i64 zn0, .slice zA zn zc], .slice A13 n13 c13, .pointer (some ⟨y0 + 1, 0, none⟩)] w13 (BegR S y0 (y0 + 1) W1 ([] ++ m1.map (hdV x) ++ m2.map (hdV y) ++ m3.map (hdV zv)))) := Lib.hid (by have h := HC13.out; rw [HZN.out] at h; exact h)); clear hk13 hg13)
   | (go_simp; go_at_call 126; refine HC13.out.mono ?_; rintro e' w14 ⟨rfl, cur14, ss14, hst14⟩; (have HST14 := Lib.hid hst14); clear hst14))
 all_goals
   obtain ⟨vA, vc, ecur, _, _⟩ := HST14.out.row.form
   have o0 := HST14.out.out.cell 0
   rw [ecur] at o0
   have HECUR := Lib.hid ecur
   clear ecur HC13
   generalize ([] ++ m1.map (hdV x) ++ m2.map (hdV y) ++ m3.map (hdV zv)).length = ll at *
   go_wp2_with fail
   go_ret
   obtain ⟨f1, f2⟩ := FIN.out _ _ _ _ HST14.out
   rw [HE.out, ← HECUR.out, HY.out]
   exact ⟨_, rfl, f1, f2⟩
end Go.Proofs.YtbmheekaclmibaaGreat
