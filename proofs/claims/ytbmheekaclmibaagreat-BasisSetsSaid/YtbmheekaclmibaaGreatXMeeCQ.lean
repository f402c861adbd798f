/- Part of a proof of basisSets_holds. -/
import Derived.Test.YtbmheekaclmibaaGreatXMeeBQ
set_option maxRecDepth 100000
set_option maxHeartbeats 16000000
namespace Go.Proofs.YtbmheekaclmibaaGreat
open Go.RowKit
set_option linter.unusedSimpArgs false
set_option linter.unusedVariables false
def AboveSays (t : T) (ok : V → Bool) (f : V → V → List V × Bool) : Prop := ∀ (a b : V), ok a = true → ok b = true → ∀ (S : Nat → Prop) (rv pv s1 s2 : Value) (W : World), (∀ x, S x → x < W.heap.size) → TB W W.heap.size rv pv t → KAt W S s1 a.ks → KAt W S s2 b.ks → Calls Tryz.prog 62 #[aggT t rv pv, aggV a s1, aggV b s2] W (AbvPost W S (f a b).1 (f a b).2)
theorem KAt.oneAt {W : World} {g : Nat} {T : TypeId} {v : V} {s : Value} {S : Nat → Prop} (hg : g = W.heap.size) (hS : S g) (hk : KAt (W.alloc (.cells #[.int .i64 v.n, s] T)) S s v.ks) : KAt (W.alloc (.cells #[.int .i64 v.n, s] T)) S (.slice (some ⟨g, 0, none⟩) 1 1) [v] := by
 subst hg; exact KAt.one (Blk.new _ _ _) hS hk
def abv1 (a b : V) : List V × Bool := ([.mk (max a.n b.n) []], false)
def abv2 (a b : V) : List V × Bool := (if a.n = b.n then [a] else [], false)
theorem babove_k1 (t : T) (ok : V → Bool) (hk : t.kind = 1) : AboveSays t ok abv1 := by
 intro a b ha hb S rv pv s1 s2 w hS hT h1 h2
 obtain ⟨A, n, c, rfl, _, _, _⟩ := h1.form
 obtain ⟨B, m, e, rfl, _, _, _⟩ := h2.form
 obtain ⟨A1, rn, c1, rfl, _, _⟩ := hT.1.form'
 obtain ⟨A2, pn, c2, rfl, _, _, _⟩ := hT.2.form
 show Calls _ _ _ _ (AbvPost w S [.mk (max a.n b.n) []] false)
 unfold aggT aggV
 rw [hk]
 have HB := Lib.hid (boxes3 w (.int .i64 1) (.int .i64 t.size) (.slice A1 rn c1) (.slice A2 pn c2) (.int .i64 a.n) (.slice A n c) (.int .i64 b.n) (.slice B m e)).1
 clear h1 h2 hT hk ha hb
 generalize a.n = x at *
 generalize b.n = y at *
 generalize t.size = z at *
 go_enter Tryz.func62, Tryz.ntmps62
 go_wp2
 go_ret2
 exact ⟨_, rfl, KAt.oneAt (v := .mk (max x y) []) (by simp) ⟨.inr (by omega), by simp⟩ (KAt.nil _ _ (Nat.zero_le _)), HB.out.alloc _⟩
theorem babove_k2 (t : T) (ok : V → Bool) (hk : t.kind = 2) : AboveSays t ok abv2 := by
 intro a b ha hb S rv pv s1 s2 w hS hT h1 h2
 obtain ⟨A, n, c, rfl, _, _, _⟩ := h1.form
 obtain ⟨B, m, e, rfl, _, _, _⟩ := h2.form
 obtain ⟨A1, rn, c1, rfl, _, _⟩ := hT.1.form'
 obtain ⟨A2, pn, c2, rfl, _, _, _⟩ := hT.2.form
 show Calls _ _ _ _ (AbvPost w S (if a.n = b.n then [a] else []) false)
 unfold aggT aggV
 rw [hk]
 have HB := Lib.hid (boxes3 w (.int .i64 2) (.int .i64 t.size) (.slice A1 rn c1) (.slice A2 pn c2) (.int .i64 a.n) (.slice A n c) (.int .i64 b.n) (.slice B m e)).1
 have HK := Lib.hid h1
 have HSS := Lib.hid hS
 have hx : Hid (∃ x, x = a.n) := Lib.hid ⟨_, rfl⟩
 obtain ⟨x, hx⟩ := hx.out
 have HX := Lib.hid hx
 rw [← hx] at HB ⊢
 clear h1 h2 hT hk ha hb hx hS
 generalize b.n = y at *
 generalize t.size = z at *
 by_cases hxy : x = y
 · rw [if_pos hxy]
   subst hxy
   have d1 : (x != x) = false := by simp
   go_enter Tryz.func62, Tryz.ntmps62
   go_wp2
   go_ret2
   refine ⟨_, rfl, ?_, HB.out.alloc _⟩
   have := KAt.oneAt (v := a) (s := .slice A n c) (T := 39) (g := w.heap.size + 1 + 1 + 1) (W := ((w.alloc (.cells #[.int .i64 2, .int .i64 z, .slice A1 rn c1, .slice A2 pn c2] 29)).alloc (.cells #[.int .i64 x, .slice A n c] 39)).alloc (.cells #[.int .i64 x, .slice B m e] 39)) (S := fun b => (S b ∨ w.heap.size ≤ b) ∧ b < w.heap.size + 1 + 1 + 1 + 1) (by simp) ⟨.inr (by omega), by omega⟩ (HK.out.keep (fun b hb => ⟨.inl hb, by have := HSS.out _ hb; omega⟩) (fun p hp => (HB.out.alloc _).b.cell (HSS.out _ hp)))
   rw [← HX.out] at this
   exact this.keep (fun b hb => by simpa using hb) (fun _ _ => rfl)
 · rw [if_neg hxy]
   have d1 : (x != y) = true := by simpa using hxy
   go_enter Tryz.func62, Tryz.ntmps62
   go_wp2
   go_ret2
   exact ⟨_, rfl, KAt.nil _ _ (Nat.zero_le _), HB.out⟩
theorem infoVals : (Tryz.prog.info? 31).map (fun i => (i.zero, i.size, i.bytes)) = some (some (.slice none 0 0), 1, 24) := by kernel_rfl
structure LRow (w : World) (Q : Nat → Prop) (B : Nat) (v : Value) (ls : List (List V)) (ss : List Value) : Prop where
 own : w.ownsRow B 31 1 v ls.length ss
 kid : ∀ k (h : k < ls.length) (h' : k < ss.length), KAt w (fun b => Q b ∧ b < w.heap.size ∧ v.ownBlock ≠ some b) ss[k] ls[k]
section
variable {w A W : World} {Q : Nat → Prop} {B : Nat} {v v' : Value} {ls : List (List V)} {ss : List Value}
theorem LRow.nil (w : World) (Q : Nat → Prop) (B : Nat) : LRow w Q B (.slice none 0 0) [] [] := ⟨World.ownsRow_nil _ _ _ _, fun k h => absurd h (by simp)⟩
theorem LRow.len (h : LRow w Q B v ls ss) : ss.length = ls.length := by have := h.own.1; omega
theorem LRow.form (h : LRow w Q B v ls ss) : ∃ A c, v = .slice A ls.length c ∧ ls.length ≤ c ∧ c ≤ maxLen := own_bounds h.own
theorem LRow.bw (h : LRow A Q B v ls ss) (hg : Bw A W) : LRow W Q B v ls ss :=
 ⟨h.own.kept hg.gr (by rcases hv : v.ownBlock with _ | k <;> simp [hv]), fun k h1 h2 => (h.kid k h1 h2).keep (fun b hb => ⟨hb.1, Nat.lt_of_lt_of_le hb.2.1 hg.size, hb.2.2⟩) (fun p hp => hg.b.cell hp.2.1)⟩
theorem LRow.push (h : LRow A Q B v ls ss) {x : List V} {s : Value} (hs : KAt A (fun b => Q b ∧ b < A.heap.size ∧ v.ownBlock ≠ some b) s x) (hown : W.ownsRow B 31 1 v' (ls.length + 1) (ss ++ [s])) (hg : A.grownBy W v.ownBlock) (hv : v'.ownBlock = v.ownBlock ∨ v'.ownBlock = some A.heap.size) :
   LRow W Q B v' (ls ++ [x]) (ss ++ [s]) := by
 have key : ∀ {s : Value} {x : List V}, KAt A (fun b => Q b ∧ b < A.heap.size ∧ v.ownBlock ≠ some b) s x → KAt W (fun b => Q b ∧ b < W.heap.size ∧ v'.ownBlock ≠ some b) s x := fun h => h.keep (fun b hb => ⟨hb.1, Nat.lt_of_lt_of_le hb.2.1 hg.size, by
   rcases hv with e | e
   · rw [e]; exact hb.2.2
   · rw [e]; intro e2; injection e2 with e2; have := hb.2.1; omega⟩) (fun p hp => World.cell?_of_block (hg.block p.block hp.2.1 (fun e => hp.2.2 e.symm)))
 have hl := h.len
 refine ⟨by simpa using hown, fun k h1 h2 => ?_⟩
 by_cases hk : k < ls.length
 · have := key (h.kid k hk (by rw [hl]; exact hk))
   rw [List.getElem_append_left hk, List.getElem_append_left (by rw [hl]; exact hk)]
   exact this
 · obtain rfl : k = ls.length := by simp at h1; omega
   have e1 : (ls ++ [x])[ls.length]'(by simp) = x := by simp
   have e2 : (ss ++ [s])[ls.length]'(by simp [hl]) = s := by simp [← hl]
   rw [e1, e2]
   exact key hs
theorem LRow.lat (h : LRow w Q B v ls ss) (hQ : ∀ b, B ≤ b → Q b) : LAt w (fun b => Q b ∧ b < w.heap.size) v ls := by
 obtain ⟨A, c, rfl, h1, h2⟩ := h.form
 refine ⟨A, _, c, ss, rfl, rfl, h.len, h1, h2, fun hn => ?_, fun k hk hk' => (h.kid k hk hk').keep (fun b hb => ⟨hb.1, hb.2.1⟩) (fun _ _ => rfl)⟩
 obtain ⟨g, rfl, h3, h4, h5, h6⟩ := own_at h.own hn
 exact ⟨_, rfl, ⟨hQ _ h4, h5⟩, fun k hk => h6 k _ (List.getElem?_eq_getElem hk)⟩
end
theorem reads_new1v (W : World) (t : TypeId) (s : Value) : Reads (W.alloc (.cells #[s] t)) (W.heap.size + 1) 1 (some ⟨W.heap.size, 0, none⟩) 1 [s] := reads_blk (n := 1) (Blk.new W t #[s]) (by omega) rfl
def abvAcc (f : T → V → V → List V × Bool) : List (List V) → Bool → List T → List V → List V → Option (List (List V) × Bool)
 | acc, o, p :: ps, a :: ys, b :: bs => if (f p a b).1.isEmpty && !(f p a b).2 then none else abvAcc f (acc ++ [(f p a b).1]) (o || (f p a b).2) ps ys bs
 | acc, o, _, _, _ => some (acc, o)
def abvEnd : Option (List (List V) × Bool) → List V × Bool
 | none => ([], false)
 | some (ls, o) => if o then ([], true) else tuplesP ls
def abv3 (f : T → V → V → List V × Bool) (ps : List T) (a b : V) : List V × Bool := abvEnd (abvAcc f [] false ps a.ks b.ks)
theorem abv_step {f : T → V → V → List V × Bool} {ps : List T} {xs ys : List V} {k : Nat} (acc : List (List V)) (o : Bool) (h1 : k < ps.length) (h2 : k < xs.length) (h3 : k < ys.length) :
   abvAcc f acc o (ps.drop k) (xs.drop k) (ys.drop k) = if (f ps[k] xs[k] ys[k]).1.isEmpty && !(f ps[k] xs[k] ys[k]).2 then none else abvAcc f (acc ++ [(f ps[k] xs[k] ys[k]).1]) (o || (f ps[k] xs[k] ys[k]).2) (ps.drop (k + 1)) (xs.drop (k + 1)) (ys.drop (k + 1)) := by
 rw [List.drop_eq_getElem_cons h1, List.drop_eq_getElem_cons h2, List.drop_eq_getElem_cons h3]
 rfl
theorem tupGo_length : ∀ (ls : List (List V)) (out o : List V), out.length ≤ 256 → tupGo out ls = some o → o.length ≤ 256
 | [], out, o, h, e => by simp only [tupGo, Option.some.injEq] at e; subst e; exact h
 | l :: r, out, o, h, e => by
   simp only [tupGo] at e
   by_cases hb : 256 < out.length * l.length
   · rw [if_pos hb] at e; cases e
   · rw [if_neg hb] at e
     exact tupGo_length r _ o (by rw [tupStep_length]; omega) e
theorem tuples_length (ls : List (List V)) : (tuplesP ls).1.length ≤ 256 := by
 unfold tuplesP
 split
 · simp
 · split
   · simp
   · rename_i o h
     exact tupGo_length ls _ o (by simp) h
theorem babove_k3 (t : T) (ok : V → Bool) (ok' : T → V → Bool) (f : T → V → V → List V × Bool) (hk : t.kind = 3) (hp8 : t.parts.length ≤ 8)
   (hok : ∀ v, ok v = true → v.ks.length = t.parts.length ∧ ∀ k (h : k < t.parts.length) (h' : k < v.ks.length), ok' t.parts[k] v.ks[k] = true) (hlen : ∀ p ∈ t.parts, ∀ a b, ok' p a = true → ok' p b = true → (f p a b).1.length ≤ 1000000) (ih : ∀ p ∈ t.parts, AboveSays p (ok' p) (f p)) : AboveSays t ok (abv3 f t.parts) := by
 intro a b ha hb S rv pv s1 s2 w hS hT h1 h2
 obtain ⟨la, oa⟩ := hok a ha
 obtain ⟨lb, ob⟩ := hok b hb
 obtain ⟨A, n, c, rfl, ln1, _, mn1⟩ := h1.form
 obtain ⟨B, m, e, rfl, ln2, _, mn2⟩ := h2.form
 obtain ⟨A1, rn, c1, rfl, _, _⟩ := hT.1.form'
 obtain ⟨A2, pn, c2, rfl, ln3, _, mn3⟩ := hT.2.form
 unfold maxLen at mn1 mn2 mn3
 obtain rfl : n = pn := by omega
 obtain rfl : m = n := by omega
 have hm8 : m ≤ 8 := by omega
 have HIH := Lib.hid ih
 have HP := Lib.hid hT.2
 have HK1 := Lib.hid h1
 have HK2 := Lib.hid h2
 have LN1 := Lib.hid ln1
 have LN2 := Lib.hid ln2
 have LN3 := Lib.hid ln3
 have HOA := Lib.hid oa
 have HOB := Lib.hid ob
 have HLN := Lib.hid hlen
 have HB := Lib.hid (boxes3 w (.int .i64 3) (.int .i64 t.size) (.slice A1 rn c1) (.slice A2 m c2) (.int .i64 a.n) (.slice A m c) (.int .i64 b.n) (.slice B m e))
 have CT : Hid (∀ (S' : Nat → Prop) ls s W, ls.length ≤ 8 → (∀ l ∈ ls, l.length ≤ 1000000) → (∀ x, S' x → x < W.heap.size) → LAt W S' s ls → Calls Tryz.prog 101 #[s] W (AbvPost W S' (tuplesP ls).1 (tuplesP ls).2)) := Lib.hid (fun S' ls s W h1 h2 h3 h => btuples_any ls (by omega) h2 S' s W h3 h)
 have HSS := Lib.hid hS
 show Calls _ _ _ _ (AbvPost w S (abv3 f t.parts a b).1 (abv3 f t.parts a b).2)
 unfold aggT aggV
 rw [hk]
 have HZ : Hid (abv3 f t.parts a b = abvEnd (abvAcc f [] false (t.parts.drop 0) (a.ks.drop 0) (b.ks.drop 0))) := Lib.hid rfl
 clear h1 h2 hT hS ln1 ln2 ln3 hk ih la lb oa ob hok ha hb hlen hp8
 generalize hz : abv3 f t.parts a b = q at *
 clear hz
 generalize a.n = x at *
 generalize b.n = y at *
 generalize t.size = z at *
 obtain ⟨i0, hi, hz0, hz1, hz2⟩ := info_parts infoVals
 have hW3 : (((w.alloc (.cells #[.int .i64 3, .int .i64 z, .slice A1 rn c1, .slice A2 m c2] 29)).alloc (.cells #[.int .i64 x, .slice A m c] 39)).alloc (.cells #[.int .i64 y, .slice B m e] 39)).heap.size = w.heap.size + 3 := by simp
 have HW3 := Lib.hid hW3
 clear hW3
 go_enter Tryz.func62, Tryz.ntmps62
 go_wp2_with fail
 go_loopw [9, 10, 55] (fun s9 s10 i wr => ∃ (k : Nat) (o : Bool), k ≤ m ∧ i = .int .i64 k ∧ s10 = .bool o ∧ Hid (∃ acc ss, LRow wr (fun x => S x ∨ w.heap.size ≤ x) (w.heap.size + 3) s9 acc ss ∧ (∀ l ∈ acc, l.length ≤ 1000000) ∧ acc.length ≤ k ∧ Bw (((w.alloc (.cells #[.int .i64 3, .int .i64 z, .slice A1 rn c1, .slice A2 m c2] 29)).alloc (.cells #[.int .i64 x, .slice A m c] 39)).alloc (.cells #[.int .i64 y, .slice B m e] 39)) wr ∧ q = abvEnd (abvAcc f acc o (t.parts.drop k) (a.ks.drop k) (b.ks.drop k)))) (fun _ _ i _ => m - (intOf i).toNat)
 case atStart => exact ⟨0, false, by omega, rfl, rfl, Lib.hid ⟨[], [], LRow.nil _ _ _, by simp, by simp, Bw.refl _, HZ.out⟩⟩
 case round =>
   obtain ⟨k, o, hk, rfl, rfl, HR⟩ := hrel
   obtain ⟨acc, ss, hrow, hal, hac, hg, hq⟩ := HR.out
   obtain ⟨VA, vc, rfl, vb1, vb2⟩ := hrow.form
   have HROW := Lib.hid hrow
   have HAL := Lib.hid hal
   have HAC := Lib.hid hac
   obtain ⟨hw, b1, b2, b3⟩ := HB.out
   have hgw := hw.trans hg
   have k2' := b2.below hg.b b2.lt
   have k3' := b3.below hg.b b3.lt
   have HW := Lib.hid hgw
   have HG := Lib.hid hg
   have hs3 : w.heap.size + 3 ≤ wr.heap.size := by have := hg.size; rw [HW3.out] at this; exact this
   by_cases hlt : k < m
   · have e1 : k < a.ks.length := by rw [LN1.out]; exact hlt
     have e2 : k < b.ks.length := by rw [LN2.out]; exact hlt
     have e3 : k < t.parts.length := by rw [LN3.out]; exact hlt
     obtain ⟨ad, sA, sn, sc, rfl, hb, q0, q1, _, hs⟩ := (KAt.keep (w' := wr) (S' := S) HK1.out (fun _ h => h) (fun p hp => hgw.b.cell (HSS.out _ hp))).at_ e1
     obtain ⟨ae, sB, sm, se, rfl, hb3, r0, r1, _, hs2⟩ := (KAt.keep (w' := wr) (S' := S) HK2.out (fun _ h => h) (fun p hp => hgw.b.cell (HSS.out _ hp))).at_ e2
     obtain ⟨ad2, A3, n3, c3, A4, n4, c4, rfl, hb2, y0, y1, y2, y3, hT2⟩ := (HP.out.bw hgw).at_ e3
     have CM : Hid (∀ W, Bw wr W → Calls Tryz.prog 62 #[.agg #[.int .i64 t.parts[k].kind, .int .i64 t.parts[k].size, .slice A3 n3 c3, .slice A4 n4 c4], .agg #[.int .i64 a.ks[k].n, .slice sA sn sc], .agg #[.int .i64 b.ks[k].n, .slice sB sm se]] W (AbvPost W S (f t.parts[k] a.ks[k] b.ks[k]).1 (f t.parts[k] a.ks[k] b.ks[k]).2)) := Lib.hid (fun W g => HIH.out _ (List.getElem_mem e3) _ _ (HOA.out k e3 e1) (HOB.out k e3 e2) S _ _ _ _ _ (fun x hx => Nat.lt_of_lt_of_le (HSS.out _ hx) (Nat.le_trans hgw.size g.size)) (TAt.bw hT2 g) (hs.keep (fun _ h => h) (fun p hp => g.b.cell (Nat.lt_of_lt_of_le (HSS.out _ hp) hgw.size))) (hs2.keep (fun _ h => h) (fun p hp => g.b.cell (Nat.lt_of_lt_of_le (HSS.out _ hp) hgw.size))))
     have HSB : Hid (∀ x, S x → x < wr.heap.size) := Lib.hid (fun x hx => Nat.lt_of_lt_of_le (HSS.out _ hx) hgw.size)
     have HL6 : Hid ((f t.parts[k] a.ks[k] b.ks[k]).1.length ≤ 1000000) := Lib.hid (HLN.out _ (List.getElem_mem e3) _ _ (HOA.out k e3 e1) (HOB.out k e3 e2))
     have HZ2 := Lib.hid (hq.trans (congrArg abvEnd (abv_step acc o e3 e1 e2)))
     have p2 := k2'.cell 1
     have p3 := k3'.cell 1
     have z2 := k2'.lt
     have z3 := k3'.lt
     clear hs hs2 hT2 hq b1 b2 b3 hgw hw HR k2' k3' hrow hal hac
     generalize f t.parts[k] a.ks[k] b.ks[k] = r at *
     obtain ⟨rl, ro⟩ := r
     dsimp only at CM HL6 HZ2
     generalize a.ks[k].n = xk at *
     generalize b.ks[k].n = yk at *
     generalize t.parts[k].kind = pk at *
     generalize t.parts[k].size = pz at *
     clear hg
     go_wp2_with fail
     refine wp_world (fun W => Hid (Bw wr W ∧ Blk W wr.heap.size 29 #[.int .i64 pk, .int .i64 pz, .slice A3 n3 c3, .slice A4 n4 c4])) (Lib.hid ⟨(Bw.refl _).alloc _, Blk.new _ _ _⟩) ?_
     intro W HW2
     obtain ⟨hg, k3⟩ := HW2.out
     have hs1 := hg.size
     have z4 := k3.lt
     have KS : Hid (∀ w', Bw W w' → w'.cell? ⟨w.heap.size + 1, 1, none⟩ = some (.slice (some ad) m c) ∧ w'.cell? ⟨w.heap.size + 2, 1, none⟩ = some (.slice (some ae) m e) ∧ w'.cell? ⟨wr.heap.size, 0, none⟩ = some (.int .i64 pk) ∧ w'.cell? ⟨wr.heap.size, 1, none⟩ = some (.int .i64 pz) ∧ w'.cell? ⟨wr.heap.size, 2, none⟩ = some (.slice A3 n3 c3) ∧ w'.cell? ⟨wr.heap.size, 3, none⟩ = some (.slice A4 n4 c4) ∧
         w'.cell? (ad.add (k * 2)) = some (.int .i64 xk) ∧ w'.cell? ⟨(ad.add (k * 2)).block, (ad.add (k * 2)).off + 1, none⟩ = some (.slice sA sn sc) ∧ w'.cell? (ae.add (k * 2)) = some (.int .i64 yk) ∧ w'.cell? ⟨(ae.add (k * 2)).block, (ae.add (k * 2)).off + 1, none⟩ = some (.slice sB sm se) ∧ Bw W w') := Lib.hid (fun w' g =>
       ⟨((hg.trans g).b.cell (p := ⟨w.heap.size + 1, 1, none⟩) z2).trans p2, ((hg.trans g).b.cell (p := ⟨w.heap.size + 2, 1, none⟩) z3).trans p3, (g.b.cell (p := ⟨wr.heap.size, 0, none⟩) z4).trans (k3.cell 0), (g.b.cell (p := ⟨wr.heap.size, 1, none⟩) z4).trans (k3.cell 1), (g.b.cell (p := ⟨wr.heap.size, 2, none⟩) z4).trans (k3.cell 2), (g.b.cell (p := ⟨wr.heap.size, 3, none⟩) z4).trans (k3.cell 3),
        ((hg.trans g).b.cell (by rw [add_block]; exact HSB.out _ hb)).trans q0, ((hg.trans g).b.cell (by simp only [add_block]; exact HSB.out _ hb)).trans q1, ((hg.trans g).b.cell (by rw [add_block]; exact HSB.out _ hb3)).trans r0, ((hg.trans g).b.cell (by simp only [add_block]; exact HSB.out _ hb3)).trans r1, g⟩)
     have CM2 : Hid (∀ W', Bw W W' → Calls Tryz.prog 62 #[.agg #[.int .i64 pk, .int .i64 pz, .slice A3 n3 c3, .slice A4 n4 c4], .agg #[.int .i64 xk, .slice sA sn sc], .agg #[.int .i64 yk, .slice sB sm se]] W' (AbvPost W' S rl ro)) := Lib.hid (fun W' g => CM.out _ (hg.trans g))
     have HG2 := Lib.hid hg
     clear hg k3 HW2 p2 p3 q0 q1 r0 r1 y0 y1 y2 y3 CM
     generalize hzz : wr.heap.size = yy at *
     have HZZ := Lib.hid hzz
     clear hzz
     go_region_held3 (fun w' => w'.cell? ⟨w.heap.size + 1, 1, none⟩ = some (.slice (some ad) m c) ∧ w'.cell? ⟨w.heap.size + 2, 1, none⟩ = some (.slice (some ae) m e) ∧ w'.cell? ⟨yy, 0, none⟩ = some (.int .i64 pk) ∧ w'.cell? ⟨yy, 1, none⟩ = some (.int .i64 pz) ∧ w'.cell? ⟨yy, 2, none⟩ = some (.slice A3 n3 c3) ∧ w'.cell? ⟨yy, 3, none⟩ = some (.slice A4 n4 c4) ∧
         w'.cell? (ad.add (k * 2)) = some (.int .i64 xk) ∧ w'.cell? ⟨(ad.add (k * 2)).block, (ad.add (k * 2)).off + 1, none⟩ = some (.slice sA sn sc) ∧ w'.cell? (ae.add (k * 2)) = some (.int .i64 yk) ∧ w'.cell? ⟨(ae.add (k * 2)).block, (ae.add (k * 2)).off + 1, none⟩ = some (.slice sB sm se) ∧ Bw W w') (first | (refine KS.out _ ?_; first | exact (Bw.refl _).drew | exact (Bw.refl _).drew.trans hg6)) (first | (go_at_call 62; (with_reducible refine (CM2.out _ (Bw.refl _).drew).mono ?_); rintro e w' ⟨s6, rfl, hk6, hg6⟩; obtain ⟨A6, n6, c6, rfl, ln6, bn6, mn6⟩ := hk6.form))
     have HG6 : Hid (Bw wr w') := Lib.hid (HG2.out.trans ((Bw.refl _).drew.trans hg6))
     have HK6 : Hid (KAt w' (fun x => (S x ∨ yy ≤ x) ∧ x < w'.heap.size) (.slice A6 n6 c6) rl) := Lib.hid (hk6.keep (fun x hx => ⟨hx.1.imp id (fun h => Nat.le_trans hs1 h), hx.2⟩) (fun _ _ => rfl))
     have LN6 := Lib.hid ln6
     have hy6 : yy ≤ w'.heap.size := by have := HG6.out.size; rw [HZZ.out] at this; exact this
     unfold maxLen at mn6
     clear hg6 hk6 ln6 hb hb3 hb2
     by_cases hend : n6 = 0 ∧ ro = false
     · obtain ⟨rfl, rfl⟩ := hend
       have HF : Hid (q = ([], false)) := Lib.hid (by
         rw [HZ2.out, if_pos (by rw [List.isEmpty_iff.2 (List.length_eq_zero_iff.1 LN6.out)]; rfl)]
         rfl)
       go_wp2
       go_ret2
       rw [HF.out]
       exact ⟨_, rfl, KAt.nil _ _ (Nat.zero_le _), HW.out.trans HG6.out⟩
     · have HF : Hid (q = abvEnd (abvAcc f (acc ++ [rl]) (o || ro) (t.parts.drop (k + 1)) (a.ks.drop (k + 1)) (b.ks.drop (k + 1)))) := Lib.hid (by
         rw [HZ2.out, if_neg (fun h => hend ?_)]
         rw [Bool.and_eq_true, List.isEmpty_iff] at h
         exact ⟨by rw [← LN6.out, h.1]; rfl, by simpa using h.2⟩)
       have PUSH : Hid (∀ w7 A7 c7, w7.ownsRow (w.heap.size + 3) 31 1 (.slice A7 (acc.length + 1) c7) (acc.length + 1) (ss ++ [.slice A6 n6 c6]) → (w'.alloc (.cells #[.slice A6 n6 c6] 31)).grownBy w7 (Value.slice VA acc.length vc).ownBlock → ((Value.slice A7 (acc.length + 1) c7).ownBlock = (Value.slice VA acc.length vc).ownBlock ∨ (Value.slice A7 (acc.length + 1) c7).ownBlock = some (w'.alloc (.cells #[.slice A6 n6 c6] 31)).heap.size) →
           ∃ acc' ss', LRow w7 (fun x => S x ∨ w.heap.size ≤ x) (w.heap.size + 3) (.slice A7 (acc.length + 1) c7) acc' ss' ∧ (∀ l ∈ acc', l.length ≤ 1000000) ∧ acc'.length ≤ k + 1 ∧ Bw (((w.alloc (.cells #[.int .i64 3, .int .i64 z, .slice A1 rn c1, .slice (some ad2) m c2] 29)).alloc (.cells #[.int .i64 x, .slice (some ad) m c] 39)).alloc (.cells #[.int .i64 y, .slice (some ae) m e] 39)) w7 ∧ q = abvEnd (abvAcc f acc' (o || ro) (t.parts.drop (k + 1)) (a.ks.drop (k + 1)) (b.ks.drop (k + 1)))) := Lib.hid (by
         intro w7 A7 c7 ho hg hl
         have hlt : ∀ b, (Value.slice VA acc.length vc).ownBlock = some b → w.heap.size + 3 ≤ b ∧ b < yy := fun b e => by have := HROW.out.own.lt b e; rw [HZZ.out] at this; exact this
         have h1 := (HROW.out.bw HG6.out).bw ((Bw.refl w').alloc (.cells #[.slice A6 n6 c6] 31))
         refine ⟨acc ++ [rl], ss ++ [.slice A6 n6 c6], h1.push ?_ ho hg hl, fun l hl => ?_, by have := HAC.out; simp; omega, ?_, HF.out⟩
         · refine HK6.out.keep (fun b hb => ⟨hb.1.imp id (fun h => by omega), by have := hb.2; simp; omega, fun e => ?_⟩) (fun p hp => World.cell?_alloc_lt w' _ p hp.2)
           have h2 := hlt b e
           rcases hb.1 with h | h
           · have := HSS.out b h; omega
           · omega
         · rcases List.mem_append.1 hl with hl | hl
           · exact HAL.out l hl
           · obtain rfl := List.mem_singleton.1 hl; exact HL6.out
         · exact bw_gb ((HG.out.trans HG6.out).alloc _) hg (fun r e => by rw [HW3.out]; exact (hlt r e).1))
       have HROW6 : Hid (LRow w' (fun x => S x ∨ w.heap.size ≤ x) (w.heap.size + 3) (.slice VA acc.length vc) acc ss) := Lib.hid (HROW.out.bw HG6.out)
       have hlen8 : acc.length ≤ 8 := by have := HAC.out; omega
       clear HF HZ2
       rcases Nat.eq_zero_or_pos n6 with h0 | h0
       · obtain rfl : ro = true := by
           rcases ro with _ | _
           · exact absurd ⟨h0, rfl⟩ hend
           · rfl
         subst h0
         clear hend
         rcases o with _ | _
         all_goals
           go_wp2_with (at_builtin; refine wpList_append_any _ rfl _ _ 107 rfl (w.heap.size + 3) 31 i0 _ 1 24 Tryz.underlying107 hi hz0 hz1 hz2 rfl (by decide) (.slice VA acc.length vc) acc.length ss rfl (HROW6.out.own.alloc (.cells #[.slice A6 0 c6] 31)) (w'.heap.size + 1) (some ⟨w'.heap.size, 0, none⟩) 1 1 [.slice A6 0 c6] rfl (reads_new1v w' _ _) (by simp [Value.oneCell']) (by unfold maxLen; omega) (by omega) (by simp; omega) ?_; intro v7 w7 hown7 hgr7 hl7; obtain ⟨A7, c7, rfl⟩ := own_form hown7; (have HP7 := Lib.hid (PUSH.out w7 A7 c7 hown7 hgr7 hl7)); clear hown7 hgr7 hl7)
           go_roundw
           case rel => exact ⟨k + 1, _, by omega, by go_num, rfl, HP7⟩
           case measure => simp [intOf]; omega
       · have d1 : ((n6 : Int) == 0) = false := by simp; omega
         have d2 : ¬ n6 = 0 := by omega
         clear hend
         rcases ro with _ | _ <;> rcases o with _ | _
         all_goals
           go_wp2_with (at_builtin; refine wpList_append_any _ rfl _ _ 107 rfl (w.heap.size + 3) 31 i0 _ 1 24 Tryz.underlying107 hi hz0 hz1 hz2 rfl (by decide) (.slice VA acc.length vc) acc.length ss rfl (HROW6.out.own.alloc (.cells #[.slice A6 n6 c6] 31)) (w'.heap.size + 1) (some ⟨w'.heap.size, 0, none⟩) 1 1 [.slice A6 n6 c6] rfl (reads_new1v w' _ _) (by simp [Value.oneCell']) (by unfold maxLen; omega) (by omega) (by simp; omega) ?_; intro v7 w7 hown7 hgr7 hl7; obtain ⟨A7, c7, rfl⟩ := own_form hown7; (have HP7 := Lib.hid (PUSH.out w7 A7 c7 hown7 hgr7 hl7)); clear hown7 hgr7 hl7)
           go_roundw
           case rel => exact ⟨k + 1, _, by omega, by go_num, rfl, HP7⟩
           case measure => simp [intOf]; omega
   · obtain rfl : k = m := by omega
     have hq2 : q = abvEnd (some (acc, o)) := by
       rw [hq, List.drop_eq_nil_of_le (by rw [LN3.out]; omega)]; rfl
     rcases o with _ | _
     · have HF : Hid (q = tuplesP acc) := Lib.hid (by rw [hq2]; rfl)
       have CTW := Lib.hid (CT.out (fun b => (S b ∨ w.heap.size ≤ b) ∧ b < wr.heap.size) acc _ wr (by omega) hal (fun x hx => hx.2) (hrow.lat (fun b hb => .inr (by omega))))
       clear hrow hal hac hq hq2 HR b1 b2 b3 k2' k3'
       generalize acc.length = al at *
       unfold AbvPost at CTW
       go_wp2_with (go_at_call 101; go_must (refine CTW.out.mono ?_; rintro e w6 ⟨s6, rfl, hk6, hg6⟩; obtain ⟨A6, n6, c6, rfl, _, _, _⟩ := hk6.form; (have HK6 := Lib.hid hk6); (have HG6 := Lib.hid hg6); clear hk6 hg6))
       go_ret2
       rw [HF.out]
       exact ⟨_, rfl, HK6.out.keep (fun x hx => ⟨hx.1.elim (fun h => h.1) (fun h => .inr (by have := HW.out.size; omega)), hx.2⟩) (fun _ _ => rfl), HW.out.trans HG6.out⟩
     · have HF : Hid (q = ([], true)) := Lib.hid (by rw [hq2]; rfl)
       clear hrow hal hac hq hq2 HR b1 b2 b3 k2' k3'
       go_wp2
       go_ret2
       rw [HF.out]
       exact ⟨_, rfl, KAt.nil _ _ (Nat.zero_le _), HW.out⟩
end Go.Proofs.YtbmheekaclmibaaGreat
