/- Part of a proof of pruneKeeps_holds. -/
import Derived.Test.YthhbkabdhkdafaaGreatVAmP
import Derived.Test.YthhbkabdhkdafaaGreatVAlP
import Derived.Test.YthhbkabdhkdafaaGreatVAnP
import Derived.WalkSmall
set_option linter.unusedSimpArgs false
set_option linter.unusedVariables false
set_option maxRecDepth 100000
set_option maxHeartbeats 16000000
namespace Go.Proofs.YthhbkabdhkdafaaGreat
section
open Go.RowKit
theorem own_iat {w : World} {B e n c : Nat} {A : Option Addr} {cs : List Int} (h : w.ownsRow B e 1 (.slice A n c) n (intVs cs)) : IAt w (fun b => B ≤ b ∧ b < w.heap.size) (.slice A n c) cs := by
 have hl : cs.length = n := by have := h.1; simpa [intVs] using this
 obtain ⟨A', c', e', h1, h2⟩ := own_bounds h
 injection e' with _ _ e'
 subst e'
 refine ⟨A, n, c, rfl, hl, h1, h2, fun hn => ?_⟩
 obtain ⟨g, cap, e1, hb, hlt⟩ := h.form hn
 injection e1 with e1 _ e2
 subst e1 e2
 refine ⟨_, rfl, ⟨hb, hlt⟩, fun k hk => ?_⟩
 rw [add_zero_blk, h.cellAt k (by omega), intVs, List.getElem?_map, List.getElem?_eq_getElem hk]
 rfl
abbrev RR := Rul × Value × Value
def encR : Enc RR := ⟨14, fun x => rlCells x.1 x.2.1 x.2.2, fun _ => rfl, fun _ => []⟩
theorem own_iat2 {w : World} {B e : Nat} {v : Value} {cs : List Int} (h : w.ownsRow B e 1 v cs.length (intVs cs)) : IAt w (fun b => B ≤ b ∧ b < w.heap.size) v cs := by
 obtain ⟨A, c, rfl, _, _⟩ := own_bounds h
 exact own_iat h
structure RulO (w : World) (B : Nat) (v : Value) (ps : List RR) : Prop where
 own : w.ownsRow B 75 14 v ps.length (ps.flatMap encR.enc)
 int : ∀ q ∈ ps, w.ownsRow B 3 1 q.2.1 q.1.need.length (intVs q.1.need) ∧ w.ownsRow B 3 1 q.2.2 q.1.give.length (intVs q.1.give)
section
variable {w w' A W : World} {B : Nat} {v v' : Value} {ps : List RR}
theorem RulO.nil (w : World) (B : Nat) : RulO w B (.slice none 0 0) [] := ⟨World.ownsRow_nil _ _ _ _, fun q hq => by cases hq⟩
theorem RulO.bw (h : RulO w B v ps) (g : Bw w w') : RulO w' B v ps := ⟨own_kept_below h.own g, fun q hq => ⟨own_kept_below (h.int q hq).1 g, own_kept_below (h.int q hq).2 g⟩⟩
theorem RulO.push (h : RulO A B v ps) (q : RR) (hown : W.ownsRow B 75 14 v' (ps.length + 1) (ps.flatMap encR.enc ++ encR.enc q)) (hg : A.grownBy W v.ownBlock)
   (h1 : A.ownsRow B 3 1 q.2.1 q.1.need.length (intVs q.1.need)) (h2 : A.ownsRow B 3 1 q.2.2 q.1.give.length (intVs q.1.give)) : RulO W B v' (ps ++ [q]) := by
 refine ⟨by rw [List.length_append, List.flatMap_append]; simpa using hown, fun x hx => ?_⟩
 rcases List.mem_append.1 hx with hx | hx
 · exact ⟨own_kept_grow (h.int x hx).1 h.own (by decide) hg, own_kept_grow (h.int x hx).2 h.own (by decide) hg⟩
 · obtain rfl := List.mem_singleton.1 hx
   exact ⟨own_kept_grow h1 h.own (by decide) hg, own_kept_grow h2 h.own (by decide) hg⟩
theorem RulO.at_ (h : RulO w B v ps) : RlsAt w (fun b => B ≤ b ∧ b < w.heap.size) v (ps.map (·.1)) := by
 have he : ERow encR w 75 B (fun _ => False) v ps := ⟨h.own, fun x _ q hq => by cases hq⟩
 obtain ⟨Ad, n, c, rfl, h2, h3, h4, h5, _⟩ := he.eat (S := fun b => B ≤ b ∧ b < w.heap.size) (fun b hb => hb.elim) (fun b hb => h.own.lt b hb)
 refine ⟨Ad, n, c, ps.map (·.2.1), ps.map (·.2.2), rfl, by simp [h2], h3, h4, by simp [h2], by simp [h2], fun hn => ?_, fun k a b c' => ?_⟩
 · obtain ⟨ad, e, hs, hc⟩ := h5 hn
   refine ⟨ad, e, hs, fun k a b c' j u hu => ?_⟩
   have ha : k < ps.length := by simpa using a
   simp only [List.getElem_map] at hu
   have hj : j < 14 := by
     have := (List.getElem?_eq_some_iff.1 hu).1
     simpa [rlCells] using this
   exact hc _ _ ((flat_get encR (xs := ps) (k := k) (j := j) ha hj).trans hu)
 · have ha : k < ps.length := by simpa using a
   have hq := h.int ps[k] (List.getElem_mem ha)
   simp only [List.getElem_map]
   exact ⟨own_iat2 hq.1, own_iat2 hq.2⟩
end
theorem infoRule : (Tryz.prog.info? 75).map (fun i => (i.zero, i.size, i.bytes)) = some (some (.agg #[.string ⟨#[]⟩, .int .i64 0, .int .i64 0, .slice none 0 0, .slice none 0 0, .slice none 0 0, .int .i64 0, .int .i64 0, .int .i64 0, .slice none 0 0, .slice none 0 0, .slice none 0 0, .slice none 0 0, .int .i64 0]), 14, 232) := by kernel_rfl
theorem blk10 {W : World} {b : Nat} {t : TypeId} {u0 u1 u2 u3 u4 u5 u6 u7 u8 u9 v0 v1 v2 v3 v4 v5 v6 v7 v8 v9 : Value} (h : Blk W b t #[u0, u1, u2, u3, u4, u5, u6, u7, u8, u9]) : Blk ((((((((((W.setCell ⟨b, 0, none⟩ v0).setCell ⟨b, 1, none⟩ v1).setCell ⟨b, 2, none⟩ v2).setCell ⟨b, 3, none⟩ v3).setCell ⟨b, 4, none⟩ v4).setCell ⟨b, 5, none⟩ v5).setCell ⟨b, 6, none⟩ v6).setCell ⟨b, 7, none⟩ v7).setCell ⟨b, 8, none⟩ v8).setCell ⟨b, 9, none⟩ v9) b t #[v0, v1, v2, v3, v4, v5, v6, v7, v8, v9] ∧ W.grownBy ((((((((((W.setCell ⟨b, 0, none⟩ v0).setCell ⟨b, 1, none⟩ v1).setCell ⟨b, 2, none⟩ v2).setCell ⟨b, 3, none⟩ v3).setCell ⟨b, 4, none⟩ v4).setCell ⟨b, 5, none⟩ v5).setCell ⟨b, 6, none⟩ v6).setCell ⟨b, 7, none⟩ v7).setCell ⟨b, 8, none⟩ v8).setCell ⟨b, 9, none⟩ v9) (some b) := by
 have h1 := h.set_ 0 v0
 have h2 := h1.set_ 1 v1
 have h3 := h2.set_ 2 v2
 have h4 := h3.set_ 3 v3
 have h5 := h4.set_ 4 v4
 have h6 := h5.set_ 5 v5
 have h7 := h6.set_ 6 v6
 have h8 := h7.set_ 7 v7
 have h9 := h8.set_ 8 v8
 have h10 := h9.set_ 9 v9
 exact ⟨by simpa using h10, (grownBy_setCell (p := ⟨b, 9, none⟩) (grownBy_setCell (p := ⟨b, 8, none⟩) (grownBy_setCell (p := ⟨b, 7, none⟩) (grownBy_setCell (p := ⟨b, 6, none⟩) (grownBy_setCell (p := ⟨b, 5, none⟩) (grownBy_setCell (p := ⟨b, 4, none⟩) (grownBy_setCell (p := ⟨b, 3, none⟩) (grownBy_setCell (p := ⟨b, 2, none⟩) (grownBy_setCell (p := ⟨b, 1, none⟩) (grownBy_setCell (p := ⟨b, 0, none⟩) (World.grownBy.refl W (some b)) (.inl rfl) v0) (.inl rfl) v1) (.inl rfl) v2) (.inl rfl) v3) (.inl rfl) v4) (.inl rfl) v5) (.inl rfl) v6) (.inl rfl) v7) (.inl rfl) v8) (.inl rfl) v9)⟩
theorem bw_gbM {a b c : World} {row : Option Nat} (h : Bw a b) (hg : b.grownBy c row) (hr : ∀ r, row = some r → a.heap.size ≤ r) : Bw a c := Below.grown h hg h.size hr
theorem RulO.put {w w' : World} {B k : Nat} {v : Value} {ps : List RR} (h : RulO w B v ps) (g : w.grownBy w' (some k)) (hk : k < B) : RulO w' B v ps := by
 have key : ∀ {e size n : Nat} {v : Value} {xs : List Value}, w.ownsRow B e size v n xs → w'.ownsRow B e size v n xs := fun {e size n v xs} ho => ho.kept g (by
   rcases hb : v.ownBlock with _ | j
   · exact .inl rfl
   · refine .inr (fun e => ?_)
     injection e with e
     have := (ho.lt j hb).1
     omega)
 exact ⟨key h.own, fun q hq => ⟨key (h.int q hq).1, key (h.int q hq).2⟩⟩
theorem own_put {w w' : World} {B k e size n : Nat} {v : Value} {xs : List Value} (ho : w.ownsRow B e size v n xs) (g : w.grownBy w' (some k)) (hk : k < B) : w'.ownsRow B e size v n xs := ho.kept g (by
   rcases hb : v.ownBlock with _ | j
   · exact .inl rfl
   · refine .inr (fun e => ?_)
     injection e with e
     have := (ho.lt j hb).1
     omega)
theorem reads_new14 (W : World) (cs : List Value) (h : cs.length = 14) : Reads (W.alloc (.cells cs.toArray 75)) (W.heap.size + 1) 14 (some ⟨W.heap.size, 0, none⟩) 1 cs := by
 have := reads_blk (n := 1) (size := 14) (B := W.heap.size + 1) (Blk.new W 75 cs.toArray) (Nat.lt_succ_self _) (by simpa using h)
 simpa using this
def MxAt (w : World) (S : Nat → Prop) (v : Value) (rs : List (List Int)) : Prop :=
 ∃ A n c, ∃ hs : List Value, v = .slice A n c ∧ rs.length = n ∧ n ≤ c ∧ c ≤ maxLen ∧ hs.length = n ∧ (0 < n → ∃ ad, A = some ad ∧ S ad.block ∧ ∀ k (h : k < hs.length), w.cell? (ad.add k) = some hs[k]) ∧ ∀ k (h : k < hs.length) (h' : k < rs.length), IAt w S hs[k] rs[k]
section
variable {w w' A W : World} {S S' : Nat → Prop} {v v' : Value} {rs : List (List Int)} {B : Nat}
theorem MxAt.form (h : MxAt w S v rs) : ∃ A c, v = .slice A rs.length c ∧ rs.length ≤ c ∧ c ≤ maxLen := by
 obtain ⟨A, n, c, hs, rfl, rfl, h3, h4, _⟩ := h
 exact ⟨A, c, rfl, h3, h4⟩
theorem MxAt.keep (h : MxAt w S v rs) (hS : ∀ b, S b → S' b) (hk : ∀ p : Addr, S p.block → w'.cell? p = w.cell? p) : MxAt w' S' v rs := by
 obtain ⟨A, n, c, hs, h1, h2, h3, h4, h5, h6, h7⟩ := h
 refine ⟨A, n, c, hs, h1, h2, h3, h4, h5, fun hn => ?_, fun k a b => (h7 k a b).keep hS hk⟩
 obtain ⟨ad, e, hs', hc⟩ := h6 hn
 exact ⟨ad, e, hS _ hs', fun k h => (hk _ (by rw [add_block]; exact hs')).trans (hc k h)⟩
theorem MxAt.bw (h : MxAt w (· < w.heap.size) v rs) (g : Bw w w') : MxAt w' (· < w'.heap.size) v rs := h.keep (fun b hb => Nat.lt_of_lt_of_le hb g.size) (fun p hp => g.b.cell hp)
theorem MxAt.at_ {A : Option Addr} {n c : Nat} (h : MxAt w S (.slice A n c) rs) {k : Nat} (hk : k < rs.length) : ∃ ad rA rc, A = some ad ∧ S ad.block ∧ w.cell? (ad.add k) = some (.slice rA rs[k].length rc) ∧ IAt w S (.slice rA rs[k].length rc) rs[k] := by
 obtain ⟨A', n', c', hs, e, h2, h3, h4, h5, h6, h7⟩ := h
 injection e with e1 e2 e3
 subst e1 e2 e3
 obtain ⟨ad, e, hsb, hc⟩ := h6 (by omega)
 have hi := h7 k (by omega) hk
 have hcc := hc k (by omega)
 obtain ⟨rA, rn, rc, e3, e4, _⟩ := hi.form
 rw [e3] at hi hcc
 subst e4
 exact ⟨ad, rA, rc, e, hsb, hcc, hi⟩
structure MxO (w : World) (B : Nat) (v : Value) (ps : List (List Int × Value)) : Prop where
 own : w.ownsRow B 27 1 v ps.length (ps.map (·.2))
 kid : ∀ p ∈ ps, IAt w (fun b => B ≤ b ∧ b < w.heap.size ∧ v.ownBlock ≠ some b) p.2 p.1
theorem MxO.nil (w : World) (B : Nat) : MxO w B (.slice none 0 0) [] := ⟨World.ownsRow_nil _ _ _ _, fun p h => by cases h⟩
theorem MxO.bw {ps : List (List Int × Value)} (h : MxO w B v ps) (g : Bw w w') : MxO w' B v ps := ⟨own_kept_below h.own g, fun p hp => (h.kid p hp).keep (fun b hb => ⟨hb.1, Nat.lt_of_lt_of_le hb.2.1 g.size, hb.2.2⟩) (fun q hq => g.b.cell hq.2.1)⟩
theorem MxO.push {ps : List (List Int × Value)} (h : MxO A B v ps) {r : List Int} {s : Value} (hs : IAt A (fun b => B ≤ b ∧ b < A.heap.size ∧ v.ownBlock ≠ some b) s r) (hown : W.ownsRow B 27 1 v' (ps.length + 1) (ps.map (·.2) ++ [s])) (hg : A.grownBy W v.ownBlock) (hv : v'.ownBlock = v.ownBlock ∨ v'.ownBlock = some A.heap.size) : MxO W B v' (ps ++ [(r, s)]) := by
 refine ⟨by simpa using hown, fun p hp => ?_⟩
 have key : ∀ {s r}, IAt A (fun b => B ≤ b ∧ b < A.heap.size ∧ v.ownBlock ≠ some b) s r → IAt W (fun b => B ≤ b ∧ b < W.heap.size ∧ v'.ownBlock ≠ some b) s r := fun h => h.keep (fun b hb => ⟨hb.1, Nat.lt_of_lt_of_le hb.2.1 hg.size, fun e => by
   rcases hv with e1 | e1
   · exact hb.2.2 (e1 ▸ e)
   · rw [e1] at e; injection e with e; have := hb.2.1; omega⟩) (fun p hp => World.cell?_of_block (hg.block p.block hp.2.1 (fun e => hp.2.2 e.symm)))
 rcases List.mem_append.1 hp with hp | hp
 · exact key (h.kid p hp)
 · rw [List.mem_singleton.1 hp]; exact key hs
theorem MxO.at_ {ps : List (List Int × Value)} (h : MxO w B v ps) : MxAt w (fun b => B ≤ b ∧ b < w.heap.size) v (ps.map (·.1)) := by
 obtain ⟨Ad, c, rfl, h1, h2⟩ := own_bounds h.own
 refine ⟨Ad, ps.length, c, ps.map (·.2), rfl, by simp, h1, h2, by simp, fun hn => ?_, fun k a b => ?_⟩
 · obtain ⟨g, rfl, h3, h4, h5, h6⟩ := own_at h.own hn
   exact ⟨_, rfl, h.own.lt g h3, fun k hk => h6 k _ (List.getElem?_eq_getElem hk)⟩
 · have hk : k < ps.length := by simpa using a
   simp only [List.getElem_map]
   exact (h.kid _ (List.getElem_mem hk)).keep (fun b hb => ⟨hb.1, hb.2.1⟩) (fun _ _ => rfl)
end
def IdxPost (w : World) (zs : List ByteArray) (x : ByteArray) (e : Ending) (w' : World) : Prop := ∃ r : Int, e = .returned (.int .i64 r) ∧ decide (0 ≤ r) = zs.any (fun z => z.data.toList == x.data.toList) ∧ r ≤ 100000 ∧ -1 ≤ r ∧ w = w'
theorem toList_data (s : ByteArray) : s.toList = s.data.toList := by
 have : ∀ (n i : Nat) (r : List UInt8), s.size - i ≤ n → ByteArray.toList.loop s i r = r.reverse ++ s.data.toList.drop i := by
   intro n
   induction n with
   | zero =>
     intro i r h
     rw [ByteArray.toList.loop, if_neg (by omega)]
     rw [List.drop_of_length_le (show s.data.toList.length ≤ i from by show s.size ≤ i; omega)]
     simp
   | succ n ih =>
     intro i r h
     rw [ByteArray.toList.loop]
     by_cases hi : i < s.size
     · rw [if_pos hi, ih (i + 1) _ (by omega), List.drop_eq_getElem_cons (show i < s.data.toList.length from hi)]
       simp [ByteArray.get!]
       rw [getElem!_pos s.data i hi]
     · rw [if_neg hi, List.drop_of_length_le (show s.data.toList.length ≤ i from by show s.size ≤ i; omega)]
       simp
 have h := this s.size 0 [] (by omega)
 rw [ByteArray.toList, h]; simp
theorem str_eq_dec (a b : ByteArray) : (a.toList == b.toList) = (a.data.toList == b.data.toList) := by rw [toList_data, toList_data]
theorem idxStr_any (A : Option Addr) (n c : Nat) (zs : List ByteArray) (x : ByteArray) (w : World) (B : Nat) (hz : zs.length = n) (hn : n ≤ 100000) (h : Reads w B 1 A n (zs.map Value.string)) :
   Calls Tryz.prog 289 #[.slice A n c, .string x] w (IdxPost w zs x) := by
 have H := Lib.hid h
 have HZ := Lib.hid hz
 clear h hz
 go_enter Tryz.func289, Tryz.ntmps289
 go_wp2
 go_loop [8] (fun i => ∃ k : Nat, k ≤ n ∧ i = .int .i64 k ∧ (zs.take k).any (fun z => z.data.toList == x.data.toList) = false) (fun i => n - (intOf i).toNat)
 case atStart => exact ⟨0, by omega, rfl, rfl⟩
 case round =>
   obtain ⟨k, hk, rfl, hno⟩ := hrel
   have HNO := Lib.hid hno
   clear hno
   by_cases hlt : k < n
   · obtain ⟨ad, u, rfl, hb, hu, hc⟩ := H.out.at_ hlt
     have hkz : k < zs.length := by rw [HZ.out]; exact hlt
     obtain rfl : u = .string (zs[k]'hkz) := by
       rw [List.getElem?_map, List.getElem?_eq_getElem hkz] at hu
       injection hu with hu; exact hu.symm
     have HT : Hid (zs.take (k + 1) = zs.take k ++ [zs[k]'hkz]) := Lib.hid (List.take_succ_eq_append_getElem hkz)
     have HM : Hid (zs[k]'hkz ∈ zs) := Lib.hid (List.getElem_mem hkz)
     clear hu
     generalize zs[k]'hkz = z at *
     by_cases he : x.data.toList = z.data.toList
     · have c1 : (x.toList == z.toList) = true := by rw [str_eq_dec]; simpa using he
       have HE := Lib.hid he
       clear he
       go_wp2
       go_ret
       refine ⟨k, rfl, ?_, by omega, by omega, rfl⟩
       rw [decide_eq_true (by omega)]
       symm
       rw [List.any_eq_true]
       exact ⟨z, HM.out, by simp [HE.out]⟩
     · have c1 : (x.toList == z.toList) = false := by rw [str_eq_dec]; simpa using he
       have HE := Lib.hid he
       clear he
       go_wp2
       go_round
       case rel =>
         refine ⟨k + 1, by omega, by go_num, ?_⟩
         rw [HT.out, List.any_append, HNO.out]
         simp only [List.any_cons, List.any_nil, Bool.or_false, Bool.false_or, beq_eq_false_iff_ne, ne_eq]
         exact fun e => HE.out e.symm
       case measure => simp [intOf]; omega
   · obtain rfl : k = n := by omega
     go_wp2
     go_ret
     refine ⟨-1, rfl, ?_, by omega, by omega, rfl⟩
     have := HNO.out
     rw [List.take_of_length_le (by rw [HZ.out]; exact Nat.le_refl _)] at this
     rw [this]; decide
theorem contStr_any (A : Option Addr) (n c : Nat) (zs : List ByteArray) (x : ByteArray) (w : World) (B : Nat) (hz : zs.length = n) (hn : n ≤ 100000) (h : Reads w B 1 A n (zs.map Value.string)) (b : Bool) (hb : zs.any (fun z => z.data.toList == x.data.toList) = b) :
   Calls Tryz.prog 225 #[.slice A n c, .string x] w fun e w' => e = .returned (.bool b) ∧ w = w' := by
 have HI := Lib.hid (idxStr_any A n c zs x w B hz hn h)
 have HB := Lib.hid hb
 clear h hz hb
 go_enter Tryz.func225, Tryz.ntmps225
 go_wp2_with (go_at_call 289; go_must (refine HI.out.mono ?_; rintro e w' ⟨r, rfl, hr, _, _, rfl⟩; (have HR := Lib.hid hr); clear hr))
 go_ret
 exact ⟨ret_bool (by rw [← HB.out, ← HR.out]), rfl⟩
theorem bvalid1_any (t : T) [Nonempty (FlatT t)] (v : V) (g : Nat) (rv pv s : Value) (W : World) (hg : Blk W g 50 #[.int .i64 t.kind, .int .i64 t.size, rv, pv]) (hT : TB W W.heap.size rv pv t) (h : KB W W.heap.size s v.ks) :
   Calls Tryz.prog 177 (#[.agg #[.int .i64 v.n, s]] ++ #[.pointer (some ⟨g, 0, none⟩)]) W (BoolPost W (!validP t v)) := by
 obtain ⟨A, n, c, rfl, _, _, _⟩ := h.form
 obtain ⟨A1, rn, c1, rfl, _, _⟩ := hT.1.form'
 obtain ⟨A2, pn, c2, rfl, _, _, _⟩ := hT.2.form
 have OV : Hid (∀ W', Bw W W' → Calls Tryz.prog 54 #[.agg #[.int .i64 t.kind, .int .i64 t.size, .slice A1 rn c1, .slice A2 pn c2], .agg #[.int .i64 v.n, .slice A n c]] W' (BoolPost W' (validP t v))) := Lib.hid (fun W' g => ovalid_any t v _ _ _ W' (TAt.bw hT g) (h.bw g) _ rfl)
 have q0 := hg.cell 0
 have q1 := hg.cell 1
 have q2 := hg.cell 2
 have q3 := hg.cell 3
 have q4 := hg.lt
 clear hg hT h
 generalize validP t v = q at *
 generalize v.n = x at *
 generalize t.kind = k at *
 generalize t.size = z at *
 go_enter Tryz.func177, Tryz.ntmps177
 go_wp2_with (go_at_call 54; go_must (refine (OV.out _ ((Bw.refl _).alloc _)).mono ?_; rintro e w6 ⟨rfl, hg6⟩; have HG6 := Lib.hid hg6; clear hg6))
 go_ret
 exact ⟨rfl, ((Bw.refl _).alloc _).trans HG6.out⟩
theorem bvalid_any (t : T) [Nonempty (FlatT t)] (l : List V) (rv pv s : Value) (w : World) (hT : TB w w.heap.size rv pv t) (h : KB w w.heap.size s l) :
   Calls Tryz.prog 114 #[.agg #[.int .i64 t.kind, .int .i64 t.size, rv, pv], s] w (BoolPost w (l.all (validP t))) := by
 obtain ⟨A, n, c, rfl, _, _, _⟩ := h.form
 obtain ⟨A1, rn, c1, rfl, _, _⟩ := hT.1.form'
 obtain ⟨A2, pn, c2, rfl, _, _, _⟩ := hT.2.form
 have CF : Hid (Calls Tryz.prog 174 #[.slice A n c, .func (.func 177) #[] #[.pointer (some ⟨w.heap.size, 0, none⟩)]] (w.alloc (.cells #[.int .i64 t.kind, .int .i64 t.size, .slice A1 rn c1, .slice A2 pn c2] 50)) (BoolPost (w.alloc (.cells #[.int .i64 t.kind, .int .i64 t.size, .slice A1 rn c1, .slice A2 pn c2] 50)) (l.any fun v => !validP t v))) := Lib.hid (by
   have hb := Blk.new w 50 #[.int .i64 t.kind, .int .i64 t.size, .slice A1 rn c1, .slice A2 pn c2]
   exact contVal_any l _ 177 _ (enters_of Tryz.func177 (by kernel_rfl) rfl) _ _ (h.bw ((Bw.refl _).alloc _)) (fun v _ s' W hg hk => bvalid1_any t v _ _ _ s' W (hb.below hg.b hb.lt) (TAt.bw hT (((Bw.refl _).alloc _).trans hg)) hk))
 have HA : Hid ((!(l.any fun v => !validP t v)) = l.all (validP t)) := Lib.hid (by rw [List.all_eq_not_any_not])
 rw [← HA.out]
 clear hT h HA
 generalize (l.any fun v => !validP t v) = q at *
 generalize t.kind = k at *
 generalize t.size = z at *
 go_enter Tryz.func114, Tryz.ntmps114
 go_wp2_with (go_at_call 174; go_must (refine CF.out.mono ?_; rintro e w6 ⟨rfl, hg6⟩; have HG6 := Lib.hid hg6; clear hg6))
 go_ret
 exact ⟨rfl, ((Bw.refl _).alloc _).trans HG6.out⟩
end
end Go.Proofs.YthhbkabdhkdafaaGreat
