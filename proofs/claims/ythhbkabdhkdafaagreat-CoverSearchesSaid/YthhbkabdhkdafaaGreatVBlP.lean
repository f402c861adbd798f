/- Part of a proof of coverSearches_holds. -/
import Derived.Test.YthhbkabdhkdafaaGreatVBiP
import Derived.Test.YthhbkabdhkdafaaGreatVBkP
set_option linter.unusedSimpArgs false
set_option linter.unusedVariables false
set_option maxRecDepth 100000
set_option maxHeartbeats 16000000
namespace Go.Proofs.YthhbkabdhkdafaaGreat
section
open Go.RowKit
section
variable {m : Mdl} {x : V}
def restL (m : Mdl) (x : V) (r : Int) (s : Sk) : Sk × Int := if r < 0 then lookR m.t x 0 m.rs s else lookR m.t x r.toNat (m.rs.drop r.toNat) s
theorem restL_start (s : Sk) : restL m x (-1) s = restL m x 0 s := by simp [restL]
theorem restL_end {r : Int} (h : (m.rs.length : Int) ≤ r) (s : Sk) : restL m x r s = (s, 0) := by
 unfold restL
 rw [if_neg (by omega), List.drop_eq_nil_of_le (by omega)]; rfl
theorem restL_step {r : Int} (h0 : 0 ≤ r) (h : r < (m.rs.length : Int)) (s : Sk) : restL m x r s = if (addAll m.t s r x (predI m r x)).2 ≠ 0 then addAll m.t s r x (predI m r x) else restL m x (r + 1) (addAll m.t s r x (predI m r x)).1 := by
 obtain ⟨k, rfl⟩ := Int.eq_ofNat_of_zero_le h0
 have hk : k < m.rs.length := by omega
 have e : predI m (k : Int) x = predR m.rs[k] x := by
   unfold predI
   rw [if_neg (by omega), Int.toNat_natCast, List.getElem?_eq_getElem hk]
 unfold restL
 have e2 : ¬ ((k : Int) < 0) := by omega
 rw [e, if_neg e2, Int.toNat_natCast, show ((k : Int) + 1).toNat = k + 1 by omega, List.drop_eq_getElem_cons hk, lookR]
 have e3 : ¬ ((k : Int) + 1 < 0) := by omega
 simp only [e3, if_false]
theorem restL_nil {r : Int} (h0 : -1 ≤ r) (h : r < (m.rs.length : Int)) (hp : predI m r x = []) {s : Sk} : restL m x r s = restL m x (r + 1) s := by
 by_cases h1 : r < 0
 · obtain rfl : r = -1 := by omega
   rw [restL_start]; rfl
 · rw [restL_step (by omega) h, hp]
   have e : addAll m.t s r x [] = (s, 0) := rfl
   rw [e]; simp
theorem addAll_nil (t : T) (s : Sk) (r : Int) : addAll t s r x [] = (s, 0) := rfl
theorem addAll_one (t : T) (s : Sk) (r : Int) (y : V) : addAll t s r x [y] = addS t s y r x := by
 rw [addAll]
 split
 · rfl
 · rename_i h
   simp only [ne_eq, Decidable.not_not] at h
   rw [addAll_nil, ← h]
theorem lookS_cons {s : Sk} {fr : List V} (h : s.fr = x :: fr) : lookS m s = if s.ba.any (fun b => cmpV b x == 0) then restL m x (-1) ⟨s.ba, s.og, fr, s.us + 1⟩ else (⟨s.ba, s.og, fr, s.us + 1⟩, 0) := by
 unfold lookS
 rw [h]
 rw [restL_start]
 rfl
theorem idxP_lt {p : V → Bool} {l : List V} : idxP p l < 0 ↔ l.any p = false := by
 unfold idxP
 split
 · rename_i h; rw [h]; simp
 · rename_i h; simp at h ⊢; exact h
end
def AddSays (m : Mdl) : Prop := ∀ (s : Sk) (hs : SkOk m s) (v x : V) (hv : oneP 8 m.t v = true) (hx : oneP 8 m.t x = true) (r : Int) (B kb : Nat) (sv pv rv kv tp bv ov fv s1 s2 : Value) (w : World) (hfm : ∃ A1 n c1 A2 k c2 A3 q c3 A4 z c4, sv = .slice A1 n c1 ∧ pv = .slice A2 k c2 ∧ rv = .slice A3 q c3 ∧ kv = .slice A4 z c4)
   (hI : SkI w B kb sv pv rv kv tp bv ov fv s) (hT : PAt w (· < B) tp m.t.parts) (h1 : KAt w (Dk w 0 (some kb) ov fv) s1 v.ks) (h2 : KAt w (Dk w 0 (some kb) ov fv) s2 x.ks),
   Calls Tryz.prog 188 #[.pointer (some ⟨kb, 0, none⟩), .agg #[.int .i64 v.n, s1], .int .i64 r, .agg #[.int .i64 x.n, s2]] w (AddPost w B kb sv pv rv kv tp ov fv (addS m.t s v r x))
def LookI (m : Mdl) (x : V) (res : Sk × Int) (w : World) (B kb xb : Nat) (sv pv rv kv tp : Value) (r : Int) (wr : World) : Prop := ∃ bv ov fv s', SkI wr B kb sv pv rv kv tp bv ov fv s' ∧ SkOk m s' ∧ Below B w wr ∧ KAt wr (Dk wr 0 (some kb) ov fv) (.slice (some ⟨xb, 0, none⟩) 1 1) [x] ∧ res = restL m x r s'
theorem kat_box {W : World} {S : Nat → Prop} {xb : Nat} {x : V} (h : KAt W S (.slice (some ⟨xb, 0, none⟩) 1 1) [x]) : ∃ A n c, W.cell? ⟨xb, 0, none⟩ = some (.int .i64 x.n) ∧ W.cell? ⟨xb, 1, none⟩ = some (.slice A n c) ∧ KAt W S (.slice A n c) x.ks ∧ S xb := by
 obtain ⟨ad, A, n, c, e, hs, h0, h1, _, hk⟩ := h.at_ (k := 0) (by simp)
 injection e with e
 subst e
 exact ⟨A, n, c, h0, h1, hk, hs⟩
def LookPost (w : World) (B kb : Nat) (sv pv rv kv tp : Value) (r : Sk × Int) (e : Ending) (w' : World) : Prop := e = .returned (.int .i64 r.2) ∧ (r.2 = 0 → ∃ bv' ov' fv', SkI w' B kb sv pv rv kv tp bv' ov' fv' r.1) ∧ Below B w w'
theorem bklook_any (m : Mdl) (hm : MdlOk m) (hn : NmOk m) (hadd : AddSays m) (s : Sk) (hs : SkOk m s) (x : V) (fr : List V) (hf : s.fr = x :: fr) (B kb : Nat) (sv pv rv kv tp bv ov fv : Value) (w : World) (hI : SkI w B kb sv pv rv kv tp bv ov fv s) (hT : PAt w (· < B) tp m.t.parts) (h : MAt w (· < B) sv pv rv kv m) :
   Calls Tryz.prog 121 #[.pointer (some ⟨kb, 0, none⟩)] w (LookPost w B kb sv pv rv kv tp (lookS m s)) := by
 obtain ⟨A1, c1, A2, c2, A3, c3, A4, c4, rfl, rfl, rfl, rfl⟩ := h.form
 obtain ⟨qs, hrow, hqe⟩ := hI.own.f
 obtain ⟨⟨x', sx⟩, qs', rfl⟩ : ∃ p l, qs = p :: l := by
   rcases qs with _ | ⟨p, l⟩
   · rw [hf] at hqe; cases hqe
   · exact ⟨p, l, rfl⟩
 rw [hf] at hqe
 simp only [List.map_cons, List.cons.injEq] at hqe
 obtain ⟨rfl, hqf⟩ := hqe
 have hfn : fr.length = qs'.length := by rw [← hqf, List.length_map]
 have hkx := hrow.kid (x', sx) (by simp) (sx, x'.ks) (by simp [encV])
 have hx1 : oneP 8 m.t x' = true := hs.fr x' (by rw [hf]; simp)
 obtain ⟨xst, xcs, rfl, -⟩ := cfg_parts hx1
 obtain ⟨Ax, nx, cx, rfl, _, _, _⟩ := hkx.form
 have hown : w.ownsRow B 31 2 fv (qs'.length + 1) (pCells ((cfgV xst xcs, .slice Ax nx cx) :: qs')) := hrow.own
 obtain ⟨gf, cf, rfl, hgf0, hgf1, hgf2, hgf3⟩ := own_one hown (by omega)
 obtain ⟨nf, hnf⟩ : ∃ nf, qs'.length = nf := ⟨_, rfl⟩
 rw [hnf] at hown hI hrow hkx hgf2
 have p0 : w.cell? ⟨gf, 0, none⟩ = some (.int .i64 0) := hown.cellAt 0 (by omega)
 have p1 : w.cell? ⟨gf, 1, none⟩ = some (.slice Ax nx cx) := hown.cellAt 1 (by omega)
 obtain ⟨Sb, db, So, do_, _, _, rfl, rfl, -⟩ := hI.own.sat.form
 have hks : ∀ p ∈ qs', ∃ A n c, p.2 = .slice A n c := fun p hp => by
   obtain ⟨A, n, c, e, _⟩ := (hrow.kid p (by simp [hp]) (p.2, p.1.ks) (by simp [encV])).form
   exact ⟨A, n, c, e⟩
 have hbk := hI.blk
 have b2 := hbk.cell 2
 have bl := hbk.lt
 have CD : Hid (∀ W, Bw w W → Calls Tryz.prog 185 #[.slice (some ⟨gf, 0, none⟩) (nf + 1) cf, .int .i64 0, .int .i64 1] W (Del1Post W B (.slice (some ⟨gf, 0, none⟩) (nf + 1) cf) qs')) := Lib.hid (fun W g => delFirst_any B (cfgV xst xcs, .slice Ax nx cx) qs' _ W hks (by rw [hnf]; exact own_kept_below hown g))
 have hlow := hI.lo
 have hkl := hI.lt
 have hBs := hI.B_lt
 have hko := (hI.own.ko kb rfl).2.1
 have hoko := (hI.own.ko kb rfl).1
 have hsA : SkI (w.alloc (.cells #[.int .i64 0, .slice Ax nx cx] 31)) B kb (.slice A1 m.ss.length c1) (.slice A2 m.ps.length c2) (.slice A3 m.rs.length c3) (.slice A4 (1 + m.cs.length) c4) tp (.slice Sb s.ba.length db) (.slice So s.og.length do_) (.slice (some ⟨gf, 0, none⟩) (nf + 1) cf) s := hI.bw ((Bw.refl _).alloc _)
 have hrA := hrow.bw ((Bw.refl w).alloc (.cells #[.int .i64 0, .slice Ax nx cx] 31)) (D' := Dk (w.alloc (.cells #[.int .i64 0, .slice Ax nx cx] 31)) B (some kb) (.slice So s.og.length do_) (.slice (some ⟨gf, 0, none⟩) (nf + 1) cf)) (fun b hb => ⟨hb.bw (by simp), hb.2.1⟩)
 have hkA : KAt (w.alloc (.cells #[.int .i64 0, .slice Ax nx cx] 31)) (Dk (w.alloc (.cells #[.int .i64 0, .slice Ax nx cx] 31)) 0 (some kb) (.slice So s.og.length do_) (.slice (some ⟨gf, 0, none⟩) (nf + 1) cf)) (.slice (some ⟨w.heap.size, 0, none⟩) 1 1) [cfgV xst xcs] := by
   obtain ⟨o1, o2⟩ := hI.own.olt
   refine kat_one (v := cfgV xst xcs) (Blk.new w 31 #[.int .i64 0, .slice Ax nx cx]) ⟨Nat.zero_le _, by simp, fun e => by injection e with e; omega, fun e => by have := (o1 _ e).2; omega, fun e => by have := (o2 _ e).2; omega⟩ ?_
   exact hkx.keep (fun b hb => ⟨Nat.zero_le _, by have := hb.2.1; simp; omega, hb.2.2⟩) (fun p hp => World.cell?_alloc_lt w _ p hp.2.1)
 have us0 : 0 ≤ s.us ∧ s.us ≤ 512 := by have := hs.cnt; have := hs.us; have := hs.ol; omega
 obtain ⟨us, hus⟩ : ∃ us, s.us = us := ⟨_, rfl⟩
 have hfo : SkOk m ⟨s.ba, s.og, fr, s.us + 1⟩ := front_ok hs hf
 have hlk := lookS_cons (m := m) hf
 have hbk1 := hsA.blk
 rw [hus] at us0 hbk1
 have HUS := Lib.hid hus
 have HFO := Lib.hid hfo
 have HSA := Lib.hid hsA
 have HRA := Lib.hid hrA
 have HKA := Lib.hid hkA
 have HLK := Lib.hid hlk
 have HQF := Lib.hid hqf
 have HNF := Lib.hid hnf
 have HT := Lib.hid hT
 have HM := Lib.hid h
 have HBK1 := Lib.hid hbk1
 have hb3 := hbk.cell 3
 have hmr : m.rs.length ≤ 12 := hn.len
 clear hus hfo hsA hrA hkA hlk hT h hrow hkx hqf hf hfn hs hbk hI hbk1 hb3
 generalize hres : lookS m s = res at *
 clear hres
 unfold Del1Post at CD
 obtain ⟨us01, us02⟩ := us0
 have WB : Hid (Bw w (w.alloc (.cells #[.int .i64 0, .slice Ax nx cx] 31))) := Lib.hid ((Bw.refl _).alloc _)
 go_enter Tryz.func121, Tryz.ntmps121
 go_wp2_with (go_at_call 185; go_must (refine (CD.out _ WB.out).mono ?_; rintro e w1 ⟨s1', rfl, ho1, hg1, hob⟩; (have ho1 : w1.ownsRow B 31 2 s1' nf (pCells qs') := by (rw [HNF.out] at ho1; exact ho1)); obtain ⟨A7, c7, rfl⟩ := own_form ho1; (have hb1 := HBK1.out.grown hg1 (fun e => hko e.symm)); (have t2 := hb1.cell 2); (have t3 : ∀ v, (w1.setCell ⟨kb, 2, none⟩ v).cell? ⟨kb, 3, none⟩ = some (.int .i64 us) := fun v => (World.cell?_setCell_other _ _ _ _ (fun e => by have := congrArg Addr.off e; simp at this)).trans (hb1.cell 3)); (have f2 := hb1.frozen 2); (have f3 := hb1.frozen 3); (have tl := hb1.lt); (have HB1 := Lib.hid hb1); (have HO1 := Lib.hid ho1); (have HO1x : Hid (w1.ownsRow B 31 2 (.slice A7 nf c7) qs'.length (pCells qs')) := Lib.hid (by rw [HNF.out]; exact ho1)); (have HG1 := Lib.hid hg1); (have HOB := Lib.hid hob); clear hb1 ho1 hg1 hob))
 have hpop := HSA.out.own.popF HRA.out HO1x.out HG1.out HOB.out
 have hk1 := (Keeps.pushF (ov := .slice So s.og.length do_) (kb := kb) HG1.out (.inl HOB.out)) _ _ HKA.out
 have hp1 : w1.grownBy (w1.setCell ⟨kb, 2, none⟩ (.slice A7 nf c7)) (some kb) := grownBy_setCell (p := ⟨kb, 2, none⟩) (World.grownBy.refl _ _) (.inl rfl) _
 have hp2 : (w1.setCell ⟨kb, 2, none⟩ (.slice A7 nf c7)).grownBy ((w1.setCell ⟨kb, 2, none⟩ (.slice A7 nf c7)).setCell ⟨kb, 3, none⟩ (.int .i64 (us + 1))) (some kb) := grownBy_setCell (p := ⟨kb, 3, none⟩) (World.grownBy.refl _ _) (.inl rfl) _
 have hsk : SkI ((w1.setCell ⟨kb, 2, none⟩ (.slice A7 nf c7)).setCell ⟨kb, 3, none⟩ (.int .i64 (us + 1))) B kb (.slice A1 m.ss.length c1) (.slice A2 m.ps.length c2) (.slice A3 m.rs.length c3) (.slice A4 (1 + m.cs.length) c4) tp (.slice Sb s.ba.length db) (.slice So s.og.length do_) (.slice A7 nf c7) ⟨s.ba, s.og, fr, s.us + 1⟩ := by
   refine ⟨?_, ?_, hlow⟩
   · have := blk_set (i := 3) (.int .i64 (us + 1)) (blk_set (i := 2) (.slice A7 nf c7) HB1.out)
     rw [show (⟨s.ba, s.og, fr, s.us + 1⟩ : Sk).us = us + 1 from by rw [← HUS.out]]
     exact this
   · have h3 := ((hpop.put hp1).put hp2).setU (s.us + 1)
     rw [← HQF.out]; exact h3
 have hbe : Below B w ((w1.setCell ⟨kb, 2, none⟩ (.slice A7 nf c7)).setCell ⟨kb, 3, none⟩ (.int .i64 (us + 1))) := by
   have h0 : Below B w w1 := below_gb (Below.mono WB.out.b hBs) HG1.out (Nat.le_trans hBs WB.out.size) (fun r e => (HSA.out.own.olt.2 r e).1)
   have hs1 := HG1.out.size
   have hs0 := WB.out.size
   exact below_gb (below_gb h0 hp1 (by omega) (fun r e => by injection e with e; omega)) hp2 (by have := hp1.size; omega) (fun r e => by injection e with e; omega)
 have hkb := (Keeps.put hp2) _ _ ((Keeps.put hp1) _ _ hk1)
 refine wp_world (fun W => Hid (SkI W B kb (.slice A1 m.ss.length c1) (.slice A2 m.ps.length c2) (.slice A3 m.rs.length c3) (.slice A4 (1 + m.cs.length) c4) tp (.slice Sb s.ba.length db) (.slice So s.og.length do_) (.slice A7 nf c7) ⟨s.ba, s.og, fr, s.us + 1⟩ ∧ Below B w W ∧ KAt W (Dk W 0 (some kb) (.slice So s.og.length do_) (.slice A7 nf c7)) (.slice (some ⟨w.heap.size, 0, none⟩) 1 1) [cfgV xst xcs])) (Lib.hid ⟨hsk, hbe, hkb⟩) ?_
 clear hpop hk1 hp1 hp2 hsk hbe hkb t2 t3 f2 f3 tl HB1 HO1 HO1x HG1 HOB HSA HRA HKA HBK1 CD WB p0 p1 b2 bl
 intro W2 HW2
 obtain ⟨hI2, hbe2, hkx2⟩ := HW2.out
 obtain ⟨Ay, ny, cy, x0, x1, hky, hxb⟩ := kat_box hkx2
 have hKB : KB W2 W2.heap.size (.slice Ay ny cy) (cfgV xst xcs).ks := hky.keep (fun b hb => hb.2.1) (fun _ _ => rfl)
 have D1 : Hid (∀ W', Bw W2 W' → Calls Tryz.prog 186 #[.slice Sb s.ba.length db, .agg #[.int .i64 0, .slice Ay ny cy]] W' (fun e w' => e = .returned (.int .i64 (idxP (fun b => cmpV b (cfgV xst xcs) == 0) s.ba)) ∧ Bw W' w')) := Lib.hid (fun W' g => sindex_any s.ba (cfgV xst xcs) _ _ W' (hI2.own.sat.b.bw g) (hKB.bw g))
 have hIX : idxP (fun b => cmpV b (cfgV xst xcs) == 0) s.ba < 0 ↔ (s.ba.any fun b => cmpV b (cfgV xst xcs) == 0) = false := idxP_lt
 have QF : Hid (∀ P : BwOf W2, P.val.cell? ⟨kb, 0, none⟩ = some (.slice Sb s.ba.length db) ∧ kb < P.val.heap.size ∧ P.val.cell? ⟨w.heap.size, 0, none⟩ = some (.int .i64 0) ∧ P.val.cell? ⟨w.heap.size, 1, none⟩ = some (.slice Ay ny cy) ∧ w.heap.size < P.val.heap.size) := Lib.hid (fun P => by
   have b := hI2.blk.below P.bw.b hI2.blk.lt
   have c0 := (P.bw.b.cell (p := ⟨w.heap.size, 0, none⟩) hxb.2.1).trans x0
   have c1 := (P.bw.b.cell (p := ⟨w.heap.size, 1, none⟩) hxb.2.1).trans x1
   exact ⟨b.cell 0, b.lt, c0, c1, Nat.lt_of_lt_of_le hxb.2.1 P.bw.size⟩)
 have g1 := fun P => (QF.out P).1
 have g2 := fun P => (QF.out P).2.1
 have g3 := fun P => (QF.out P).2.2.1
 have g4 := fun P => (QF.out P).2.2.2.1
 have g5 := fun P => (QF.out P).2.2.2.2
 have HIX := Lib.hid hIX
 have HSB := Lib.hid hI2.own.sat.b
 clear hIX QF hKB x0 x1 hky hxb hkx2 hbe2 hI2
 generalize idxP (fun b => cmpV b (cfgV xst xcs) == 0) s.ba = ix at *
 refine wp_region_quiet_bw mixedO (by kernel_rfl) ?_
 repeat (go_big_quiet_step ((first | (go_at_call 186; with_reducible exact calls_bw _ (D1.out _ (BwOf.bw _))))))
 refine wpQuiet_nil ?_
 intro W3 hw'
 have HG3 : Hid (Bw W2 W3) := Lib.hid (by obtain ⟨p, e⟩ := hw'; rw [e]; exact p.bw)
 clear hw' g1 g2 g3 g4 g5 D1
 by_cases hix : ix < 0
 · have dx : decide (ix < 0) = true := decide_eq_true hix
   go_wp2
   go_ret
   have hr := HLK.out
   rw [HIX.out.1 hix] at hr
   rw [hr]
   exact ⟨rfl, fun _ => ⟨_, _, _, HW2.out.1.bw HG3.out⟩, HW2.out.2.1.trans (Below.mono HG3.out.b HW2.out.1.B_lt)⟩
 · have dx : decide (ix < 0) = false := decide_eq_false hix
   have HLI : Hid (LookI m (cfgV xst xcs) res w B kb w.heap.size (.slice A1 m.ss.length c1) (.slice A2 m.ps.length c2) (.slice A3 m.rs.length c3) (.slice A4 (1 + m.cs.length) c4) tp (-1) W3) := Lib.hid (by
     refine ⟨_, _, _, _, HW2.out.1.bw HG3.out, HFO.out, HW2.out.2.1.trans (Below.mono HG3.out.b HW2.out.1.B_lt), (Keeps.refl HG3.out) _ _ HW2.out.2.2, ?_⟩
     have hr := HLK.out
     rw [show (s.ba.any fun b => cmpV b (cfgV xst xcs) == 0) = true from by
       rcases Bool.eq_false_or_eq_true (s.ba.any fun b => cmpV b (cfgV xst xcs) == 0) with e | e
       · exact e
       · exact absurd (HIX.out.2 e) hix] at hr
     exact hr)
   clear HIX HSB HW2 HG3 HFO HLK
   go_wp2
   go_loopw [4] (fun i wr => ∃ r : Int, -1 ≤ r ∧ r ≤ (m.rs.length : Int) ∧ i = .int .i64 r ∧ Hid (LookI m (cfgV xst xcs) res w B kb w.heap.size (.slice A1 m.ss.length c1) (.slice A2 m.ps.length c2) (.slice A3 m.rs.length c3) (.slice A4 (1 + m.cs.length) c4) tp r wr)) (fun i _ => ((m.rs.length : Int) - intOf i).toNat)
   case atStart => exact ⟨-1, by omega, by omega, rfl, HLI⟩
   case round =>
     obtain ⟨r, hr0, hr1, rfl, HR⟩ := hrel
     obtain ⟨bv2, ov2, fv2, s2, hI2, hok2, hbe2, hkx2, hre2⟩ := HR.out
     obtain ⟨Ay, ny, cy, x0, x1, hky, hxb⟩ := kat_box hkx2
     have b11 := hI2.blk.cell 11
     have bl2 := hI2.blk.lt
     have HI2 := Lib.hid hI2
     have HOK2 := Lib.hid hok2
     have HBE2 := Lib.hid hbe2
     have HKX2 := Lib.hid hkx2
     have HRE2 := Lib.hid hre2
     have HKY := Lib.hid hky
     have HXB : Hid (∀ W, Bw wr W → W.cell? ⟨w.heap.size, 0, none⟩ = some (.int .i64 0) ∧ W.cell? ⟨w.heap.size, 1, none⟩ = some (.slice Ay ny cy)) := Lib.hid (fun W g => ⟨(g.b.cell (p := ⟨w.heap.size, 0, none⟩) hxb.2.1).trans x0, (g.b.cell (p := ⟨w.heap.size, 1, none⟩) hxb.2.1).trans x1⟩)
     by_cases hlt : r < (m.rs.length : Int)
     · have hMB : MB wr wr.heap.size (.slice A1 m.ss.length c1) (.slice A2 m.ps.length c2) (.slice A3 m.rs.length c3) (.slice A4 (1 + m.cs.length) c4) m := (HM.out.under (Below.mono (hbe2) (Nat.le_refl _))).keep (fun b hb => Nat.lt_of_lt_of_le hb hI2.B_lt) (fun _ _ => rfl)
       have hKB : KB wr wr.heap.size (.slice Ay ny cy) (cfgV xst xcs).ks := hky.keep (fun b hb => hb.2.1) (fun _ _ => rfl)
       have CO : Hid (∀ W, Bw wr W → Calls Tryz.prog 187 #[.agg #[.int .i64 1, .slice A1 m.ss.length c1, .slice A2 m.ps.length c2, .slice none 0 0, .slice none 0 0, .int .i64 0, .int .i64 0, .slice A3 m.rs.length c3, .int .i64 0, .slice A4 (1 + m.cs.length) c4], .int .i64 r, .agg #[.int .i64 0, .slice Ay ny cy]] W (fun e w' => ∃ s, e = .returned (.tuple #[s, .int .i64 0]) ∧ KAt w' (fun b => W.heap.size ≤ b ∧ b < w'.heap.size) s (predI m r (cfgV xst xcs)) ∧ Bw W w')) := Lib.hid (fun W g => prOne_any m hm hn xst xcs hx1 r ⟨hr0, hlt⟩ _ _ _ _ _ W (hMB.bw g) (hKB.bw g))
       have KS : Hid (∀ w', Bw wr w' → w'.cell? ⟨kb, 4, none⟩ = some (.int .i64 1) ∧ w'.cell? ⟨kb, 5, none⟩ = some (.slice A1 m.ss.length c1) ∧ w'.cell? ⟨kb, 6, none⟩ = some (.slice A2 m.ps.length c2) ∧ w'.cell? ⟨kb, 7, none⟩ = some (.slice none 0 0) ∧ w'.cell? ⟨kb, 8, none⟩ = some (.slice none 0 0) ∧ w'.cell? ⟨kb, 9, none⟩ = some (.int .i64 0) ∧ w'.cell? ⟨kb, 10, none⟩ = some (.int .i64 0) ∧ w'.cell? ⟨kb, 11, none⟩ = some (.slice A3 m.rs.length c3) ∧ w'.cell? ⟨kb, 12, none⟩ = some (.int .i64 0) ∧ w'.cell? ⟨kb, 13, none⟩ = some (.slice A4 (1 + m.cs.length) c4) ∧ w'.cell? ⟨w.heap.size, 0, none⟩ = some (.int .i64 0) ∧ w'.cell? ⟨w.heap.size, 1, none⟩ = some (.slice Ay ny cy) ∧ Bw wr w') := Lib.hid (fun w' g => by
         have b := HI2.out.blk.below g.b HI2.out.blk.lt
         have c0 := (g.b.cell (p := ⟨w.heap.size, 0, none⟩) hxb.2.1).trans x0
         have c1 := (g.b.cell (p := ⟨w.heap.size, 1, none⟩) hxb.2.1).trans x1
         exact ⟨b.cell 4, b.cell 5, b.cell 6, b.cell 7, b.cell 8, b.cell 9, b.cell 10, b.cell 11, b.cell 12, b.cell 13, c0, c1, g⟩)
       have hxl : w.heap.size < wr.heap.size := hxb.2.1
       clear hMB hKB hky hI2 hok2 hbe2 hkx2 hre2 HR x0 x1 hxb
       have dlt : decide (r < (m.rs.length : Int)) = true := decide_eq_true hlt
       go_wp2_with fail
       refine wp_world (fun W => Hid (W = wr)) (Lib.hid rfl) ?_
       intro W4 HW4
       have e4 := HW4.out
       subst e4
       clear HW4
       go_region_held3 (fun w' => w'.cell? ⟨kb, 4, none⟩ = some (.int .i64 1) ∧ w'.cell? ⟨kb, 5, none⟩ = some (.slice A1 m.ss.length c1) ∧ w'.cell? ⟨kb, 6, none⟩ = some (.slice A2 m.ps.length c2) ∧ w'.cell? ⟨kb, 7, none⟩ = some (.slice none 0 0) ∧ w'.cell? ⟨kb, 8, none⟩ = some (.slice none 0 0) ∧ w'.cell? ⟨kb, 9, none⟩ = some (.int .i64 0) ∧ w'.cell? ⟨kb, 10, none⟩ = some (.int .i64 0) ∧ w'.cell? ⟨kb, 11, none⟩ = some (.slice A3 m.rs.length c3) ∧ w'.cell? ⟨kb, 12, none⟩ = some (.int .i64 0) ∧ w'.cell? ⟨kb, 13, none⟩ = some (.slice A4 (1 + m.cs.length) c4) ∧ w'.cell? ⟨w.heap.size, 0, none⟩ = some (.int .i64 0) ∧ w'.cell? ⟨w.heap.size, 1, none⟩ = some (.slice Ay ny cy) ∧ Bw W4 w') (first | (refine KS.out _ ?_; first | exact (Bw.refl _).drew | exact (Bw.refl _).drew.trans hg5)) (first | (go_at_call 187; (with_reducible refine (CO.out _ (Bw.refl _).drew).mono ?_); rintro e5 w5 ⟨s5, rfl, hk5, hg5⟩; obtain ⟨A5, n5, c5, rfl, l5, _, _⟩ := hk5.form))
       have HG5 : Hid (Bw W4 w5) := Lib.hid ((Bw.refl _).drew.trans hg5)
       have HK5 : Hid (KAt w5 (fun b => W4.heap.size ≤ b ∧ b < w5.heap.size) (.slice A5 n5 c5) (predI m r (cfgV xst xcs))) := Lib.hid hk5
       have HL5 := Lib.hid l5
       clear hg5 hk5 l5 KS CO b11 bl2
       have hxl5 : w.heap.size < w5.heap.size := Nat.lt_of_lt_of_le hxl HG5.out.size
       have hb5 : Below B w w5 := HBE2.out.trans (Below.mono HG5.out.b HI2.out.B_lt)
       have HB5 := Lib.hid hb5
       have HKX5 := Lib.hid ((Keeps.refl HG5.out) _ _ HKX2.out)
       clear hb5
       rcases predI_few m r (cfgV xst xcs) with hnil | ⟨y, hy⟩
       · have hn50 : n5 = 0 := by have := HL5.out; rw [hnil] at this; exact this.symm
         subst hn50
         have HNX : Hid (res = restL m (cfgV xst xcs) (r + 1) s2) := Lib.hid (by rw [← restL_nil hr0 hlt hnil]; exact HRE2.out)
         have HIF := Lib.hid (HI2.out.bw HG5.out)
         clear hnil
         go_wp2
         refine wp_loop_rounds 1 ?_
         rw [rounds_succ]
         go_wp2
         go_roundw
         case rel => exact ⟨r + 1, by omega, by omega, by go_num, Lib.hid ⟨_, _, _, _, HIF.out, HOK2.out, HB5.out, HKX5.out, HNX.out⟩⟩
         case measure => simp [intOf]; omega
       · have hr00 : 0 ≤ r := by
           rcases Int.lt_or_le r 0 with h1 | h1
           · unfold predI at hy; rw [if_pos h1] at hy; cases hy
           · exact h1
         have hn51 : n5 = 1 := by have := HL5.out; rw [hy] at this; exact this.symm
         subst hn51
         have hy1 : oneP 8 m.t y = true := predI_ok hm hx1 (by rw [hy]; simp)
         have hfr := HI2.out.own.fresh HG5.out HK5.out HI2.out.B_lt
         rw [hy] at hfr
         obtain ⟨ad5, A6, n6, c6, rfl, hd5, z0, z1, _, hk6⟩ := hfr.at_ (k := 0) (by simp)
         rw [show ad5.add (0 * 2) = ad5 by simp [Addr.add]] at z0 z1
         replace z0 : w5.cell? ad5 = some (.int .i64 y.n) := z0
         replace hk6 : KAt w5 (Dk w5 B (some kb) ov2 fv2) (.slice A6 n6 c6) y.ks := hk6
         have hdl : ad5.block < w5.heap.size := hd5.2.1
         have hkyx := (Keeps.refl HG5.out) _ _ HKY.out
         have ha5 := (Bw.refl w5).alloc (.cells #[.int .i64 y.n, .slice A6 n6 c6] 31)
         have CADD : Calls Tryz.prog 188 #[.pointer (some ⟨kb, 0, none⟩), .agg #[.int .i64 y.n, .slice A6 n6 c6], .int .i64 r, .agg #[.int .i64 0, .slice Ay ny cy]] (w5.alloc (.cells #[.int .i64 y.n, .slice A6 n6 c6] 31)) (AddPost (w5.alloc (.cells #[.int .i64 y.n, .slice A6 n6 c6] 31)) B kb (.slice A1 m.ss.length c1) (.slice A2 m.ps.length c2) (.slice A3 m.rs.length c3) (.slice A4 (1 + m.cs.length) c4) tp ov2 fv2 (addS m.t s2 y r (cfgV xst xcs))) := hadd s2 HOK2.out y (cfgV xst xcs) hy1 hx1 r B kb (.slice A1 m.ss.length c1) (.slice A2 m.ps.length c2) (.slice A3 m.rs.length c3) (.slice A4 (1 + m.cs.length) c4) tp bv2 ov2 fv2 (.slice A6 n6 c6) (.slice Ay ny cy) (w5.alloc (.cells #[.int .i64 y.n, .slice A6 n6 c6] 31)) ⟨A1, _, c1, A2, _, c2, A3, _, c3, A4, _, c4, rfl, rfl, rfl, rfl⟩ ((HI2.out.bw HG5.out).bw ha5) ((HT.out.under HB5.out).under (Below.mono ha5.b (Nat.le_trans HI2.out.B_lt HG5.out.size))) (hk6.keep (fun b hb => ⟨Nat.zero_le _, Nat.lt_of_lt_of_le hb.2.1 ha5.size, hb.2.2⟩) (fun p hp => ha5.b.cell hp.2.1)) ((Keeps.refl ha5) _ _ hkyx)
         have hst := restL_step (m := m) (x := cfgV xst xcs) hr00 hlt s2
         rw [hy, addAll_one] at hst
         have HST := Lib.hid hst
         have HKXA := Lib.hid ((Keeps.refl ha5) _ _ HKX5.out)
         have HBA : Hid (Below B w (w5.alloc (.cells #[.int .i64 y.n, .slice A6 n6 c6] 31))) := Lib.hid (HB5.out.trans (Below.mono ha5.b (Nat.le_trans HI2.out.B_lt HG5.out.size)))
         have hxA := (kat_box HKX5.out)
         obtain ⟨_, _, _, j0, j1, _, _⟩ := hxA
         have HKY5 : Hid (w5.cell? ⟨w.heap.size, 0, none⟩ = some (.int .i64 0) ∧ w5.cell? ⟨w.heap.size, 1, none⟩ = some (.slice Ay ny cy)) := Lib.hid (HXB.out w5 HG5.out)
         obtain ⟨k0, k1⟩ := HKY5.out
         have HADDOK : Hid ((addS m.t s2 y r (cfgV xst xcs)).2 = 0 → SkOk m (addS m.t s2 y r (cfgV xst xcs)).1) := Lib.hid (fun he => by
           obtain ⟨kk, rfl⟩ := Int.eq_ofNat_of_zero_le hr00
           exact add_ok hm HOK2.out hy1 hx1 (by omega) he)
         unfold AddPost at CADD
         generalize addS m.t s2 y r (cfgV xst xcs) = ad2 at *
         obtain ⟨aS, ae⟩ := ad2
         dsimp only at CADD HST HADDOK
         have HCA := Lib.hid CADD
         clear CADD hst hkyx hk6 hfr hd5 hy hy1 j0 j1
         obtain ⟨yn, hyn⟩ : ∃ yn, y.n = yn := ⟨_, rfl⟩
         rw [hyn] at HCA z0 HKXA HBA
         clear hyn ha5
         by_cases he : ae = 0
         · subst he
           go_wp2
           refine wp_loop_rounds 2 ?_
           rw [rounds_succ]
           go_wp2_with (go_at_call 188; go_must (refine HCA.out.mono ?_; rintro e8 w8 ⟨bv3, ov3, fv3, rfl, hI3, hb3, hk3⟩; (have HI3 := Lib.hid hI3); (have HB3 := Lib.hid hb3); (have HK3 := Lib.hid hk3); clear hI3 hb3 hk3))
           rw [rounds_succ]
           go_wp2
           go_roundw
           case rel =>
             refine ⟨r + 1, by omega, by omega, by go_num, Lib.hid ⟨_, _, _, _, HI3.out, HADDOK.out (by trivial), HBA.out.trans HB3.out, HK3.out _ _ HKXA.out, ?_⟩⟩
             have h1 := HRE2.out
             rw [HST.out] at h1
             simpa using h1
           case measure => simp [intOf]; omega
         · have de : (ae != 0) = true := by simpa using he
           go_wp2
           refine wp_loop_rounds 2 ?_
           rw [rounds_succ]
           go_wp2_with (go_at_call 188; go_must (refine HCA.out.mono ?_; rintro e8 w8 ⟨bv3, ov3, fv3, rfl, hI3, hb3, hk3⟩; (have HB3 := Lib.hid hb3); clear hI3 hb3 hk3))
           go_ret
           have h1 := HRE2.out
           rw [HST.out] at h1
           have h2 : res = (aS, ae) := by simpa [he] using h1
           rw [h2]
           exact ⟨rfl, fun h3 => absurd h3 he, HBA.out.trans HB3.out⟩
     · obtain rfl : r = (m.rs.length : Int) := by omega
       have dlt : decide ((m.rs.length : Int) < (m.rs.length : Int)) = false := by simp
       clear hI2 hok2 hbe2 hkx2 hre2 HR x0 x1 hxb hky
       go_wp2
       go_ret
       have hr := HRE2.out
       rw [restL_end (Int.le_refl _)] at hr
       rw [hr]
       exact ⟨rfl, fun _ => ⟨_, _, _, HI2.out⟩, HBE2.out⟩
theorem SOwn.satB {w : World} {B B' : Nat} {K : Option Nat} {bv ov fv : Value} {s : Sk} (h : SOwn w B K bv ov fv s) (hB : B' ≤ B) : SAt w (fun b => B' ≤ b ∧ b < w.heap.size) bv ov fv s := by
 obtain ⟨ps, h1, e1⟩ := h.o
 obtain ⟨qs, h2, e2⟩ := h.f
 refine ⟨h.b.keep (fun b hb => ⟨Nat.le_trans hB hb.1, hb.2.1⟩) (fun _ _ => rfl), ⟨ps, h1.eat (fun b hb => ⟨Nat.le_trans hB hb.1, hb.2.1⟩) (fun b e => ⟨Nat.le_trans hB (h1.own.lt b e).1, (h1.own.lt b e).2⟩), e1⟩, ?_⟩
 have := (h2.eat (S := fun b => B' ≤ b ∧ b < w.heap.size) (fun b hb => ⟨Nat.le_trans hB hb.1, hb.2.1⟩) (fun b e => ⟨Nat.le_trans hB (h2.own.lt b e).1, (h2.own.lt b e).2⟩)).kat
 rwa [e2] at this
theorem SAt.keep {w w' : World} {S S' : Nat → Prop} {bv ov fv : Value} {s : Sk} (h : SAt w S bv ov fv s) (hS : ∀ b, S b → S' b) (hk : ∀ p : Addr, S p.block → w'.cell? p = w.cell? p) : SAt w' S' bv ov fv s := by
 obtain ⟨ps, h1, h2⟩ := h.o
 exact ⟨h.b.keep hS hk, ⟨ps, h1.keep hS hk, h2⟩, h.f.keep hS hk⟩
def StepPost (w : World) (a : Sk × Bool × Int) (e : Ending) (w' : World) : Prop := ∃ bv ov fv, e = .returned (.tuple #[aggS bv ov fv a.1.us, .bool a.2.1, .int .i64 a.2.2]) ∧ SAt w' (fun b => w.heap.size ≤ b ∧ b < w'.heap.size) bv ov fv a.1 ∧ Bw w w'
theorem stepS_nil {m : Mdl} {s : Sk} (h : s.fr = []) : stepS m s = (s, false, 0) := by unfold stepS; rw [h]
theorem stepS_cons {m : Mdl} {s : Sk} {x : V} {fr : List V} (h : s.fr = x :: fr) : stepS m s = if (lookS m s).2 ≠ 0 then (s, false, (lookS m s).2) else ((lookS m s).1, true, 0) := by unfold stepS; rw [h]
theorem bkdo_any (m : Mdl) (hm : MdlOk m) (hn : NmOk m) (hadd : AddSays m) (s : Sk) (hs : SkOk m s) (sv pv rv kv bv ov fv : Value) (w : World) (h : MB w w.heap.size sv pv rv kv m) (h1 : SAt w (· < w.heap.size) bv ov fv s) :
   Calls Tryz.prog 70 #[aggM sv pv rv kv, aggS bv ov fv s.us, .func (.func 71) #[] #[]] w (StepPost w (stepS m s)) := by
 obtain ⟨A1, c1, A2, c2, A3, c3, A4, c4, rfl, rfl, rfl, rfl⟩ := h.form
 obtain ⟨Sb, db, So, do_, Sf, df, rfl, rfl, rfl⟩ := h1.form
 have CW : Hid (∀ W, Bw w W → Calls Tryz.prog 64 #[aggM (.slice A1 m.ss.length c1) (.slice A2 m.ps.length c2) (.slice A3 m.rs.length c3) (.slice A4 (1 + m.cs.length) c4)] W (NumPost W 0)) := Lib.hid (fun W g => walks_any m hm hn _ _ _ _ W (h.bw g))
 have CT : Hid (∀ W, Bw w W → Calls Tryz.prog 65 #[aggM (.slice A1 m.ss.length c1) (.slice A2 m.ps.length c2) (.slice A3 m.rs.length c3) (.slice A4 (1 + m.cs.length) c4)] W (TypeErr W m.t)) := Lib.hid (fun W g => mdType_any m hm hn _ _ _ _ W (h.bw g))
 have CO : Hid (∀ W, Bw w W → Calls Tryz.prog 120 #[.agg #[.slice Sb s.ba.length db, .slice So s.og.length do_, .slice Sf s.fr.length df, .int .i64 s.us]] W (fun e w' => ∃ bv' ov' fv', e = .returned (.agg #[bv', ov', fv', .int .i64 s.us]) ∧ SOwn w' W.heap.size none bv' ov' fv' s ∧ Bw W w')) := Lib.hid (fun W g => bkown_any m hm s hs _ _ _ W (h1.bw g))
 have CL : Hid (∀ (x : V) (fr : List V) (hf : s.fr = x :: fr) (W : World) (B kb : Nat) (tp bv ov fv : Value), SkI W B kb (.slice A1 m.ss.length c1) (.slice A2 m.ps.length c2) (.slice A3 m.rs.length c3) (.slice A4 (1 + m.cs.length) c4) tp bv ov fv s → PAt W (· < B) tp m.t.parts → MAt W (· < B) (.slice A1 m.ss.length c1) (.slice A2 m.ps.length c2) (.slice A3 m.rs.length c3) (.slice A4 (1 + m.cs.length) c4) m → Calls Tryz.prog 121 #[.pointer (some ⟨kb, 0, none⟩)] W (LookPost W B kb (.slice A1 m.ss.length c1) (.slice A2 m.ps.length c2) (.slice A3 m.rs.length c3) (.slice A4 (1 + m.cs.length) c4) tp (lookS m s))) := Lib.hid (fun x fr hf W B kb tp bv ov fv hI hT hM => bklook_any m hm hn hadd s hs x fr hf B kb _ _ _ _ tp bv ov fv W hI hT hM)
 have HM := Lib.hid h
 obtain ⟨us, hus⟩ : ∃ us, s.us = us := ⟨_, rfl⟩
 obtain ⟨nb, hnb⟩ : ∃ nb, s.ba.length = nb := ⟨_, rfl⟩
 obtain ⟨no, hno⟩ : ∃ no, s.og.length = no := ⟨_, rfl⟩
 obtain ⟨nf, hnf⟩ : ∃ nf, s.fr.length = nf := ⟨_, rfl⟩
 rw [hus, hnb, hno, hnf] at CO
 rw [hus, hnb, hno, hnf]
 have HUS := Lib.hid (And.intro hus hnf)
 clear h h1 hm hn hs hadd hus hnb hno hnf
 unfold aggM aggS at *
 unfold TypeErr at CT
 unfold StepPost
 generalize m.ss.length = n at *
 generalize m.ps.length = k at *
 generalize m.rs.length = q at *
 generalize 1 + m.cs.length = z at *
 have BX : Hid (Bw w (((w.alloc (.cells #[.int .i64 1, .slice A1 n c1, .slice A2 k c2, .slice none 0 0, .slice none 0 0, .int .i64 0, .int .i64 0, .slice A3 q c3, .int .i64 0, .slice A4 z c4] 33)).alloc (.cells #[.slice Sb nb db, .slice So no do_, .slice Sf nf df, .int .i64 us] 67)).alloc (.cells #[.slice none 0 0, .slice none 0 0, .slice none 0 0, .int .i64 0] 67)) ∧ ∀ W, Bw (((w.alloc (.cells #[.int .i64 1, .slice A1 n c1, .slice A2 k c2, .slice none 0 0, .slice none 0 0, .int .i64 0, .int .i64 0, .slice A3 q c3, .int .i64 0, .slice A4 z c4] 33)).alloc (.cells #[.slice Sb nb db, .slice So no do_, .slice Sf nf df, .int .i64 us] 67)).alloc (.cells #[.slice none 0 0, .slice none 0 0, .slice none 0 0, .int .i64 0] 67)) W → Bw w W ∧ w.heap.size < W.heap.size ∧ w.heap.size + 1 < W.heap.size ∧ w.heap.size + 1 + 1 < W.heap.size ∧ W.cell? ⟨w.heap.size, 0, none⟩ = some (.int .i64 1) ∧ W.cell? ⟨w.heap.size, 1, none⟩ = some (.slice A1 n c1) ∧ W.cell? ⟨w.heap.size, 2, none⟩ = some (.slice A2 k c2) ∧ W.cell? ⟨w.heap.size, 3, none⟩ = some (.slice none 0 0) ∧ W.cell? ⟨w.heap.size, 4, none⟩ = some (.slice none 0 0) ∧ W.cell? ⟨w.heap.size, 5, none⟩ = some (.int .i64 0) ∧ W.cell? ⟨w.heap.size, 6, none⟩ = some (.int .i64 0) ∧ W.cell? ⟨w.heap.size, 7, none⟩ = some (.slice A3 q c3) ∧ W.cell? ⟨w.heap.size, 8, none⟩ = some (.int .i64 0) ∧ W.cell? ⟨w.heap.size, 9, none⟩ = some (.slice A4 z c4) ∧ W.cell? ⟨w.heap.size + 1, 0, none⟩ = some (.slice Sb nb db) ∧ W.cell? ⟨w.heap.size + 1, 1, none⟩ = some (.slice So no do_) ∧ W.cell? ⟨w.heap.size + 1, 2, none⟩ = some (.slice Sf nf df) ∧ W.cell? ⟨w.heap.size + 1, 3, none⟩ = some (.int .i64 us) ∧ W.cell? ⟨w.heap.size + 1 + 1, 0, none⟩ = some (.slice none 0 0) ∧ W.cell? ⟨w.heap.size + 1 + 1, 1, none⟩ = some (.slice none 0 0) ∧ W.cell? ⟨w.heap.size + 1 + 1, 2, none⟩ = some (.slice none 0 0) ∧ W.cell? ⟨w.heap.size + 1 + 1, 3, none⟩ = some (.int .i64 0)) := Lib.hid ⟨((((Bw.refl _).alloc _).alloc _).alloc _), fun W g => by
   have h0 := (Blk.new w 33 #[.int .i64 1, .slice A1 n c1, .slice A2 k c2, .slice none 0 0, .slice none 0 0, .int .i64 0, .int .i64 0, .slice A3 q c3, .int .i64 0, .slice A4 z c4])
   have k0 := ((h0.alloc (.cells #[.slice Sb nb db, .slice So no do_, .slice Sf nf df, .int .i64 us] 67)).alloc (.cells #[.slice none 0 0, .slice none 0 0, .slice none 0 0, .int .i64 0] 67)).below g.b ((h0.alloc (.cells #[.slice Sb nb db, .slice So no do_, .slice Sf nf df, .int .i64 us] 67)).alloc (.cells #[.slice none 0 0, .slice none 0 0, .slice none 0 0, .int .i64 0] 67)).lt
   have h1 := (Blk.new (w.alloc (.cells #[.int .i64 1, .slice A1 n c1, .slice A2 k c2, .slice none 0 0, .slice none 0 0, .int .i64 0, .int .i64 0, .slice A3 q c3, .int .i64 0, .slice A4 z c4] 33)) 67 #[.slice Sb nb db, .slice So no do_, .slice Sf nf df, .int .i64 us])
   simp only [World.size_alloc] at h1
   have k1 := (h1.alloc (.cells #[.slice none 0 0, .slice none 0 0, .slice none 0 0, .int .i64 0] 67)).below g.b (h1.alloc (.cells #[.slice none 0 0, .slice none 0 0, .slice none 0 0, .int .i64 0] 67)).lt
   have h2 := (Blk.new ((w.alloc (.cells #[.int .i64 1, .slice A1 n c1, .slice A2 k c2, .slice none 0 0, .slice none 0 0, .int .i64 0, .int .i64 0, .slice A3 q c3, .int .i64 0, .slice A4 z c4] 33)).alloc (.cells #[.slice Sb nb db, .slice So no do_, .slice Sf nf df, .int .i64 us] 67)) 67 #[.slice none 0 0, .slice none 0 0, .slice none 0 0, .int .i64 0])
   simp only [World.size_alloc] at h2
   have k2 := h2.below g.b h2.lt
   exact ⟨((((Bw.refl _).alloc _).alloc _).alloc _).trans g, k0.lt, k1.lt, k2.lt, k0.cell 0, k0.cell 1, k0.cell 2, k0.cell 3, k0.cell 4, k0.cell 5, k0.cell 6, k0.cell 7, k0.cell 8, k0.cell 9, k1.cell 0, k1.cell 1, k1.cell 2, k1.cell 3, k2.cell 0, k2.cell 1, k2.cell 2, k2.cell 3⟩⟩
 have HZ : Hid (∀ W, Bw (((w.alloc (.cells #[.int .i64 1, .slice A1 n c1, .slice A2 k c2, .slice none 0 0, .slice none 0 0, .int .i64 0, .int .i64 0, .slice A3 q c3, .int .i64 0, .slice A4 z c4] 33)).alloc (.cells #[.slice Sb nb db, .slice So no do_, .slice Sf nf df, .int .i64 us] 67)).alloc (.cells #[.slice none 0 0, .slice none 0 0, .slice none 0 0, .int .i64 0] 67)) W → Blk W (w.heap.size + 1 + 1) 67 #[.slice none 0 0, .slice none 0 0, .slice none 0 0, .int .i64 0]) := Lib.hid (fun W g => by
   have h1 := Blk.new ((w.alloc (.cells #[.int .i64 1, .slice A1 n c1, .slice A2 k c2, .slice none 0 0, .slice none 0 0, .int .i64 0, .int .i64 0, .slice A3 q c3, .int .i64 0, .slice A4 z c4] 33)).alloc (.cells #[.slice Sb nb db, .slice So no do_, .slice Sf nf df, .int .i64 us] 67)) 67 #[.slice none 0 0, .slice none 0 0, .slice none 0 0, .int .i64 0]
   simp only [World.size_alloc] at h1
   exact h1.below g.b h1.lt)
 rcases hfr : s.fr with _ | ⟨x, fr⟩
 · have hn0 : nf = 0 := by rw [← HUS.out.2, hfr]; rfl
   rw [stepS_nil hfr]
   clear hfr CL CT
   subst hn0
   go_enter Tryz.func70, Tryz.ntmps70
   go_wp2_with (first
     | (go_at_call 64; go_must (refine (CW.out _ BX.out.1).mono ?_; rintro e w1 ⟨rfl, hg⟩; (obtain ⟨-, ylt0, ylt1, ylt2, y0_0, y0_1, y0_2, y0_3, y0_4, y0_5, y0_6, y0_7, y0_8, y0_9, y1_0, y1_1, y1_2, y1_3, y2_0, y2_1, y2_2, y2_3⟩ := BX.out.2 _ hg); (have HG1 := Lib.hid hg); clear hg))
     | (go_at_call 120; go_must (refine (CO.out _ (BX.out.1.trans HG1.out)).mono ?_; rintro e w2 ⟨bv', ov', fv', rfl, ho, hg⟩; obtain ⟨B1, d1, B2, d2, B3, d3, rfl, rfl, rfl⟩ := ho.sat.form; (have HO := Lib.hid ho); (have HG2 := Lib.hid (HG1.out.trans hg)); (have HS2 := Lib.hid hg.size); (have hz := HZ.out w2 (HG1.out.trans hg)); (have r0 := hz.cell 0); (have r1 := hz.cell 1); (have r2 := hz.cell 2); (have r3 := hz.cell 3); (have f0 := hz.frozen 0); (have f1 := hz.frozen 1); (have f2 := hz.frozen 2); (have f3 := hz.frozen 3); (have rl := hz.lt); (have HB8 := Lib.hid hz); clear hz; clear ho hg)))
   have hst := blk4 (v0 := .slice B1 s.ba.length d1) (v1 := .slice B2 s.og.length d2) (v2 := .slice B3 s.fr.length d3) (v3 := .int .i64 us) HB8.out
   refine bodyPost_ret (rrow2 (p := 6) (q := 7) (r := 8) (ty := 67) rfl _ _ (w.heap.size + 1 + 1) _ _ _ rfl (run_loadVar_row _ _ 67 67 _ (0, 0) _ hst.1 Tryz.underlying67 rfl (by kernel_rfl)) rfl rfl) rfl ?_
   have hs1 := HG1.out.size
   simp only [World.size_alloc] at hs1
   exact ⟨_, _, _, by rw [HUS.out.1]; rfl, (HO.out.low hst.2 (by omega)).satB (by have := (BX.out.1.trans HG1.out).size; omega), bw_gb (BX.out.1.trans HG2.out) hst.2 (fun r e => by injection e with e; omega)⟩
 · have hn1 : ¬ nf = 0 := by rw [← HUS.out.2, hfr]; simp
   have dn1 : ((nf : Int) == 0) = false := by (simp <;> omega)
   rw [stepS_cons hfr]
   generalize hres : (if (lookS m s).2 ≠ 0 then (s, false, (lookS m s).2) else ((lookS m s).1, true, 0)) = res
   have HRES := Lib.hid hres
   clear hres
   have CL2 := Lib.hid (CL.out x fr hfr)
   clear hfr CL
   generalize lookS m s = lk at *
   unfold LookPost at CL2
   go_enter Tryz.func70, Tryz.ntmps70
   go_wp2_with (first
     | (go_at_call 64; go_must (refine (CW.out _ BX.out.1).mono ?_; rintro e w1 ⟨rfl, hg⟩; (obtain ⟨-, ylt0, ylt1, ylt2, y0_0, y0_1, y0_2, y0_3, y0_4, y0_5, y0_6, y0_7, y0_8, y0_9, y1_0, y1_1, y1_2, y1_3, y2_0, y2_1, y2_2, y2_3⟩ := BX.out.2 _ hg); (have HG1 := Lib.hid hg); clear hg))
     | (go_at_call 65; go_must (refine (CT.out _ (BX.out.1.trans HG1.out)).mono ?_; rintro e w2 ⟨pv2, rfl, hp2, hg2⟩; obtain ⟨A7, n7, c7, rfl, _, _, _⟩ := hp2.form; (have HP2 := Lib.hid hp2); (have HG2 := Lib.hid (HG1.out.trans hg2)); clear hg2 hp2)))
   refine wp_world (fun W => Hid (Bw (w2.alloc (.cells #[.int .i64 3, .int .i64 0, .slice none 0 0, .slice A7 n7 c7] 50)) W)) (Lib.hid (Bw.refl _)) ?_
   clear ylt0 ylt1 ylt2 y0_0 y0_1 y0_2 y0_3 y0_4 y0_5 y0_6 y0_7 y0_8 y0_9 y1_0 y1_1 y1_2 y1_3 y2_0 y2_1 y2_2 y2_3
   intro W1 HW1
   have HX1 : Hid (Bw (((w.alloc (.cells #[.int .i64 1, .slice A1 n c1, .slice A2 k c2, .slice none 0 0, .slice none 0 0, .int .i64 0, .int .i64 0, .slice A3 q c3, .int .i64 0, .slice A4 z c4] 33)).alloc (.cells #[.slice Sb nb db, .slice So no do_, .slice Sf nf df, .int .i64 us] 67)).alloc (.cells #[.slice none 0 0, .slice none 0 0, .slice none 0 0, .int .i64 0] 67)) W1) := Lib.hid ((HG2.out.trans ((Bw.refl _).alloc _)).trans HW1.out)
   have KS : Hid (∀ w', Bw W1 w' → w'.cell? ⟨w.heap.size, 0, none⟩ = some (.int .i64 1) ∧ w'.cell? ⟨w.heap.size, 1, none⟩ = some (.slice A1 n c1) ∧ w'.cell? ⟨w.heap.size, 2, none⟩ = some (.slice A2 k c2) ∧ w'.cell? ⟨w.heap.size, 3, none⟩ = some (.slice none 0 0) ∧ w'.cell? ⟨w.heap.size, 4, none⟩ = some (.slice none 0 0) ∧ w'.cell? ⟨w.heap.size, 5, none⟩ = some (.int .i64 0) ∧ w'.cell? ⟨w.heap.size, 6, none⟩ = some (.int .i64 0) ∧ w'.cell? ⟨w.heap.size, 7, none⟩ = some (.slice A3 q c3) ∧ w'.cell? ⟨w.heap.size, 8, none⟩ = some (.int .i64 0) ∧ w'.cell? ⟨w.heap.size, 9, none⟩ = some (.slice A4 z c4) ∧ w'.cell? ⟨w.heap.size + 1, 0, none⟩ = some (.slice Sb nb db) ∧ w'.cell? ⟨w.heap.size + 1, 1, none⟩ = some (.slice So no do_) ∧ w'.cell? ⟨w.heap.size + 1, 2, none⟩ = some (.slice Sf nf df) ∧ w'.cell? ⟨w.heap.size + 1, 3, none⟩ = some (.int .i64 us) ∧ w'.cell? ⟨w2.heap.size, 0, none⟩ = some (.int .i64 3) ∧ w'.cell? ⟨w2.heap.size, 1, none⟩ = some (.int .i64 0) ∧ w'.cell? ⟨w2.heap.size, 2, none⟩ = some (.slice none 0 0) ∧ w'.cell? ⟨w2.heap.size, 3, none⟩ = some (.slice A7 n7 c7) ∧ Bw W1 w') := Lib.hid (fun w' g => by
     obtain ⟨-, ylt0, ylt1, ylt2, y0_0, y0_1, y0_2, y0_3, y0_4, y0_5, y0_6, y0_7, y0_8, y0_9, y1_0, y1_1, y1_2, y1_3, y2_0, y2_1, y2_2, y2_3⟩ := BX.out.2 _ (HX1.out.trans g)
     have hb := (Blk.new w2 50 #[.int .i64 3, .int .i64 0, .slice none 0 0, .slice A7 n7 c7]).below (HW1.out.trans g).b (by simp)
     exact ⟨y0_0, y0_1, y0_2, y0_3, y0_4, y0_5, y0_6, y0_7, y0_8, y0_9, y1_0, y1_1, y1_2, y1_3, hb.cell 0, hb.cell 1, hb.cell 2, hb.cell 3, g⟩)
   have hl1 : w.heap.size + 1 + 1 < W1.heap.size := by
     obtain ⟨-, ylt0, ylt1, ylt2, y0_0, y0_1, y0_2, y0_3, y0_4, y0_5, y0_6, y0_7, y0_8, y0_9, y1_0, y1_1, y1_2, y1_3, y2_0, y2_1, y2_2, y2_3⟩ := BX.out.2 _ HX1.out
     exact ylt2
   have hl2 : w2.heap.size < W1.heap.size := by have := HW1.out.size; simp at this; omega
   have CO2 : Hid (∀ W, Bw W1 W → Calls Tryz.prog 120 #[.agg #[.slice Sb nb db, .slice So no do_, .slice Sf nf df, .int .i64 us]] W (fun e w' => ∃ bv' ov' fv', e = .returned (.agg #[bv', ov', fv', .int .i64 us]) ∧ SOwn w' W.heap.size none bv' ov' fv' s ∧ Bw W w')) := Lib.hid (fun W g => CO.out W ((BX.out.1.trans HX1.out).trans g))
   go_region_held3 (fun w' => w'.cell? ⟨w.heap.size, 0, none⟩ = some (.int .i64 1) ∧ w'.cell? ⟨w.heap.size, 1, none⟩ = some (.slice A1 n c1) ∧ w'.cell? ⟨w.heap.size, 2, none⟩ = some (.slice A2 k c2) ∧ w'.cell? ⟨w.heap.size, 3, none⟩ = some (.slice none 0 0) ∧ w'.cell? ⟨w.heap.size, 4, none⟩ = some (.slice none 0 0) ∧ w'.cell? ⟨w.heap.size, 5, none⟩ = some (.int .i64 0) ∧ w'.cell? ⟨w.heap.size, 6, none⟩ = some (.int .i64 0) ∧ w'.cell? ⟨w.heap.size, 7, none⟩ = some (.slice A3 q c3) ∧ w'.cell? ⟨w.heap.size, 8, none⟩ = some (.int .i64 0) ∧ w'.cell? ⟨w.heap.size, 9, none⟩ = some (.slice A4 z c4) ∧ w'.cell? ⟨w.heap.size + 1, 0, none⟩ = some (.slice Sb nb db) ∧ w'.cell? ⟨w.heap.size + 1, 1, none⟩ = some (.slice So no do_) ∧ w'.cell? ⟨w.heap.size + 1, 2, none⟩ = some (.slice Sf nf df) ∧ w'.cell? ⟨w.heap.size + 1, 3, none⟩ = some (.int .i64 us) ∧ w'.cell? ⟨w2.heap.size, 0, none⟩ = some (.int .i64 3) ∧ w'.cell? ⟨w2.heap.size, 1, none⟩ = some (.int .i64 0) ∧ w'.cell? ⟨w2.heap.size, 2, none⟩ = some (.slice none 0 0) ∧ w'.cell? ⟨w2.heap.size, 3, none⟩ = some (.slice A7 n7 c7) ∧ Bw W1 w') (first | (refine KS.out _ ?_; first | exact (Bw.refl _).drew | exact (Bw.refl _).drew.trans hg3 | exact ((Bw.refl _).drew.trans hg3).alloc _)) (first | (go_at_call 120; (with_reducible refine (CO2.out _ (Bw.refl _).drew).mono ?_); rintro e3 w3 ⟨bv3, ov3, fv3, rfl, ho3, hg3⟩; obtain ⟨B1, d1, B2, d2, B3, d3, rfl, rfl, rfl⟩ := ho3.sat.form))
   have hs13 : W1.heap.size ≤ w3.heap.size := hg3.size
   have hs12 : w2.heap.size ≤ W1.heap.size := by omega
   have hlow : (((w.alloc (.cells #[.int .i64 1, .slice A1 n c1, .slice A2 k c2, .slice none 0 0, .slice none 0 0, .int .i64 0, .int .i64 0, .slice A3 q c3, .int .i64 0, .slice A4 z c4] 33)).alloc (.cells #[.slice Sb nb db, .slice So no do_, .slice Sf nf df, .int .i64 us] 67)).alloc (.cells #[.slice none 0 0, .slice none 0 0, .slice none 0 0, .int .i64 0] 67)).heap.size ≤ W1.heap.size := HX1.out.size
   have hbw4 : Bw W1 (w3.alloc (.cells (skA (.slice B1 s.ba.length d1) (.slice B2 s.og.length d2) (.slice B3 s.fr.length d3) us (.slice A1 n c1) (.slice A2 k c2) (.slice A3 q c3) (.slice A4 z c4) (.slice A7 n7 c7)) 150)) := ((Bw.refl _).drew.trans hg3).alloc _
   obtain ⟨W4, hW4⟩ : ∃ W4, W4 = (w3.alloc (.cells (skA (.slice B1 s.ba.length d1) (.slice B2 s.og.length d2) (.slice B3 s.fr.length d3) us (.slice A1 n c1) (.slice A2 k c2) (.slice A3 q c3) (.slice A4 z c4) (.slice A7 n7 c7)) 150)) := ⟨_, rfl⟩
   have HW4 : Hid (SkI W4 W1.heap.size w3.heap.size (.slice A1 n c1) (.slice A2 k c2) (.slice A3 q c3) (.slice A4 z c4) (.slice A7 n7 c7) (.slice B1 s.ba.length d1) (.slice B2 s.og.length d2) (.slice B3 s.fr.length d3) s ∧ Bw W1 W4) := Lib.hid (by
     rw [hW4]
     exact ⟨⟨by rw [HUS.out.1]; exact Blk.new _ _ _, (ho3.lock ((Bw.refl w3).alloc _) (Nat.le_refl _) (by simp)), hs13⟩, hbw4⟩)
   clear KS CO2 hbw4 hg3 ho3
   have hT4 : PAt W4 (· < W1.heap.size) (.slice A7 n7 c7) m.t.parts := HP2.out.keep (fun b hb => by have := hb.2; omega) (fun p hp => ((((Bw.refl w2).alloc _).trans HW1.out).trans HW4.out.2).b.cell hp.2)
   have hwl : w.heap.size ≤ W1.heap.size := (BX.out.1.trans HX1.out).size
   have hM4 : MAt W4 (· < W1.heap.size) (.slice A1 n c1) (.slice A2 k c2) (.slice A3 q c3) (.slice A4 z c4) m := HM.out.keep (fun b hb => Nat.lt_of_lt_of_le hb hwl) (fun p hp => ((BX.out.1.trans HX1.out).trans HW4.out.2).b.cell hp)
   have CL3 := CL2.out W4 _ _ _ _ _ _ HW4.out.1 hT4 hM4
   clear CL2 hT4 hM4 HP2 HM
   obtain ⟨ls, le⟩ := lk
   have HB4 : Hid (∀ W5, Below W1.heap.size W4 W5 → Bw (((w.alloc (.cells #[.int .i64 1, .slice A1 n c1, .slice A2 k c2, .slice none 0 0, .slice none 0 0, .int .i64 0, .int .i64 0, .slice A3 q c3, .int .i64 0, .slice A4 z c4] 33)).alloc (.cells #[.slice Sb nb db, .slice So no do_, .slice Sf nf df, .int .i64 us] 67)).alloc (.cells #[.slice none 0 0, .slice none 0 0, .slice none 0 0, .int .i64 0] 67)) W5) := Lib.hid (fun W5 hbe => Below.trans (HX1.out.trans HW4.out.2) (Below.mono hbe hlow))
   clear HW4
   dsimp only at CL3 ⊢
   rw [hW4] at CL3 HB4
   clear hW4
   have CL3 := Lib.hid CL3
   by_cases hle : le = 0
   · subst hle
     have HR1 : Hid (res = (ls, true, 0)) := Lib.hid (by simpa using HRES.out.symm)
     go_wp2_with (go_at_call 121; go_must (refine CL3.out.mono ?_; rintro e5 w5 ⟨rfl, hsk, hbe⟩; obtain ⟨bv5, ov5, fv5, hI5⟩ := hsk rfl; obtain ⟨D1, j1, D2, j2, D3, j3, rfl, rfl, rfl⟩ := hI5.own.sat.form; (have hx5 : Bw (((w.alloc (.cells #[.int .i64 1, .slice A1 n c1, .slice A2 k c2, .slice none 0 0, .slice none 0 0, .int .i64 0, .int .i64 0, .slice A3 q c3, .int .i64 0, .slice A4 z c4] 33)).alloc (.cells #[.slice Sb nb db, .slice So no do_, .slice Sf nf df, .int .i64 us] 67)).alloc (.cells #[.slice none 0 0, .slice none 0 0, .slice none 0 0, .int .i64 0] 67)) w5 := HB4.out _ hbe); (have hz := HZ.out w5 hx5); (have r0 := hz.cell 0); (have r1 := hz.cell 1); (have r2 := hz.cell 2); (have r3 := hz.cell 3); (have f0 := hz.frozen 0); (have f1 := hz.frozen 1); (have f2 := hz.frozen 2); (have f3 := hz.frozen 3); (have rl := hz.lt); (have HB8 := Lib.hid hz); clear hz; (have m0 := hI5.blk.cell 0); (have m1 := hI5.blk.cell 1); (have m2 := hI5.blk.cell 2); (have m3 := hI5.blk.cell 3); (have ml := hI5.blk.lt); (have HI5 := Lib.hid hI5); (have HX5 := Lib.hid hx5); clear hsk hbe hI5 hx5))
     have hst := blk4 (v0 := .slice D1 ls.ba.length j1) (v1 := .slice D2 ls.og.length j2) (v2 := .slice D3 ls.fr.length j3) (v3 := .int .i64 ls.us) HB8.out
     refine bodyPost_ret (rrow2 (p := 6) (q := 7) (r := 8) (ty := 67) rfl _ _ (w.heap.size + 1 + 1) _ _ _ rfl (run_loadVar_row _ _ 67 67 _ (0, 0) _ hst.1 Tryz.underlying67 rfl (by kernel_rfl)) rfl rfl) rfl ?_
     rw [HR1.out]
     exact ⟨_, _, _, rfl, (HI5.out.own.low hst.2 (by omega)).satB (by have := (BX.out.1.trans HX1.out).size; omega), bw_gb (BX.out.1.trans HX5.out) hst.2 (fun r e => by injection e with e; omega)⟩
   · have HR1 : Hid (res = (s, false, le)) := Lib.hid (by simpa [hle] using HRES.out.symm)
     have dle : (le != 0) = true := by simpa using hle
     go_wp2_with (first
       | (go_at_call 121; go_must (refine CL3.out.mono ?_; rintro e5 w5 ⟨rfl, -, hbe⟩; (have hx5 : Bw (((w.alloc (.cells #[.int .i64 1, .slice A1 n c1, .slice A2 k c2, .slice none 0 0, .slice none 0 0, .int .i64 0, .int .i64 0, .slice A3 q c3, .int .i64 0, .slice A4 z c4] 33)).alloc (.cells #[.slice Sb nb db, .slice So no do_, .slice Sf nf df, .int .i64 us] 67)).alloc (.cells #[.slice none 0 0, .slice none 0 0, .slice none 0 0, .int .i64 0] 67)) w5 := HB4.out _ hbe); (obtain ⟨-, ylt0, ylt1, ylt2, y0_0, y0_1, y0_2, y0_3, y0_4, y0_5, y0_6, y0_7, y0_8, y0_9, y1_0, y1_1, y1_2, y1_3, y2_0, y2_1, y2_2, y2_3⟩ := BX.out.2 _ hx5); (have HX5 := Lib.hid hx5); clear hbe hx5))
       | (go_at_call 120; go_must (refine (CO.out _ (BX.out.1.trans HX5.out)).mono ?_; rintro e w6 ⟨bv', ov', fv', rfl, ho, hg⟩; obtain ⟨D1, j1, D2, j2, D3, j3, rfl, rfl, rfl⟩ := ho.sat.form; (have HO := Lib.hid ho); (have HG6 := Lib.hid (HX5.out.trans hg)); (have hz := HZ.out w6 (HX5.out.trans hg)); (have r0 := hz.cell 0); (have r1 := hz.cell 1); (have r2 := hz.cell 2); (have r3 := hz.cell 3); (have f0 := hz.frozen 0); (have f1 := hz.frozen 1); (have f2 := hz.frozen 2); (have f3 := hz.frozen 3); (have rl := hz.lt); (have HB8 := Lib.hid hz); clear hz; clear ho hg)))
     have hst := blk4 (v0 := .slice D1 s.ba.length j1) (v1 := .slice D2 s.og.length j2) (v2 := .slice D3 s.fr.length j3) (v3 := .int .i64 us) HB8.out
     refine bodyPost_ret (rrow2 (p := 6) (q := 7) (r := 8) (ty := 67) rfl _ _ (w.heap.size + 1 + 1) _ _ _ rfl (run_loadVar_row _ _ 67 67 _ (0, 0) _ hst.1 Tryz.underlying67 rfl (by kernel_rfl)) rfl rfl) rfl ?_
     have hs1 := HX5.out.size
     simp only [World.size_alloc] at hs1
     rw [HR1.out]
     exact ⟨_, _, _, by rw [HUS.out.1]; rfl, (HO.out.low hst.2 (by omega)).satB (by have := (BX.out.1.trans HX5.out).size; omega), bw_gb (BX.out.1.trans HG6.out) hst.2 (fun r e => by injection e with e; omega)⟩

theorem bkstep_any (m : Mdl) (hm : MdlOk m) (hn : NmOk m) (hadd : AddSays m) (s : Sk) (hs : SkOk m s) (sv pv rv kv bv ov fv : Value) (w : World) (h : MB w w.heap.size sv pv rv kv m) (h1 : SAt w (· < w.heap.size) bv ov fv s) :
   Calls Tryz.prog 40 #[aggM sv pv rv kv, aggS bv ov fv s.us] w (StepPost w (stepS m s)) := by
 obtain ⟨A1, c1, A2, c2, A3, c3, A4, c4, rfl, rfl, rfl, rfl⟩ := h.form
 obtain ⟨Sb, db, So, do_, Sf, df, rfl, rfl, rfl⟩ := h1.form
 have CD : Hid (∀ W, Bw w W → Calls Tryz.prog 70 #[aggM (.slice A1 m.ss.length c1) (.slice A2 m.ps.length c2) (.slice A3 m.rs.length c3) (.slice A4 (1 + m.cs.length) c4), .agg #[.slice Sb s.ba.length db, .slice So s.og.length do_, .slice Sf s.fr.length df, .int .i64 s.us], .func (.func 71) #[] #[]] W (StepPost W (stepS m s))) := Lib.hid (fun W g => bkdo_any m hm hn hadd s hs _ _ _ _ _ _ _ W (h.bw g) (h1.bw g))
 obtain ⟨us, hus⟩ : ∃ us, s.us = us := ⟨_, rfl⟩
 obtain ⟨nb, hnb⟩ : ∃ nb, s.ba.length = nb := ⟨_, rfl⟩
 obtain ⟨no, hno⟩ : ∃ no, s.og.length = no := ⟨_, rfl⟩
 obtain ⟨nf, hnf⟩ : ∃ nf, s.fr.length = nf := ⟨_, rfl⟩
 rw [hus, hnb, hno, hnf] at CD
 rw [hus, hnb, hno, hnf]
 clear h h1 hm hn hs hadd hus hnb hno hnf
 unfold aggM aggS at *
 unfold StepPost at *
 generalize stepS m s = a at *
 obtain ⟨a1, a2, a3⟩ := a
 dsimp only at *
 generalize m.ss.length = n at *
 generalize m.ps.length = k at *
 generalize m.rs.length = q at *
 generalize 1 + m.cs.length = z at *
 have BX : Hid (Bw w (((w.alloc (.cells #[.int .i64 1, .slice A1 n c1, .slice A2 k c2, .slice none 0 0, .slice none 0 0, .int .i64 0, .int .i64 0, .slice A3 q c3, .int .i64 0, .slice A4 z c4] 33)).alloc (.cells #[.slice Sb nb db, .slice So no do_, .slice Sf nf df, .int .i64 us] 67)).alloc (.cells #[.slice none 0 0, .slice none 0 0, .slice none 0 0, .int .i64 0] 67)) ∧ ∀ W, Bw (((w.alloc (.cells #[.int .i64 1, .slice A1 n c1, .slice A2 k c2, .slice none 0 0, .slice none 0 0, .int .i64 0, .int .i64 0, .slice A3 q c3, .int .i64 0, .slice A4 z c4] 33)).alloc (.cells #[.slice Sb nb db, .slice So no do_, .slice Sf nf df, .int .i64 us] 67)).alloc (.cells #[.slice none 0 0, .slice none 0 0, .slice none 0 0, .int .i64 0] 67)) W → Bw w W ∧ w.heap.size < W.heap.size ∧ w.heap.size + 1 < W.heap.size ∧ w.heap.size + 1 + 1 < W.heap.size ∧ W.cell? ⟨w.heap.size, 0, none⟩ = some (.int .i64 1) ∧ W.cell? ⟨w.heap.size, 1, none⟩ = some (.slice A1 n c1) ∧ W.cell? ⟨w.heap.size, 2, none⟩ = some (.slice A2 k c2) ∧ W.cell? ⟨w.heap.size, 3, none⟩ = some (.slice none 0 0) ∧ W.cell? ⟨w.heap.size, 4, none⟩ = some (.slice none 0 0) ∧ W.cell? ⟨w.heap.size, 5, none⟩ = some (.int .i64 0) ∧ W.cell? ⟨w.heap.size, 6, none⟩ = some (.int .i64 0) ∧ W.cell? ⟨w.heap.size, 7, none⟩ = some (.slice A3 q c3) ∧ W.cell? ⟨w.heap.size, 8, none⟩ = some (.int .i64 0) ∧ W.cell? ⟨w.heap.size, 9, none⟩ = some (.slice A4 z c4) ∧ W.cell? ⟨w.heap.size + 1, 0, none⟩ = some (.slice Sb nb db) ∧ W.cell? ⟨w.heap.size + 1, 1, none⟩ = some (.slice So no do_) ∧ W.cell? ⟨w.heap.size + 1, 2, none⟩ = some (.slice Sf nf df) ∧ W.cell? ⟨w.heap.size + 1, 3, none⟩ = some (.int .i64 us) ∧ W.cell? ⟨w.heap.size + 1 + 1, 0, none⟩ = some (.slice none 0 0) ∧ W.cell? ⟨w.heap.size + 1 + 1, 1, none⟩ = some (.slice none 0 0) ∧ W.cell? ⟨w.heap.size + 1 + 1, 2, none⟩ = some (.slice none 0 0) ∧ W.cell? ⟨w.heap.size + 1 + 1, 3, none⟩ = some (.int .i64 0)) := Lib.hid ⟨((((Bw.refl _).alloc _).alloc _).alloc _), fun W g => by
   have h0 := (Blk.new w 33 #[.int .i64 1, .slice A1 n c1, .slice A2 k c2, .slice none 0 0, .slice none 0 0, .int .i64 0, .int .i64 0, .slice A3 q c3, .int .i64 0, .slice A4 z c4])
   have k0 := ((h0.alloc (.cells #[.slice Sb nb db, .slice So no do_, .slice Sf nf df, .int .i64 us] 67)).alloc (.cells #[.slice none 0 0, .slice none 0 0, .slice none 0 0, .int .i64 0] 67)).below g.b ((h0.alloc (.cells #[.slice Sb nb db, .slice So no do_, .slice Sf nf df, .int .i64 us] 67)).alloc (.cells #[.slice none 0 0, .slice none 0 0, .slice none 0 0, .int .i64 0] 67)).lt
   have h1 := (Blk.new (w.alloc (.cells #[.int .i64 1, .slice A1 n c1, .slice A2 k c2, .slice none 0 0, .slice none 0 0, .int .i64 0, .int .i64 0, .slice A3 q c3, .int .i64 0, .slice A4 z c4] 33)) 67 #[.slice Sb nb db, .slice So no do_, .slice Sf nf df, .int .i64 us])
   simp only [World.size_alloc] at h1
   have k1 := (h1.alloc (.cells #[.slice none 0 0, .slice none 0 0, .slice none 0 0, .int .i64 0] 67)).below g.b (h1.alloc (.cells #[.slice none 0 0, .slice none 0 0, .slice none 0 0, .int .i64 0] 67)).lt
   have h2 := (Blk.new ((w.alloc (.cells #[.int .i64 1, .slice A1 n c1, .slice A2 k c2, .slice none 0 0, .slice none 0 0, .int .i64 0, .int .i64 0, .slice A3 q c3, .int .i64 0, .slice A4 z c4] 33)).alloc (.cells #[.slice Sb nb db, .slice So no do_, .slice Sf nf df, .int .i64 us] 67)) 67 #[.slice none 0 0, .slice none 0 0, .slice none 0 0, .int .i64 0])
   simp only [World.size_alloc] at h2
   have k2 := h2.below g.b h2.lt
   exact ⟨((((Bw.refl _).alloc _).alloc _).alloc _).trans g, k0.lt, k1.lt, k2.lt, k0.cell 0, k0.cell 1, k0.cell 2, k0.cell 3, k0.cell 4, k0.cell 5, k0.cell 6, k0.cell 7, k0.cell 8, k0.cell 9, k1.cell 0, k1.cell 1, k1.cell 2, k1.cell 3, k2.cell 0, k2.cell 1, k2.cell 2, k2.cell 3⟩⟩
 have HZ : Hid (∀ W, Bw (((w.alloc (.cells #[.int .i64 1, .slice A1 n c1, .slice A2 k c2, .slice none 0 0, .slice none 0 0, .int .i64 0, .int .i64 0, .slice A3 q c3, .int .i64 0, .slice A4 z c4] 33)).alloc (.cells #[.slice Sb nb db, .slice So no do_, .slice Sf nf df, .int .i64 us] 67)).alloc (.cells #[.slice none 0 0, .slice none 0 0, .slice none 0 0, .int .i64 0] 67)) W → Blk W (w.heap.size + 1 + 1) 67 #[.slice none 0 0, .slice none 0 0, .slice none 0 0, .int .i64 0]) := Lib.hid (fun W g => by
   have h1 := Blk.new ((w.alloc (.cells #[.int .i64 1, .slice A1 n c1, .slice A2 k c2, .slice none 0 0, .slice none 0 0, .int .i64 0, .int .i64 0, .slice A3 q c3, .int .i64 0, .slice A4 z c4] 33)).alloc (.cells #[.slice Sb nb db, .slice So no do_, .slice Sf nf df, .int .i64 us] 67)) 67 #[.slice none 0 0, .slice none 0 0, .slice none 0 0, .int .i64 0]
   simp only [World.size_alloc] at h1
   exact h1.below g.b h1.lt)
 go_enter Tryz.func40, Tryz.ntmps40
 go_wp2_with (go_at_call 70; go_must (refine (CD.out _ BX.out.1).mono ?_; rintro e w1 ⟨bv1, ov1, fv1, rfl, hs1, hg⟩; obtain ⟨D1, j1, D2, j2, D3, j3, rfl, rfl, rfl⟩ := hs1.form; (have hz := HZ.out w1 hg); (have r0 := hz.cell 0); (have r1 := hz.cell 1); (have r2 := hz.cell 2); (have r3 := hz.cell 3); (have f0 := hz.frozen 0); (have f1 := hz.frozen 1); (have f2 := hz.frozen 2); (have f3 := hz.frozen 3); (have rl := hz.lt); (have HB8 := Lib.hid hz); clear hz; (have HS1 := Lib.hid hs1); (have HG1 := Lib.hid hg); clear hs1 hg))
 have hst := blk4 (v0 := .slice D1 a1.ba.length j1) (v1 := .slice D2 a1.og.length j2) (v2 := .slice D3 a1.fr.length j3) (v3 := .int .i64 a1.us) HB8.out
 refine bodyPost_ret (rrow2 (p := 4) (q := 5) (r := 6) (ty := 67) rfl _ _ (w.heap.size + 1 + 1) _ _ _ rfl (run_loadVar_row _ _ 67 67 _ (0, 0) _ hst.1 Tryz.underlying67 rfl (by kernel_rfl)) rfl rfl) rfl ?_
 have hsg := hst.2.size
 refine ⟨_, _, _, rfl, HS1.out.keep (fun b hb => ⟨by have := hb.1; simp at this; omega, Nat.lt_of_lt_of_le hb.2 hsg⟩) (fun p hp => World.cell?_of_block (hst.2.block p.block hp.2 (fun e => by injection e with e; have := hp.1; simp at this; omega))), bw_gb (BX.out.1.trans HG1.out) hst.2 (fun r e => by injection e with e; omega)⟩
end
end Go.Proofs.YthhbkabdhkdafaaGreat
