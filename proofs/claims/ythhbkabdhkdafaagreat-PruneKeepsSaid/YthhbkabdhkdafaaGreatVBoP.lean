/- Part of a proof of pruneKeeps_holds. -/
import Derived.Test.YthhbkabdhkdafaaGreatVBmP
import Derived.Test.YthhbkabdhkdafaaGreatVBnP
set_option linter.unusedSimpArgs false
set_option linter.unusedVariables false
set_option maxRecDepth 100000
set_option maxHeartbeats 16000000
namespace Go.Proofs.YthhbkabdhkdafaaGreat
section
open Go.RowKit
theorem DetSays.up {M : List (List Int)} {k : Nat} {rows : List Nat} {D E : Nat} (h : DetSays M k rows D) (hDE : D ≤ E) : DetSays M k rows E := fun cols hl hc => ⟨Nat.le_trans (h cols hl hc).1 hDE, (h cols hl hc).2⟩
theorem det_two (M : List (List Int)) (n k : Nat) (ho : MxOk M n k) : ∀ rows : List Nat, rows.length ≤ 2 → (∀ r ∈ rows, r < n) → DetSays M k rows 1024
 | [], _, _ => (det_zero M k).up (by omega)
 | [r], _, h => (det_step M n k ho r (h r (by simp)) [] (by simp) 1 (by omega) (det_zero M k)).up (by simp)
 | [r, s], _, h => (det_step M n k ho r (h r (by simp)) [s] (by simp) 16 (by omega) ((det_step M n k ho s (h s (by simp)) [] (by simp) 1 (by omega) (det_zero M k)).up (by simp))).up (by simp)
 | _ :: _ :: _ :: _, hl, _ => by simp at hl
theorem natI_len (l : List Nat) : (natI l).length = l.length := by simp [natI]
theorem natI_snoc (l : List Nat) (x : Nat) : natI (l ++ [x]) = natI l ++ [(x : Int)] := by simp [natI]
theorem natI_mem {l : List Nat} {x : Nat} : (x : Int) ∈ natI l ↔ x ∈ l := by
 unfold natI
 rw [List.mem_map]
 constructor
 · rintro ⟨y, h, e⟩
   have : y = x := by omega
   rwa [← this]
 · exact fun h => ⟨x, h, rfl⟩
def LeadPost (w : World) (R C : List Nat) (e : Ending) (w' : World) : Prop := ∃ (A1 : Option Addr) (c1 : Nat) (A2 : Option Addr) (c2 : Nat), e = .returned (.tuple #[.slice A1 R.length c1, .slice A2 C.length c2]) ∧ IB w' w'.heap.size (.slice A1 R.length c1) (natI R) ∧ IB w' w'.heap.size (.slice A2 C.length c2) (natI C) ∧ Bw w w'
theorem IAt.len_ {w : World} {S : Nat → Prop} {A : Option Addr} {n c : Nat} {l : List Int} (h : IAt w S (.slice A n c) l) : l.length = n := by
 obtain ⟨A', n', c', e, h1, h2, h3, h4⟩ := h
 injection e with e1 e2 e3
 subst e1 e2 e3
 exact h1
theorem IAt.cap_ {w : World} {S : Nat → Prop} {A : Option Addr} {n c : Nat} {l : List Int} (h : IAt w S (.slice A n c) l) : n ≤ c ∧ c ≤ maxLen := by
 obtain ⟨A', n', c', e, h1, h2, h3, h4⟩ := h
 injection e with e1 e2 e3
 subst e1 e2 e3
 exact ⟨h2, h3⟩
theorem mxLeading_any (M : List (List Int)) (n9 k9 : Nat) (ho : MxOk M n9 k9) (hk2 : k9 ≤ 2) (v : Value) (w : World) (h : MxAt w (· < w.heap.size) v M) : Calls Tryz.prog 273 #[v] w (LeadPost w (leadP M k9).1 (leadP M k9).2) := by
 obtain ⟨A, c, rfl, h3, h4⟩ := h.form
 have n1 := ho.n1
 have k1 := ho.k1
 have hln := ho.ln
 obtain ⟨ad, rA, rcx, rfl, hab, z0, -⟩ := h.at_ (k := 0) (by omega)
 rw [ho.rw _ (List.getElem_mem _)] at z0
 have HZ0 : Hid (∀ W, Bw w W → W.cell? ad = some (.slice rA k9 rcx)) := Lib.hid (fun W g => (g.b.cell hab).trans (by simpa [Addr.add] using z0))
 have HM : Hid (∀ W, Bw w W → MxAt W (· < W.heap.size) (.slice (some ad) n9 c) M) := Lib.hid (fun W g => by have := h.bw g; rwa [hln] at this)
 have DT := Lib.hid (det_two M n9 k9 ho)
 have HLN := Lib.hid hln
 have HOK := Lib.hid (leadP_ok M n9 hln)
 rw [hln] at h3 ⊢
 clear h ho z0 hab hln
 go_enter Tryz.func273, Tryz.ntmps273
 have zw := HZ0.out w (Bw.refl _)
 go_wp2_with fail
 clear zw
 go_loopw [2, 3, 12] (fun s2 s3 s12 wr => ∃ (j : Nat) (RA : Option Addr) (rn rc : Nat) (CA : Option Addr) (cn cc : Nat), j ≤ k9 ∧ s12 = .int .i64 (j : Int) ∧ s2 = .slice RA rn rc ∧ s3 = .slice CA cn cc ∧ Hid (IB wr wr.heap.size (.slice RA rn rc) (natI (leadP M j).1) ∧ IB wr wr.heap.size (.slice CA cn cc) (natI (leadP M j).2) ∧ Bw w wr)) (fun _ _ s12 _ => k9 - (intOf s12).toNat)
 case atStart => exact ⟨0, none, 0, 0, none, 0, 0, by omega, rfl, rfl, rfl, Lib.hid ⟨IAt.nil _ _ (Nat.zero_le _), IAt.nil _ _ (Nat.zero_le _), Bw.refl _⟩⟩
 case round =>
   obtain ⟨wo, hwo⟩ : ∃ wo, wo = wr := ⟨_, rfl⟩
   subst hwo
   obtain ⟨j, RA, rn, rc, CA, cn, cc, hj, rfl, rfl, rfl, HA⟩ := hrel
   have hok := HOK.out j
   by_cases hlt9 : j < k9
   · have hlt9' : (j : Int) < (k9 : Int) := by omega
     have HS : Hid (leadP M (j + 1) = leadR M (leadP M j).1 (leadP M j).2 j (List.range n9)) := Lib.hid (by rw [leadP_succ, HLN.out])
     obtain ⟨rows, cols, hp⟩ : ∃ rows cols, leadP M j = (rows, cols) := ⟨_, _, rfl⟩
     rw [hp] at HS HA hok
     simp only at HS HA
     have hl1 := HA.out.1.len_
     have hl2 := HA.out.2.1.len_
     rw [natI_len] at hl1 hl2
     have hr9 : rows.length ≤ 1 := by have := hok.le; simp at this; omega
     have hrc : rows.length = cols.length := hok.len
     have HRN := Lib.hid (And.intro hok.rn hok.cn)
     have hb1 := HA.out.1.cap_
     have hb2 := HA.out.2.1.cap_
     have HL : Hid (rows.length = rn ∧ cols.length = cn ∧ rn ≤ 1 ∧ cn ≤ 1 ∧ rows.length = cols.length) := Lib.hid (by omega)
     have hrn1 := HL.out.2.2.1
     have hcn1 := HL.out.2.2.2.1
     clear hok hp hl1 hl2 hr9 hrc
     go_wp2_with fail
     go_loopw [2, 3, 17] (fun s2 s3 s17 wr => ∃ i : Nat, i ≤ n9 ∧ s17 = .int .i64 (i : Int) ∧ s2 = .slice RA rn rc ∧ s3 = .slice CA cn cc ∧ Hid (Bw wo wr ∧ leadP M (j + 1) = leadR M rows cols j ((List.range n9).drop i))) (fun _ _ s17 _ => n9 - (intOf s17).toNat)
     case atStart => exact ⟨0, by omega, rfl, rfl, rfl, Lib.hid ⟨Bw.refl _, by rw [HS.out]; rfl⟩⟩
     case round =>
       obtain ⟨wi, hwi⟩ : ∃ wi, wi = wr := ⟨_, rfl⟩
       subst hwi
       obtain ⟨i, hi, rfl, rfl, rfl, HR⟩ := hrel
       by_cases hlt : i < n9
       · have hlt' : (i : Int) < (n9 : Int) := by omega
         have CT := Lib.hid (contI9_any (natI rows) (i : Int) _ wi (HA.out.1.bw HR.out.1))
         have HX := Lib.hid HR.out.2
         have HB := Lib.hid HR.out.1
         clear HR
         by_cases hin : i ∈ rows
         · rw [show decide ((i : Int) ∈ natI rows) = true by simpa [natI_mem] using hin] at CT
           have hin := Lib.hid hin
           go_wp2_with (go_at_call 255; go_must (refine CT.out.mono ?_; rintro e w1 ⟨rfl, hg1⟩; (have HG1 := Lib.hid (HB.out.trans hg1)); clear hg1))
           go_roundw
           case rel =>
             refine ⟨i + 1, by omega, by go_num, rfl, rfl, Lib.hid ⟨HG1.out, ?_⟩⟩
             have h1 := HX.out
             rw [range_drop hlt, leadR, if_pos hin.out] at h1
             exact h1
           case measure => simp [intOf]; omega
         · rw [show decide ((i : Int) ∈ natI rows) = false by simpa [natI_mem] using hin] at CT
           have hin := Lib.hid hin
           have CL1 : Hid (∀ W, Calls Tryz.prog 338 #[.slice RA rn rc] W (fun e w' => e = .returned (.slice RA rn rn) ∧ Bw W w')) := Lib.hid (fun W => clipI_any RA rn rc hb1.1 hb1.2 W)
           have CL2 : Hid (∀ W, Calls Tryz.prog 338 #[.slice CA cn cc] W (fun e w' => e = .returned (.slice CA cn cn) ∧ Bw W w')) := Lib.hid (fun W => clipI_any CA cn cc hb2.1 hb2.2 W)
           have HR1 : Hid (∀ W, Bw wi W → IB W W.heap.size (.slice RA rn rn) (natI rows)) := Lib.hid (fun W g => (HA.out.1.bw (HB.out.trans g)).clip)
           have HC1 : Hid (∀ W, Bw wi W → IB W W.heap.size (.slice CA cn cn) (natI cols)) := Lib.hid (fun W g => (HA.out.2.1.bw (HB.out.trans g)).clip)
           have DC : Hid (∀ u1 u2 W, Bw wi W → IB W W.heap.size u1 (natI (rows ++ [i])) → IB W W.heap.size u2 (natI (cols ++ [j])) → Calls Tryz.prog 274 #[.slice (some ad) n9 c, u1, u2] W (NumPost W (detP M (rows ++ [i]) (cols ++ [j])))) := Lib.hid (fun u1 u2 W g g1 g2 => by
             have hL := HL.out
             refine (DT.out (rows ++ [i]) (by simp; omega) (fun r hr => ?_) (cols ++ [j]) (by simp; omega) (fun r hr => ?_)).2 _ _ _ W (HM.out W (HA.out.2.2.trans (HB.out.trans g))) g1 g2
             · rcases List.mem_append.1 hr with h | h
               · exact HRN.out.1 r h
               · rw [List.mem_singleton.1 h]; exact hlt
             · rcases List.mem_append.1 hr with h | h
               · have := HRN.out.2 r h; omega
               · rw [List.mem_singleton.1 h]; exact hlt9)
           generalize hdd : detP M (rows ++ [i]) (cols ++ [j]) = dd at *
           have HDD := Lib.hid hdd
           clear hdd
           go_upto_region 9 with (first
             | (go_at_call 255; go_must (refine CT.out.mono ?_; rintro e w1 ⟨rfl, hg1⟩; (have HG1 := Lib.hid hg1); clear hg1))
             | (go_at_call 338; (with_reducible refine (CL1.out _).mono ?_); rintro e w2 ⟨rfl, hg2⟩; (have HG2 := Lib.hid (HG1.out.trans hg2)); clear hg2)
             | (go_at_call 338; (with_reducible refine (CL2.out _).mono ?_); rintro e w4 ⟨rfl, hg4⟩; (have HG4 := Lib.hid (HO3.out.2.trans hg4)); (have HW4 := Lib.hid hg4); clear hg4)
             | (at_builtin; refine wpList_clipI rfl (.tmp 24) (.tmp 26) rfl RA rn (natI rows) (HR1.out _ (HG2.out.alloc _)) (by omega) (i : Int) w2.heap.size (Blk.new w2 _ _) rfl rfl ?_; intro v3 w3 hown3 hg3; obtain ⟨A3, c3, rfl⟩ := own_form hown3; (have HO3 := Lib.hid (And.intro hown3 ((HG2.out.alloc (.cells #[.int .i64 (i : Int)] 3)).trans hg3))); clear hown3 hg3)
             | (at_builtin; go_must (refine wpList_clipI rfl (.tmp 29) (.tmp 31) rfl CA cn (natI cols) (HC1.out _ (HG4.out.alloc _)) (by omega) (j : Int) w4.heap.size (Blk.new w4 _ _) rfl rfl ?_; intro v5 w5 hown5 hg5; obtain ⟨A5, c5, rfl⟩ := own_form hown5; (have HO5 := Lib.hid (And.intro hown5 ((HG4.out.alloc (.cells #[.int .i64 (j : Int)] 3)).trans hg5))); (have HQ5 := Lib.hid (And.intro HG4.out hg5)); clear hown5 hg5)))
           have hz5 : IB w5 w5.heap.size (.slice A3 (rn + 1) c3) (natI (rows ++ [i])) ∧ IB w5 w5.heap.size (.slice A5 (cn + 1) c5) (natI (cols ++ [j])) := by
             have t1 := own_iat (cs := natI rows ++ [(i : Int)]) HO3.out.1
             have t2 := own_iat (cs := natI cols ++ [(j : Int)]) HO5.out.1
             rw [← natI_snoc] at t1 t2
             refine ⟨IAt.bw (t1.keep (fun b hb => hb.2) (fun _ _ => rfl)) ?_, t2.keep (fun b hb => hb.2) (fun _ _ => rfl)⟩
             exact (HW4.out.alloc _).trans HQ5.out.2
           have HZ := Lib.hid hz5
           have HG5 := Lib.hid (HB.out.trans HO5.out.2)
           have CD := Lib.hid (DC.out _ _ w5 HO5.out.2 hz5.1 hz5.2)
           clear hz5 DC CL1 CL2 HR1 HC1 CT HO3 HO5 HQ5 HG4 HG2 HG1
           by_cases hd0 : dd = 0
           · have hd1 : (dd != 0) = false := by simpa using hd0
             have HN := Lib.hid hd0
             clear hd0
             go_wp2_with (go_at_call 274; go_must (refine CD.out.mono ?_; rintro e w6 ⟨rfl, hg6⟩; (have HG6 := Lib.hid (HG5.out.trans hg6)); clear hg6))
             go_roundw
             case rel =>
               refine ⟨i + 1, by omega, by go_num, rfl, rfl, Lib.hid ⟨HG6.out, ?_⟩⟩
               have h1 := HX.out
               rw [range_drop hlt, leadR, if_neg hin.out, if_neg (by rw [HDD.out, HN.out]; simp)] at h1
               exact h1
             case measure => simp [intOf]; omega
           · have hd1 : (dd != 0) = true := by simpa using hd0
             have HN := Lib.hid hd0
             clear hd0
             go_wp2_with (go_at_call 274; go_must (refine CD.out.mono ?_; rintro e w6 ⟨rfl, hg6⟩; (have HG6 := Lib.hid hg6); clear hg6))
             have h1 := HX.out
             rw [range_drop hlt, leadR, if_neg hin.out, if_pos (by rw [HDD.out]; exact HN.out)] at h1
             exact ⟨⟨j + 1, A3, rn + 1, c3, A5, cn + 1, c5, by omega, by go_num, rfl, rfl, Lib.hid ⟨by rw [h1]; exact HZ.out.1.bw HG6.out, by rw [h1]; exact HZ.out.2.bw HG6.out, HA.out.2.2.trans (HG5.out.trans HG6.out)⟩⟩, by simp [intOf]; omega⟩
       · obtain rfl : i = n9 := by omega
         go_wp2_with fail
         have h1 := HR.out.2
         rw [range_end, leadR] at h1
         exact ⟨⟨j + 1, RA, rn, rc, CA, cn, cc, by omega, by go_num, rfl, rfl, Lib.hid ⟨by rw [h1]; exact HA.out.1.bw HR.out.1, by rw [h1]; exact HA.out.2.1.bw HR.out.1, HA.out.2.2.trans HR.out.1⟩⟩, by simp [intOf]; omega⟩
   · obtain rfl : j = k9 := by omega
     obtain ⟨h1, h2, h3⟩ := HA.out
     obtain rfl : rn = (leadP M j).1.length := by rw [← natI_len, h1.len_]
     obtain rfl : cn = (leadP M j).2.length := by rw [← natI_len, h2.len_]
     go_wp2_with fail
     go_ret2
     exact ⟨_, _, _, _, rfl, h1, h2, h3⟩
theorem infoStepB : (Tryz.prog.info? 62).map (fun i => (i.zero, i.size, i.bytes)) = some (some (.agg #[.int .i64 0, .int .i64 0, .slice none 0 0]), 3, 40) := by kernel_rfl
theorem stp3 (x y : Int) (A : Option Addr) (n c : Nat) : ∀ u ∈ [Value.int .i64 x, .int .i64 y, .slice A n c], u.oneCell' = true := by simp [Value.oneCell']
theorem reads_new3 (W : World) (t : TypeId) (a b c : Value) : Reads (W.alloc (.cells #[a, b, c] t)) (W.heap.size + 1) 3 (some ⟨W.heap.size, 0, none⟩) 1 [a, b, c] := reads_blk (n := 1) (Blk.new W t #[a, b, c]) (by omega) rfl
def OwnT (B : Nat) (W : World) (v : Value) (l : List St) : Prop := ∃ ps, ERow encS W 62 B (fun b => B ≤ b ∧ b < W.heap.size ∧ v.ownBlock ≠ some b) v ps ∧ ps.map (·.1) = l
theorem OwnT.push {B : Nat} {A W : World} {v v' : Value} {l : List St} {ps : List (St × Value)} (h : ERow encS A 62 B (fun b => B ≤ b ∧ b < A.heap.size ∧ v.ownBlock ≠ some b) v ps) (e : ps.map (·.1) = l) {x : St} {s1 : Value} (h1 : KAt A (fun b => B ≤ b ∧ b < A.heap.size ∧ v.ownBlock ≠ some b) s1 x.v.ks)
   (hown : W.ownsRow B 62 3 v' (ps.length + 1) (ps.flatMap encS.enc ++ [.int .i64 x.r, .int .i64 x.v.n, s1])) (hg : A.grownBy W v.ownBlock) (hv : v'.ownBlock = v.ownBlock ∨ v'.ownBlock = some A.heap.size) : OwnT B W v' (l ++ [x]) := by
 refine ⟨ps ++ [(x, s1)], h.push (x := (x, s1)) (fun q hq => ?_) hown hg (fun b hb => ⟨⟨hb.1, Nat.lt_of_lt_of_le hb.2.1 hg.size, fun e => ?_⟩, hb.2.1, hb.2.2⟩), by simp [e]⟩
 · simp only [encS, List.mem_cons, List.not_mem_nil, or_false] at hq
   subst hq
   exact h1
 · rcases hv with e1 | e1
   · rw [e1] at e; exact hb.2.2 e
   · rw [e1] at e; injection e with e; have := hb.2.1; omega
theorem OwnT.eat {B : Nat} {w : World} {v : Value} {l : List St} (h : OwnT B w v l) : ∃ ps, EAt encS w (fun b => B ≤ b ∧ b < w.heap.size) v ps ∧ ps.map (·.1) = l := by
 obtain ⟨ps, h1, e⟩ := h
 exact ⟨ps, h1.eat (fun b hb => ⟨hb.1, hb.2.1⟩) (fun b e => h1.own.lt b e), e⟩
theorem OwnT.bw {B : Nat} {w w' : World} {v : Value} {l : List St} (h : OwnT B w v l) (g : Bw w w') : OwnT B w' v l := by
 obtain ⟨ps, h1, e⟩ := h
 exact ⟨ps, h1.bw g (fun b hb => ⟨⟨hb.1, Nat.lt_of_lt_of_le hb.2.1 g.size, hb.2.2⟩, hb.2.1⟩), e⟩
end
end Go.Proofs.YthhbkabdhkdafaaGreat
