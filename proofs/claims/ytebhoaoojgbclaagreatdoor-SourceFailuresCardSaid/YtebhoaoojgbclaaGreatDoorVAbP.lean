/- Part of a proof of source*_card. -/
import Derived.Test.YtebhoaoojgbclaaGreatDoorVAaP
import Derived.Test.YtebhoaoojgbclaaGreatDoorShelfP
import Derived.KernelRfl
import Derived.Lib.AppendIntMem
import Derived.Maps.Own
import Derived.Maps.OwnSet
import Derived.Maps.Views
import Derived.Great.BuildSlice
import Derived.Deep.RegionHeld
import Derived.Deep.RegionHeld3
import GoSem.ClaimGoes
set_option linter.unusedSimpArgs false
set_option linter.unusedVariables false
namespace Go.Proofs.YtebhoaoojgbclaaGreatDoor
section
open Go.RowKit
theorem Zab{P:Program}{c:Code}{Q:Exit->Act->World->Prop}{a:Act}{w:World}(R:World->Prop)(h:R w)(k:∀W,R W->c.wp P Q a W):c.wp P Q a w:=k w h
theorem Zes:(Tryz.prog.info? 3).map (λi=>(i.zero,i.size,i.bytes))=some (some (.int .i64 0),1,8):=by kernel_rfl
def Zam(cs:List Int):List Value:=cs.map (Value.int .i64)
theorem Zmu{w:World}{B B' e size n:Nat}{v:Value}{xs:List Value}(h:w.ownsRow B' e size v n xs)(hb:B<=B'):w.ownsRow B e size v n xs:=by
 refine⟨h.1,?_⟩
 rcases h.2 with h2|⟨g,cap,cur,h1,h2,h3⟩
 ·exact .inl h2
 ·exact .inr ⟨g,cap,cur,h1,Nat.le_trans hb h2,h3⟩
theorem Zb5{W:World}{g:Nat}{t:TypeId}{cs:Array Value}{B size n:Nat}(h:Blk W g t cs)(hg:g<B)(hl:cs.toList.length=n * size):Reads W B size (some ⟨g,0,none⟩) n cs.toList:=by
 refine⟨hl,λ_=>⟨_,rfl,hg,λj u hu=> ?_⟩⟩
 have e:((⟨g,0,none⟩:Addr).add j)=⟨g,j,none⟩:=by
  unfold Addr.add
  by_cases h0:j=0 <;> simp[h0]
 rw[e,h.cell j]
 simpa using hu
theorem Zls(W:World)(x:Int):Reads (W.alloc (.cells #[.int .i64 x] 3)) (W.heap.size+1) 1 (some ⟨W.heap.size,0,none⟩) 1 [.int .i64 x]:=Zb5 (n:=1) (Blk.new W 3 #[.int .i64 x]) (by omega) rfl
theorem Za8{w w':World}{base:Nat}{e size:Nat}{v:Value}{n:Nat}{xs:List Value}(h:w.ownsRow base e size v n xs)(hb:Below w.heap.size w w'):w'.ownsRow base e size v n xs:=
 h.kept (Zfx hb none) (by cases v.ownBlock <;> simp)
end
section
open Go.RowKit Go.WideMaps Go.Maps
theorem Zi2{H:Type}{P:Program}{e:TypeId}(he:P.underlying e=some .bool){v:Value}{z:DataW H × List MemPlace}(h:plainElem P e v=some z):∃a,v=.bool a/\z=(.lit (.bool a),[]):=by
 unfold plainElem at h
 rw[he]at h
 cases v <;> simp at h
 exact⟨_,rfl,h.symm⟩
def SetAt(w:World)(b:Nat)(ns:List (List UInt8)):Prop:=∃D:DataW Unit,IsMap D/\(∀x:List UInt8,D.atKey (.string x) (.lit (.bool false))=.lit (.bool (ns.contains x)))/\w.ownsMap Tryz.prog 9 (plainElem Tryz.prog 4) b ns.length D
theorem Yaj:Keyed Tryz.prog 9:=string_keyed Tryz.underlying9
theorem Ya6(w:World):(zeroValue 4).run Tryz.prog w=.ok (.bool false) w:=by kernel_rfl
theorem SetAt.new(w:World):SetAt (w.alloc (.map #[] 0)) w.heap.size []:=⟨.map [],isMap_empty,λx=>rfl,World.ownsMap_made _ _ _ _⟩
theorem SetAt.kept{w w':World}{b:Nat}{ns:List (List UInt8)}{row:Option Nat}(h:SetAt w b ns)(hg:w.grownBy w' row)(hne:some b≠row):SetAt w' b ns:=by
 obtain⟨D,h1,h2,h3⟩:=h
 exact⟨D,h1,h2,h3.kept hg hne⟩
theorem SetAt.below{w w':World}{b B:Nat}{ns:List (List UInt8)}(h:SetAt w b ns)(hb:Below B w w')(hB:b<B):SetAt w' b ns:=by
 obtain⟨D,h1,h2,es,clock,he,F,hs,hD⟩:=h
 exact⟨D,h1,h2,es,clock,(hb.block b hB).trans he,F,hs,hD⟩
theorem SetAt.lt{w:World}{b:Nat}{ns:List (List UInt8)}(h:SetAt w b ns):b<w.heap.size:=by
 obtain⟨D,h1,h2,h3⟩:=h
 exact h3.lt
theorem SetAt.look{w:World}{b:Nat}{ns:List (List UInt8)}(h:SetAt w b ns){s:ByteArray}(hs:s.size<=maxLen){c:Bool}(hc:ns.contains s.data.toList=c) :
  (Instr.lookup 91 (.map (some b)) (.string s) false).run Tryz.prog w=.ok (.bool c) w:=by
 obtain⟨D,h1,h2,h3⟩:=h
 obtain⟨v,ps,hrun,hv⟩:=h3.lookup Yaj Tryz.underlying91 (Ya6 w) (plainElem_bool Tryz.underlying4 false) (keyOf_string_mk Tryz.underlying9 hs)
 obtain⟨a,rfl,ha⟩:=Zi2 Tryz.underlying4 hv
 have hd:D.atKey (.string s.data.toList) (.lit (.bool false))=.lit (.bool a):=congrArg Prod.fst ha
 have he:=(h2 s.data.toList).symm.trans hd
 have hf:ns.contains s.data.toList=a:=Lit.bool.inj (DataW.lit.inj he)
 obtain rfl:c=a:=hc.symm.trans hf
 exact hrun
theorem Zme(ns:List (List UInt8))(a x:List UInt8):(ns ++ [a]).contains x=if x=a then true else ns.contains x:=by
 rw[Bool.eq_iff_iff]
 by_cases h:x=a
 ·simp[h]
 ·rw[if_neg h];simp[h]
theorem Zie{P:Program}(w:World){ops:Array Oper}{rest:List Oper}{o:Oper}{a:Act}{Q:Exit->Act->World->Prop}(hP:P=Tryz.prog)
  (hg:o.guard=none) (m x v:Operand) (hop:o.op=Op.mapUpdate 91 m x v) (b:Nat) (ns:List (List UInt8))
  (hm:a.eval m=.map (some b)) (h:SetAt w b ns) (hn:ns.length<maxLen) (s:ByteArray) (hs:s.size<=maxLen) (hx:a.eval x=.string s) (hv:a.eval v=.bool true)
  (hK:∀w',SetAt w' b (ns ++ [s.data.toList])->w.grownBy w' (some b)->wpList P ops Q rest (a.put o.dst undef) w') :
  wpList P ops Q (o :: rest) a w:=by
 subst hP
 obtain⟨D,h1,h2,h3⟩:=h
 refine wpList_mapUpdate_own w hg m x v 91 hop 9 4 Yaj Tryz.underlying91 _ b ns.length D hm h3 hn (.string s) (.bool true) (.string s.data.toList) hx hv (keyOf_string_mk Tryz.underlying9 hs) (.lit (.bool true)) [] (plainElem_bool Tryz.underlying4 true) ?_
 intro w' r1 r2
 refine hK w' ⟨D.put (.string s.data.toList) (.lit (.bool true)),h1.put _ _,λy=> ?_,by rw[List.length_append];exact r1⟩ r2
 rw[Zme]
 by_cases hy:y=s.data.toList
 ·subst hy;rw[if_pos rfl];exact atKey_put_same (k:=.string s.data.toList) h1 trivial _ _
 ·rw[if_neg hy,atKey_put_other (λe=>hy (by injection e))];exact h2 y
end
section
open Go.RowKit
theorem Zev{fn:Func}{p q:Tmp}{ty:TypeId}(h:fn.results=#[.cell p ty,.tmp q])(tmps:Array Value)(w:World)(g:Nat)(cs:Array Value)(u:Value)
  (hp:tmps.getD p undef=.pointer (some ⟨g,0,none⟩)) (hl:(loadVar ty ⟨g,0,none⟩).run Tryz.prog w=.ok (.agg cs) w) (hq:tmps.getD q undef=u) :
  (results fn tmps).run Tryz.prog w=.ok (.tuple #[.agg cs,u]) w:=by
 have hp':tmps[p]?.getD undef=.pointer (some ⟨g,0,none⟩):=by simpa using hp
 have hq':tmps[q]?.getD undef=u:=by simpa using hq
 simp[results,h,hp',hq',asAddr,hl]
theorem Zub{fn:Func}{p q r:Tmp}{ty:TypeId}(h:fn.results=#[.cell p ty,.tmp q,.tmp r])(tmps:Array Value)(w:World)(g:Nat)(cs:Array Value)(u v:Value)
  (hp:tmps.getD p undef=.pointer (some ⟨g,0,none⟩)) (hl:(loadVar ty ⟨g,0,none⟩).run Tryz.prog w=.ok (.agg cs) w)
  (hq:tmps.getD q undef=u) (hr:tmps.getD r undef=v) :
  (results fn tmps).run Tryz.prog w=.ok (.tuple #[.agg cs,u,v]) w:=by
 have hp':tmps[p]?.getD undef=.pointer (some ⟨g,0,none⟩):=by simpa using hp
 have hq':tmps[q]?.getD undef=u:=by simpa using hq
 have hr':tmps[r]?.getD undef=v:=by simpa using hr
 simp[results,h,hp',hq',hr',asAddr,hl]
theorem Zp8{P:Program}{ops:Array Oper}{rest:List Oper}{o:Oper}{a:Act}{w:World}{Q:Exit->Act->World->Prop}(hgd:o.guard=none)(t e:TypeId)(len:Nat)(parts:Array (Nat × Operand))(ho:o.op=.buildSlice t len parts)(vs:List Value)
  (hu:P.underlying t=some (.slice e)) (hsz:(P.info? e).map (·.size)=some 1) (hz:((P.info? e).bind (·.zero)).isSome=true)
  (hlen:len=vs.length) (hpos:0<len) (hsmall:len<=2 ^ 24) (h1:∀v ∈ vs,v.cells=#[v])
  (hparts:(parts.map λ(i,x)=>(i,a.eval x)).toList=(vs.zipIdx 0).map λx=>(x.2,x.1))
  (h:wpList P ops Q rest (a.put o.dst (.slice (some ⟨w.heap.size,0,none⟩) len len)) (w.alloc (.cells vs.toArray e))):wpList P ops Q (o :: rest) a w:=by
 cases hie:P.info? e with
 |none=>simp[hie]at hsz
 |some ie =>
  simp only[hie,Option.map_some,Option.some.injEq,Option.bind_some]at hsz hz
  obtain⟨z,hzz⟩:=Option.isSome_iff_exists.1 hz
  refine wpList_plain hgd λ_ hK=>wp_buildSlice t e len parts ho _ ie z hu hie hzz (by rw[hsz];omega) (by rw[hsz];omega) ?_ (hK _ _ h)
  rw[hparts,hsz]
  exact Great.fill_flat _ _ h1 (by simp[hlen])
end
section
open Go
section
variable {P:Program} {ops:Array Oper} {Q:Exit->Act->World->Prop} {md:Region.Mode} {S:World->Prop} {T:List Nat}

def wpAnyT(P:Program)(md:Region.Mode)(ops:Array Oper)(Q:Exit->Act->World->Prop)(S:World->Prop)(T:List Nat):Nat->Array Bool->Act->World->Prop
 |0,listed,a,w=>Region.ready md ops listed= []/\Q .normal a w
 |fuel+1,listed,a,w =>
  (Region.ready md ops listed= []->Q .normal a w)/\
  ∀i ∈ Region.ready md ops listed,wpOp P ops Q i (λa' w'=>(T.contains i=false->S w')/\wpAnyT P md ops Q S T fuel (listed.setIfInBounds i true) a' w') a w
theorem Zid:∀(fuel:Nat) (listed:Array Bool) (a:Act) (w:World),wpAnyT P md ops Q S T fuel listed a w->wpAny P md ops Q fuel listed a w
 |0,_,_,_,h=>h
 |fuel+1,_,_,_,h=>⟨h.1,λi hi=>wpOp_mono (λa' w' h'=>Zid fuel _ a' w' h'.2) (h.2 i hi)⟩
def Yc9(md:Region.Mode)(ops:Array Oper)(T:List Nat)(i:Nat):Bool:=T.all λj=>match ops[j]? with
 |some oj=>oj.after.any λe=>Region.binds md e && e.on == i
 |none=>true
theorem Zun{i j:Nat}{oj:Oper}(h:Yc9 md ops T i=true)(hj:T.contains j=true)(ho:ops[j]? =some oj):∃e ∈ oj.after,Region.binds md e=true/\e.on=i:=by
 have h1:=List.all_eq_true.1 h j (by simpa using hj)
 rw[ho]at h1
 obtain⟨e,he,h2⟩:=Array.any_eq_true'.1 h1
 rw[Bool.and_eq_true,beq_iff_eq]at h2
 exact⟨e,he,h2⟩
theorem Zp6{i:Nat}{oi:Oper}{v:Value}(hi:ops[i]? =some oi)(hsel:∀(j:Nat) (o:Oper) cs b,ops[j]? =some o->o.op≠.select cs b)
  (hQ:∀c a w,Q (.panic c) (a.put oi.dst v) w->Q (.panic c) a w) (hT:Yc9 md ops T i=true) :
  ∀(fuel:Nat) (listed:Array Bool) (a:Act) (w:World),
   (∀j oj,ops[j]? =some oj->j≠i->listed.getD j true=false->(∀e ∈ oj.after,Region.binds md e=true->e.on≠i)->oi.apart ops oj=true)->
   i ∈ Region.ready md ops listed->YieldsIf P ops S oi v a->S w->
   wpAnyT P md ops Q S T fuel (listed.setIfInBounds i true) (a.put oi.dst v) w->wpAnyT P md ops Q S T (fuel+1) listed a w:=by
 intro fuel
 induction fuel with
 |zero =>
  intro listed a w _ hr hy hS H
  refine⟨λh=>(by rw[h]at hr;cases hr),λj hj=> ?_⟩
  by_cases hji:j=i
  ·subst hji;exact hy.wpOp hi hS ⟨λ_=>hS,H⟩
  ·have :=ready_mono hj hji
   rw[H.1]at this
   cases this
 |succ fuel ih =>
  intro listed a w hfree hr hy hS H
  refine⟨λh=>(by rw[h]at hr;cases hr),λj hj=> ?_⟩
  by_cases hji:j=i
  ·subst hji;exact hy.wpOp hi hS ⟨λ_=>hS,H⟩
  ·have h1:=H.2 j (ready_mono hj hji)
   obtain⟨hjun,oj,hoj,hall⟩:=mem_ready.1 hj
   have hnot:∀e ∈ oj.after,Region.binds md e=true->e.on≠i:=λe he hb heq=>by
    have h1:=hall e he hb
    have h0:=(mem_ready.1 hr).1
    rw[heq]at h1
    rcases Nat.lt_or_ge i listed.size with h'|h'
    ·simp[h']at h0 h1;rw[h0]at h1;cases h1
    ·simp[Array.getElem?_eq_none h']at h1
   have hjT:T.contains j=false:=by
    rcases hc:T.contains j with _|_
    ·rfl
    ·obtain⟨e,he,hb,hon⟩:=Zun hT hc hoj
     exact absurd hon (hnot e he hb)
   have h2:=wpOp_putIf hoj (hfree j oj hoj hji hjun hnot) (λcs b=>hsel i oi cs b hi) (λcs b=>hsel j oj cs b hoj) hQ hy h1
   have hfree':∀k ok,ops[k]? =some ok->k≠i->(listed.setIfInBounds j true).getD k true=false->
     (∀e ∈ ok.after,Region.binds md e=true->e.on≠i)->oi.apart ops ok=true:=λk ok hk hki hun hno=>by
    refine hfree k ok hk hki ?_ hno
    by_cases hjk:j=k
    ·subst hjk;exact hjun
    ·rw[getD_set_ne true hjk]at hun;exact hun
   refine wpOp_mono (λa' w' h3=>⟨h3.2.1,ih (listed.setIfInBounds j true) a' w' hfree' (ready_mono hr (Ne.symm hji)) h3.1 (h3.2.1 hjT) ?_⟩) h2
   rw[Array.setIfInBounds_comm _ _ hji]
   exact h3.2.2
theorem Zas{i:Nat}{oi:Oper}{v:Value}{fuel:Nat}{listed:Array Bool}{a:Act}{w:World}(hi:ops[i]? =some oi)
  (hs:Region.noSelect ops=true) (hf:Region.free md ops listed i=true) (hT:Yc9 md ops T i=true) (hr:(Region.ready md ops listed).contains i=true)
  (hQ:∀c a w,Q (.panic c) (a.put oi.dst v) w->Q (.panic c) a w) (hy:YieldsIf P ops S oi v a) (hS:S w)
  (h:wpAnyT P md ops Q S T fuel (listed.setIfInBounds i true) (a.put oi.dst v) w):wpAnyT P md ops Q S T (fuel+1) listed a w:=
 Zp6 hi (Region.noSelect_spec hs) hQ hT fuel listed a w (Region.free_spec hi hf) (by simpa using hr) hy hS h
theorem Zp7{i:Nat}{oi:Oper}{v:Value}(hi:ops[i]? =some oi)(hsel:∀(j:Nat) (o:Oper) cs b,ops[j]? =some o->o.op≠.select cs b)
  (hQ:∀c a w,Q (.panic c) (a.put oi.dst v) w->Q (.panic c) a w) (hiT:T.contains i=true) :
  ∀(fuel:Nat) (listed:Array Bool) (a:Act) (w:World),
   (∀j oj,ops[j]? =some oj->j≠i->listed.getD j true=false->(∀e ∈ oj.after,Region.binds md e=true->e.on≠i)->oi.apart ops oj=true)->
   i ∈ Region.ready md ops listed->YieldsIf P ops (λ_=>True) oi v a->
   wpAnyT P md ops Q S T fuel (listed.setIfInBounds i true) (a.put oi.dst v) w->wpAnyT P md ops Q S T (fuel+1) listed a w:=by
 intro fuel
 induction fuel with
 |zero =>
  intro listed a w _ hr hy H
  refine⟨λh=>(by rw[h]at hr;cases hr),λj hj=> ?_⟩
  by_cases hji:j=i
  ·subst hji;exact hy.wpOp hi trivial ⟨(λe=>by rw[hiT]at e;cases e),H⟩
  ·have :=ready_mono hj hji
   rw[H.1]at this
   cases this
 |succ fuel ih =>
  intro listed a w hfree hr hy H
  refine⟨λh=>(by rw[h]at hr;cases hr),λj hj=> ?_⟩
  by_cases hji:j=i
  ·subst hji;exact hy.wpOp hi trivial ⟨(λe=>by rw[hiT]at e;cases e),H⟩
  ·have h1:=H.2 j (ready_mono hj hji)
   obtain⟨hjun,oj,hoj,hall⟩:=mem_ready.1 hj
   have hnot:∀e ∈ oj.after,Region.binds md e=true->e.on≠i:=λe he hb heq=>by
    have h1:=hall e he hb
    have h0:=(mem_ready.1 hr).1
    rw[heq]at h1
    rcases Nat.lt_or_ge i listed.size with h'|h'
    ·simp[h']at h0 h1;rw[h0]at h1;cases h1
    ·simp[Array.getElem?_eq_none h']at h1
   have h2:=wpOp_putIf hoj (hfree j oj hoj hji hjun hnot) (λcs b=>hsel i oi cs b hi) (λcs b=>hsel j oj cs b hoj) hQ hy h1
   have hfree':∀k ok,ops[k]? =some ok->k≠i->(listed.setIfInBounds j true).getD k true=false->
     (∀e ∈ ok.after,Region.binds md e=true->e.on≠i)->oi.apart ops ok=true:=λk ok hk hki hun hno=>by
    refine hfree k ok hk hki ?_ hno
    by_cases hjk:j=k
    ·subst hjk;exact hjun
    ·rw[getD_set_ne true hjk]at hun;exact hun
   refine wpOp_mono (λa' w' h3=>⟨h3.2.1,ih (listed.setIfInBounds j true) a' w' hfree' (ready_mono hr (Ne.symm hji)) h3.1 ?_⟩) h2
   rw[Array.setIfInBounds_comm _ _ hji]
   exact h3.2.2
theorem Zbk{i:Nat}{oi:Oper}{v:Value}{fuel:Nat}{listed:Array Bool}{a:Act}{w:World}(hi:ops[i]? =some oi)
  (hs:Region.noSelect ops=true) (hf:Region.free md ops listed i=true) (hiT:T.contains i=true) (hr:(Region.ready md ops listed).contains i=true)
  (hQ:∀c a w,Q (.panic c) (a.put oi.dst v) w->Q (.panic c) a w) (hy:YieldsIf P ops (λ_=>True) oi v a)
  (h:wpAnyT P md ops Q S T fuel (listed.setIfInBounds i true) (a.put oi.dst v) w):wpAnyT P md ops Q S T (fuel+1) listed a w:=
 Zp7 hi (Region.noSelect_spec hs) hQ hiT fuel listed a w (Region.free_spec hi hf) (by simpa using hr) hy h
theorem Zee{listed:Array Bool}{a:Act}{w:World}(hr:Region.ready md ops listed= [])(h:Q .normal a w) :
  ∀fuel,wpAnyT P md ops Q S T fuel listed a w
 |0=>⟨hr,h⟩
 |_+1=>⟨λ_=>h,by rw[hr];simp⟩
def AllReadyT(P:Program)(md:Region.Mode)(ops:Array Oper)(Q:Exit->Act->World->Prop)(S:World->Prop)(T:List Nat)(fuel:Nat)(listed:Array Bool)(a:Act)(w:World)(rs:List Nat):Prop:=
 ∀i ∈ rs,wpOp P ops Q i (λa' w'=>(T.contains i=false->S w')/\wpAnyT P md ops Q S T fuel (listed.setIfInBounds i true) a' w') a w
theorem AllReadyT.nil{fuel:Nat}{listed:Array Bool}{a:Act}{w:World}:AllReadyT P md ops Q S T fuel listed a w []:=λ_ h=>by cases h
theorem AllReadyT.cons{fuel:Nat}{listed:Array Bool}{a:Act}{w:World}{i:Nat}{o:Oper}{rs:List Nat}(ho:ops[i]? =some o)
  (h:∀K':Act->World->Prop,Shut (∀a w,S w->(S w->wpAnyT P md ops Q S T fuel (listed.setIfInBounds i true) a w)->K' a w)->if Region.wanted o (yielded ops a.tmps)=true then Oper.wp P o a w K' Q else K' (a.put o.dst undef) w)
  (hs:AllReadyT P md ops Q S T fuel listed a w rs):AllReadyT P md ops Q S T fuel listed a w (i :: rs):=λj hj=>by
 rcases List.mem_cons.1 hj with rfl|hj
 ·exact wpOp_step ho (λK' hK=>h K' (λa w hS hW=>hK a w ⟨λ_=>hS,hW hS⟩))
 ·exact hs j hj
theorem AllReadyT.last{fuel:Nat}{listed:Array Bool}{a:Act}{w:World}{i:Nat}{o:Oper}{rs:List Nat}(ho:ops[i]? =some o)(hl:T.contains i=true)
  (h:∀K':Act->World->Prop,Shut (∀a w,wpAnyT P md ops Q S T fuel (listed.setIfInBounds i true) a w->K' a w)->if Region.wanted o (yielded ops a.tmps)=true then Oper.wp P o a w K' Q else K' (a.put o.dst undef) w)
  (hs:AllReadyT P md ops Q S T fuel listed a w rs):AllReadyT P md ops Q S T fuel listed a w (i :: rs):=λj hj=>by
 rcases List.mem_cons.1 hj with rfl|hj
 ·exact wpOp_step ho (λK' hK=>h K' (λa w hW=>hK a w ⟨(λe=>by rw[hl]at e;cases e),hW⟩))
 ·exact hs j hj
theorem Zaq{rs:List Nat}{fuel:Nat}{listed:Array Bool}{a:Act}{w:World}(hr:Region.ready md ops listed=rs)(hne:rs≠ [])
  (h:AllReadyT P md ops Q S T fuel listed a w rs):wpAnyT P md ops Q S T (fuel+1) listed a w:=
 ⟨λh0=>absurd (hr▸h0) hne,hr▸h⟩
theorem Zh9{id:Nat}{a:Act}{w:World}(T:List Nat)(hm:P.follows .mixedOrders=true)(hS:S w.drew)
  (h:S w.drew->wpAnyT P .any ops Q S T ops.size (Array.replicate ops.size false) a w.drew):(Code.region id ops true).wp P Q a w:=
 wp_region_any hm (Zid _ _ _ _ (h hS))
theorem Zp9{P:Program}{ops:Array Oper}{o:Oper}{a:Act}{w:World}{K:Act->World->Prop}{Q:Exit->Act->World->Prop}{E:Prop}(hgd:o.guard=none)(t e:TypeId)(parts:Array (Nat × Operand))(ho:o.op=.buildSlice t 1 parts)(v:Value)(s:Nat)
  (hu:P.underlying t=some (.slice e)) (ie:TypeInfo) (z:Value) (hie:P.info? e=some ie) (hz:ie.zero=some z) (hs:ie.size=s) (h0:0<s) (h2:s<=2 ^ 24) (cs:Array Value) (hv:v.cells=cs) (hn:cs.size=s)
  (hparts:(parts.map λ(i,x)=>(i,a.eval x)).toList= [(0,v)])
  (h:K (a.put o.dst (.slice (some ⟨w.heap.size,0,none⟩) 1 1)) (w.alloc (.cells cs e))):if Region.wanted o (yielded ops a.tmps)=true then Oper.wp P o a w K Q else E:=by
 have hw:Region.wanted o (yielded ops a.tmps)=true:=by simp[Region.wanted,hgd]
 rw[if_pos hw]
 refine wp_buildSlice t e 1 parts ho cs ie z hu hie hz (by rw[hs];omega) (by rw[hs];omega) ?_ h
 rw[hparts,hs]
 obtain⟨r,hr,hsz,hk⟩:=Great.fill_dense h0 [v] 0 ((Array.range (1 * s)).map (z.cells[· % z.cells.size]!)) (by simp[hv,hn]) (by simp)
 have e:r=cs:=Array.ext_getElem? (λk=>by
  rw[hk k]
  simp only[Array.size_map,Array.size_range,Nat.one_mul]at hsz
  by_cases hlt:k<s
  ·rw[if_pos (by simp;omega)]
   simp[Nat.div_eq_of_lt hlt,Nat.mod_eq_of_lt hlt,hv]
  ·rw[if_neg (by simp;omega)]
   rw[Array.getElem?_eq_none (by simp;omega),Array.getElem?_eq_none (by omega)])
 rw[<-e]
 exact hr
theorem oiA{α:Type}{xs:List α}{i:Nat}:xs.toArray[i]? =xs[i]? :=List.getElem?_toArray
theorem oiS{α:Type}{a:α}{xs:List α}{i:Nat}:(a :: xs)[i+1]? =xs[i]? :=List.getElem?_cons_succ
theorem oiZ{α:Type}{a:α}{xs:List α}:(a :: xs)[0]? =some a:=List.getElem?_cons_zero
theorem puA{α:Type}{xs:List α}{i:Nat}{b:α}:xs.toArray.setIfInBounds i b=(xs.set i b).toArray:=by simp
theorem puS{α:Type}{a b:α}{xs:List α}{i:Nat}:(a :: xs).set (i+1) b=a :: xs.set i b:=rfl
theorem puZ{α:Type}{a b:α}{xs:List α}:(a :: xs).set 0 b=b :: xs:=rfl
end
theorem Zvw{P:Program}(h:P.funcs.any Func.goes=false)(f:FuncId):P.goes f=false:=by
 unfold Program.goes
 rw[h,Bool.and_false,Bool.or_false,List.any_eq_false]
 intro g _
 rcases hg:P.funcs[g]? with _|fn
 ·simp
 ·rw[Array.any_eq_false']at h
  have :=h fn (Array.mem_of_getElem? hg)
  simpa using this
theorem Zhc{P:Program}{c:OpenClaim}(hs:c.start=.entering)(h:P.funcs.any Func.goes=false):false=c.goesBy P:=by
 unfold OpenClaim.goesBy Program.goesAt Program.goesFrom
 rw[hs]
 rcases hf:P.funcNamed c.func with _|f
 ·rfl
 ·simp[Zvw h f]
end
end Go.Proofs.YtebhoaoojgbclaaGreatDoor
