/- Part of a proof of source*_card. -/
import Derived.Test.YtebhoaoojgbclaaGreatDoorRows
import Derived.WalkKit
import Derived.WalkSpells
import Derived.WalkLawsBesides
import Derived.Lib.Hide
import Derived.Lib.IndexBytes
import Derived.Deep.QuietTactic
import Derived.BigQuiet
import Derived.OpenShut
import Derived.Laws.OwnMore
import Derived.Deep.AppendLies
import Derived.Deep.Draws
import Derived.Laws.Rows
import Derived.Maps.AppendAt
import Derived.RegionTactic
import Derived.OwnWalk
import Derived.Lib.ItoaMem
import Derived.Lib.ItoaNum
set_option linter.unusedSimpArgs false
set_option linter.unusedVariables false
namespace Go.Proofs.YtebhoaoojgbclaaGreatDoor
section
open Go.RowKit
theorem Za3{a b:Bool}(h:a=b):Ending.returned (.bool a)=.returned (.bool b):=by rw[h]
theorem Zac{k:IntKind}{a b:Int}(h:a=b):Ending.returned (.int k a)=.returned (.int k b):=by rw[h]
theorem Zor(s:ByteArray):s.data.toList.length=s.size:=by simp
theorem Zhe(s:ByteArray):s.toList.isEmpty=decide (s.size=0):=by
 rw[<-decide_eq_emptyBytes]
 have :s=ByteArray.empty↔s.size=0:=⟨λh=>by subst h;rfl,λh=>by
  apply ByteArray.ext;apply Array.ext';exact List.eq_nil_of_length_eq_zero (by simpa using h)⟩
 exact decide_eq_decide.2 this
theorem Yc8{s:ByteArray}(h:s.size=0):s.toList= []:=by
 have h2:=Zhe s;rw[decide_eq_true h]at h2;exact List.isEmpty_iff.1 h2
theorem Zxw{s:ByteArray}(h:s.size=0):(!s.toList.isEmpty)=false:=by rw[Zhe];simp[h]
theorem Yd1{s:ByteArray}(h:s.size≠0):s.toList.isEmpty=false:=by rw[Zhe];simp[h]
theorem Znf{a b:ByteArray}(h:a.data.toList=b.data.toList):a=b:=by
 apply ByteArray.ext;apply Array.ext';exact h

theorem Za2(a:Addr)(n:Nat):(a.add n).block=a.block:=by unfold Addr.add;split <;> rfl
theorem Zne(a:Addr)(n:Nat):(a.add n).block=a.block:=by unfold Addr.add;split <;> rfl
theorem Zlc(a:Addr)(i j:Nat):(a.add i).add j=a.add (i+j):=by
 unfold Addr.add
 by_cases hi:i=0 <;> by_cases hj:j=0 <;> simp[hi,hj,Nat.add_assoc]

def Reads(w:World)(B size:Nat)(A:Option Addr)(n:Nat)(xs:List Value):Prop:=
 xs.length=n * size/\(0<n->∃ad,A=some ad/\ad.block<B/\∀j u,xs[j]? =some u->w.cell? (ad.add j)=some u)

section
variable {w w':World} {B B' size n:Nat} {A:Option Addr} {xs:List Value}
theorem Reads.none_:Reads w B size A 0 []:=⟨by simp,λh=>absurd h (by omega)⟩
theorem Reads.at_{k:Nat}(h:Reads w B 1 A n xs)(hk:k<n):∃ad u,A=some ad/\ad.block<B/\xs[k]? =some u/\w.cell? (ad.add k)=some u:=by
 obtain⟨ad,e,hb,hc⟩:=h.2 (by omega)
 have hl:k<xs.length:=by have :=h.1;omega
 exact⟨ad,xs[k],e,hb,List.getElem?_eq_getElem hl,hc k _ (List.getElem?_eq_getElem hl)⟩
theorem Reads.keep(h:Reads w B size A n xs)(hk:∀p:Addr,p.block<B->w'.cell? p=w.cell? p):Reads w' B size A n xs:=
 ⟨h.1,λhn=>by
  obtain⟨ad,e,hb,hc⟩:=h.2 hn
  exact⟨ad,e,hb,λj u hu=>(hk _ (by rw[Zne];exact hb)).trans (hc j u hu)⟩⟩
theorem Reads.more(h:Reads w B size A n xs)(hB:B<=B'):Reads w B' size A n xs:=
 ⟨h.1,λhn=>by
  obtain⟨ad,e,hb,hc⟩:=h.2 hn
  exact⟨ad,e,by omega,hc⟩⟩
theorem Reads.below(h:Reads w B size A n xs)(hb:Below B w w'):Reads w' B size A n xs:=h.keep λ_ hp=>hb.cell hp
theorem Reads.drewN(h:Reads w B size A n xs)(k:Nat):Reads (w.drewN k) B size A n xs:=h
theorem Reads.alloc(h:Reads w B size A n xs)(hB:B<=w.heap.size)(o:Obj):Reads (w.alloc o) B size A n xs:=h.keep λp hp=>World.cell?_alloc_lt w o p (by omega)
theorem Reads.setCell(h:Reads w B size A n xs){p:Addr}(hB:B<=p.block)(u:Value):Reads (w.setCell p u) B size A n xs:=
 h.keep λq hq=>World.cell?_setCell_other w p q u (λe=>by subst e;omega)
theorem Reads.of_own{base:Nat}{e:TypeId}{c:Nat}(h:w.ownsRow base e size (.slice A n c) n xs):Reads w w.heap.size size A n xs:=by
 refine⟨h.1,λhn=> ?_⟩
 obtain⟨g,cap,hv,_,hlt⟩:=h.form hn
 have hA:A=some ⟨g,0,none⟩:=by injection hv
 subst hA
 exact⟨_,rfl,hlt,h.cells (g:=g) rfl⟩
end
def Blk(w:World)(g:Nat)(t:TypeId)(cs:Array Value):Prop:=w.heap[g]? =some (.cells cs t (0,0))

section
variable {w w':World} {g:Nat} {t:TypeId} {cs:Array Value}
theorem Blk.lt(h:Blk w g t cs):g<w.heap.size:=by
 rcases Nat.lt_or_ge g w.heap.size with hlt|hge
 ·exact hlt
 ·unfold Blk at h;rw[Array.getElem?_eq_none hge]at h;cases h
theorem Blk.cell(h:Blk w g t cs)(i:Nat):w.cell? ⟨g,i,none⟩=cs[i]? :=cell_of_row w g i cs t (0,0) h
theorem Blk.frozen(h:Blk w g t cs)(i:Nat):w.frozen? ⟨g,i,none⟩=false:=by
 unfold Blk at h
 simp[World.frozen?,h]
theorem Blk.new(w:World)(t:TypeId)(cs:Array Value):Blk (w.alloc (.cells cs t)) w.heap.size t cs:=heap_alloc_new w _
theorem Blk.drewN(h:Blk w g t cs)(n:Nat):Blk (w.drewN n) g t cs:=h
theorem Blk.alloc(h:Blk w g t cs)(o:Obj):Blk (w.alloc o) g t cs:=(Below.heap_alloc w o g h.lt).trans h
theorem Blk.set_(h:Blk w g t cs)(i:Nat)(u:Value):Blk (w.setCell ⟨g,i,none⟩ u) g t (cs.setIfInBounds i u):=by
 unfold Blk at h ⊢
 simp[World.setCell,Array.getElem?_modify,h]
theorem Blk.far(h:Blk w g t cs){p:Addr}(hp:g≠p.block)(u:Value):Blk (w.setCell p u) g t cs:=(Below.heap_setCell w p u g hp).trans h
theorem Blk.below{B:Nat}(h:Blk w g t cs)(hb:Below B w w')(hg:g<B):Blk w' g t cs:=(hb.block g hg).trans h
theorem Blk.grown{row:Option Nat}(h:Blk w g t cs)(hb:w.grownBy w' row)(hg:some g≠row):Blk w' g t cs:=(hb.block g h.lt hg).trans h
theorem Blk.ne_{g':Nat}{t':TypeId}{cs':Array Value}(h:Blk w g t cs)(h':Blk w g' t' cs')(hne:t≠t'):g≠g':=by
 rintro rfl
 unfold Blk at h h'
 rw[h]at h'
 injection h' with h'
 injection h' with _ ht
 exact hne ht
theorem Zc3{base:Nat}{e:TypeId}{size n:Nat}{v:Value}{xs:List Value}(h:w.ownsRow base e size v n xs)(hg:Blk w g t cs)(hne:e≠t):v.ownBlock≠some g:=by
 rcases h.2 with⟨rfl,_⟩|⟨g',cap,cur,rfl,_,hh,_⟩
 ·simp[Value.ownBlock]
 ·intro he
  have :g'=g:=by simpa[Value.ownBlock]using he
  subst this
  exact Blk.ne_ (t:=e) hh hg hne rfl
end
section
variable {P:Program} (w:World)

theorem Zit(base:Nat)(t ty e:TypeId)(i:TypeInfo)(size:Nat)(ht:P.underlying t=some (.slice e))(hi:P.info? e=some i)
  (v:Value) (n:Nat) (xs:List Value) (hown:w.ownsRow base e size v n xs) (c:Nat):(Builtin.append_ #[t,t] ty #[v,.slice none 0 c]).run P w=.ok v w:=by
 rcases hown.2 with⟨rfl,rfl⟩|⟨g,cap,cur,rfl,_,_,hnc,_⟩
 ·simp[Builtin.append_,run_underlying ht,sizeOf,typeInfo,hi,Builtin.lenOf,Builtin.firstCells]
 ·simp[Builtin.append_,run_underlying ht,sizeOf,typeInfo,hi,Builtin.lenOf,Builtin.firstCells,hnc,storeCells]

theorem Zl8(base:Nat)(t ty e:TypeId)(i:TypeInfo)(z:Value)(size bytes:Nat)(ht:P.underlying t=some (.slice e))(hi:P.info? e=some i)(hz:i.zero=some z)
  (hsize:i.size=size) (hby:i.bytes=bytes) (hzs:z.cells.size=size) (hsz:0<size)
  (v:Value) (n:Nat) (xs:List Value) (hown:w.ownsRow base e size v n xs)
  (B:Nat) (A:Option Addr) (m c:Nat) (news:List Value) (hr:Reads w B size A m news) (h1:∀u ∈ news,u.oneCell'=true)
  (h63:n+m<=maxLen) (hbytes:(n+m) * bytes<=140737488355328) (hbase:base<=w.heap.size) :
  ∃v' w',(Builtin.append_ #[t,t] ty #[v,.slice A m c]).run P w=.ok v' w'/\w'.ownsRow base e size v' (n+m) (xs ++ news)/\w.grownBy w' v.ownBlock/\
   (v'.ownBlock=v.ownBlock∨v'.ownBlock=some w.heap.size):=by
 rcases A with _|ad
 ·have hm:m=0:=by
   rcases Nat.eq_zero_or_pos m with h0|h0
   ·exact h0
   ·obtain⟨ad,h,_⟩:=hr.2 h0
    cases h
  subst hm
  have hn:news= []:=List.eq_nil_of_length_eq_zero (by simpa using hr.1)
  subst hn
  exact⟨v,w,Zit w base t ty e i size ht hi v n xs hown c,by simpa using hown,World.grownBy.refl w _,.inl rfl⟩
 ·have hcells:∀j u,news[j]? =some u->w.cell? (ad.add j)=some u:=by
   intro j u hu
   rcases Nat.eq_zero_or_pos m with h0|h0
   ·subst h0
    have hn:news= []:=List.eq_nil_of_length_eq_zero (by simpa using hr.1)
    subst hn
    simp at hu
   ·obtain⟨ad',h,_,hc⟩:=hr.2 h0
    injection h with h
    subst h
    exact hc j u hu
  obtain⟨v',w',hrun,h2,h3,_,h5⟩:=run_append_own_at (P:=P) w base t ty e i z size bytes ht hi hz hsize hby hzs hsz v n xs hown ad m c news hr.1 hcells h1 h63 hbytes hbase
  exact⟨v',w',hrun,h2,h3,h5⟩

theorem Zif{o:Oper}{a:Act}{K:Act->World->Prop}{Q:Exit->Act->World->Prop}(s x:Operand)(t:TypeId)
  (ho:o.op=.call { callee:=.builtin .append,args:=#[s,x],argTypes:=#[t,t] })
  (base:Nat) (e:TypeId) (i:TypeInfo) (z:Value) (size bytes:Nat) (ht:P.underlying t=some (.slice e)) (hi:P.info? e=some i) (hz:i.zero=some z)
  (hsize:i.size=size) (hby:i.bytes=bytes) (hzs:z.cells.size=size) (hsz:0<size)
  (v:Value) (n:Nat) (xs:List Value) (hs:a.eval s=v) (hown:w.ownsRow base e size v n xs)
  (B:Nat) (A:Option Addr) (m c:Nat) (news:List Value) (hx:a.eval x=.slice A m c) (hr:Reads w B size A m news) (h1:∀u ∈ news,u.oneCell'=true)
  (h63:n+m<=maxLen) (hbytes:(n+m) * bytes<=140737488355328) (hbase:base<=w.heap.size)
  (h:∀v' w',w'.ownsRow base e size v' (n+m) (xs ++ news)->w.grownBy w' v.ownBlock->(v'.ownBlock=v.ownBlock∨v'.ownBlock=some w.heap.size)->K (a.put o.dst v') w'):o.wp P a w K Q:=by
 obtain⟨v',w',hrun,h2,h3,h4⟩:=Zl8 (P:=P) w base t o.type e i z size bytes ht hi hz hsize hby hzs hsz v n xs hown B A m c news hr h1 h63 hbytes hbase
 unfold Oper.wp execOp
 simp only[ho,resolve,invoke,builtin,Sem.run_bind,Sem.run_pure,Result.andThen_ok,List.map_toArray,List.map_cons,List.map_nil,hs,hx,hrun]
 exact h v' w' h2 h3 h4

theorem Za4{ops:Array Oper}{rest:List Oper}{o:Oper}{a:Act}{Q:Exit->Act->World->Prop}(hgd:o.guard=none)(s x:Operand)(t:TypeId)
  (ho:o.op=.call { callee:=.builtin .append,args:=#[s,x],argTypes:=#[t,t] })
  (base:Nat) (e:TypeId) (i:TypeInfo) (z:Value) (size bytes:Nat) (ht:P.underlying t=some (.slice e)) (hi:P.info? e=some i) (hz:i.zero=some z)
  (hsize:i.size=size) (hby:i.bytes=bytes) (hzs:z.cells.size=size) (hsz:0<size)
  (v:Value) (n:Nat) (xs:List Value) (hs:a.eval s=v) (hown:w.ownsRow base e size v n xs)
  (B:Nat) (A:Option Addr) (m c:Nat) (news:List Value) (hx:a.eval x=.slice A m c) (hr:Reads w B size A m news) (h1:∀u ∈ news,u.oneCell'=true)
  (h63:n+m<=maxLen) (hbytes:(n+m) * bytes<=140737488355328) (hbase:base<=w.heap.size)
  (h:∀v' w',w'.ownsRow base e size v' (n+m) (xs ++ news)->w.grownBy w' v.ownBlock->(v'.ownBlock=v.ownBlock∨v'.ownBlock=some w.heap.size)->wpList P ops Q rest (a.put o.dst v') w'):wpList P ops Q (o :: rest) a w:=
 wpList_plain hgd λ_ hK=>Zif w s x t ho base e i z size bytes ht hi hz hsize hby hzs hsz v n xs hs hown B A m c news hx hr h1 h63 hbytes hbase λv' w' h2 h3 h4=>hK _ _ (h v' w' h2 h3 h4)

theorem Zbd{ops:Array Oper}{o:Oper}{a:Act}{K:Act->World->Prop}{Q:Exit->Act->World->Prop}{E:Prop}(hgd:o.guard=none)(s x:Operand)(t:TypeId)
  (ho:o.op=.call { callee:=.builtin .append,args:=#[s,x],argTypes:=#[t,t] })
  (base:Nat) (e:TypeId) (i:TypeInfo) (z:Value) (size bytes:Nat) (ht:P.underlying t=some (.slice e)) (hi:P.info? e=some i) (hz:i.zero=some z)
  (hsize:i.size=size) (hby:i.bytes=bytes) (hzs:z.cells.size=size) (hsz:0<size)
  (v:Value) (n:Nat) (xs:List Value) (hs:a.eval s=v) (hown:w.ownsRow base e size v n xs)
  (B:Nat) (A:Option Addr) (m c:Nat) (news:List Value) (hx:a.eval x=.slice A m c) (hr:Reads w B size A m news) (h1:∀u ∈ news,u.oneCell'=true)
  (h63:n+m<=maxLen) (hbytes:(n+m) * bytes<=140737488355328) (hbase:base<=w.heap.size)
  (h:∀v' w',w'.ownsRow base e size v' (n+m) (xs ++ news)->w.grownBy w' v.ownBlock->(v'.ownBlock=v.ownBlock∨v'.ownBlock=some w.heap.size)->K (a.put o.dst v') w') :
  if Region.wanted o (yielded ops a.tmps)=true then Oper.wp P o a w K Q else E:=by
 have hw:Region.wanted o (yielded ops a.tmps)=true:=by simp[Region.wanted,hgd]
 rw[if_pos hw]
 exact Zif w s x t ho base e i z size bytes ht hi hz hsize hby hzs hsz v n xs hs hown B A m c news hx hr h1 h63 hbytes hbase h
end
theorem Zc5(a:Addr)(i j:Nat):a.add (i+(j+1))=⟨(a.add i).block,(a.add i).off+(j+1),none⟩:=by
 unfold Addr.add
 by_cases h:i=0
 ·subst h;simp
 ·simp[h,show i+(j+1)≠0 from by omega,Nat.add_assoc]
theorem Zad{a b c:World}{r:Option Nat}(h:a.grownBy b r)(k:b.grownBy c r):a.grownBy c r:=
 ⟨k.os.trans h.os,k.tape.trans h.tape,k.output.trans h.output,Nat.le_trans h.size k.size,λi hi hn=>(k.block i (Nat.lt_of_lt_of_le hi h.size) hn).trans (h.block i hi hn)⟩
theorem Zfe{a w:World}{row:Option Nat}(h:a.grownBy w row)(n:Nat):a.grownBy (w.drewN n) row:=⟨h.os,h.tape,h.output,h.size,h.block⟩
theorem grownBy_alloc{a w:World}{row:Option Nat}(h:a.grownBy w row)(o:Obj):a.grownBy (w.alloc o) row:=
 ⟨h.os,h.tape,h.output,Nat.le_trans h.size (by simp),λi hi hne=>(Below.heap_alloc w o i (Nat.lt_of_lt_of_le hi h.size)).trans (h.block i hi hne)⟩
theorem grownBy_setCell{a w:World}{g:Nat}(h:a.grownBy w (some g)){p:Addr}(hp:p.block=g∨a.heap.size<=p.block)(u:Value):a.grownBy (w.setCell p u) (some g):=
 ⟨h.os,h.tape,h.output,by simpa[World.setCell]using h.size,λi hi hne=>(Below.heap_setCell w p u i (by
  rintro rfl
  rcases hp with hp|hp
  ·exact hne (by rw[hp])
  ·omega)).trans (h.block i hi hne)⟩
theorem Zfx{a w:World}(h:Below a.heap.size a w)(row:Option Nat):a.grownBy w row:=⟨h.os,h.tape,h.output,h.size,λi hi _=>h.block i hi⟩
theorem Zaz{w:World}{g i:Nat}{t:TypeId}{cs:Array Value}(u:Value)(h:w.heap[g]? =some (.cells cs t (0,0))):(w.setCell ⟨g,i,none⟩ u).heap[g]? =some (.cells (cs.setIfInBounds i u) t (0,0)):=by
 simp[World.setCell,Array.getElem?_modify,h]
theorem Zb9(w:World)(T:TypeId)(cs:List Value):∀j u,cs[j]? =some u->(w.alloc (.cells cs.toArray T)).cell? ((⟨w.heap.size,0,none⟩:Addr).add j)=some u:=by
 intro j u hj
 have h:(w.alloc (.cells cs.toArray T)).heap[w.heap.size]? =some (.cells cs.toArray T (0,0)):=heap_alloc_new w _
 have e:((⟨w.heap.size,0,none⟩:Addr).add j)=⟨w.heap.size,j,none⟩:=by
  unfold Addr.add
  by_cases h0:j=0 <;> simp[h0]
 rw[e,cell_of_row _ w.heap.size j cs.toArray T (0,0) h]
 simpa using hj
theorem Za9{w:World}{B:Nat}{T size:Nat}{v:Value}{n:Nat}{xs:List Value}(h:w.ownsRow B T size v n xs):∃A c,v=.slice A n c:=by
 rcases h.2 with⟨hv,h0⟩|⟨g,cap,cur,hv,_⟩
 ·exact⟨none,0,by rw[hv,h0]⟩
 ·exact⟨_,_,hv⟩
theorem Zbe{B:Nat}{a w w':World}{T size:Nat}{v:Value}{n:Nat}{xs:List Value}(h:Below B a w)(hown:w.ownsRow B T size v n xs)(hg:w.grownBy w' v.ownBlock)(hB:B<=w.heap.size):Below B a w':=
 h.grown hg hB (λk hk=>(hown.lt k hk).1)
def Ze5(c:UInt8):Bool:=decide (97<=c.toNat) && decide (c.toNat<=122)
def Zh2(c:UInt8):Bool:=decide (48<=c.toNat) && decide (c.toNat<=57)
def Zde(c:UInt8):Bool:=Ze5 c || Zh2 c || decide (c.toNat=95)
def runL(p:UInt8->Bool)(l:List UInt8):Nat:=(l.takeWhile p).length
theorem Zqz(p:UInt8->Bool)(l:List UInt8):runL p l<=l.length:=by
 unfold runL;exact List.Sublist.length_le (List.takeWhile_sublist _)
theorem Zxc{p:UInt8->Bool}{l:List UInt8}{k:Nat}(hk:k<=runL p l)(hl:k<l.length)(hp:p l[k]=true):k+1<=runL p l:=by
 unfold runL at *
 induction l generalizing k with
 |nil=>simp at hl
 |cons a l ih =>
  cases k with
  |zero=>simp at hp;simp[List.takeWhile_cons,hp]
  |succ k =>
   by_cases ha:p a=true
   ·simp only[List.takeWhile_cons,ha,if_true,List.length_cons]at hk ⊢
    have :=ih (k:=k) (by omega) (by simpa using hl) (by simpa using hp)
    omega
   ·simp[List.takeWhile_cons,ha]at hk
theorem Zxb{p:UInt8->Bool}{l:List UInt8}{k:Nat}(hk:k<=runL p l)(hl:k<l.length)(hp:p l[k]=false):runL p l=k:=by
 unfold runL at *
 induction l generalizing k with
 |nil=>simp at hl
 |cons a l ih =>
  cases k with
  |zero=>simp at hp;simp[List.takeWhile_cons,hp]
  |succ k =>
   by_cases ha:p a=true
   ·simp only[List.takeWhile_cons,ha,if_true,List.length_cons]at hk ⊢
    have :=ih (k:=k) (by omega) (by simpa using hl) (by simpa using hp)
    omega
   ·simp[List.takeWhile_cons,ha]at hk
def Zf9(l:List UInt8):Bool:= !l.isEmpty && decide (l.length<=12) && Ze5 (l.headD 0) && decide (runL Zde l=l.length)
theorem Zfw(s:ByteArray):Zf9 s.data.toList=(decide (s.size≠0) && decide (s.size<=12) && Ze5 (s.data.toList.headD 0) && decide (runL Zde s.data.toList=s.size)):=by
 have h:=Zor s
 have :s.data.toList.isEmpty=decide (s.size=0):=by rw[Bool.eq_iff_iff,List.isEmpty_iff_length_eq_zero,h];simp
 simp only[Zf9,this,h];simp
def numL(l:List UInt8):Bool:= !l.isEmpty && decide (l.length<=7) && decide (runL Zh2 l=l.length) && (decide (l.headD 0≠48) || decide (l.length=1))
theorem Zn5{p:UInt8->Bool}{l:List UInt8}(h:l.all p=true):l.takeWhile p=l:=by
 induction l with
 |nil=>rfl
 |cons a l ih=>simp at h;simp[List.takeWhile_cons,h.1];exact ih (by simpa using h.2)
theorem Ze0(d:Nat)(h:d<10):(UInt8.ofNat (48+d)).toNat=48+d:=by
 simp;omega
theorem Zli:∀(n u:Nat),u<=n->(Lib.decDigits u).all Zh2=true:=by
 intro n
 induction n with
 |zero=>intro u hu;obtain rfl:u=0:=by omega
        rw[Lib.decDigits,dif_pos (by omega)];decide
 |succ n ih =>
  intro u hu
  rw[Lib.decDigits]
  by_cases h:u<10
  ·rw[dif_pos h]
   have :=Ze0 u h
   simp only[List.all_cons,List.all_nil,Bool.and_true,Zh2,this];simp;omega
  ·rw[dif_neg h,List.all_append,ih (u / 10) (by omega)]
   have :=Ze0 (u % 10) (by omega)
   simp only[List.all_cons,List.all_nil,Bool.and_true,Bool.true_and,Zh2,this];simp;omega
def valL(l:List UInt8):Nat:=l.foldl (λb c=>10 * b+(c.toNat - 48)) 0
theorem Zy4(l:List UInt8)(c:UInt8):valL (l ++ [c])=10 * valL l+(c.toNat - 48):=by simp[valL]
theorem Yb2:∀(n u:Nat),u<=n->valL (Lib.decDigits u)=u:=by
 intro n
 induction n with
 |zero=>intro u hu;obtain rfl:u=0:=by omega
        rw[Lib.decDigits,dif_pos (by omega)];decide
 |succ n ih =>
  intro u hu
  rw[Lib.decDigits]
  by_cases h:u<10
  ·rw[dif_pos h];simp only[valL,List.foldl_cons,List.foldl_nil,Ze0 u h];omega
  ·rw[dif_neg h,Zy4,ih (u / 10) (by omega),Ze0 (u % 10) (by omega)];omega
theorem Zvl(u:Nat):0<(Lib.decDigits u).length:=by rw[Lib.decDigits_length];exact Lib.nDigits_pos u
theorem Ztn:∀(k u:Nat),u<10 ^ (k+1)->Lib.nDigits u<=k+1:=by
 intro k
 induction k with
 |zero=>intro u h;rw[Lib.nDigits_small (by simpa using h)];omega
 |succ k ih =>
  intro u h
  by_cases hu:u<10
  ·rw[Lib.nDigits_small hu];omega
  ·rw[Lib.nDigits_big hu]
   have :u / 10<10 ^ (k+1):=by
    rw[Nat.div_lt_iff_lt_mul (by omega)];rw[Nat.pow_succ]at h;exact h
   have :=ih _ this
   omega
theorem Zyt:∀(n u:Nat),u<=n->u≠0->((Lib.decDigits u).headD 0).toNat≠48:=by
 intro n
 induction n with
 |zero=>intro u hu h;omega
 |succ n ih =>
  intro u hu h0
  rw[Lib.decDigits]
  by_cases h:u<10
  ·rw[dif_pos h];simp only[List.headD_cons,Ze0 u h];omega
  ·rw[dif_neg h]
   have hp:=Zvl (u / 10)
   have :(Lib.decDigits (u / 10) ++ [UInt8.ofNat (48+u % 10)]).headD 0=(Lib.decDigits (u / 10)).headD 0:=by
    rcases hd:Lib.decDigits (u / 10)with _|⟨a,r⟩
    ·rw[hd]at hp;simp at hp
    ·rfl
   rw[this];exact ih _ (by omega) (by omega)
theorem Zzy{p:UInt8->Bool}{l:List UInt8}(h:l.all p=true):runL p l=l.length:=by
 unfold runL;rw[Zn5 h]
def nlB(c:UInt8):Bool:=decide (c.toNat=10)
def nl(l:List UInt8):Nat:=l.countP nlB
end
structure Ln where
 k:Int
 a:Int
 n:Int
structure Th where
 nm:ByteArray
 ls:List Ln
structure Prg where
 v:Int
 ts:List Th

def kwValues:List UInt8:= [118,97,108,117,101,115]
def kwThread:List UInt8:= [116,104,114,101,97,100]
def kwEnd:List UInt8:= [101,110,100]
def kwOf(k:Nat):List UInt8:=
 if k=1 then [115,101,116]else if k=2 then [119,104,101,110]else if k=3 then [106,117,109,112]else if k=4 then [109,97,121,98,101]
 else if k=5 then [115,112,97,119,110]else if k=6 then [115,116,111,112]else if k=7 then [102,97,105,108]else []
def Zlm(x:List UInt8):Nat:=
 if x=kwOf 1 then 1 else if x=kwOf 2 then 2 else if x=kwOf 3 then 3 else if x=kwOf 4 then 4 else if x=kwOf 5 then 5 else if x=kwOf 6 then 6 else if x=kwOf 7 then 7 else 0
def Zdv(k:Nat):Nat:=if k=1∨k=2 then 1 else if k=3∨k=4 then 2 else if k=5 then 3 else 0
def Zbp(x:List UInt8):Bool:=Zf9 x && !(x == kwValues || x == kwThread || x == kwEnd)

def Zjh(p:Prg)(t:Th)(k:Nat):Int:=if Zdv k=1 then p.v else if Zdv k=2 then t.ls.length else if Zdv k=3 then p.ts.length else 1
def Zdb(p:Prg)(t:Th)(num:Nat)(l:Ln):Bool:=decide (1<=l.k) && decide (l.k<=7) && decide (0<=l.a) && decide (l.a<Zjh p t l.k.toNat) && decide (l.n=(num:Int))
def Zb7(p:Prg)(t:Th):Nat->List Ln->Bool
 |_,[]=>true
 |num,l :: r=>Zdb p t (num+1) l && Zb7 p t (num+1) r
def okTh(p:Prg)(c num:Nat)(ns:List (List UInt8))(t:Th):Bool:=
 decide (t.ls.length≠0) && decide (c+t.ls.length<=6) && Zbp t.nm.data.toList && !(ns.contains t.nm.data.toList) && Zb7 p t (num+1) t.ls
def okThs(p:Prg):Nat->Nat->List (List UInt8)->List Th->Bool
 |_,_,_,[]=>true
 |c,num,ns,t :: r=>okTh p c num ns t && okThs p (c+t.ls.length) (num+t.ls.length+2) (ns ++ [t.nm.data.toList]) r
def Zaa(p:Prg):Bool:=decide (1<=p.v) && decide (p.v<=8) && decide (p.ts.length≠0) && okThs p 0 1 [] p.ts

structure PS where
 v:Int
 ts:List Th
 op:Bool
 ns:List (List UInt8)
def valD(l:List UInt8):Int:=(valL l:Int)
def Ybz(ts:List Th)(l:Ln):List Th:=match ts.getLast? with
 |none=>ts
 |some t=>ts.dropLast ++ [⟨t.nm,t.ls ++ [l]⟩]
def cutL(x:List UInt8):List UInt8 × List UInt8 × Bool:=(x.takeWhile (λc=>decide (c.toNat≠32)),(x.dropWhile (λc=>decide (c.toNat≠32))).tail,x.any λc=>decide (c.toNat=32))
def Ycx(st:PS)(at_:Nat)(key rest:List UInt8)(more:Bool):Option PS:=
 if Zlm key=0 then none
 else if Zdv (Zlm key)=0 then(if more then none else some { st with ts:=Ybz st.ts ⟨Zlm key,0,at_⟩,ns:=st.ns ++ [[]] })
 else if Zdv (Zlm key)=3 then(if Zbp rest then some { st with ts:=Ybz st.ts ⟨Zlm key,0,at_⟩,ns:=st.ns ++ [rest] }else none)
 else if numL rest then some { st with ts:=Ybz st.ts ⟨Zlm key,valD rest,at_⟩,ns:=st.ns ++ [[]] }else none
def Ycy(st:PS)(at_:Nat)(x:List UInt8):Option PS:=
 if at_=1 then(if(cutL x).1=kwValues/\numL (cutL x).2.1=true then some { st with v:=valD (cutL x).2.1 }else none)
 else if st.op=false then(if(cutL x).1=kwThread/\Zbp (cutL x).2.1=true then some { st with ts:=st.ts ++ [⟨⟨(cutL x).2.1.toArray⟩,[]⟩],op:=true }else none)
 else if x=kwEnd then some { st with op:=false }
 else Ycx st at_ (cutL x).1 (cutL x).2.1 (cutL x).2.2
def rd(st:PS)(at_:Nat)(x:List UInt8):Option PS:=if x.getLast? =some 10 then Ycy st at_ x.dropLast else none
def Zay:List Th->Nat
 |[]=>0
 |t :: r=>t.ls.length+Zay r
end Go.Proofs.YtebhoaoojgbclaaGreatDoor
