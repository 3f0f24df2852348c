import Derived.Test.YtpfhollohodcjaaGreatDoorVF
import Derived.Test.YtpfhollohodcjaaGreatDoorVA
namespace Go.Px.Cm
open E5 Co
structure Cu where
 at_:Nat
 left:List Nat
def nz:Node:=⟨0,0,[]⟩
abbrev P(α:Type):=Cu->Except Int (α×Cu)
section
variable {α β : Type}
def ret(a:α):P α:=fun c=> .ok (a,c)
def fail(e:Int):P α:=fun _=> .error e
def bnd(p:P α)(f:α->P β):P β:=fun c=>match p c with
 | .error e=> .error e
 | .ok (a,c')=>f a c'
variable (l : List Node)
def peek(c:Cu):Nat:=match c.left with
 | (_+1)::_=>(l.getD c.at_ nz).tag.toNat
 | _=>0
def bar(b:Cu->Bool)(e:Int)(p:P α):P α:=fun c=>if b c then .error e else p c
def take(t:Nat):P Bytes:=fun c=>if peek l c=t then .ok ((l.getD c.at_ nz).body,⟨c.at_+1,dec c.left⟩)else .error 9
def out(v:α)(c:Cu):Except Int (α×Cu):=match c.left with
 | (_+1)::_=> .error 9
 | _=> .ok (v,⟨c.at_,c.left.tail⟩)
def inn(t:Nat)(f:P α):P α:=fun c=>match take l t c with
 | .error e=> .error e
 | .ok (_,c1)=>match f ⟨c1.at_,(l.getD c.at_ nz).kids.toNat::c1.left⟩with
  | .error e=> .error e
  | .ok (v,c2)=>out v c2
end
def rsaT:Bytes:=[0x2a,0x86,0x48,0x86,0xf7,0x0d]
def sealedT:Bytes:=rsaT++ [1,9,16,1,23]
def dataT:Bytes:=rsaT++ [1,7,1]
def derivT:Bytes:=rsaT++ [1,5,12]
def digestT:Bytes:=rsaT++ [2]
def lockT:Bytes:=rsaT++ [1,9,16,3,9]
def besideT:Bytes:=rsaT++ [1,9,4]
def cipherT:Bytes:=[0x60,0x86,0x48,1,0x65,3,4,1]
section
variable (l : List Node)
def kind(tbl:List Bytes):P Nat:=bnd (take l 6) fun s=>match tbl.findIdx? (fun t=>t==s)with
 | some i=>ret i
 | none=>fail 11
def version(v:Bytes):P Unit:=bnd (take l 2) fun s=>if s=v then ret ()else fail 11
def octs(a b m:Nat):P Bytes:=bnd (take l 4) fun s=>if a<=s.length/\s.length<=b/\s.length % m=0 then ret s else fail 9
def wrapT:List Bytes:=[cipherT++ [5],cipherT++ [25],cipherT++ [45]]
def nameP:P Bytes:=bnd (octs l 1 128 1) fun s=>bar (fun c=>peek l c !=0) 11 (ret s)
def wrapped:P Rec:=bnd (version l [4]) fun _=>bnd (inn l 0x30 (nameP l)) fun nm=>bnd (inn l 0x30 (kind l wrapT)) fun i=>bnd (octs l 24 1032 8) fun k=>ret ⟨2,16+8*i,0,nm,k,[],0,[],[]⟩
def num(s:Bytes):Nat:=s.foldl (fun a c=>a*256+c.toNat) 0
def rounds(lim:Lim):P Nat:=bnd (take l 2) fun s=>
 if 128<=(s.getD 0 0).toNat\/s=[0]then fail 9
 else if 8<s.length\/lim.r<num s then fail 10
 else ret (num s)
def hashT:List Bytes:=[digestT++ [9],digestT++ [10],digestT++ [11]]
def hashP:P Nat:=bnd (kind l hashT) fun i=>bnd (take l 5) fun _=>ret i
def derivP(lim:Lim):P (Bytes×Nat×Nat):=bnd (octs l 8 1000 1) fun salt=>bnd (rounds l lim) fun n=>bar (fun c=>peek l c==0 || peek l c==2) 11 (bnd (inn l 0x30 (hashP l)) fun i=>ret (salt,n,i))
def derived(lim:Lim):P (Bytes×Nat×Nat):=bnd (kind l [derivT]) fun _=>inn l 0x30 (derivP l lim)
def lockTs:List Bytes:=[cipherT++ [2],cipherT++ [22],cipherT++ [42]]
def lockQ:P (Nat×Bytes):=bnd (kind l lockTs) fun j=>bnd (octs l 16 16 1) fun iv=>ret (j,iv)
def lockP:P (Nat×Bytes):=bnd (kind l [lockT]) fun _=>inn l 0x30 (lockQ l)
def password(lim:Lim):P Rec:=bnd (version l [0]) fun _=>bnd (inn l 0xa0 (derived l lim)) fun d=>bnd (inn l 0x30 (lockP l)) fun j=>bnd (octs l 32 272 16) fun k=>
 ret ⟨3,16+8*j.1,256+128*d.2.2,[],k,d.1,d.2.1,j.2,[]⟩
def recip(lim:Lim):P Rec:=fun c=>
 if peek l c=0xa2 then inn l 0xa2 (wrapped l) c
 else if peek l c=0xa3 then inn l 0xa3 (password l lim) c
 else if peek l c=0x30\/peek l c=0xa1\/peek l c=0xa4 then .error 11
 else .error 9
def recipN(lim:Lim):Nat->P (List Rec)
 | 0=>ret []
 | m+1=>bnd (recip l lim) fun r=>bnd (recipN lim m) fun rs=>ret (r::rs)
def recips(lim:Lim):P (List Rec):=fun c=>
 if c.left.headD 0=0 then .error 9
 else if 8<c.left.headD 0 then .error 10
 else recipN l lim (c.left.headD 0) c
def tagged(n:Nat)(ccm:Bool):Bool:=if ccm then decide (4<=n) && decide (n<=16) && n % 2==0 && n !=12 else decide (13<=n) && decide (n<=16)
def sizeP(iv:Bytes)(ccm:Bool):P (Bytes×Nat):=bnd (take l 2) fun s=>if s.length=1/\tagged (s.getD 0 0).toNat ccm=true then ret (iv,(s.getD 0 0).toNat)else fail 9
def params(ccm:Bool):P (Bytes×Nat):=bnd (octs l (if ccm then 7 else 1) (if ccm then 13 else 1024) 1) fun iv c=>if peek l c=2 then sizeP l iv ccm c else .ok ((iv,12),c)
def sixT:List Bytes:=[cipherT++ [6],cipherT++ [26],cipherT++ [46],cipherT++ [7],cipherT++ [27],cipherT++ [47]]
def algsL:List Int:=[1,2,3,201,202,203]
def cipherP:P (Nat×Bytes×Nat):=bnd (kind l sixT) fun i=>bnd (inn l 0x30 (params l (decide (2<i)))) fun p=>ret (i,p)
def textP(i:Nat)(iv:Bytes):P Bytes:=bnd (take l 0x80) fun s=>if 70000<s.length\/(65536<=s.length/\2<i/\iv.length=13)then fail 10 else ret s
def contentQ:P ((Nat×Bytes×Nat)×Bytes):=bnd (kind l [dataT]) fun _=>bnd (inn l 0x30 (cipherP l)) fun a=>bar (fun c=>peek l c==0) 11 (bnd (textP l a.1 a.2.1) fun s=>ret (a,s))
def content:P ((Nat×Bytes×Nat)×Bytes):=inn l 0x30 (contentQ l)
def nx(p:Nat):Nat:=p+((E5.behind (l.drop p) [] 0 0).1.getD 0)
def anyN:Nat->P Unit
 | 0=>ret ()
 | m+1=>fun c=>anyN m ⟨nx l c.at_,dec c.left⟩
def valsP:P Unit:=bar (fun c=>peek l c==0) 9 fun c=>anyN l (c.left.headD 0) c
def attrQ:P Unit:=bnd (take l 6) fun _=>inn l 0x31 (valsP l)
def attrN:Nat->P Unit
 | 0=>ret ()
 | m+1=>bnd (inn l 0x30 (attrQ l)) fun _=>attrN m
def attrP:P Unit:=fun c=>attrN l (c.left.headD 0) c
noncomputable def encOf (x:List Node):Bytes×Int:=open Classical in if h:∃r,Enc x r then h.choose else([],9)
theorem BZ{x:List Node}{r:Bytes×Int}(h:Enc x r):encOf x=r:=by
 unfold encOf;rw [dif_pos ⟨r,h⟩];exact Enc.det (Exists.choose_spec (⟨r,h⟩:∃r,Enc x r)) h
def setOf:List Node->List Node
 | []=> []
 | a::r=>⟨0x31,a.kids,a.body⟩::r
noncomputable def attrT (x:List Node):Except Int Bytes:=
 if(encOf (setOf x)).2≠0 then .error 9
 else if 70000<(encOf (setOf x)).1.length then .error 10
 else .ok (encOf (setOf x)).1
noncomputable def attrs:P Bytes:=fun c=>
 if(l.getD c.at_ nz).kids=0 then .error 9
 else match inn l 0xa1 (attrP l) c with
  | .error e=> .error e
  | .ok (_,c')=>match attrT ((l.take c'.at_).drop c.at_)with
   | .error e=> .error e
   | .ok s=> .ok (s,c')
noncomputable def beside:P Bytes:=fun c=>if peek l c=0xa1 then attrs l c else .ok ([],c)
def envOf(rs:List Rec)(a:(Nat×Bytes×Nat)×Bytes)(h t:Bytes):Env:=⟨1,algsL.getD a.1.1 0,rs,h,[],[],a.1.2.1,a.2,t⟩
noncomputable def body (lim:Lim):P Env:=bnd (version l [0]) fun _=>bar (fun c=>peek l c==0xa0) 11 (bnd (inn l 0x31 (recips l lim)) fun rs=>bnd (content l) fun a=>bnd (beside l) fun h=>
 bnd (octs l a.1.2.2 a.1.2.2 1) fun t=>bar (fun c=>peek l c==0xa2) 11 (ret (envOf rs a h t)))
noncomputable def whole (lim:Lim):P Env:=inn l 0x30 (bnd (kind l [sealedT]) fun _=>inn l 0xa0 (inn l 0x30 (body l lim)))
end
noncomputable def readL (l:List Node) (lim:Lim):Env×Int:=match whole l lim ⟨0,[1]⟩with
 | .error e=>(zero,e)
 | .ok (x,_)=>(x,0)
noncomputable def read (s:Bytes) (lim:Lim):Env×Int:=
 if(R5.decode s lim).2.2≠0 then(zero,(R5.decode s lim).2.2)else readL (R5.decode s lim).1 lim
def lf(t:UInt8)(b:Bytes):List Node:=[⟨t,-1,b⟩]
def ofT(t:UInt8)(ts:List (List Node)):List Node:=⟨t,ts.length,[]⟩::ts.flatten
variable {α β : Type} {l : List Node}
def Fits(l:List Node)(c:Cu):Prop:=c.left≠ []/\Stk 33 c.left (l.drop c.at_)
def Eats(l:List Node)(p:P α)(R:α->List (List Node)->Prop):Prop:=∀c v c',p c= .ok (v,c')->Fits l c->Fits l c'/\∃ts n r,R v ts/\c.left=(n+ts.length)::r/\c'.left=n::r/\l.drop c.at_=ts.flatten++l.drop c'.at_/\c'.at_=c.at_+ts.flatten.length
theorem Gi{R:List Node->Bytes->Bool->Prop}{set:Bool}:∀ {n last l b o},Kids R set n last l b o->RowsN R n l
 | 0,_,_,_,_,h=>h.1
 | _+1,_,_,_,_,⟨x,r,bx,_,o1,_,e,_,h1,h2,_⟩=>⟨x,r,bx,o1,e,h1,Gi h2⟩
theorem B0{n:Nat}{r:List Nat}{l:List Node}(h:Stk 33 ((n+1)::r) l):∃x y b o,l=x++y/\El (33 - (r.length+1)) x b o/\Stk 33 (n::r) y:=by
 obtain⟨l1,l2,rfl,⟨x,q,b,o,rfl,h1,h2⟩,h3⟩:=h;exact⟨x,q++l2,b,o,by rw [List.append_assoc],h1,q,l2,rfl,h2,h3⟩
theorem LG{n:Nat}{r:List Nat}{a:Node}{l:List Node}(h:Stk 33 ((n+1)::r) (a::l))(hl:leaf a=true):Stk 33 (n::r) l:=by
 obtain⟨x,y,b,o,e,h1,h2⟩:=B0 h;have hx:x=[a]:=by
  have hp:=h1.pos;cases x with
  | nil=>simp at hp
  | cons a' x'=>
   simp only [List.cons_append,List.cons.injEq]at e;obtain⟨rfl,e2⟩:=e;generalize 33 - (r.length+1)=d at h1;cases d with
   | zero=>
    obtain⟨_,e3,_⟩:=h1;simp only [List.cons.injEq]at e3;rw [e3.2]
   | succ d=>
    rcases h1 with ⟨_,e3,_⟩| ⟨_,_,_,e3,_,k,_⟩
    ·simp only [List.cons.injEq]at e3;rw [e3.2]
    ·simp only [List.cons.injEq]at e3;rw [<-e3.1,hl]at k;cases k
 subst hx;simp only [List.cons_append,List.nil_append,List.cons.injEq,true_and]at e;rw [e];exact h2
theorem Ks{n:Nat}{r:List Nat}{a:Node}{l:List Node}(h:Stk 33 ((n+1)::r) (a::l))(hl:leaf a=false):Stk 33 (count a::n::r) l:=by
 obtain⟨x,y,b,o,e,h1,h2⟩:=B0 h;have hp:=h1.pos;cases x with
 | nil=>simp at hp
 | cons a' x'=>
  simp only [List.cons_append,List.cons.injEq]at e;obtain⟨rfl,rfl⟩:=e;cases hd:33 - (r.length+1)with
  | zero=>
   rw [hd]at h1;obtain⟨_,e3,_,k,_⟩:=h1;simp only [List.cons.injEq]at e3;rw [<-e3.1,hl]at k;cases k
  | succ d=>
   rw [hd]at h1;rcases h1 with ⟨_,e3,_,k,_⟩| ⟨_,_,_,e3,_,_,k,_⟩
   ·simp only [List.cons.injEq]at e3;rw [<-e3.1,hl]at k;cases k
   ·simp only [List.cons.injEq]at e3;obtain⟨rfl,rfl⟩:=e3;refine⟨x',y,rfl,?_,h2⟩;rw [List.length_cons,show 33 - (r.length+1+1)=d by omega];exact Gi k
theorem FV{r:List Nat}{l:List Node}(h:Stk 33 (0::r) l):Stk 33 r l:=by
 obtain⟨l1,l2,rfl,h1,h2⟩:=h;have e:l1=[]:=h1;subst e;exact h2
theorem Eats.mono{p:P α}{R S:α->List (List Node)->Prop}(h:Eats l p R)(hs:∀v ts,R v ts->S v ts):Eats l p S:=fun c v c' e hl=>by
 obtain⟨hf,ts,n,r,h1,h2⟩:=h c v c' e hl;exact⟨hf,ts,n,r,hs _ _ h1,h2⟩
theorem Ax(a:α):Eats l (ret a) (fun v ts=>v=a/\ts=[]):=fun c v c' e hl=>by
 unfold ret at e;simp only [Except.ok.injEq,Prod.mk.injEq]at e;obtain⟨rfl,rfl⟩:=e;cases hc:c.left with
 | nil=>exact absurd hc hl.1
 | cons n r=>exact⟨hl,[],n,r,⟨rfl,rfl⟩,rfl,rfl,rfl,rfl⟩
theorem B4(e:Int){R:α->List (List Node)->Prop}:Eats l (fail e:P α) R:=fun c v c' h _=>by cases h
theorem Eats.bnd{p:P α}{f:α->P β}{R:α->List (List Node)->Prop}{S:α->β->List (List Node)->Prop}(h1:Eats l p R)(h2:∀a,Eats l (f a) (S a)):
  Eats l (bnd p f) (fun v ts=>∃a t1 t2,R a t1/\S a v t2/\ts=t1++t2):=fun c v c' e hl=>by
 unfold Cm.bnd at e;cases hp:p c with
 | error x=>rw [hp]at e; cases e
 | ok q=>
  obtain⟨a,c1⟩:=q;rw [hp]at e;obtain⟨hf,t1,n,r,k1,k2,k3,k4,k5⟩:=h1 c a c1 hp hl;obtain⟨hf2,t2,m,r2,j1,j2,j3,j4,j5⟩:=h2 a c1 v c' e hf;rw [k3]at j2;simp only [List.cons.injEq]at j2;obtain⟨rfl,rfl⟩:=j2;refine⟨hf2,t1++t2,m,r,⟨a,t1,t2,k1,j1,rfl⟩,by rw [k2,List.length_append]; congr 1; omega,j3,by rw [k4,j4,List.flatten_append,List.append_assoc],by rw [j5,k5,List.flatten_append,List.length_append]; omega⟩
theorem Eats.bar{b:Cu->Bool}{e:Int}{p:P α}{R:α->List (List Node)->Prop}(h:Eats l p R):Eats l (bar b e p) R:=fun c v c' hp hl=>by
 unfold Cm.bar at hp
 split at hp
 ·cases hp
 ·exact h c v c' hp hl
theorem By{t:Nat}{c c':Cu}{s:Bytes}(h:take l t c= .ok (s,c'))(ht:t≠0):∃a n r,l.drop c.at_=a::l.drop (c.at_+1)/\a∈l/\l.getD c.at_ nz=a/\a.tag.toNat=t/\s=a.body/\c.left=(n+1)::r/\c'=⟨c.at_+1,n::r⟩:=by
 unfold take at h
 split at h
 ·rename_i hp
  simp only [Except.ok.injEq,Prod.mk.injEq]at h;obtain⟨h1,h2⟩:=h;unfold peek at hp
  split at hp
  ·rename_i n r hl
   by_cases hlt:c.at_<l.length
   ·have hg:l.getD c.at_ nz=l[c.at_]:=by simp [List.getD,hlt]
    refine⟨l[c.at_],n,r,List.drop_eq_getElem_cons hlt,List.getElem_mem hlt,hg,by rw [<-hp,hg],by rw [<-h1,hg],hl,?_⟩;rw [<-h2,hl];rfl
   ·have hg:l.getD c.at_ nz=nz:=by simp [List.getD,hlt]
    rw [hg]at hp;exact absurd hp.symm ht
  ·exact absurd hp.symm ht
 ·cases h
section
variable (hr : ∀ a ∈ l, right a = true)
include hr
theorem AI{t:UInt8}(ht:t≠0)(hi:R5.inner t.toNat=false):Eats l (take l t.toNat) (fun s ts=>ts=[lf t s]/\right ⟨t,-1,s⟩=true):=fun c v c' e hl=>by
 obtain⟨a,n,r,h1,h2,_,h3,h4,h5,rfl⟩:=By e (fun h=>ht (UInt8.toNat_inj.1 h));have ha:=hr a h2;have ha0:=ha;have htg:a.tag=t:=UInt8.toNat_inj.1 h3;obtain⟨tg,k,b⟩:=a;simp only at htg;subst htg;unfold right at ha;simp only [Bool.and_eq_true,decide_eq_true_eq,beq_iff_eq]at ha;have hlf:leaf ⟨tg,k,b⟩=true:=by
  have:=ha.1.2;rw [hi]at this;cases hq:leaf ⟨tg,k,b⟩with
  | true=>rfl
  | false=>rw [hq]at this; cases this
 have hk:k= -1:=by
  have h6:decide (k<0)=true:=hlf;have h7:=ha.1.1.2;simp only [decide_eq_true_eq]at h6 h7;omega
 subst hk;subst h4;have hst:=hl.2;rw [h5,h1]at hst;exact⟨⟨by simp,LG hst hlf⟩,[lf tg v],n,r,⟨rfl,ha0⟩,h5,rfl,h1,rfl⟩
theorem CU{t:UInt8}(ht:t≠0)(hi:R5.inner t.toNat=true){c c':Cu}{b:Bytes}(h:take l t.toNat c= .ok (b,c'))(hf:Fits l c):Fits l ⟨c'.at_,(l.getD c.at_ nz).kids.toNat::c'.left⟩:=by
 obtain⟨a,n,r,h1,h2,hg,h3,h4,h5,rfl⟩:=By h (fun h=>ht (UInt8.toNat_inj.1 h));rw [hg];have ha:=hr a h2;have htg:a.tag=t:=UInt8.toNat_inj.1 h3;subst htg;unfold right at ha;simp only [Bool.and_eq_true,beq_iff_eq]at ha;have hlf:leaf a=false:=by
  have:=ha.1.2;rw [hi]at this;cases hq:leaf a with
  | false=>rfl
  | true=>rw [hq]at this; cases this
 have hst:=hf.2;rw [h5,h1]at hst;exact⟨by simp,Ks hst hlf⟩
theorem Eats.inn{t:UInt8}{f:P α}{R:α->List (List Node)->Prop}(h:Eats l f R)(ht:t≠0)(hi:R5.inner t.toNat=true):Eats l (inn l t.toNat f) (fun v ts=>∃us,R v us/\ts=[ofT t us]):=fun c v c' e hl=>by
 unfold Cm.inn at e;cases hp:take l t.toNat c with
 | error x=>rw [hp]at e; cases e
 | ok q=>
  obtain⟨s,c1⟩:=q;rw [hp]at e;obtain⟨a,n,r,h1,h2,hg,h3,h4,h5,rfl⟩:=By hp (fun h=>ht (UInt8.toNat_inj.1 h));simp only [hg]at e;have ha:=hr a h2;have htg:a.tag=t:=UInt8.toNat_inj.1 h3;obtain⟨tg,k,b⟩:=a;simp only at htg;subst htg;unfold right at ha;simp only [Bool.and_eq_true,beq_iff_eq]at ha;have hlf:leaf ⟨tg,k,b⟩=false:=by
   have:=ha.1.2;rw [hi]at this;cases hq:leaf ⟨tg,k,b⟩with
   | false=>rfl
   | true=>rw [hq]at this; cases this
  have hb:b=[]:=by
   have:=ha.2;rw [hlf,if_neg (by decide)]at this;simpa using this
  have hk:0<=k:=by
   have h6:decide (k<0)=false:=hlf;simp only [decide_eq_false_iff_not]at h6;omega
  subst hb
  split at e
  ·cases e
  ·rename_i v2 c2 hf
   have hst:=hl.2;rw [h5,h1]at hst;obtain⟨hf2,us,m,r2,k1,k2,k3,k4,k5⟩:=h _ _ _ hf ⟨by simp,Ks hst hlf⟩;unfold out at e;rw [k3]at e;simp only [List.cons.injEq]at k2;cases m with
   | succ m=>cases e
   | zero=>
    simp only [Except.ok.injEq,Prod.mk.injEq,List.tail_cons]at e;obtain⟨rfl,rfl⟩:=e;obtain⟨k6,rfl⟩:=k2;have hk7:k=((us.length:Nat):Int):=by omega
    subst hk7;have hst2:=hf2.2;rw [k3]at hst2;refine⟨⟨by simp,FV hst2⟩,[ofT tg us],n,r,⟨us,k1,rfl⟩,h5,rfl,?_,?_⟩
    ·simp only at k4;rw [h1,k4];simp [ofT]
    ·simp only at k5;simp only [k5,ofT,List.flatten_cons,List.flatten_nil,List.append_nil,List.length_cons];omega
end
end Go.Px.Cm
namespace Go.Px.Cm
open E5 Co
def sizedT(size:Int)(tbl:List UInt8):List Node:=lf 6 (cipherT++ [if size=16 then tbl.getD 0 0 else if size=24 then tbl.getD 1 0 else if size=32 then tbl.getD 2 0 else 0])
def strip:Bytes->Bytes
 | []=> []
 | [a]=> [a]
 | a::b::r=>if a=0/\b.toNat<128 then strip (b::r)else a::b::r
def numB(n:Int):Bytes:=strip (beD 8 (n % 18446744073709551616).toNat)
def hashB(k:Int):UInt8:=UInt8.ofNat ((7+k.tdiv 128) % 256).toNat
def wrapUs(r:Rec):List (List Node):=[lf 2 [4],ofT 0x30 [lf 4 r.name],ofT 0x30 [sizedT r.size [5,25,45]],lf 4 r.key]
def howT(r:Rec):List Node:=ofT 0xa0 [lf 6 derivT,ofT 0x30 [lf 4 r.salt,lf 2 (numB r.rounds),ofT 0x30 [lf 6 (digestT++ [hashB r.kind]),lf 5 []]]]
def lockL(r:Rec):List Node:=ofT 0x30 [lf 6 lockT,ofT 0x30 [sizedT r.size [2,22,42],lf 4 r.iv]]
def passUs(r:Rec):List (List Node):=[lf 2 [0],howT r,lockL r,lf 4 r.key]
def recT(r:Rec):List Node:=if r.way=2 then ofT 0xa2 (wrapUs r)else ofT 0xa3 (passUs r)
inductive RecOk (most:Int):Rec->Prop
 | wrap (nm k:Bytes) (i:Nat) (hi:i<3) (h1:1<=nm.length/\nm.length<=128) (h2:24<=k.length/\k.length<=1032/\k.length % 8=0):RecOk most ⟨2,16+8*i,0,nm,k,[],0,[],[]⟩
 | pass (salt k iv:Bytes) (n i j:Nat) (hi:i<3) (hj:j<3) (h1:8<=salt.length/\salt.length<=1000) (h2:32<=k.length/\k.length<=272/\k.length % 16=0) (h3:iv.length=16) (hn:1<=n/\(n:Int)<=most):RecOk most ⟨3,16+8*j,256+128*i,[],k,salt,n,iv,[]⟩
theorem Jc(a:UInt8):num [a]=a.toNat:=by simp [num]
theorem Jd(a b:UInt8):num [a,b]=a.toNat*256+b.toNat:=by simp [num]
theorem Dy:∀(s:Bytes) (m:Nat),m<=s.foldl (fun a c=>a*256+c.toNat) m
 | [],m=>Nat.le_refl m
 | c::r,m=>by
  exact Nat.le_trans (by omega) (Dy r (m*256+c.toNat))
theorem Bm{b:UInt8}{r:Bytes}(h:b.toNat<128):strip (0::b::r)=strip (b::r):=by rw [strip,if_pos ⟨rfl,h⟩]
theorem Dz{a b:UInt8}{r:Bytes}(h:¬(a=0/\b.toNat<128)):strip (a::b::r)=a::b::r:=by rw [strip,if_neg h]
theorem Bv(n:Nat)(h:n<32768):numB (n:Int)=if n<128 then [UInt8.ofNat n]else [UInt8.ofNat (n / 256),UInt8.ofNat (n % 256)]:=by
 have e:((n:Int) % 18446744073709551616).toNat=n:=by omega
 unfold numB;rw [e];have h8:beD 8 n=[0,0,0,0,0,0,UInt8.ofNat (n / 256),UInt8.ofNat (n % 256)]:=by
  rw [Bu,Bu,Bu,Bu,Bu,Bu,Bu,Bu];have d1:n / 256 / 256=0:=by omega
  simp only [d1,Nat.zero_div,Nat.zero_mod];rw [show n / 256 % 256=n / 256 by omega];rfl
 rw [h8];have h7:(UInt8.ofNat (n / 256)).toNat=n / 256:=by simp; omega
 have h6:(UInt8.ofNat (n % 256)).toNat=n % 256:=by simp
 rw [Bm (by decide),Bm (by decide),Bm (by decide),Bm (by decide),Bm (by decide),Bm (by rw [h7]; omega)];by_cases c:n<128
 ·rw [if_pos c];have z:UInt8.ofNat (n / 256)=0:=by rw [show n / 256=0 by omega]; rfl
  rw [z,Bm (by rw [h6]; omega),Nat.mod_eq_of_lt (by omega)];rfl
 ·rw [if_neg c,Dz];rintro⟨h0,h1⟩;rw [h6]at h1;have h2:=congrArg UInt8.toNat h0;rw [h7]at h2;have h3:n / 256=0:=h2;omega
theorem Hc{s:Bytes}(hr:right ⟨2,-1,s⟩=true)(h1:¬(128<=(s.getD 0 0).toNat\/s=[0]))(h2:num s<=4096):s=numB (num s:Nat)/\1<=num s:=by
 have hb:R5.body 2 s=true:=by
  unfold right at hr;simp only [Bool.and_eq_true]at hr;exact hr.2
 match s,hb,h1,h2 with
 | [],hb,_,_=>simp [R5.body]at hb
 | [a],hb,h1,h2=>
  rw [Jc]at h2 ⊢;have ha:a.toNat<128:=by
   simp at h1;have:=h1.1;omega
  have h0:a≠0:=by
   intro e;exact h1 (.inr (by rw [e]))
  rw [Bv _ (by omega),if_pos ha];refine⟨by simp,?_⟩;rcases Nat.eq_zero_or_pos a.toNat with e | e
  ·exact absurd (UInt8.toNat_inj.1 (by rw [e]; rfl)) h0
  ·exact e
 | [a,b],hb,h1,h2=>
  rw [Jd]at h2 ⊢;have ha:a.toNat<128:=by
   simp at h1;omega
  have hm:a.toNat*2+b.toNat / 128≠0:=by
   simp [R5.body]at hb;omega
  have hb2:=b.toNat_lt;rw [Bv _ (by omega),if_neg (by omega)];refine⟨?_,by omega⟩;rw [show(a.toNat*256+b.toNat) / 256=a.toNat by omega,show(a.toNat*256+b.toNat) % 256=b.toNat by omega];simp
 | a::b::c::r,hb,h1,h2=>
  exfalso;have hm:a.toNat*2+b.toNat / 128≠0:=by
   simp [R5.body]at hb;omega
  have h3:=Dy r (((0*256+a.toNat)*256+b.toNat)*256+c.toNat);rw [num,List.foldl_cons,List.foldl_cons,List.foldl_cons]at h2;omega
theorem Hd{tbl:List Bytes}{ks:List UInt8}(ht:tbl=ks.map fun k=>cipherT++ [k])(hk:ks.length=3){i:Nat}{t:Bytes}(h:tbl[i]?=some t):i<3/\lf 6 t=sizedT (16+8*(i:Int)) ks:=by
 match ks,hk with
 | [a,b,c],_=>
  subst ht
  match i,h with
  | 0,h=>simp at h; subst h; exact⟨by decide,rfl⟩
  | 1,h=>simp at h; subst h; exact⟨by decide,rfl⟩
  | 2,h=>simp at h; subst h; exact⟨by decide,rfl⟩
  | n+3,h=>simp at h
section
variable {α β : Type} {l : List Node}
theorem C1{c:Prop}[Decidable c]{p q:P α}{R:α->List (List Node)->Prop}(h1:c->Eats l p R)(h2:¬c->Eats l q R):Eats l (if c then p else q) R:=by
 split
 ·exact h1 ‹_›
 ·exact h2 ‹_›
theorem Di{c:Prop}[Decidable c](a:α)(e:Int):Eats l (if c then ret a else fail e) (fun v ts=>c/\v=a/\ts=[]):=C1 (fun h=>(Ax a).mono fun _ _ k=>⟨h,k⟩) (fun _=>B4 e)
variable (hr : ∀ a ∈ l, right a = true)
include hr
theorem Bz(v:Bytes):Eats l (version l v) (fun _ ts=>ts=[lf 2 v]):=
 ((AI hr (t:=2) (by decide) (by decide)).bnd fun s=>Di (c:=s=v) () 11).mono (by
  rintro _ ts ⟨s,t1,t2,⟨rfl,_⟩,⟨rfl,_,rfl⟩,rfl⟩;rfl)
theorem AR(a b m:Nat):Eats l (octs l a b m) (fun s ts=>ts=[lf 4 s]/\a<=s.length/\s.length<=b/\s.length % m=0):=
 ((AI hr (t:=4) (by decide) (by decide)).bnd fun s=>Di (c:=a<=s.length/\s.length<=b/\s.length % m=0) s 9).mono (by
  rintro _ ts ⟨s,t1,t2,⟨rfl,_⟩,⟨h,rfl,rfl⟩,rfl⟩;exact⟨rfl,h⟩)
theorem Av(tbl:List Bytes):Eats l (kind l tbl) (fun i ts=>∃t,tbl[i]?=some t/\ts=[lf 6 t]):=
 ((AI hr (t:=6) (by decide) (by decide)).bnd (S:=fun s i ts=>tbl[i]?=some s/\ts=[]) fun s=>(by
  cases hf:tbl.findIdx? (fun t=>t==s)with
  | none=>exact B4 11
  | some i=>
   refine(Ax i).mono ?_;rintro _ _ ⟨rfl,rfl⟩;obtain⟨h1,h2,_⟩:=List.findIdx?_eq_some_iff_getElem.1 hf;refine⟨?_,rfl⟩;rw [List.getElem?_eq_getElem h1]
   congr 1
   simpa using h2)).mono (by
  rintro i ts ⟨s,t1,t2,⟨rfl,_⟩,⟨h,rfl⟩,rfl⟩;exact⟨s,h,rfl⟩)
theorem D1:Eats l (nameP l) (fun s ts=>ts=[lf 4 s]/\1<=s.length/\s.length<=128):=
 ((AR hr 1 128 1).bnd fun s=>(Ax s).bar).mono (by
  rintro _ ts ⟨s,t1,t2,⟨rfl,h⟩,⟨rfl,rfl⟩,rfl⟩;exact⟨rfl,h.1,h.2.1⟩)
theorem D2(most:Int):Eats l (wrapped l) (fun r ts=>RecOk most r/\r.way=2/\ts=wrapUs r):=
 ((Bz hr [4]).bnd fun _=>((D1 hr).inn hr (t:=0x30) (by decide) (by decide)).bnd fun nm=>((Av hr wrapT).inn hr (t:=0x30) (by decide) (by decide)).bnd fun i=>(AR hr 24 1032 8).bnd fun k=>Ax _).mono (by
  rintro r ts ⟨_,_,_,rfl,⟨nm,_,_,⟨_,⟨rfl,h1,h2⟩,rfl⟩,⟨i,_,_,⟨_,⟨t,ht,rfl⟩,rfl⟩,⟨k,_,_,⟨rfl,h3,h4,h5⟩,⟨rfl,rfl⟩,rfl⟩,rfl⟩,rfl⟩,rfl⟩;obtain⟨hi,hs⟩:=Hd (ks:=[5,25,45]) rfl rfl ht;refine⟨.wrap nm k i hi ⟨h1,h2⟩ ⟨h3,h4,h5⟩,rfl,?_⟩;rw [hs];rfl)
theorem CD{lim:Lim}(hl:lim.r<=4096):Eats l (rounds l lim) (fun n ts=>ts=[lf 2 (numB n)]/\1<=n/\(n:Int)<=lim.r):=
 ((AI hr (t:=2) (by decide) (by decide)).bnd (S:=fun s n ts=>¬(128<=(s.getD 0 0).toNat\/s=[0])/\n=num s/\(num s:Int)<=lim.r/\ts=[]) fun s=>C1 (fun _=>B4 9) (fun h1=>C1 (fun _=>B4 10) (fun h2=>(Ax _).mono (by
  rintro _ _ ⟨rfl,rfl⟩;exact⟨h1,rfl,by omega,rfl⟩)))).mono (by
  rintro n ts ⟨s,t1,t2,⟨rfl,hb⟩,⟨h1,rfl,h2,rfl⟩,rfl⟩;obtain⟨e,h3⟩:=Hc hb h1 (by omega);refine⟨?_,h3,h2⟩;rw [<-e];rfl)
theorem D3:Eats l (hashP l) (fun i ts=>i<3/\ts=[lf 6 (digestT++ [hashB (256+128*(i:Int))]),lf 5 []]):=
 ((Av hr hashT).bnd fun i=>(AI hr (t:=5) (by decide) (by decide)).bnd fun _=>Ax i).mono (by
  rintro i ts ⟨_,_,_,⟨t,ht,rfl⟩,⟨s,_,_,⟨rfl,hb⟩,⟨rfl,rfl⟩,rfl⟩,rfl⟩;have hs:s=[]:=by
   unfold right at hb;simp only [Bool.and_eq_true]at hb;have h5:R5.body 5 s=true:=hb.2;simpa [R5.body] using h5
  subst hs
  match i,ht with
  | 0,ht=>simp [hashT]at ht; subst ht; exact⟨by decide,rfl⟩
  | 1,ht=>simp [hashT]at ht; subst ht; exact⟨by decide,rfl⟩
  | 2,ht=>simp [hashT]at ht; subst ht; exact⟨by decide,rfl⟩
  | n+3,ht=>simp [hashT]at ht)
theorem C2{lim:Lim}(hl:lim.r<=4096):Eats l (derived l lim) (fun d ts=>ts=[lf 6 derivT,ofT 0x30 [lf 4 d.1,lf 2 (numB d.2.1),ofT 0x30 [lf 6 (digestT++ [hashB (256+128*(d.2.2:Int))]),lf 5 []]]]/\8<=d.1.length/\d.1.length<=1000/\1<=d.2.1/\(d.2.1:Int)<=lim.r/\d.2.2<3):=
 ((Av hr [derivT]).bnd fun _=>(((AR hr 8 1000 1).bnd fun salt=>(CD hr hl).bnd fun n=>(((D3 hr).inn hr (t:=0x30) (by decide) (by decide)).bnd fun i=>Ax (salt,n,i)).bar).inn hr (t:=0x30) (by decide) (by decide))).mono (by
  rintro d ts ⟨i0,_,_,⟨t,ht,rfl⟩,⟨_,⟨salt,_,_,⟨rfl,h1,h2,_⟩,⟨n,_,_,⟨rfl,h3,h4⟩,⟨i,_,_,⟨_,⟨hi,rfl⟩,rfl⟩,⟨rfl,rfl⟩,rfl⟩,rfl⟩,rfl⟩,rfl⟩,rfl⟩;have e:t=derivT:=by
   match i0,ht with
   | 0,ht=>simp at ht; exact ht.symm
   | n+1,ht=>simp at ht
  subst e;exact⟨rfl,h1,h2,h3,h4,hi⟩)
theorem D4:Eats l (lockP l) (fun d ts=>d.1<3/\d.2.length=16/\ts=[lf 6 lockT,ofT 0x30 [sizedT (16+8*(d.1:Int)) [2,22,42],lf 4 d.2]]):=
 ((Av hr [lockT]).bnd fun _=>(((Av hr lockTs).bnd fun j=>(AR hr 16 16 1).bnd fun iv=>Ax (j,iv)).inn hr (t:=0x30) (by decide) (by decide))).mono (by
  rintro d ts ⟨i0,_,_,⟨t,ht,rfl⟩,⟨_,⟨j,_,_,⟨t2,ht2,rfl⟩,⟨iv,_,_,⟨rfl,h1,h2,_⟩,⟨rfl,rfl⟩,rfl⟩,rfl⟩,rfl⟩,rfl⟩;have e:t=lockT:=by
   match i0,ht with
   | 0,ht=>simp at ht; exact ht.symm
   | n+1,ht=>simp at ht
  subst e;obtain⟨hj,hs⟩:=Hd (ks:=[2,22,42]) rfl rfl ht2;refine⟨hj,by show iv.length=16; omega,?_⟩;rw [<-hs];rfl)
theorem DO{lim:Lim}(hl:lim.r<=4096):Eats l (password l lim) (fun r ts=>RecOk lim.r r/\r.way=3/\ts=passUs r):=
 ((Bz hr [0]).bnd fun _=>((C2 hr hl).inn hr (t:=0xa0) (by decide) (by decide)).bnd fun d=>((D4 hr).inn hr (t:=0x30) (by decide) (by decide)).bnd fun j=>(AR hr 32 272 16).bnd fun k=>Ax _).mono (by
  rintro r ts ⟨_,_,_,rfl,⟨d,_,_,⟨_,⟨rfl,h1,h2,h3,h4,hi⟩,rfl⟩,⟨j,_,_,⟨_,⟨hj,h5,rfl⟩,rfl⟩,⟨k,_,_,⟨rfl,h6,h7,h8⟩,⟨rfl,rfl⟩,rfl⟩,rfl⟩,rfl⟩,rfl⟩;exact⟨.pass d.1 k j.2 d.2.1 d.2.2 j.1 hi hj ⟨h1,h2⟩ ⟨h6,h7,h8⟩ h5 ⟨h3,h4⟩,rfl,rfl⟩)
theorem BS{lim:Lim}(hl:lim.r<=4096):Eats l (recip l lim) (fun r ts=>RecOk lim.r r/\ts=[recT r]):=fun c v c' e hc=>by
 unfold recip at e
 split at e
 ·have H:Eats l (inn l 0xa2 (wrapped l)) (fun r ts=>RecOk lim.r r/\ts=[recT r]):=((D2 hr lim.r).inn hr (t:=0xa2) (by decide) (by decide)).mono (by
   rintro r ts ⟨us,⟨h1,h2,rfl⟩,rfl⟩;refine⟨h1,?_⟩;unfold recT;rw [if_pos h2])
  exact H c v c' e hc
 ·split at e
  ·have H:Eats l (inn l 0xa3 (password l lim)) (fun r ts=>RecOk lim.r r/\ts=[recT r]):=((DO hr hl).inn hr (t:=0xa3) (by decide) (by decide)).mono (by
    rintro r ts ⟨us,⟨h1,h2,rfl⟩,rfl⟩;refine⟨h1,?_⟩;unfold recT;rw [if_neg (by rw [h2]; decide)])
   exact H c v c' e hc
  ·split at e<;>cases e
theorem EB{lim:Lim}(hl:lim.r<=4096):∀m,Eats l (recipN l lim m) (fun rs ts=>rs.length=m/\(∀r∈rs,RecOk lim.r r)/\ts=rs.map recT)
 | 0=>(Ax []).mono (by
   rintro _ _ ⟨rfl,rfl⟩;exact⟨rfl,nofun,rfl⟩)
 | m+1=>((BS hr hl).bnd fun r=>(EB hl m).bnd fun rs=>Ax (r::rs)).mono (by
   rintro _ _ ⟨r,_,_,⟨h1,rfl⟩,⟨rs,_,_,⟨h2,h3,rfl⟩,⟨rfl,rfl⟩,rfl⟩,rfl⟩;refine⟨by simp [h2],fun x hx=>?_,by simp⟩;rcases List.mem_cons.1 hx with rfl | hx
   ·exact h1
   ·exact h3 x hx)
theorem CE{lim:Lim}(hl:lim.r<=4096):Eats l (recips l lim) (fun rs ts=>1<=rs.length/\rs.length<=8/\(∀r∈rs,RecOk lim.r r)/\ts=rs.map recT):=fun c v c' e hc=>by
 unfold recips at e
 split at e
 ·cases e
 ·split at e
  ·cases e
  ·obtain⟨hf,ts,n,r,⟨h1,h2,h3⟩,k⟩:=EB hr hl _ c v c' e hc;exact⟨hf,ts,n,r,⟨by omega,by omega,h2,h3⟩,k⟩
end
end Go.Px.Cm
namespace Go.Px.E5
def aft(left:List Nat)(r:List Node)(most i:Nat):Option Nat×Nat:=if(pops left).isEmpty then(some i,most)else behind r (pops left) most i
theorem LH(left:List Nat)(r:List Node)(most i:Nat):aft (0::left) r most i=aft left r most i:=by
 unfold aft;rw [pops,if_pos rfl]
theorem LI(n:Nat)(left:List Nat)(r:List Node)(most i:Nat):aft ((n+1)::left) r most i=behind r ((n+1)::left) most i:=by
 unfold aft;rw [pops,if_neg (Nat.succ_ne_zero n)];rfl
theorem Df{a:Node}{r:List Node}{left:List Nat}{most i:Nat}(h:right a=true):behind (a::r) left most i=aft (if leaf a then dec left else count a::dec left) r (max most (if leaf a then dec left else count a::dec left).length) (i+1):=by
 have hk:¬a.kids< -1:=by
  unfold right at h;simp only [Bool.and_eq_true,decide_eq_true_eq]at h;have:=h.1.1.2;omega
 rw [behind,if_neg hk];rfl
def BehIt(d:Nat):Prop:=∀x b o,El d x b o->∀(left:List Nat) (r:List Node) (most i:Nat),∃m1,behind (x++r) left most i=aft (dec left) r m1 (i+x.length)
theorem He{d:Nat}(ih:BehIt d){set:Bool}:∀(m:Nat) (last:Bytes) (x:List Node) (b:Bytes) (o:Bool),Kids (El d) set m last x b o->∀(left:List Nat) (r:List Node) (most i:Nat),∃m1,aft (m::left) (x++r) most i=aft left r m1 (i+x.length)
 | 0,last,x,b,o,h,left,r,most,i=>by
  obtain⟨rfl,_⟩:=h;exact⟨most,by rw [LH]; rfl⟩
 | m+1,last,x,b,o,h,left,r,most,i=>by
  obtain⟨x1,y,bx,br,o1,o2,rfl,_,h1,h2,_⟩:=h;obtain⟨m1,e1⟩:=ih x1 bx o1 h1 ((m+1)::left) (y++r) most i;obtain⟨m2,e2⟩:=He ih m bx y br o2 h2 left r m1 (i+x1.length);refine⟨m2,?_⟩;rw [LI,List.append_assoc,e1];show aft (m::left) (y++r) m1 (i+x1.length)=_;rw [e2,List.length_append,Nat.add_assoc]
theorem Kt:∀d,BehIt d
 | 0=>by
  intro x b o h left r most i;obtain⟨a,rfl,h1,h2,_⟩:=h;refine⟨max most (dec left).length,?_⟩;rw [List.singleton_append,Df h1,if_pos h2];rfl
 | d+1=>by
  intro x b o h left r most i;rcases h with ⟨a,rfl,h1,h2,_⟩| ⟨a,r',br,rfl,h1,h2,hk,_⟩
  ·refine⟨max most (dec left).length,?_⟩;rw [List.singleton_append,Df h1,if_pos h2];rfl
  ·rw [List.cons_append,Df h1,if_neg (by rw [h2]; decide)];obtain⟨m1,e⟩:=He (Kt d) _ _ _ _ _ hk (dec left) r (max most (count a::dec left).length) (i+1);rw [e];exact⟨m1,by rw [List.length_cons,Nat.add_assoc,Nat.add_comm 1]⟩
theorem El.beh{d:Nat}{x:List Node}{b:Bytes}{o:Bool}(h:El d x b o)(r:List Node)(i:Nat):∃m,behind (x++r) [] 0 i=(some (i+x.length),m):=by
 obtain⟨m1,e⟩:=Kt d x b o h [] r 0 i;exact⟨m1,e⟩
def cnt(L:List Node):Nat->Nat->Nat->Option Nat
 | 0,_,_=>none
 | f+1,left,p=>if left=0 then some p else match L[p]? with
  | none=>none
  | some a=>cnt L f (left+a.kids.toNat - 1) (p+1)
def CntIt(d:Nat):Prop:=∀x b o,El d x b o->∀(L r:List Node) (p f left:Nat),L.drop p=x++r->cnt L (f+x.length) (left+1) p=cnt L f left (p+x.length)
theorem ES{L r:List Node}{a:Node}{p f left:Nat}(h:L.drop p=a::r):cnt L (f+1) (left+1) p=cnt L f (left+a.kids.toNat) (p+1):=by
 have e:L[p]?=some a:=by
  have:=congrArg (fun l=>l[0]?) h;simpa using this
 rw [cnt,if_neg (by omega),e];show cnt L f (left+1+a.kids.toNat - 1) (p+1)=_;rw [show left+1+a.kids.toNat - 1=left+a.kids.toNat by omega]
theorem Gj{L r:List Node}{a:Node}{p:Nat}(h:L.drop p=a::r):L.drop (p+1)=r:=by
 rw [<-List.drop_drop,h];rfl
theorem Hf{d:Nat}(ih:CntIt d){set:Bool}:∀(m:Nat) (last:Bytes) (x:List Node) (b:Bytes) (o:Bool),Kids (El d) set m last x b o->∀(L r:List Node) (p f left:Nat),L.drop p=x++r->cnt L (f+x.length) (left+m) p=cnt L f left (p+x.length)
 | 0,last,x,b,o,h,L,r,p,f,left,hL=>by
  obtain⟨rfl,_⟩:=h;rfl
 | m+1,last,x,b,o,h,L,r,p,f,left,hL=>by
  obtain⟨x1,y,bx,br,o1,o2,rfl,_,h1,h2,_⟩:=h;rw [List.append_assoc]at hL;have hL2:L.drop (p+x1.length)=y++r:=by rw [<-List.drop_drop,hL,List.drop_left]
  have e1:=ih x1 bx o1 h1 L (y++r) p (f+y.length) (left+m) hL;have e2:=Hf ih m bx y br o2 h2 L r (p+x1.length) f left hL2;rw [List.length_append,show f+(x1.length+y.length)=f+y.length+x1.length by omega,show left+(m+1)=left+m+1 by omega,e1,e2,Nat.add_assoc]
theorem Gk{a:Node}(h:leaf a=true):a.kids.toNat=0:=by
 have:decide (a.kids<0)=true:=h;simp only [decide_eq_true_eq]at this;omega
theorem Ku:∀d,CntIt d
 | 0=>by
  intro x b o h L r p f left hL;obtain⟨a,rfl,_,h2,_⟩:=h;rw [List.length_singleton,ES hL,Gk h2];rfl
 | d+1=>by
  intro x b o h L r p f left hL;rcases h with ⟨a,rfl,_,h2,_⟩| ⟨a,r',br,rfl,_,h2,hk,_⟩
  ·rw [List.length_singleton,ES hL,Gk h2];rfl
  ·have hL2:L.drop (p+1)=r'++r:=Gj hL;rw [List.length_cons,<-Nat.add_assoc,ES hL];rw [show a.kids.toNat=count a from rfl,Hf (Ku d) _ _ _ _ _ hk L r (p+1) f left hL2,Nat.add_assoc,Nat.add_comm 1]
theorem El.cnt{d:Nat}{x:List Node}{b:Bytes}{o:Bool}(h:El d x b o){L r:List Node}{p:Nat}(hL:L.drop p=x++r):E5.cnt L (x.length+1) 1 p=some (p+x.length):=by
 rw [show x.length+1=1+x.length by omega,Ku d x b o h L r p 1 0 hL];rfl
end Go.Px.E5
namespace Go.Px.Cm
open E5 Co
theorem GR{l x r:List Node}{p d:Nat}{b:Bytes}{o:Bool}(h:El d x b o)(hl:l.drop p=x++r):nx l p=p+x.length:=by
 obtain⟨m,e⟩:=h.beh r 0;unfold nx;rw [hl,e];show p+(0+x.length)=_;omega
def sizeUs(iv:Bytes)(n:Nat):List (List Node):=if n=12 then [lf 4 iv]else [lf 4 iv,lf 2 (numB n)]
def algT(alg:Int):List Node:=lf 6 (match algsL.findIdx? (fun a=>a==alg)with
 | some i=>sixT.getD i []
 | none=> [])
def contT(alg:Int)(iv s:Bytes)(n:Nat):List Node:=ofT 0x30 [lf 6 dataT,ofT 0x30 [algT alg,ofT 0x30 (sizeUs iv n)],lf 0x80 s]
def ivOk(i:Nat)(iv:Bytes):Prop:=(if 2<i then 7 else 1)<=iv.length/\iv.length<=(if 2<i then 13 else 1024)
def ContOk(a:(Nat×Bytes×Nat)×Bytes):Prop:=a.1.1<6/\ivOk a.1.1 a.1.2.1/\(a.1.2.2=12\/tagged a.1.2.2 (decide (2<a.1.1))=true)/\a.2.length<=70000/\¬(65536<=a.2.length/\2<a.1.1/\a.1.2.1.length=13)
theorem MY{i:Nat}{t:Bytes}(h:sixT[i]?=some t):i<6/\lf 6 t=algT (algsL.getD i 0):=by
 match i,h with
 | 0,h=>simp [sixT]at h; subst h; exact⟨by decide,rfl⟩
 | 1,h=>simp [sixT]at h; subst h; exact⟨by decide,rfl⟩
 | 2,h=>simp [sixT]at h; subst h; exact⟨by decide,rfl⟩
 | 3,h=>simp [sixT]at h; subst h; exact⟨by decide,rfl⟩
 | 4,h=>simp [sixT]at h; subst h; exact⟨by decide,rfl⟩
 | 5,h=>simp [sixT]at h; subst h; exact⟨by decide,rfl⟩
 | n+6,h=>simp [sixT]at h
theorem CI{n:Nat}{c:Bool}(h:tagged n c=true):n<=16/\n≠12:=by
 unfold tagged at h;cases c
 ·simp at h; omega
 ·simp at h; omega
section
variable {l : List Node} (hr : ∀ a ∈ l, right a = true)
include hr
theorem Gl(iv:Bytes)(ccm:Bool):Eats l (sizeP l iv ccm) (fun p ts=>p.1=iv/\tagged p.2 ccm=true/\ts=[lf 2 (numB p.2)]):=
 ((AI hr (t:=2) (by decide) (by decide)).bnd fun s=>Di (c:=s.length=1/\tagged (s.getD 0 0).toNat ccm=true) (iv,(s.getD 0 0).toNat) 9).mono (by
  rintro _ ts ⟨s,t1,t2,⟨rfl,_⟩,⟨⟨h1,h2⟩,rfl,rfl⟩,rfl⟩;refine⟨rfl,h2,?_⟩
  match s,h1 with
  | [c],_=>
   have h3:=(CI h2).1;simp only [List.getD_cons_zero]at h3 ⊢;rw [Bv _ (by omega),if_pos (by omega)];simp)
theorem CF(i:Nat):Eats l (params l (decide (2<i))) (fun p ts=>ivOk i p.1/\(p.2=12\/tagged p.2 (decide (2<i))=true)/\ts=sizeUs p.1 p.2):=
 ((AR hr _ _ 1).bnd (S:=fun iv p ts=>p.1=iv/\((p.2=12/\ts=[])\/(tagged p.2 (decide (2<i))=true/\ts=[lf 2 (numB p.2)]))) fun iv c v c' e hf=>(by
  split at e
  ·obtain⟨h1,ts,n,r,⟨h2,h3,h4⟩,h5⟩:=Gl hr iv _ c v c' e hf;exact⟨h1,ts,n,r,⟨h2,.inr ⟨h3,h4⟩⟩,h5⟩
  ·obtain⟨h1,ts,n,r,⟨h2,h3⟩,h5⟩:=Ax (l:=l) (iv,12) c v c' e hf;exact⟨h1,ts,n,r,⟨by rw [h2],.inl ⟨by rw [h2],h3⟩⟩,h5⟩)).mono (by
  rintro p ts ⟨iv,_,_,⟨rfl,h1,h2,_⟩,⟨rfl,h3⟩,rfl⟩;have hiv:ivOk i p.1:=by
   unfold ivOk;by_cases c:2<i
   ·simp only [c,decide_true,if_true]at h1 h2 ⊢;exact⟨h1,h2⟩
   ·simp only [c,decide_false,if_false]at h1 h2 ⊢;exact⟨h1,h2⟩
  rcases h3 with ⟨h3,rfl⟩| ⟨h3,rfl⟩
  ·refine⟨hiv,.inl h3,?_⟩;unfold sizeUs;rw [if_pos h3];rfl
  ·refine⟨hiv,.inr h3,?_⟩;unfold sizeUs;rw [if_neg (CI h3).2];rfl)
theorem Ir:Eats l (cipherP l) (fun a ts=>a.1<6/\ivOk a.1 a.2.1/\(a.2.2=12\/tagged a.2.2 (decide (2<a.1))=true)/\ts=[algT (algsL.getD a.1 0),ofT 0x30 (sizeUs a.2.1 a.2.2)]):=
 ((Av hr sixT).bnd fun i=>((CF hr i).inn hr (t:=0x30) (by decide) (by decide)).bnd fun p=>Ax (i,p)).mono (by
  rintro _ ts ⟨i,_,_,⟨t,ht,rfl⟩,⟨p,_,_,⟨_,⟨h1,h2,rfl⟩,rfl⟩,⟨rfl,rfl⟩,rfl⟩,rfl⟩;obtain⟨hi,e⟩:=MY ht;refine⟨hi,h1,h2,?_⟩;rw [<-e];rfl)
theorem D6(i:Nat)(iv:Bytes):Eats l (textP l i iv) (fun s ts=>ts=[lf 0x80 s]/\s.length<=70000/\¬(65536<=s.length/\2<i/\iv.length=13)):=
 ((AI hr (t:=0x80) (by decide) (by decide)).bnd (S:=fun s v ts=>v=s/\ts=[]/\¬(70000<s.length\/(65536<=s.length/\2<i/\iv.length=13))) fun s=>C1 (fun _=>B4 10) (fun h=>(Ax s).mono (by
  rintro _ _ ⟨rfl,rfl⟩;exact⟨rfl,rfl,h⟩))).mono (by
  rintro _ ts ⟨s,t1,t2,⟨rfl,_⟩,⟨rfl,rfl,h⟩,rfl⟩;exact⟨rfl,by omega,fun k=>h (.inr k)⟩)
theorem C3:Eats l (content l) (fun a ts=>ContOk a/\ts=[contT (algsL.getD a.1.1 0) a.1.2.1 a.2 a.1.2.2]):=
 ((((Av hr [dataT]).bnd fun _=>((Ir hr).inn hr (t:=0x30) (by decide) (by decide)).bnd fun a=>((D6 hr a.1 a.2.1).bnd fun s=>Ax (a,s)).bar).inn hr (t:=0x30) (by decide) (by decide))).mono (by
  rintro _ ts ⟨_,⟨i0,_,_,⟨t,ht,rfl⟩,⟨a,_,_,⟨_,⟨h1,h2,h3,rfl⟩,rfl⟩,⟨s,_,_,⟨rfl,h4,h5⟩,⟨rfl,rfl⟩,rfl⟩,rfl⟩,rfl⟩,rfl⟩;have e:t=dataT:=by
   match i0,ht with
   | 0,ht=>simp at ht; exact ht.symm
   | n+1,ht=>simp at ht
  subst e;exact⟨⟨h1,h2,h3,h4,h5⟩,rfl⟩)
omit hr in
theorem D7:∀(m:Nat) (c:Cu) (v:Unit) (c':Cu),anyN l m c= .ok (v,c')->Fits l c->(∃k r,c.left=(k+m)::r)->Fits l c'/\∃(ts:List (List Node)) (n:Nat) (r:List Nat),ts.length=m/\c.left=(n+ts.length)::r/\c'.left=n::r/\l.drop c.at_=ts.flatten++l.drop c'.at_/\c'.at_=c.at_+ts.flatten.length
 | 0,c,v,c',e,hf,⟨k,r,hk⟩=>by
  unfold anyN ret at e;simp only [Except.ok.injEq,Prod.mk.injEq]at e;obtain⟨_,rfl⟩:=e;exact⟨hf,[],k,r,rfl,hk,hk,rfl,rfl⟩
 | m+1,c,v,c',e,hf,⟨k,r,hk⟩=>by
  unfold anyN at e;have hst:=hf.2;rw [hk,<-Nat.add_assoc]at hst;obtain⟨x,y,b,o,h1,h2,h3⟩:=B0 hst;have hn:=GR h2 h1;have hd:l.drop (nx l c.at_)=y:=by rw [hn,<-List.drop_drop,h1,List.drop_left]
  have hl:dec c.left=(k+m)::r:=by rw [hk]; rfl
  obtain⟨hf2,ts,n,r2,k1,k2,k3,k4,k5⟩:=D7 m _ v c' e ⟨by rw [hl]; simp,by rw [hl,hd]; exact h3⟩ ⟨k,r,hl⟩;simp only at k2 k4 k5;rw [hl]at k2;simp only [List.cons.injEq]at k2;refine⟨hf2,x::ts,n,r2,by simp [k1],?_,k3,?_,?_⟩
  ·rw [hk,k2.2,List.length_cons]
   congr 1
   omega
  ·rw [h1,<-hd,k4,List.flatten_cons,List.append_assoc]
  ·rw [k5,hn,List.flatten_cons,List.length_append];omega
omit hr in
theorem eats_vals:Eats l (valsP l) (fun _ ts=>ts≠ []):=fun c v c' e hf=>by
 unfold valsP bar at e
 split at e
 ·cases e
 ·rename_i hp
  cases hc:c.left with
  | nil=>exact absurd hc hf.1
  | cons m r=>
   replace e:anyN l (c.left.headD 0) c= .ok (v,c'):=e;rw [hc]at e;obtain⟨hf2,ts,n,r2,k1,k2,k3⟩:=D7 _ c v c' e hf ⟨0,r,by rw [Nat.zero_add]; exact hc⟩;refine⟨hf2,ts,n,r2,?_,by rw [<-hc]; exact k2,k3⟩;intro h0;subst h0;have hm:m=0:=by simpa using k1.symm
   apply hp;show(peek l c==0)=true;unfold peek;rw [hc,hm];rfl
theorem C8:Eats l (inn l 0x30 (attrQ l)) (fun _ ts=>∃t vs,vs≠ []/\ts=[ofT 0x30 [lf 6 t,ofT 0x31 vs]]):=
 ((((AI hr (t:=6) (by decide) (by decide)).bnd fun _=>eats_vals.inn hr (t:=0x31) (by decide) (by decide)).inn hr (t:=0x30) (by decide) (by decide))).mono (by
  rintro _ ts ⟨_,⟨t,_,_,⟨rfl,_⟩,⟨vs,hv,rfl⟩,rfl⟩,rfl⟩;exact⟨t,vs,hv,rfl⟩)
theorem Fu:∀m,Eats l (attrN l m) (fun _ ts=>ts.length=m)
 | 0=>(Ax ()).mono (by
  rintro _ _ ⟨_,rfl⟩;rfl)
 | m+1=>((C8 hr).bnd fun _=>Fu m).mono (by
  rintro _ _ ⟨_,_,_,⟨t,vs,hv,rfl⟩,h,rfl⟩;simp [h])
theorem CR:Eats l (attrP l) (fun _ _=>True):=fun c v c' e hf=>by
 obtain⟨h1,ts,n,r,_,h2⟩:=Fu hr _ c v c' e hf;exact⟨h1,ts,n,r,trivial,h2⟩
theorem Fv:Eats l (attrs l) (fun h ts=>∃us,us≠ []/\ts=[ofT 0xa1 us]/\attrT (ofT 0xa1 us)= .ok h):=fun c v c' e hf=>by
 unfold attrs at e
 split at e
 ·cases e
 ·rename_i hk
  split at e
  ·cases e
  ·rename_i c2 h
   obtain⟨h1,ts,n,r,⟨us,_,rfl⟩,h2,h3,h4,h5⟩:=(CR hr).inn hr (t:=0xa1) (by decide) (by decide) c _ c2 h hf;have hx:(l.take c2.at_).drop c.at_=ofT 0xa1 us:=by
    rw [List.drop_take,h4,h5];simp
   rw [hx]at e
   split at e
   ·cases e
   ·rename_i s hs
    simp only [Except.ok.injEq,Prod.mk.injEq]at e;obtain⟨rfl,rfl⟩:=e;refine⟨h1,_,n,r,⟨us,?_,rfl,hs⟩,h2,h3,h4,h5⟩;intro h0;subst h0;apply hk;have hg:l.getD c.at_ nz=⟨0xa1,0,[]⟩:=by
     have:=congrArg (fun x=>x[0]?) h4;simp [ofT]at this;simp [List.getD,this]
    rw [hg]
theorem EC:Eats l (beside l) (fun h ts=>(h=[]/\ts=[])\/∃us,us≠ []/\ts=[ofT 0xa1 us]/\attrT (ofT 0xa1 us)= .ok h):=fun c v c' e hf=>by
 unfold beside at e
 split at e
 ·obtain⟨h1,ts,n,r,h2,h3⟩:=Fv hr c v c' e hf;exact⟨h1,ts,n,r,.inr h2,h3⟩
 ·obtain⟨h1,ts,n,r,⟨h2,h3⟩,h4⟩:=Ax (l:=l) [] c v c' e hf;exact⟨h1,ts,n,r,.inl ⟨h2,h3⟩,h4⟩
def wholeT(x:Env)(hs:List (List Node)):List Node:=
 ofT 0x30 [lf 6 sealedT,ofT 0xa0 [ofT 0x30 ([lf 2 [0],ofT 0x31 (x.to.map recT),contT x.alg x.iv x.cipher x.tag.length]++hs++ [lf 4 x.tag])]]
def Heads(h:Bytes)(hs:List (List Node)):Prop:=(h=[]/\hs=[])\/∃us,us≠ []/\hs=[ofT 0xa1 us]/\attrT (ofT 0xa1 us)= .ok h
structure EnvOk (most:Int) (x:Env):Prop where
 to:1<=x.to.length/\x.to.length<=8/\∀r∈x.to,RecOk most r
 cont:∃i,ContOk ((i,x.iv,x.tag.length),x.cipher)/\x.alg=algsL.getD i 0
 rest:x.fmt=1/\x.loose=[]/\x.aad=[]
theorem C9{lim:Lim}(hl:lim.r<=4096):Eats l (body l lim) (fun x ts=>EnvOk lim.r x/\∃hs,Heads x.header hs/\ts=[lf 2 [0],ofT 0x31 (x.to.map recT),contT x.alg x.iv x.cipher x.tag.length]++hs++ [lf 4 x.tag]):=
 ((Bz hr [0]).bnd fun _=>(((CE hr hl).inn hr (t:=0x31) (by decide) (by decide)).bnd fun rs=>(C3 hr).bnd fun a=>(EC hr).bnd fun h=>(AR hr a.1.2.2 a.1.2.2 1).bnd fun t=>(Ax (envOf rs a h t)).bar).bar).mono (by
  rintro _ ts ⟨_,_,_,rfl,⟨rs,_,_,⟨_,⟨h1,h2,h3,rfl⟩,rfl⟩,⟨a,_,_,⟨h4,rfl⟩,⟨h,hs,_,h5,⟨t,_,_,⟨rfl,h6,h7,_⟩,⟨rfl,rfl⟩,rfl⟩,rfl⟩,rfl⟩,rfl⟩,rfl⟩;have ht:t.length=a.1.2.2:=by omega
  refine⟨⟨⟨h1,h2,h3⟩,⟨a.1.1,?_,rfl⟩,rfl,rfl,rfl⟩,hs,h5,?_⟩
  ·show ContOk ((a.1.1,a.1.2.1,t.length),a.2);rw [ht];exact h4
  ·show _=[lf 2 [0],ofT 0x31 (rs.map recT),contT (algsL.getD a.1.1 0) a.1.2.1 a.2 t.length]++hs++ [lf 4 t]
   rw [ht];simp)
theorem JI{lim:Lim}(hl:lim.r<=4096):Eats l (whole l lim) (fun x ts=>EnvOk lim.r x/\∃hs,Heads x.header hs/\ts=[wholeT x hs]):=
 ((((Av hr [sealedT]).bnd fun _=>(((C9 hr hl).inn hr (t:=0x30) (by decide) (by decide)).inn hr (t:=0xa0) (by decide) (by decide))).inn hr (t:=0x30) (by decide) (by decide))).mono (by
  rintro x ts ⟨_,⟨i0,_,_,⟨t,ht,rfl⟩,⟨_,⟨_,⟨h1,hs,h2,rfl⟩,rfl⟩,rfl⟩,rfl⟩,rfl⟩;have e:t=sealedT:=by
   match i0,ht with
   | 0,ht=>simp at ht; exact ht.symm
   | n+1,ht=>simp at ht
  subst e;exact⟨h1,hs,h2,rfl⟩)
end
section
variable {α β : Type}
def NZ(p:P α):Prop:=∀c e,p c= .error e->e≠0
theorem A5(a:α):NZ (ret a):=fun c e h=>by cases h
theorem Cq{e:Int}(h:e≠0):NZ (fail e:P α):=fun c e' k=>by
 unfold fail at k;simp only [Except.error.injEq]at k;omega
theorem NZ.bnd{p:P α}{f:α->P β}(h1:NZ p)(h2:∀a,NZ (f a)):NZ (bnd p f):=fun c e h=>by
 unfold Cm.bnd at h
 split at h
 ·rename_i x hx
  simp only [Except.error.injEq]at h;subst h;exact h1 _ _ hx
 ·exact h2 _ _ _ h
theorem NZ.bar{b:Cu->Bool}{e:Int}{p:P α}(h:NZ p)(he:e≠0):NZ (bar b e p):=fun c e' k=>by
 unfold Cm.bar at k
 split at k
 ·simp only [Except.error.injEq]at k;omega
 ·exact h _ _ k
theorem NZ.ite{c:Prop}[Decidable c]{p q:P α}(h1:NZ p)(h2:NZ q):NZ (if c then p else q):=by
 split
 ·exact h1
 ·exact h2
variable (l : List Node)
theorem BT(t:Nat):NZ (take l t):=fun c e h=>by
 unfold take at h
 split at h
 ·cases h
 ·simp only [Except.error.injEq]at h;omega
theorem NZ.inn{t:Nat}{f:P α}(h:NZ f):NZ (inn l t f):=fun c e k=>by
 unfold Cm.inn at k
 split at k
 ·rename_i x hx
  simp only [Except.error.injEq]at k;subst k;exact BT l t _ _ hx
 ·split at k
  ·rename_i x hx
   simp only [Except.error.injEq]at k;subst k;exact h _ _ hx
  ·unfold out at k
   split at k
   ·simp only [Except.error.injEq]at k;omega
   ·cases k
theorem B5(tbl:List Bytes):NZ (kind l tbl):=(BT l 6).bnd fun s=>by
 split
 ·exact A5 _
 ·exact Cq (by decide)
theorem DA(v:Bytes):NZ (version l v):=(BT l 2).bnd fun s=>(A5 _).ite (Cq (by decide))
theorem Cr(a b m:Nat):NZ (octs l a b m):=(BT l 4).bnd fun s=>(A5 _).ite (Cq (by decide))
theorem JJ:NZ (wrapped l):=(DA l _).bnd fun _=>(((Cr l 1 128 1).bnd fun s=>(A5 s).bar (by decide)).inn l).bnd fun _=>((B5 l _).inn l).bnd fun _=>(Cr l _ _ _).bnd fun _=>A5 _
theorem Kv(lim:Lim):NZ (rounds l lim):=(BT l 2).bnd fun s=>(Cq (by decide)).ite ((Cq (by decide)).ite (A5 _))
theorem Iu(lim:Lim):NZ (password l lim):=(DA l _).bnd fun _=>(((B5 l _).bnd fun _=>((Cr l 8 1000 1).bnd fun salt=>(Kv l lim).bnd fun n=>((((B5 l _).bnd fun i=>(BT l 5).bnd fun _=>A5 i).inn l).bnd fun i=>A5 _).bar (by decide)).inn l).inn l).bnd fun _=>
 (((B5 l _).bnd fun _=>((B5 l _).bnd fun _=>(Cr l _ _ _).bnd fun _=>A5 _).inn l).inn l).bnd fun _=>(Cr l _ _ _).bnd fun _=>A5 _
theorem LJ(lim:Lim):NZ (recip l lim):=fun c e h=>by
 unfold recip at h
 split at h
 ·exact(JJ l).inn l _ _ h
 ·split at h
  ·exact(Iu l lim).inn l _ _ h
  ·split at h
   ·simp only [Except.error.injEq]at h; omega
   ·simp only [Except.error.injEq]at h; omega
theorem Gm(lim:Lim):∀m,NZ (recipN l lim m)
 | 0=>A5 _
 | m+1=>(LJ l lim).bnd fun _=>(Gm lim m).bnd fun _=>A5 _
theorem Kw(lim:Lim):NZ (recips l lim):=fun c e h=>by
 unfold recips at h
 split at h
 ·simp only [Except.error.injEq]at h; omega
 ·split at h
  ·simp only [Except.error.injEq]at h; omega
  ·exact Gm l lim _ _ _ h
theorem Kx(ccm:Bool):NZ (params l ccm):=(Cr l _ _ _).bnd fun iv c e h=>by
 split at h
 ·exact((BT l 2).bnd fun s=>(A5 _).ite (Cq (by decide))) c e h
 ·cases h
theorem JK:NZ (content l):=(((B5 l _).bnd fun _=>(((B5 l _).bnd fun i=>((Kx l _).inn l).bnd fun p=>A5 _).inn l).bnd fun a=>(((BT l _).bnd fun s=>(Cq (by decide)).ite (A5 s)).bnd fun s=>A5 _).bar (by decide))).inn l
theorem Je:∀m,NZ (anyN l m)
 | 0=>A5 _
 | m+1=>fun _ e h=>Je m _ e h
theorem Hg:∀m,NZ (attrN l m)
 | 0=>A5 _
 | m+1=>(((BT l 6).bnd fun _=>(NZ.bar (fun c e h=>Je l _ _ _ h) (by decide)).inn l).inn l).bnd fun _=>Hg m
theorem Ky:NZ (beside l):=fun c e h=>by
 unfold beside at h
 split at h
 ·unfold attrs at h
  split at h
  ·simp only [Except.error.injEq]at h; omega
  ·split at h
   ·rename_i x hx
    simp only [Except.error.injEq]at h;subst h;exact(NZ.inn l (fun c e h=>Hg l _ _ _ h)) _ _ hx
   ·split at h
    ·rename_i x hx
     simp only [Except.error.injEq]at h;subst h;unfold attrT at hx
     split at hx
     ·simp only [Except.error.injEq]at hx; omega
     ·split at hx
      ·simp only [Except.error.injEq]at hx; omega
      ·cases hx
    ·cases h
 ·cases h
theorem Hh(lim:Lim):NZ (whole l lim):=((B5 l _).bnd fun _=>((((DA l _).bnd fun _=>(((Kw l lim).inn l).bnd fun rs=>(JK l).bnd fun a=>(Ky l).bnd fun h=>(Cr l _ _ _).bnd fun t=>(A5 _).bar (by decide)).bar (by decide))).inn l).inn l).inn l
end
theorem Kz{l:List Node}{lim:Lim}{d:Nat}{b:Bytes}{o:Bool}(hl:El d l b o)(hd:d<=32)(hr:lim.r<=4096){x:Env}(h:readL l lim=(x,0)):EnvOk lim.r x/\∃hs,Heads x.header hs/\l=wholeT x hs:=by
 unfold readL at h
 split at h
 ·rename_i e he
  simp only [Prod.mk.injEq]at h;exact absurd h.2 (Hh l lim _ _ he)
 ·rename_i y c' he
  simp only [Prod.mk.injEq,and_true]at h;subst h;have hst:Stk 33 [1] l:=⟨l,[],by simp,⟨l,[],b,o,by simp,hl.mono (by simpa using hd),rfl⟩,rfl⟩
  obtain⟨hf,ts,n,r,⟨h1,hs,h2,rfl⟩,h3,h4,h5,h6⟩:=JI hl.all hr ⟨0,[1]⟩ y c' he ⟨by simp,by simpa using hst⟩;refine⟨h1,hs,h2,?_⟩;simp only [List.length_cons,List.length_nil,List.cons.injEq]at h3;have hn:n=0:=by omega
  subst hn;rw [<-h3.2]at h4;have h7:=hf.2;rw [h4]at h7;have h8:l.drop c'.at_=[]:=FV h7;rw [h8]at h5;simpa using h5
section
variable {α β : Type}
def Le(p q:P α):Prop:=∀c r,p c= .ok r->q c= .ok r
theorem Le.refl(p:P α):Le p p:=fun _ _ h=>h
theorem Le.bnd{p q:P α}{f g:α->P β}(h1:Le p q)(h2:∀a,Le (f a) (g a)):Le (bnd p f) (bnd q g):=fun c r h=>by
 unfold Cm.bnd at h ⊢
 split at h
 ·cases h
 ·rename_i a c' e
  rw [h1 _ _ e];exact h2 _ _ _ h
theorem Le.bar{b:Cu->Bool}{e:Int}{p q:P α}(h:Le p q):Le (bar b e p) (bar b e q):=fun c r k=>by
 unfold Cm.bar at k ⊢
 split at k
 ·cases k
 ·rename_i hb
  rw [if_neg hb];exact h _ _ k
variable (l : List Node)
theorem Le.inn{t:Nat}{p q:P α}(h:Le p q):Le (inn l t p) (inn l t q):=fun c r k=>by
 unfold Cm.inn at k ⊢
 split at k
 ·cases k
 ·split at k
  ·cases k
  ·rename_i e
   rw [h _ _ e];exact k
theorem KA{a b:Lim}(h:a.r<=b.r):Le (rounds l a) (rounds l b):=(Le.refl _).bnd fun s c r k=>by
 split at k
 ·cases k
 ·rename_i h1
  rw [if_neg h1]
  split at k
  ·cases k
  ·rename_i h2
   rw [if_neg (by omega)];exact k
theorem Iv{a b:Lim}(h:a.r<=b.r):Le (password l a) (password l b):=(Le.refl _).bnd fun _=>(((Le.refl _).bnd fun _=>((Le.refl _).bnd fun _=>(KA l h).bnd fun _=>Le.refl _).inn l).inn l).bnd fun _=>Le.refl _
theorem LK{a b:Lim}(h:a.r<=b.r):Le (recip l a) (recip l b):=fun c r k=>by
 unfold recip at k ⊢
 split at k
 ·rename_i h1
  rw [if_pos h1];exact k
 ·rename_i h1
  rw [if_neg h1]
  split at k
  ·rename_i h2
   rw [if_pos h2];exact(Iv l h).inn l _ _ k
  ·split at k<;>cases k
theorem Gn{a b:Lim}(h:a.r<=b.r):∀m,Le (recipN l a m) (recipN l b m)
 | 0=>Le.refl _
 | m+1=>(LK l h).bnd fun _=>(Gn h m).bnd fun _=>Le.refl _
theorem KB{a b:Lim}(h:a.r<=b.r):Le (recips l a) (recips l b):=fun c r k=>by
 unfold recips at k ⊢
 split at k
 ·cases k
 ·rename_i h1
  rw [if_neg h1]
  split at k
  ·cases k
  ·rename_i h2
   rw [if_neg h2];exact Gn l h _ _ _ k
theorem LM{a b:Lim}(h:a.r<=b.r):Le (whole l a) (whole l b):=((Le.refl _).bnd fun _=>((((Le.refl _).bnd fun _=>(((KB l h).inn l).bnd fun _=>Le.refl _).bar).inn l).inn l)).inn l
end
def retag(t:UInt8):List Node->List Node
 | []=> []
 | a::r=>⟨t,a.kids,a.body⟩::r
def headsOf(h:Bytes):Option (List (List Node)):=
 if h=[]then some []
 else if(R5.decode h encLim).2.2≠0\/((R5.decode h encLim).1.getD 0 nz).tag≠0x31 then none
 else some [retag 0xa1 (R5.decode h encLim).1]
def mostL:Lim:=⟨32,4096,262144,4096⟩
noncomputable def checked (x:Env) (r:Bytes×Int):Bytes×Int:=
 if r.2≠0 then([],2)
 else if(read r.1 mostL).2≠0\/x≠(read r.1 mostL).1 then([],2)
 else(r.1,0)
noncomputable def tellP (x:Env):Bytes×Int:=match headsOf x.header with
 | none=>([],2)
 | some hs=>checked x (encOf (wholeT x hs))
theorem KC{s:Bytes}{lim more:Lim}{x:Env}(h:read s lim=(x,0))(hm:more.may=true)(hd:lim.d<=more.d)(hi:lim.i<=more.i)(hb:lim.b<=more.b)(hr:lim.r<=more.r):read s more=(x,0):=by
 unfold read at h;by_cases he:(R5.decode s lim).2.2=0
 ·rw [if_neg (by omega)]at h;have hd:=Iq he hm hd hi hb;unfold read;rw [hd,if_neg (by simp)];unfold readL at h ⊢
  split at h
  ·rename_i e he
   simp only [Prod.mk.injEq]at h;exact absurd h.2 (Hh _ _ _ _ he)
  ·rename_i y c' he
   rw [LM _ hr _ _ he];exact h
 ·rw [if_pos he]at h;simp only [Prod.mk.injEq]at h;exact absurd h.2 he
theorem NK{x:List Node}{b:Bytes}(h:(encOf x).2=0)(hb:(encOf x).1=b):Enc x (b,0):=by
 by_cases hx:∃r,Enc x r
 ·obtain⟨r,hr⟩:=hx;have e:=BZ hr;rw [e]at h hb;obtain⟨r1,r2⟩:=r;simp only at h hb;subst h;subst hb;exact hr
 ·unfold encOf at h;rw [dif_neg hx]at h;simp at h
theorem LO{h:Bytes}{hs:List (List Node)}(k:Heads h hs):headsOf h=some hs:=by
 rcases k with ⟨rfl,rfl⟩| ⟨us,_,rfl,ha⟩
 ·rfl
 ·unfold attrT at ha
  split at ha
  ·cases ha
  ·rename_i h1
   split at ha
   ·cases ha
   ·simp only [Except.ok.injEq]at ha;have he:=NK (by omega) ha;have hd:=he.back rfl encLim Ft rfl rfl rfl;have hn:h≠ []:=by
     intro e;rw [e]at hd;have:(R5.decode [] encLim).2.2≠0:=by decide
     rw [hd]at this;exact this rfl
    unfold headsOf;rw [if_neg hn,hd,if_neg (by rintro(e | e); exact e rfl; exact e rfl)];rfl
theorem MZ{s:Bytes}{lim:Lim}(h:(R5.decode s lim).2.2=0):lim.may=true:=by
 by_cases hm:lim.may=true
 ·exact hm
 ·rw [Bool.not_eq_true]at hm;rw [decode_no hm]at h;simp at h
theorem Ek{s:Bytes}{lim:Lim}{x:Env}(h:read s lim=(x,0)):tellP x=(s,0)/\EnvOk 4096 x/\∃hs,Heads x.header hs/\Enc (wholeT x hs) (s,0):=by
 have h0:=h;unfold read at h;by_cases he:(R5.decode s lim).2.2=0
 ·rw [if_neg (by omega)]at h;have hm:=MZ he;have hmay:=Aw hm;obtain⟨_,_,h1,_⟩:=BI he;have hE:=GH he;generalize (R5.decode s lim).1=l at h h1 hE;obtain⟨hx,hs,k1,k2⟩:=Kz h1 (by omega) hmay.2.2.2.2.2.2.2 h;have hx2:EnvOk 4096 x:=⟨⟨hx.to.1,hx.to.2.1,fun r hr=>by
   cases hx.to.2.2 r hr with
   | wrap nm k i hi h1 h2=>exact .wrap nm k i hi h1 h2
   | pass salt k iv n i j hi hj h1 h2 h3 hn=>exact .pass salt k iv n i j hi hj h1 h2 h3 ⟨hn.1,by omega⟩⟩,hx.cont,hx.rest⟩
  rw [k2]at hE;refine⟨?_,hx2,hs,k1,hE⟩;unfold tellP;rw [LO k1];dsimp only;rw [BZ hE];unfold checked;have hmo:=KC h0 (more:=mostL) (by decide) hmay.2.1 hmay.2.2.2.1 hmay.2.2.2.2.2.1 hmay.2.2.2.2.2.2.2;dsimp only;rw [hmo,if_neg (by simp),if_neg (by simp)]
 ·rw [if_pos he]at h;simp only [Prod.mk.injEq]at h;exact absurd h.2 he
theorem back{x:Env}:((tellP x).2=0/\read (tellP x).1 mostL=(x,0))\/tellP x=([],2):=by
 unfold tellP
 split
 ·exact .inr rfl
 ·unfold checked
  split
  ·exact .inr rfl
  ·split
   ·exact .inr rfl
   ·rename_i h
    refine .inl ⟨rfl,?_⟩;refine Prod.ext ?_ ?_
    ·exact(Decidable.not_not.1 fun e=>h (.inr e)).symm
    ·exact Decidable.not_not.1 fun e=>h (.inl e)
def TE(f:Bool)(d:Nat)(u:List Node)(b:Bytes):Prop:=∃o,El d u b o/\(f=true->o=false)
def RowE(f:Bool)(d:Nat):List (List Node)->List Bytes->Prop
 | [],bs=>bs=[]
 | u::us,bs=>∃b1 b2,bs=b1::b2/\TE f d u b1/\RowE f d us b2
def ordL:Bytes->List Bytes->Bool
 | _,[]=>true
 | last,b::r=> !Op.bytesLess b last && ordL b r
section
variable {f : Bool}
theorem AM{d:Nat}:RowE f d [] []:=rfl
theorem Aj{d:Nat}{u:List Node}{us:List (List Node)}{b1:Bytes}{b2:List Bytes}(h1:TE f d u b1)(h2:RowE f d us b2):RowE f d (u::us) (b1::b2):=⟨b1,b2,rfl,h1,h2⟩
theorem FW{d:Nat}:∀ {us vs:List (List Node)} {b1 b2:List Bytes},RowE f d us b1->RowE f d vs b2->RowE f d (us++vs) (b1++b2)
 | [],_,_,_,h1,h2=>by
  unfold RowE at h1;subst h1;exact h2
 | _::_,_,_,_,⟨x,y,e,h1,h2⟩,h3=>⟨x,y++_,by rw [e,List.cons_append],h1,FW h2 h3⟩
theorem Hi{d:Nat}{set:Bool}:∀ {us:List (List Node)} {bs:List Bytes} (last:Bytes),RowE f d us bs->(f=true->set=true->ordL last bs=true)->∃o,Kids (El d) set us.length last us.flatten bs.flatten o/\(f=true->o=false)
 | [],bs,last,h,_=>by
  unfold RowE at h;subst h;exact⟨false,⟨rfl,rfl,rfl⟩,fun _=>rfl⟩
 | u::us,bs,last,⟨b1,b2,e,⟨o1,h1,k1⟩,h2⟩,ho=>by
  subst e;obtain⟨o2,k,k2⟩:=Hi (set:=set) b1 h2 (fun hf hs=>by
   have:=ho hf hs;unfold ordL at this;simp only [Bool.and_eq_true]at this;exact this.2)
  refine⟨_,⟨u,us.flatten,b1,b2.flatten,o1,o2,rfl,rfl,h1,k,rfl⟩,fun hf=>?_⟩;rw [k1 hf,k2 hf];cases hs:set with
  | false=>rfl
  | true=>
   have:=ho hf hs;unfold ordL at this;simp only [Bool.and_eq_true,Bool.not_eq_true']at this;rw [this.1];rfl
theorem AQ{d:Nat}{t:UInt8}{b:Bytes}(h:right ⟨t,-1,b⟩=true):TE f d (lf t b) (wrap t b):=⟨false,El.one h rfl,fun _=>rfl⟩
theorem LP{t:UInt8}(h1:R5.tagE t.toNat=0)(h2:R5.inner t.toNat=true)(n:Nat):right ⟨t,n,[]⟩=true/\leaf ⟨t,n,[]⟩=false:=by
 have hl:leaf ⟨t,n,[]⟩=false:=by
  unfold leaf;rw [decide_eq_false_iff_not];show ¬((n:Nat):Int)<0;omega
 refine⟨?_,hl⟩;unfold right;rw [hl,h1,h2];have:decide (-1<=((n:Nat):Int))=true:=by
  rw [decide_eq_true_iff];omega
 show(((0:Int)==0) && decide (-1<=((n:Nat):Int)) && (true== !false) && _)=true;rw [this];rfl
theorem Fw{d:Nat}{t:UInt8}{us:List (List Node)}{bs:List Bytes}(h1:R5.tagE t.toNat=0)(h2:R5.inner t.toNat=true)(h:RowE f d us bs)(ho:f=true->(t.toNat==49)=true->ordL [] bs=true):TE f (d+1) (ofT t us) (wrap t bs.flatten):=by
 obtain⟨o,k,k2⟩:=Hi (set:=t.toNat==49) [] h ho;obtain⟨r1,r2⟩:=LP h1 h2 us.length;exact⟨o,El.node r1 r2 k,k2⟩
theorem Bn{d:Nat}{t:UInt8}{us:List (List Node)}{bs:List Bytes}(h1:R5.tagE t.toNat=0)(h2:R5.inner t.toNat=true)(h3:(t.toNat==49)=false)(h:RowE f d us bs):TE f (d+1) (ofT t us) (wrap t bs.flatten):=Fw h1 h2 h fun _ e=>by rw [h3]at e; cases e
theorem TE.mono{d e:Nat}(hd:d<=e){u:List Node}{b:Bytes}(h:TE f d u b):TE f e u b:=by
 obtain⟨o,k,k2⟩:=h;exact⟨o,k.mono hd,k2⟩
end
def sizedB(size:Int)(tbl:List UInt8):Bytes:=
 if size % 8≠0\/size.tdiv 8 - 2<0\/2<size.tdiv 8 - 2 then wrap 6 []else wrap 6 (cipherT++ [tbl.getD (size.tdiv 8 - 2).toNat 0])
def recB(r:Rec):Bytes:=
 if r.way=2 then wrap 0xa2 (wrap 2 [4]++wrap 0x30 (wrap 4 r.name)++wrap 0x30 (sizedB r.size [5,25,45])++wrap 4 r.key)
 else wrap 0xa3 (wrap 2 [0]++wrap 0xa0 (wrap 6 derivT++wrap 0x30 (wrap 4 r.salt++wrap 2 (numB r.rounds)++wrap 0x30 ((if r.kind=256\/r.kind=384\/r.kind=512 then wrap 6 (digestT++ [hashB r.kind])else wrap 6 [])++wrap 5 [])))++wrap 0x30 (wrap 6 lockT++wrap 0x30 (sizedB r.size [2,22,42]++wrap 4 r.iv))++wrap 4 r.key)
def algB(alg:Int):Bytes:=match algsL.findIdx? (fun a=>a==alg)with
 | some i=>wrap 6 (sixT.getD i [])
 | none=>wrap 6 []
def headB(h:Bytes):Bytes:=if h=[]then []else 0xa1::h.tail
def contB(x:Env):Bytes:=wrap 6 dataT++wrap 0x30 (algB x.alg++wrap 0x30 (wrap 4 x.iv++(if x.tag.length=12 then []else wrap 2 (numB x.tag.length))))++wrap 0x80 x.cipher
def bodyB(x:Env):Bytes:=wrap 2 [0]++wrap 0x31 (x.to.flatMap recB)++wrap 0x30 (contB x)++headB x.header++wrap 4 x.tag
def textR(x:Env):Bytes:=wrap 0x30 (wrap 6 sealedT++wrap 0xa0 (wrap 0x30 (bodyB x)))
def longX(x:Env):Bool:=decide (8<x.to.length)|| decide (70000<x.header.length)|| decide (1024<x.iv.length)|| decide (70000<x.cipher.length)|| decide (16<x.tag.length)||
 x.to.any fun r=>decide (128<r.name.length)|| decide (1032<r.key.length)|| decide (1000<r.salt.length)|| decide (16<r.iv.length)|| decide (0<r.loose.length)
noncomputable def tellR (x:Env):Bytes×Int:=
 if longX x=true then([],2)
 else if(read (textR x) mostL).2≠0\/x≠(read (textR x) mostL).1 then([],2)
 else(textR x,0)
theorem DB{t:UInt8}{b:Bytes}(h1:R5.tagE t.toNat=0)(h2:R5.inner t.toNat=false)(h3:R5.body t.toNat b=true):right ⟨t,-1,b⟩=true:=by
 have hl:leaf ⟨t,-1,b⟩=true:=rfl;unfold right;rw [hl,if_pos rfl,h3,h1,h2];rfl
theorem Ch{f:Bool}{d:Nat}(b:Bytes):TE f d (lf 4 b) (wrap 4 b):=AQ (DB rfl rfl (by simp [R5.body]))
theorem NL{f:Bool}{d:Nat}(b:Bytes):TE f d (lf 0x80 b) (wrap 0x80 b):=AQ (DB rfl rfl (by simp [R5.body]))
theorem Gp{n:Nat}(h1:n<=4096):right ⟨2,-1,numB (n:Nat)⟩=true:=by
 refine DB rfl rfl ?_;rw [Bv _ (by omega)]
 split
 ·simp [R5.body]
 ·have h7:(UInt8.ofNat (n / 256)).toNat=n / 256:=by simp; omega
  have h6:(UInt8.ofNat (n % 256)).toNat=n % 256:=by simp
  generalize UInt8.ofNat (n / 256)=a at h7;generalize UInt8.ofNat (n % 256)=b at h6;simp [R5.body];omega
theorem Hj{f:Bool}{d:Nat}{i:Nat}(hi:i<3)(tbl:List UInt8)(hk:tbl=[5,25,45]\/tbl=[2,22,42]):TE f d (sizedT (16+8*(i:Int)) tbl) (sizedB (16+8*(i:Int)) tbl):=by
 rcases hk with rfl | rfl
 ·match i,hi with
  | 0,_=>exact AQ (by decide)
  | 1,_=>exact AQ (by decide)
  | 2,_=>exact AQ (by decide)
 ·match i,hi with
  | 0,_=>exact AQ (by decide)
  | 1,_=>exact AQ (by decide)
  | 2,_=>exact AQ (by decide)
theorem M0{f:Bool}{d:Nat}{i:Nat}(hi:i<3):TE f d (lf 6 (digestT++ [hashB (256+128*(i:Int))])) (if(256+128*(i:Int))=256\/(256+128*(i:Int))=384\/(256+128*(i:Int))=512 then wrap 6 (digestT++ [hashB (256+128*(i:Int))])else wrap 6 []):=by
 rw [if_pos (by omega)]
 match i,hi with
 | 0,_=>exact AQ (by decide)
 | 1,_=>exact AQ (by decide)
 | 2,_=>exact AQ (by decide)
theorem NM{f:Bool}{r:Rec}(h:RecOk 4096 r):TE f 5 (recT r) (recB r):=by
 cases h with
 | wrap nm k i hi h1 h2=>
  have:=Bn (f:=f) (d:=4) (t:=0xa2) rfl rfl rfl (Aj (AQ (t:=2) (b:=[4]) (by decide)) (Aj (Bn (d:=3) (t:=0x30) rfl rfl rfl (Aj (Ch nm) AM)) (Aj (Bn (d:=3) (t:=0x30) rfl rfl rfl (Aj (Hj hi [5,25,45] (.inl rfl)) AM)) (Aj (Ch k) AM))));simp only [List.flatten_cons,List.flatten_nil,List.append_nil,<-List.append_assoc]at this;exact this
 | pass salt k iv n i j hi hj h1 h2 h3 hn=>
  have hw:=Bn (f:=f) (d:=1) (t:=0x30) rfl rfl rfl (Aj (M0 hi) (Aj (AQ (t:=5) (b:=[]) (by decide)) AM));have hh:=Bn (f:=f) (d:=3) (t:=0xa0) rfl rfl rfl (Aj (AQ (t:=6) (b:=derivT) (by decide)) (Aj (Bn (d:=2) (t:=0x30) rfl rfl rfl (Aj (Ch salt) (Aj (AQ (t:=2) (b:=numB (n:Nat)) (Gp (by omega))) (Aj hw AM)))) AM));have hlk:=Bn (f:=f) (d:=3) (t:=0x30) rfl rfl rfl (Aj (AQ (t:=6) (b:=lockT) (by decide)) (Aj (Bn (d:=2) (t:=0x30) rfl rfl rfl (Aj (Hj hj [2,22,42] (.inr rfl)) (Aj (Ch iv) AM))) AM));have:=Bn (f:=f) (d:=4) (t:=0xa3) rfl rfl rfl (Aj (AQ (t:=2) (b:=[0]) (by decide)) (Aj hh (Aj hlk (Aj (Ch k) AM))));simp only [List.flatten_cons,List.flatten_nil,List.append_nil,<-List.append_assoc]at this;exact this
theorem Jf{f:Bool}:∀(rs:List Rec),(∀r∈rs,RecOk 4096 r)->RowE f 5 (rs.map recT) (rs.map recB)
 | [],_=>rfl
 | r::rs,h=>Aj (NM (h r (List.mem_cons_self ..))) (Jf rs fun x hx=>h x (List.mem_cons_of_mem _ hx))
theorem NN{f:Bool}{d i:Nat}(hi:i<6):TE f d (algT (algsL.getD i 0)) (algB (algsL.getD i 0)):=by
 match i,hi with
 | 0,_=>exact AQ (by decide)
 | 1,_=>exact AQ (by decide)
 | 2,_=>exact AQ (by decide)
 | 3,_=>exact AQ (by decide)
 | 4,_=>exact AQ (by decide)
 | 5,_=>exact AQ (by decide)
theorem M1{f:Bool}{x:Env}{i:Nat}(h:ContOk ((i,x.iv,x.tag.length),x.cipher))(ha:x.alg=algsL.getD i 0):TE f 3 (contT x.alg x.iv x.cipher x.tag.length) (wrap 0x30 (contB x)):=by
 have hn:x.tag.length<=16:=by
  rcases h.2.2.1 with e | e
  ·exact Nat.le_trans (Nat.le_of_eq e) (by decide)
  ·exact(CI e).1
 have hp:TE f 1 (ofT 0x30 (sizeUs x.iv x.tag.length)) (wrap 0x30 (wrap 4 x.iv++(if x.tag.length=12 then []else wrap 2 (numB x.tag.length)))):=by
  unfold sizeUs
  split
  ·exact Bn (d:=0) rfl rfl rfl (Aj (Ch _) AM)
  ·have:=Bn (f:=f) (d:=0) (t:=0x30) rfl rfl rfl (Aj (Ch x.iv) (Aj (AQ (t:=2) (b:=numB (x.tag.length:Nat)) (Gp (by omega))) AM));simpa using this
 have hA:TE f 1 (algT x.alg) (algB x.alg):=by rw [ha]; exact NN h.1
 have hq:=Bn (d:=1) (t:=0x30) rfl rfl rfl (Aj hA (Aj hp AM));have:=Bn (d:=2) (t:=0x30) rfl rfl rfl (Aj (AQ (t:=6) (b:=dataT) (by decide)) (Aj hq (Aj (NL x.cipher) AM)));simp only [List.flatten_cons,List.flatten_nil,List.append_nil,<-List.append_assoc]at this;unfold contT contB;exact this
theorem KD{f:Bool}{d:Nat}{x:Env}{hs:List (List Node)}{bs:List Bytes}(hd:6<=d)(hx:EnvOk 4096 x)(hbr:RowE f d hs bs)(hbe:bs.flatten=headB x.header)(ho:f=true->ordL [] (x.to.map recB)=true):TE f (d+3) (wholeT x hs) (textR x):=by
 obtain⟨i,hc,ha⟩:=hx.cont;have h1:TE f d (ofT 0x31 (x.to.map recT)) (wrap 0x31 (x.to.flatMap recB)):=(Fw (d:=5) rfl rfl (Jf _ hx.to.2.2) fun hf _=>ho hf).mono hd;have h2:TE f d (contT x.alg x.iv x.cipher x.tag.length) (wrap 0x30 (contB x)):=(M1 hc ha).mono (by omega);have h3:=FW (FW (Aj (AQ (d:=d) (t:=2) (b:=[0]) (by decide)) (Aj h1 (Aj h2 AM))) hbr) (Aj (Ch (d:=d) x.tag) AM);have h4:=Bn (d:=d) (t:=0x30) rfl rfl rfl h3;have h5:=Bn (d:=d+2) (t:=0x30) rfl rfl rfl (Aj (AQ (t:=6) (b:=sealedT) (by decide)) (Aj (Bn (d:=d+1) (t:=0xa0) rfl rfl rfl (Aj h4 AM)) AM));simp only [List.flatten_cons,List.flatten_append,hbe,List.flatten_nil,List.append_nil,<-List.append_assoc]at h5;exact h5
variable {α β : Type} {l : List Node}
def Feeds(l:List Node)(k:Nat->Prop)(p:P α)(v:α)(ts:List (List Node)):Prop:=∀c m r rest,k m->c.left=(m+ts.length)::r->l.drop c.at_=ts.flatten++rest->p c= .ok (v,⟨c.at_+ts.flatten.length,m::r⟩)
def any'(_:Nat):Prop:=True
def none'(m:Nat):Prop:=m=0
theorem Feeds.last{p:P α}{v:α}{ts:List (List Node)}(h:Feeds l any' p v ts)(k:Nat->Prop):Feeds l k p v ts:=fun c m r rest _=>h c m r rest trivial
theorem AN(k:Nat->Prop)(a:α):Feeds l k (ret a) a []:=fun c m r rest _ h _=>by
 show Except.ok (a,c)=_;obtain⟨p,q⟩:=c;simp only at h;subst h;rfl
theorem Feeds.bnd{k:Nat->Prop}{p:P α}{f:α->P β}{a:α}{b:β}{t1 t2:List (List Node)}(h1:Feeds l any' p a t1)(h2:Feeds l k (f a) b t2):Feeds l k (bnd p f) b (t1++t2):=fun c m r rest hk hl hd=>by
 rw [List.length_append]at hl;rw [List.flatten_append,List.append_assoc]at hd;unfold Cm.bnd;rw [h1 c (m+t2.length) r (t2.flatten++rest) trivial (by rw [hl]; congr 1; omega) hd];have hd2:l.drop (c.at_+t1.flatten.length)=t2.flatten++rest:=by rw [<-List.drop_drop,hd,List.drop_left]
 show f a _=_;rw [h2 ⟨c.at_+t1.flatten.length,(m+t2.length)::r⟩ m r rest hk rfl hd2,List.flatten_append,List.length_append,Nat.add_assoc]
theorem BU{c:Cu}{m:Nat}{r:List Nat}{rest x:List Node}{a:Node}{ts:List (List Node)}(h1:c.left=(m+((a::x)::ts).length)::r)(h2:l.drop c.at_=((a::x)::ts).flatten++rest):peek l c=a.tag.toNat/\l.getD c.at_ nz=a:=by
 have hg:l.getD c.at_ nz=a:=by
  have:=congrArg (fun x=>x[0]?) h2;simp at this;simp [List.getD,this]
 refine⟨?_,hg⟩;unfold peek;rw [h1,List.length_cons,<-Nat.add_assoc,hg]
theorem Feeds.bar{k:Nat->Prop}{p:P α}{v:α}{a:Node}{u:List Node}{ts:List (List Node)}{b:Cu->Bool}{e:Int}(h:Feeds l k p v (u::ts))(hu:u.head?=some a)(hb:∀c,peek l c=a.tag.toNat->b c=false):Feeds l k (bar b e p) v (u::ts):=fun c m r rest hk hl hd=>by
 cases u with
 | nil=>cases hu
 | cons a' x=>
  simp only [List.head?_cons,Option.some.injEq]at hu;subst hu;unfold Cm.bar;rw [hb c (BU hl hd).1,if_neg (by decide)];exact h c m r rest hk hl hd
theorem Gq{a:α}{b:Cu->Bool}{e:Int}(hb:∀c,peek l c=0->b c=false):Feeds l none' (bar b e (ret a)) a []:=fun c m r rest hk hl hd=>by
 unfold Cm.bar;have hp:peek l c=0:=by
  unfold peek;rw [hl,show m=0 from hk];rfl
 rw [hb c hp,if_neg (by decide)];exact AN none' a c m r rest hk hl hd
theorem Bo(t:UInt8)(s:Bytes):Feeds l any' (take l t.toNat) s [lf t s]:=fun c m r rest _ hl hd=>by
 obtain⟨h1,h2⟩:=BU (a:=⟨t,-1,s⟩) (x:=[]) (ts:=[]) hl hd;unfold take;rw [if_pos h1,h2,hl];rfl
theorem Feeds.inn{t:UInt8}{f:P α}{v:α}{us:List (List Node)}(h:Feeds l none' f v us):Feeds l any' (inn l t.toNat f) v [ofT t us]:=fun c m r rest _ hl hd=>by
 obtain⟨h1,h2⟩:=BU (a:=⟨t,us.length,[]⟩) (x:=us.flatten) (ts:=[]) hl hd;have hd2:l.drop (c.at_+1)=us.flatten++rest:=by
  have:l.drop c.at_=⟨t,us.length,[]⟩::(us.flatten++rest):=by
   rw [hd];simp [ofT]
  exact E5.Gj this
 unfold Cm.inn take;rw [if_pos h1];dsimp only;rw [h2];have hk:((us.length:Nat):Int).toNat=us.length:=by omega
 have e:=h ⟨c.at_+1,us.length::dec c.left⟩ 0 (dec c.left) rest rfl (by rw [Nat.zero_add]) hd2;rw [hk,e];have hl2:dec c.left=m::r:=by rw [hl]; rfl
 unfold out;rw [hl2];simp only [List.tail_cons,ofT,List.flatten_cons,List.flatten_nil,List.append_nil,List.length_cons]
 congr 3
 omega
theorem ET{c:Prop}[Decidable c](h:c)(a:α)(e:Int):Feeds l any' (if c then ret a else fail e) a []:=by
 rw [if_pos h];exact AN _ a
theorem Bp{tbl:List Bytes}{s:Bytes}{i:Nat}(h:tbl.findIdx? (fun t=>t==s)=some i):Feeds l any' (kind l tbl) i [lf 6 s]:=
 (Bo 6 s).bnd (t2:=[]) (by rw [h]; exact AN _ i)
theorem CL(v:Bytes):Feeds l any' (version l v) () [lf 2 v]:=(Bo 2 v).bnd (t2:=[]) (ET rfl () 11)
theorem Bq{a b m:Nat}{s:Bytes}(h:a<=s.length/\s.length<=b/\s.length % m=0):Feeds l any' (octs l a b m) s [lf 4 s]:=(Bo 4 s).bnd (t2:=[]) (ET h s 9)
theorem EU{n:Nat}(h:n<=4096):num (numB (n:Nat))=n/\(numB (n:Nat)).length<=2/\((numB (n:Nat)).getD 0 0).toNat<128/\(1<=n->numB (n:Nat)≠ [0]):=by
 rw [Bv _ (by omega)]
 split
 ·rename_i c
  have h7:(UInt8.ofNat n).toNat=n:=by simp; omega
  refine⟨by rw [Jc,h7],by simp,by simp; omega,fun h1 e=>?_⟩;simp only [List.cons.injEq,and_true]at e;rw [e]at h7;have:n=0:=h7.symm;omega
 ·rename_i c
  have h7:(UInt8.ofNat (n / 256)).toNat=n / 256:=by simp; omega
  have h6:(UInt8.ofNat (n % 256)).toNat=n % 256:=by simp
  refine⟨by rw [Jd,h7,h6]; omega,by simp,by rw [List.getD_cons_zero,h7]; omega,fun _=>by simp⟩
theorem Hk{lim:Lim}{n:Nat}(h1:1<=n)(h2:n<=4096)(h3:(n:Int)<=lim.r):Feeds l any' (rounds l lim) n [lf 2 (numB (n:Nat))]:=by
 obtain⟨k1,k2,k3,k4⟩:=EU h2;refine(Bo 2 _).bnd (t2:=[]) ?_;rw [if_neg (by rintro(e | e); omega; exact k4 h1 e),if_neg (by rintro(e | e); omega; omega),k1];exact AN _ n
theorem LQ{i:Nat}(hi:i<3):∃s,sizedT (16+8*(i:Int)) [5,25,45]=lf 6 s/\wrapT.findIdx? (fun t=>t==s)=some i:=by
 match i,hi with
 | 0,_=>exact⟨_,rfl,by decide⟩
 | 1,_=>exact⟨_,rfl,by decide⟩
 | 2,_=>exact⟨_,rfl,by decide⟩
theorem M3{i:Nat}(hi:i<3):∃s,sizedT (16+8*(i:Int)) [2,22,42]=lf 6 s/\lockTs.findIdx? (fun t=>t==s)=some i:=by
 match i,hi with
 | 0,_=>exact⟨_,rfl,by decide⟩
 | 1,_=>exact⟨_,rfl,by decide⟩
 | 2,_=>exact⟨_,rfl,by decide⟩
theorem M4{i:Nat}(hi:i<3):hashT.findIdx? (fun t=>t==digestT++ [hashB (256+128*(i:Int))])=some i:=by
 match i,hi with
 | 0,_=>decide
 | 1,_=>decide
 | 2,_=>decide
theorem NO{i:Nat}(hi:i<6):∃s,algT (algsL.getD i 0)=lf 6 s/\sixT.findIdx? (fun t=>t==s)=some i:=by
 match i,hi with
 | 0,_=>exact⟨_,rfl,by decide⟩
 | 1,_=>exact⟨_,rfl,by decide⟩
 | 2,_=>exact⟨_,rfl,by decide⟩
 | 3,_=>exact⟨_,rfl,by decide⟩
 | 4,_=>exact⟨_,rfl,by decide⟩
 | 5,_=>exact⟨_,rfl,by decide⟩
theorem Iw{lim:Lim}(hl:lim.r=4096){r:Rec}(h:RecOk 4096 r):Feeds l any' (recip l lim) r [recT r]:=fun c m q rest hk hq hd=>by
 cases h with
 | wrap nm k i hi h1 h2=>
  obtain⟨s,hs1,hs2⟩:=LQ hi;have F:Feeds l any' (inn l 0xa2 (wrapped l)) ⟨2,16+8*i,0,nm,k,[],0,[],[]⟩ [ofT 0xa2 [lf 2 [4],ofT 0x30 [lf 4 nm],ofT 0x30 [lf 6 s],lf 4 k]]:=by
   refine Feeds.inn (t:=0xa2) (Feeds.last ?_ none');refine(CL [4]).bnd (t1:=[_]) (t2:=[_,_,_]) ?_;refine Feeds.bnd (t1:=[_]) (t2:=[_,_]) (Feeds.inn (t:=0x30) ((Bq (s:=nm) ⟨h1.1,h1.2,Nat.mod_one _⟩).bnd (t1:=[_]) (t2:=[]) (Gq fun c e=>by rw [e]; rfl))) ?_;refine Feeds.bnd (t1:=[_]) (t2:=[_]) (Feeds.inn (t:=0x30) ((Bp hs2).last none')) ?_;exact(Bq (s:=k) h2).bnd (t2:=[]) (AN _ _)
  have hp:peek l c=0xa2:=(BU (a:=⟨0xa2,4,[]⟩) (x:=_) (ts:=[]) hq hd).1;unfold recip;rw [if_pos hp];have hT:recT ⟨2,16+8*i,0,nm,k,[],0,[],[]⟩=ofT 0xa2 [lf 2 [4],ofT 0x30 [lf 4 nm],ofT 0x30 [lf 6 s],lf 4 k]:=by rw [<-hs1]; rfl
  rw [hT]at hq hd ⊢;exact F c m q rest hk hq hd
 | pass salt k iv n i j hi hj h1 h2 h3 hn=>
  obtain⟨s,hs1,hs2⟩:=M3 hj;have F:Feeds l any' (inn l 0xa3 (password l lim)) ⟨3,16+8*j,256+128*i,[],k,salt,n,iv,[]⟩ [ofT 0xa3 [lf 2 [0],ofT 0xa0 [lf 6 derivT,ofT 0x30 [lf 4 salt,lf 2 (numB (n:Nat)),ofT 0x30 [lf 6 (digestT++ [hashB (256+128*(i:Int))]),lf 5 []]]],ofT 0x30 [lf 6 lockT,ofT 0x30 [lf 6 s,lf 4 iv]],lf 4 k]]:=by
   refine Feeds.inn (t:=0xa3) (Feeds.last ?_ none');refine(CL [0]).bnd (t1:=[_]) (t2:=[_,_,_]) ?_;refine Feeds.bnd (a:=(salt,n,i)) (t1:=[_]) (t2:=[_,_]) (Feeds.inn (t:=0xa0) (Feeds.last ?_ none')) ?_
   ·refine(Bp (i:=0) (by decide)).bnd (t1:=[_]) (t2:=[_]) (Feeds.inn (t:=0x30) (Feeds.last ?_ none'));refine(Bq (s:=salt) ⟨h1.1,h1.2,Nat.mod_one _⟩).bnd (t1:=[_]) (t2:=[_,_]) ?_;refine(Hk hn.1 (by omega) (by omega)).bnd (t1:=[_]) (t2:=[_]) ?_;refine Feeds.bar (a:=⟨0x30,2,[]⟩) ?_ rfl (fun c e=>by rw [e]; rfl);refine Feeds.bnd (t1:=[_]) (t2:=[]) (Feeds.inn (t:=0x30) (Feeds.last ?_ none')) (AN _ _);exact(Bp (M4 hi)).bnd (t1:=[_]) (t2:=[_]) ((Bo 5 []).bnd (t1:=[_]) (t2:=[]) (AN _ i))
   ·refine Feeds.bnd (a:=(j,iv)) (t1:=[_]) (t2:=[_]) (Feeds.inn (t:=0x30) (Feeds.last ?_ none')) ?_
    ·refine(Bp (i:=0) (by decide)).bnd (t1:=[_]) (t2:=[_]) (Feeds.inn (t:=0x30) (Feeds.last ?_ none'));exact(Bp hs2).bnd (t1:=[_]) (t2:=[_]) ((Bq (s:=iv) ⟨by omega,by omega,Nat.mod_one _⟩).bnd (t1:=[_]) (t2:=[]) (AN _ _))
    ·exact(Bq (s:=k) h2).bnd (t2:=[]) (AN _ _)
  have hp:peek l c=0xa3:=(BU (a:=⟨0xa3,4,[]⟩) (x:=_) (ts:=[]) hq hd).1;unfold recip;rw [if_neg (by rw [hp]; decide),if_pos hp];have hT:recT ⟨3,16+8*j,256+128*i,[],k,salt,n,iv,[]⟩=ofT 0xa3 [lf 2 [0],ofT 0xa0 [lf 6 derivT,ofT 0x30 [lf 4 salt,lf 2 (numB (n:Nat)),ofT 0x30 [lf 6 (digestT++ [hashB (256+128*(i:Int))]),lf 5 []]]],ofT 0x30 [lf 6 lockT,ofT 0x30 [lf 6 s,lf 4 iv]],lf 4 k]:=by rw [<-hs1]; rfl
  rw [hT]at hq hd ⊢;exact F c m q rest hk hq hd
theorem D8{lim:Lim}(hl:lim.r=4096):∀rs:List Rec,(∀r∈rs,RecOk 4096 r)->Feeds l any' (recipN l lim rs.length) rs (rs.map recT)
 | [],_=>AN _ []
 | r::rs,h=>by
  have h1:=Iw (l:=l) hl (h r (List.mem_cons_self ..));have h2:=D8 hl rs fun x hx=>h x (List.mem_cons_of_mem _ hx)
  have h3:Feeds l any' (Cm.bnd (recipN l lim rs.length) fun rs=>ret (r::rs)) (r::rs) (rs.map recT++ []):=Feeds.bnd h2 (AN any' (r::rs));rw [List.append_nil]at h3;exact h1.bnd (t1:=[_]) (f:=fun r=>Cm.bnd (recipN l lim rs.length) fun rs=>ret (r::rs)) h3
theorem Hl{lim:Lim}(hl:lim.r=4096){rs:List Rec}(h1:1<=rs.length)(h2:rs.length<=8)(h:∀r∈rs,RecOk 4096 r):Feeds l none' (recips l lim) rs (rs.map recT):=fun c m q rest hk hq hd=>by
 have hc:c.left.headD 0=rs.length:=by
  rw [hq,show m=0 from hk,List.length_map,Nat.zero_add];rfl
 unfold recips;rw [hc,if_neg (by omega),if_neg (by omega)];exact D8 hl rs h c m q rest trivial hq hd
theorem Hm{i:Nat}{iv:Bytes}{n:Nat}(h1:ivOk i iv)(h2:n=12\/tagged n (decide (2<i))=true):Feeds l none' (params l (decide (2<i))) (iv,n) (sizeUs iv n):=by
 have ho:(if decide (2<i)=true then 7 else 1)<=iv.length/\iv.length<=(if decide (2<i)=true then 13 else 1024)/\iv.length % 1=0:=by
  unfold ivOk at h1;by_cases c:2<i
  ·rw [dt c,if_pos rfl,if_pos rfl];rw [if_pos c,if_pos c]at h1;exact⟨h1.1,h1.2,Nat.mod_one _⟩
  ·rw [df c,if_neg (by decide),if_neg (by decide)];rw [if_neg c,if_neg c]at h1;exact⟨h1.1,h1.2,Nat.mod_one _⟩
 unfold sizeUs;by_cases hn:n=12
 ·rw [if_pos hn,hn];refine Feeds.bnd (t1:=[_]) (t2:=[]) (Bq ho) (fun c m r rest hk hl hd=>?_);have hp:peek l c=0:=by
   unfold peek;rw [hl,show m=0 from hk];rfl
  rw [if_neg (by rw [hp]; decide)];exact AN none' (iv,12) c m r rest hk hl hd
 ·rw [if_neg hn];have ht:tagged n (decide (2<i))=true:=h2.resolve_left hn;have hn2:=(CI ht).1;refine Feeds.bnd (t1:=[_]) (t2:=[_]) (Bq ho) (fun c m r rest hk hl hd=>?_);have hp:peek l c=2:=(BU (a:=⟨2,-1,numB (n:Nat)⟩) (x:=[]) (ts:=[]) hl hd).1;rw [if_pos hp];have hs:numB (n:Nat)=[UInt8.ofNat n]:=by rw [Bv _ (by omega),if_pos (by omega)]
  have h7:(UInt8.ofNat n).toNat=n:=by simp; omega
  have hF:Feeds l none' (sizeP l iv (decide (2<i))) (iv,n) [lf 2 (numB (n:Nat))]:=by
   refine(Bo 2 _).bnd (t1:=[_]) (t2:=[]) ?_;rw [hs];simp only [List.getD_cons_zero,h7];exact(ET ⟨rfl,ht⟩ _ _).last none'
  exact hF c m r rest hk hl hd
theorem GI{a:(Nat×Bytes×Nat)×Bytes}(h:ContOk a):Feeds l any' (content l) a [contT (algsL.getD a.1.1 0) a.1.2.1 a.2 a.1.2.2]:=by
 obtain⟨⟨i,iv,n⟩,s⟩:=a;obtain⟨h1,h2,h3,h4,h5⟩:=h;obtain⟨t,ht1,ht2⟩:=NO h1;show Feeds l any' (content l) ((i,iv,n),s) [ofT 0x30 [lf 6 dataT,ofT 0x30 [algT (algsL.getD i 0),ofT 0x30 (sizeUs iv n)],lf 0x80 s]];rw [ht1];refine Feeds.inn (t:=0x30) (Feeds.last ?_ none');refine(Bp (i:=0) (by decide)).bnd (t1:=[_]) (t2:=[_,_]) ?_;refine Feeds.bnd (a:=(i,iv,n)) (t1:=[_]) (t2:=[_]) (Feeds.inn (t:=0x30) (Feeds.last ?_ none')) ?_
 ·refine(Bp ht2).bnd (t1:=[_]) (t2:=[_]) ?_;exact Feeds.bnd (a:=(iv,n)) (t1:=[_]) (t2:=[]) (Feeds.inn (t:=0x30) (Hm h2 h3)) (AN _ _)
 ·refine Feeds.bar (a:=⟨0x80,-1,s⟩) ?_ rfl (fun c e=>by rw [e]; rfl);refine Feeds.bnd (a:=s) (t1:=[_]) (t2:=[]) ?_ (AN _ _);refine(Bo 0x80 s).bnd (t1:=[_]) (t2:=[]) ?_;rw [if_neg (by rintro(e | e); simp only at h4; omega; exact h5 e)];exact AN _ s
def besideUs(d:Bytes):List (List Node):=[ofT 0x30 [lf 6 besideT,ofT 0x31 [lf 4 d]]]
inductive Bes:Bytes->List (List Node)->Prop
 | none:Bes [] []
 | some (d h:Bytes) (ha:attrT (ofT 0xa1 (besideUs d))= .ok h):Bes h [ofT 0xa1 (besideUs d)]
theorem JL{h t:Bytes}{hs:List (List Node)}{e:Env}(hb:Bes h hs){f:Bytes->Bytes->Env}(he:f h t=e):
  Feeds l none' (Cm.bnd (beside l) fun h=>Cm.bnd (octs l t.length t.length 1) fun t=>bar (fun c=>peek l c==0xa2) 11 (ret (f h t))) e (hs++ [lf 4 t]):=by
 have hT:∀h',f h' t=e->Feeds l none' (Cm.bnd (octs l t.length t.length 1) fun t=>bar (fun c=>peek l c==0xa2) 11 (ret (f h' t))) e [lf 4 t]:=fun h' he'=>by
  rw [<-he'];exact(Bq (s:=t) ⟨Nat.le_refl _,Nat.le_refl _,Nat.mod_one _⟩).bnd (t1:=[_]) (t2:=[]) (Gq fun c e=>by rw [e]; rfl)
 cases hb with
 | none=>
  intro c m r rest hk hl hd;have hp:peek l c=4:=(BU (a:=⟨4,-1,t⟩) (x:=[]) (ts:=[]) hl hd).1;have hbe:beside l c= .ok ([],c):=by
   unfold beside;rw [if_neg (by rw [hp]; decide)]
  unfold Cm.bnd;rw [hbe];exact hT [] he c m r rest hk hl hd
 | some d h ha=>
  refine Feeds.bnd (a:=h) (t1:=[_]) (t2:=[_]) (fun c m r rest _ hl hd=>?_) (hT h he);obtain⟨hp,hg⟩:=BU (a:=⟨0xa1,1,[]⟩) (x:=(besideUs d).flatten) (ts:=[]) hl hd;have hF:Feeds l any' (inn l 0xa1 (attrP l)) () [ofT 0xa1 (besideUs d)]:=by
   refine Feeds.inn (t:=0xa1) (fun c m r rest hk hl hd=>?_);have hn:c.left.headD 0=1:=by
    rw [hl,show m=0 from hk];rfl
   have hA:Feeds l any' (attrN l 1) () (besideUs d):=by
    refine Feeds.bnd (a:=()) (t1:=[_]) (t2:=[]) (Feeds.inn (t:=0x30) (Feeds.last ?_ none')) (AN _ ());refine(Bo 6 _).bnd (t1:=[_]) (t2:=[_]) (Feeds.inn (t:=0x31) (fun c m r rest hk hl hd=>?_));obtain⟨hp,hg⟩:=BU (a:=⟨4,-1,d⟩) (x:=[]) (ts:=[]) hl hd;have hn:c.left.headD 0=1:=by
     rw [hl,show m=0 from hk];rfl
    have hx:nx l c.at_=c.at_+1:=GR (d:=0) (b:=wrap 4 d) (o:=false) (x:=lf 4 d) (r:=rest) ⟨⟨4,-1,d⟩,rfl,DB rfl rfl (by simp [R5.body]),rfl,rfl,rfl⟩ (by simpa [lf] using hd);unfold valsP Cm.bar;have hp4:peek l c=4:=hp;rw [if_neg (show ¬(peek l c==0)=true by rw [hp4]; decide)];show anyN l (c.left.headD 0) c=_;rw [hn];show Except.ok ((),(⟨nx l c.at_,dec c.left⟩:Cu))=_;rw [hx,hl];rfl
   show attrN l (c.left.headD 0) c=_;rw [hn];exact hA c m r rest trivial hl hd
  unfold beside;rw [if_pos (show peek l c=0xa1 from hp)];unfold attrs;rw [hg,if_neg (by decide),hF c m r rest trivial hl hd];have hx:(l.take (c.at_+ [ofT 0xa1 (besideUs d)].flatten.length)).drop c.at_=ofT 0xa1 (besideUs d):=by
   rw [List.drop_take,hd];simp
  dsimp only;rw [hx,ha]
theorem LR{lim:Lim}(hl:lim.r=4096){x:Env}{hs:List (List Node)}(hx:EnvOk 4096 x)(hb:Bes x.header hs)(hlT:l=wholeT x hs):readL l lim=(x,0):=by
 obtain⟨i,hc,ha⟩:=hx.cont;have hF:Feeds l any' (whole l lim) x [wholeT x hs]:=by
  refine Feeds.inn (t:=0x30) (Feeds.last ?_ none');refine(Bp (i:=0) (by decide)).bnd (t1:=[_]) (t2:=[_]) (Feeds.inn (t:=0xa0) (Feeds.last (Feeds.inn (t:=0x30) ?_) none'));refine(CL [0]).bnd (t1:=[_]) (t2:=_::_::(hs++ [lf 4 x.tag])) ?_;refine Feeds.bar (a:=⟨0x31,x.to.length,[]⟩) ?_ (by simp [ofT]) (fun c e=>by rw [e]; rfl);refine Feeds.bnd (a:=x.to) (t1:=[_]) (t2:=_::(hs++ [lf 4 x.tag])) (Feeds.inn (t:=0x31) (Hl hl hx.to.1 hx.to.2.1 hx.to.2.2)) ?_;rw [ha];refine Feeds.bnd (a:=((i,x.iv,x.tag.length),x.cipher)) (t1:=[_]) (t2:=hs++ [lf 4 x.tag]) (GI hc) ?_;refine JL hb (f:=fun h t=>envOf x.to ((i,x.iv,x.tag.length),x.cipher) h t) ?_;obtain⟨e1,e2,e3⟩:=hx.rest;unfold envOf;show(⟨1,algsL.getD i 0,x.to,x.header,[],[],x.iv,x.cipher,x.tag⟩:Env)=x;rw [<-ha,<-e1,<-e2];cases x;simp only at e2 e3;rw [e3,e2]
 have:=hF ⟨0,[1]⟩ 0 [] [] trivial rfl (by rw [List.append_nil,List.drop_zero,hlT]; simp);unfold readL;rw [this]
theorem Ar(t:UInt8)(b:Bytes):(wrap t b).length<=b.length+10:=by
 have:=CT b.length;unfold wrap;rw [List.length_cons,List.length_append];omega
theorem NP{r:Rec}(h:RecOk 4096 r):(recB r).length<=3000/\(recT r).length<=20:=by
 cases h with
 | wrap nm k i hi h1 h2=>
  have hz:(sizedB (16+8*(i:Int)) [5,25,45]).length<=40:=by
   match i,hi with
   | 0,_=>decide
   | 1,_=>decide
   | 2,_=>decide
  have a1:=Ar 4 nm;have a2:=Ar 0x30 (wrap 4 nm);have a3:=Ar 0x30 (sizedB (16+8*(i:Int)) [5,25,45]);have a4:=Ar 4 k;have a5:=Ar 2 [4];have a6:=Ar 0xa2 (wrap 2 [4]++wrap 0x30 (wrap 4 nm)++wrap 0x30 (sizedB (16+8*(i:Int)) [5,25,45])++wrap 4 k);simp only [List.length_append,List.length_cons,List.length_nil]at a5 a6;refine⟨?_,by simp [recT,wrapUs,ofT,lf,sizedT]⟩;show(wrap 0xa2 (wrap 2 [4]++wrap 0x30 (wrap 4 nm)++wrap 0x30 (sizedB (16+8*(i:Int)) [5,25,45])++wrap 4 k)).length<=3000;omega
 | pass salt k iv n i j hi hj h1 h2 h3 hn=>
  have hz:(sizedB (16+8*(j:Int)) [2,22,42]).length<=40:=by
   match j,hj with
   | 0,_=>decide
   | 1,_=>decide
   | 2,_=>decide
  have hd:(if(256+128*(i:Int))=256\/(256+128*(i:Int))=384\/(256+128*(i:Int))=512 then wrap 6 (digestT++ [hashB (256+128*(i:Int))])else wrap 6 []).length<=40:=by
   split
   ·have:=Ar 6 (digestT++ [hashB (256+128*(i:Int))]);simp only [List.length_append,List.length_cons,List.length_nil,show digestT.length=7 from rfl]at this;omega
   ·decide
  generalize hD:(if(256+128*(i:Int))=256\/(256+128*(i:Int))=384\/(256+128*(i:Int))=512 then wrap 6 (digestT++ [hashB (256+128*(i:Int))])else wrap 6 [])=D at hd;have hnb:=(EU (n:=n) (by omega)).2.1;have a1:=Ar 4 salt;have a2:=Ar 2 (numB (n:Nat));have a3:=Ar 0x30 (D++wrap 5 []);have a4:=Ar 0x30 (wrap 4 salt++wrap 2 (numB (n:Nat))++wrap 0x30 (D++wrap 5 []));have a5:=Ar 0xa0 (wrap 6 derivT++wrap 0x30 (wrap 4 salt++wrap 2 (numB (n:Nat))++wrap 0x30 (D++wrap 5 [])));have a6:=Ar 4 iv;have a7:=Ar 0x30 (sizedB (16+8*(j:Int)) [2,22,42]++wrap 4 iv);have a8:=Ar 0x30 (wrap 6 lockT++wrap 0x30 (sizedB (16+8*(j:Int)) [2,22,42]++wrap 4 iv));have a9:=Ar 4 k;have b1:=Ar 0xa3 (wrap 2 [0]++wrap 0xa0 (wrap 6 derivT++wrap 0x30 (wrap 4 salt++wrap 2 (numB (n:Nat))++wrap 0x30 (D++wrap 5 [])))++wrap 0x30 (wrap 6 lockT++wrap 0x30 (sizedB (16+8*(j:Int)) [2,22,42]++wrap 4 iv))++wrap 4 k);have c1:(wrap 6 derivT).length<=40:=by decide
  have c2:(wrap 6 lockT).length<=40:=by decide
  have c3:(wrap 2 [0]).length<=40:=by decide
  have c4:(wrap 5 []).length<=40:=by decide
  simp only [List.length_append]at a3 a4 a5 a7 a8 b1;refine⟨?_,by simp [recT,passUs,howT,lockL,ofT,lf,sizedT]⟩;have hE:recB ⟨3,16+8*j,256+128*i,[],k,salt,n,iv,[]⟩=wrap 0xa3 (wrap 2 [0]++wrap 0xa0 (wrap 6 derivT++wrap 0x30 (wrap 4 salt++wrap 2 (numB (n:Nat))++wrap 0x30 (D++wrap 5 [])))++wrap 0x30 (wrap 6 lockT++wrap 0x30 (sizedB (16+8*(j:Int)) [2,22,42]++wrap 4 iv))++wrap 4 k):=by
   rw [<-hD];rfl
  rw [hE];omega
theorem FX:∀rs:List Rec,(∀r∈rs,RecOk 4096 r)->(rs.flatMap recB).length<=3000*rs.length/\(rs.map recT).flatten.length<=20*rs.length
 | [],_=>⟨by simp,by simp⟩
 | r::rs,h=>by
  have h1:=NP (h r (List.mem_cons_self ..));have h2:=FX rs fun x hx=>h x (List.mem_cons_of_mem _ hx)
  simp only [List.flatMap_cons,List.map_cons,List.flatten_cons,List.length_append,List.length_cons];omega
theorem NQ(a:Int):(algB a).length<=40:=by
 unfold algB
 split
 ·rename_i i h
  obtain⟨h1,_⟩:=List.findIdx?_eq_some_iff_getElem.1 h
  match i,h1 with
  | 0,_=>decide
  | 1,_=>decide
  | 2,_=>decide
  | 3,_=>decide
  | 4,_=>decide
  | 5,_=>decide
  | n+6,h1=>exact absurd h1 (by simp [algsL])
 ·decide
theorem M5{x:Env}(hx:EnvOk 4096 x)(hh:x.header.length<=70000):(textR x).length<=262144:=by
 obtain⟨i,hc,ha⟩:=hx.cont;have h1:=(FX x.to hx.to.2.2).1;have h2:=hx.to.2.1;have h3:x.iv.length<=1024:=by
  have h9:=hc.2.1.2;simp only at h9
  split at h9<;>omega
 have h4:x.cipher.length<=70000:=hc.2.2.2.1;have h5:x.tag.length<=16:=by
  rcases hc.2.2.1 with e | e
  ·exact Nat.le_trans (Nat.le_of_eq e) (by decide)
  ·exact(CI e).1
 have h6:(headB x.header).length<=70000:=by
  unfold headB
  split
  ·simp
  ·rename_i hne
   have:0<x.header.length:=List.length_pos_iff.2 hne;rw [List.length_cons,List.length_tail];omega
 have hP:(if x.tag.length=12 then([]:Bytes)else wrap 2 (numB x.tag.length)).length<=40:=by
  split
  ·simp
  ·have:=Ar 2 (numB (x.tag.length:Nat));have:=(EU (n:=x.tag.length) (by omega)).2.1;omega
 have g0:=NQ x.alg;have g1:=Ar 4 x.iv;have g2:=Ar 0x30 (wrap 4 x.iv++(if x.tag.length=12 then []else wrap 2 (numB x.tag.length)));have g3:=Ar 0x30 (algB x.alg++wrap 0x30 (wrap 4 x.iv++(if x.tag.length=12 then []else wrap 2 (numB x.tag.length))));have g4:=Ar 0x80 x.cipher;have c1:(wrap 6 dataT).length<=40:=by decide
 have c2:(wrap 6 sealedT).length<=40:=by decide
 have c3:(wrap 2 [0]).length<=40:=by decide
 have hcont:(contB x).length<=72000:=by
  unfold contB;simp only [List.length_append]at g2 g3 ⊢;omega
 have g5:=Ar 0x30 (contB x);have g6:=Ar 0x31 (x.to.flatMap recB);have g7:=Ar 4 x.tag;have hbody:(bodyB x).length<=180000:=by
  unfold bodyB;simp only [List.length_append];omega
 have g8:=Ar 0x30 (bodyB x);have g9:=Ar 0xa0 (wrap 0x30 (bodyB x));have g10:=Ar 0x30 (wrap 6 sealedT++wrap 0xa0 (wrap 0x30 (bodyB x)));unfold textR;simp only [List.length_append]at g10;omega
def attrB(d:Bytes):Bytes:=wrap 0x31 (wrap 0x30 (wrap 6 besideT++wrap 0x31 (wrap 4 d)))
theorem Gr{f:Bool}(t:UInt8)(h1:R5.tagE t.toNat=0)(h2:R5.inner t.toNat=true)(d:Bytes):TE f 3 (ofT t (besideUs d)) (wrap t (wrap 0x30 (wrap 6 besideT++wrap 0x31 (wrap 4 d)))):=by
 have ho:∀b:Bytes,ordL [] [b]=true:=fun b=>by cases b<;>rfl
 have a1:=Fw (f:=f) (d:=0) (t:=0x31) rfl rfl (Aj (Ch d) AM) fun _ _=>ho _
 have a2:=Bn (f:=f) (d:=1) (t:=0x30) rfl rfl rfl (Aj (AQ (t:=6) (b:=besideT) (by decide)) (Aj a1 AM));have a3:=Fw (f:=f) (d:=2) (t:=t) h1 h2 (Aj a2 AM) fun _ _=>ho _
 simp only [List.flatten_cons,List.flatten_nil,List.append_nil]at a3;exact a3
theorem Fy{d:Bytes}(hd:d.length<=60000):Enc (ofT 0x31 (besideUs d)) (attrB d,0)/\(attrB d).length<=70000:=by
 obtain⟨o,k1,k2⟩:=Gr (f:=true) 0x31 rfl rfl d;rw [k2 rfl]at k1;have g1:=Ar 4 d;have g2:=Ar 0x31 (wrap 4 d);have g3:=Ar 0x30 (wrap 6 besideT++wrap 0x31 (wrap 4 d));have g4:=Ar 0x31 (wrap 0x30 (wrap 6 besideT++wrap 0x31 (wrap 4 d)));have c1:(wrap 6 besideT).length<=40:=by decide
 simp only [List.length_append]at g3;have hl:(attrB d).length<=70000:=by
  unfold attrB;omega
 exact⟨.ok _ (by simp [besideUs,ofT,lf]) (k1.mono (by decide)) (Nat.le_trans hl (by decide)),hl⟩
theorem NR{d:Bytes}(hd:d.length<=60000):Bes (attrB d) [ofT 0xa1 (besideUs d)]:=by
 obtain⟨h1,h2⟩:=Fy hd;refine .some d _ ?_;unfold attrT;rw [show setOf (ofT 0xa1 (besideUs d))=ofT 0x31 (besideUs d)from rfl,BZ h1,if_neg (by simp),if_neg (by simp only; omega)]
theorem M6{x:Env}{hs:List (List Node)}(hx:EnvOk 4096 x)(hb:(x.header=[]/\hs=[])\/∃d,d.length<=60000/\x.header=attrB d/\hs=[ofT 0xa1 (besideUs d)])(ho:ordL [] (x.to.map recB)=true):tellP x=(textR x,0):=by
 have hB:Bes x.header hs/\x.header.length<=70000/\hs.flatten.length<=10/\∃bs,RowE true 6 hs bs/\bs.flatten=headB x.header:=by
  rcases hb with ⟨h1,rfl⟩| ⟨d,h1,h2,rfl⟩
  ·rw [h1];exact⟨.none,by simp,by simp,[],rfl,rfl⟩
  ·rw [h2];refine⟨NR h1,(Fy h1).2,by simp [besideUs,ofT,lf],_,Aj ((Gr 0xa1 rfl rfl d).mono (by decide)) AM,?_⟩;simp only [List.flatten_cons,List.flatten_nil,List.append_nil];rfl
 obtain⟨hB,hh,hsl,bs,hbr,hbe⟩:=hB;obtain⟨o,k1,k2⟩:=KD (f:=true) (by decide) hx hbr hbe fun _=>ho
 rw [k2 rfl]at k1;have k3:=k1.mono (e:=32) (by decide);have hn:(wholeT x hs).length<=4096:=by
  have:=(FX x.to hx.to.2.2).2;have:=hx.to.2.1;have hs2:(sizeUs x.iv x.tag.length).flatten.length<=2:=by
   unfold sizeUs
   split<;>simp [lf]
  unfold wholeT contT;simp only [ofT,lf,algT,List.flatten_cons,List.flatten_nil,List.append_nil,List.length_cons,List.length_append,List.length_nil,List.flatten_append];omega
 have hE:Enc (wholeT x hs) (textR x,0):= .ok _ hn k3 (M5 hx hh);have hd:=hE.back rfl mostL (by decide) rfl rfl rfl;have hread:read (textR x) mostL=(x,0):=by
  unfold read;rw [hd,if_neg (by simp)];exact LR rfl hx hB rfl
 exact(Ek hread).1
end Go.Px.Cm
namespace Go.Px.Cm
open E5 Co
def iv12:Bytes:=[49,50,51,52,53,54,55,56,57,48,49,50]
def env1(r:Rec):Env:=⟨1,1,[r],[],[],[],iv12,[],iv12⟩
def insB(x:Rec):List Rec->List Rec
 | []=> [x]
 | y::ys=>if Op.bytesLess (recB x) (recB y)then y::insB x ys else x::y::ys
def sortB(l:List Rec):List Rec:=(l.foldl (fun acc x=>insB x acc) []).reverse
noncomputable def sorted (l:List Rec):List Rec:=if l.any (fun r=>decide ((tellP (env1 r)).2≠0))then []else sortB l
def someOf(to:List Rec)(h:Bytes):Env:=⟨1,1,to,h,[],[],iv12,[97,98,99],iv12⟩
def someE:Env:=someOf [⟨2,16,0,[107],[49,50,51,52,53,54,55,56,57,48,49,50,51,52,53,54,55,56,57,48,49,50,51,52],[],0,[],[]⟩] []
theorem LS:ContOk ((0,iv12,12),[97,98,99]):=⟨by decide,⟨by decide,by decide⟩,.inl rfl,by decide,by decide⟩
theorem M7{to:List Rec}{h:Bytes}(h1:1<=to.length)(h2:to.length<=8)(h3:∀r∈to,RecOk 4096 r):EnvOk 4096 (someOf to h):=
 ⟨⟨h1,h2,h3⟩,⟨0,LS,rfl⟩,rfl,rfl,rfl⟩
theorem M8(b:Bytes):ordL [] [b]=true:=by cases b<;>rfl
theorem Fz:(tellP someE).2=0:=by
 have hr:∀r∈someE.to,RecOk 4096 r:=fun r hr=>by
  rw [List.mem_singleton.1 hr];exact .wrap _ _ 0 (by decide) ⟨by decide,by decide⟩ ⟨by decide,by decide,by decide⟩
 rw [show someE=someOf someE.to []from rfl,M6 (M7 (by decide) (by decide) hr) (.inl ⟨rfl,rfl⟩) (M8 _)]
theorem LT:read [0x30,0] mostL=(zero,9):=by
 have:R5.decode [0x30,0] mostL=([⟨0x30,0,[]⟩],0,0):=by decide
 unfold read;rw [this,if_neg (by simp)];unfold readL;have:whole [⟨0x30,0,[]⟩] mostL ⟨0,[1]⟩= .error 9:=rfl;rw [this]
inductive RS where
 | run (c:Cu)
 | bad (e:Int)
section
variable (l : List Node)
def rIs(t:Nat):RS->Bool
 | .run c=>peek l c==t
 | .bad _=>false
def rNone:RS->Bool
 | .run c=>peek l c==0
 | .bad _=>true
def isBad:RS->Bool
 | .run _=>false
 | .bad _=>true
def rFault(e:Int):RS->RS
 | .run _=> .bad e
 | .bad x=> .bad x
def rMust(ok:Bool)(e:Int)(s:RS):RS:=if ok then s else rFault e s
def rLeaf(t:Nat):RS->Bytes×RS
 | .run c=>match take l t c with
  | .ok (b,c')=>(b,.run c')
  | .error e=>([],.bad e)
 | .bad e=>([],.bad e)
def rIn(t:Nat):RS->RS
 | .run c=>match take l t c with
  | .ok (_,c')=> .run ⟨c'.at_,(l.getD c.at_ nz).kids.toNat::c'.left⟩
  | .error e=> .bad e
 | .bad e=> .bad e
def rOut:RS->RS
 | .run c=>match c.left with
  | (_+1)::_=> .bad 9
  | _=> .run ⟨c.at_,c.left.tail⟩
 | .bad e=> .bad e
def rOne(tbl:List Bytes)(s:RS):Nat×RS:=
 match tbl.findIdx? (fun t=>t==(rLeaf l 6 s).1)with
 | some i=>(i,(rLeaf l 6 s).2)
 | none=>(0,rFault 11 (rLeaf l 6 s).2)
def rOcts(t:Bytes->Bool)(s:RS):Bytes×RS:=((rLeaf l 4 s).1,rMust (t (rLeaf l 4 s).1) 9 (rLeaf l 4 s).2)
def rVer(v:Bytes)(s:RS):RS:=rMust ((rLeaf l 2 s).1==v) 11 (rLeaf l 2 s).2
def rTyp(v:Bytes)(s:RS):RS:=rMust ((rLeaf l 6 s).1==v) 11 (rLeaf l 6 s).2
def tName(s:Bytes):Bool:=decide (1<=s.length) && decide (s.length<=128)
def tWrap(s:Bytes):Bool:=s.length % 8==0 && decide (24<=s.length) && decide (s.length<=1032)
def rName(s:RS):Bytes×RS:=((rOcts l tName s).1,rMust (rNone l (rOcts l tName s).2) 11 (rOcts l tName s).2)
def rW3(nm:Bytes)(i:Nat)(s:RS):Rec×RS:=(⟨2,16+8*i,0,nm,(rOcts l tWrap s).1,[],0,[],[]⟩,(rOcts l tWrap s).2)
def rW2(nm:Bytes)(s:RS):Rec×RS:=rW3 l nm (rOne l wrapT (rIn l 0x30 s)).1 (rOut (rOne l wrapT (rIn l 0x30 s)).2)
def rW1(s:RS):Rec×RS:=rW2 l (rName l (rIn l 0x30 s)).1 (rOut (rName l (rIn l 0x30 s)).2)
def rSealed(s:RS):Rec×RS:=((rW1 l (rVer l [4] (rIn l 0xa2 s))).1,rOut (rW1 l (rVer l [4] (rIn l 0xa2 s))).2)
def numC:Bytes->Nat->Nat
 | [],n=>n
 | c::r,n=>numC r (if n<=1048576 then n*256+c.toNat else n)
def rRounds(lim:Lim)(s:RS):Nat×RS:=
 if isBad (rLeaf l 2 s).2 then(0,(rLeaf l 2 s).2)
 else(numC (rLeaf l 2 s).1 0,rMust (decide ((numC (rLeaf l 2 s).1 0:Int)<=lim.r)) 10 (rMust (decide (((rLeaf l 2 s).1.getD 0 0).toNat<128) && ((rLeaf l 2 s).1 !=[0])) 9 (rLeaf l 2 s).2))
def rHash(s:RS):Nat×RS:=((rOne l hashT s).1,(rLeaf l 5 (rOne l hashT s).2).2)
def rD3(salt:Bytes)(n:Nat)(s:RS):(Bytes×Nat×Nat)×RS:=((salt,n,(rHash l (rIn l 0x30 s)).1),rOut (rHash l (rIn l 0x30 s)).2)
def rD2(lim:Lim)(salt:Bytes)(s:RS):(Bytes×Nat×Nat)×RS:=rD3 l salt (rRounds l lim s).1 (rMust (isBad (rRounds l lim s).2 || (!rNone l (rRounds l lim s).2 && !rIs l 2 (rRounds l lim s).2)) 11 (rRounds l lim s).2)
def tSalt(s:Bytes):Bool:=decide (8<=s.length) && decide (s.length<=1000)
def rD1(lim:Lim)(s:RS):(Bytes×Nat×Nat)×RS:=rD2 l lim (rOcts l tSalt s).1 (rOcts l tSalt s).2
def rDeriv(lim:Lim)(s:RS):(Bytes×Nat×Nat)×RS:=((rD1 l lim (rIn l 0x30 (rTyp l derivT s))).1,rOut (rD1 l lim (rIn l 0x30 (rTyp l derivT s))).2)
def tIv(s:Bytes):Bool:=s.length==16
def rL2(j:Nat)(s:RS):(Nat×Bytes)×RS:=((j,(rOcts l tIv s).1),(rOcts l tIv s).2)
def rL1(s:RS):(Nat×Bytes)×RS:=rL2 l (rOne l lockTs s).1 (rOne l lockTs s).2
def rLock(s:RS):(Nat×Bytes)×RS:=((rL1 l (rIn l 0x30 (rTyp l lockT s))).1,rOut (rL1 l (rIn l 0x30 (rTyp l lockT s))).2)
def tPass(s:Bytes):Bool:=s.length % 16==0 && decide (32<=s.length) && decide (s.length<=272)
def rP3(d:Bytes×Nat×Nat)(j:Nat×Bytes)(s:RS):Rec×RS:=(⟨3,16+8*j.1,256+128*d.2.2,[],(rOcts l tPass s).1,d.1,d.2.1,j.2,[]⟩,(rOcts l tPass s).2)
def rP2(d:Bytes×Nat×Nat)(s:RS):Rec×RS:=rP3 l d (rLock l (rIn l 0x30 s)).1 (rOut (rLock l (rIn l 0x30 s)).2)
def rP1(lim:Lim)(s:RS):Rec×RS:=rP2 l (rDeriv l lim (rIn l 0xa0 s)).1 (rOut (rDeriv l lim (rIn l 0xa0 s)).2)
def rPassword(lim:Lim)(s:RS):Rec×RS:=((rP1 l lim (rVer l [0] (rIn l 0xa3 s))).1,rOut (rP1 l lim (rVer l [0] (rIn l 0xa3 s))).2)
def rRecip(lim:Lim):RS->Option Rec×RS
 | .run c=>
  if peek l c=0xa2 then(some (rSealed l (.run c)).1,(rSealed l (.run c)).2)
  else if peek l c=0xa3 then(some (rPassword l lim (.run c)).1,(rPassword l lim (.run c)).2)
  else if peek l c=0x30\/peek l c=0xa1\/peek l c=0xa4 then(none,.bad 11)
  else(none,.bad 9)
 | .bad e=>(none,.bad e)
def rLoop(lim:Lim):Nat->List Rec->RS->List Rec×RS
 | 0,acc,s=>(acc,s)
 | m+1,acc,s=>if rNone l s then(acc,s)else rLoop lim m (acc++(rRecip l lim s).1.toList) (rRecip l lim s).2
def cntOf:RS->Nat
 | .run c=>c.left.headD 0
 | .bad _=>0
def rRecips(lim:Lim)(s:RS):List Rec×RS:=
 rLoop l lim (cntOf s) [] (rMust (isBad s || decide (cntOf s<=8)) 10 (rMust (isBad s || decide (0<cntOf s)) 9 s))
end
def Ag{α:Type}(r:α×RS)(p:Except Int (α×Cu)):Prop:=match p with
 | .ok (v,c)=>r=(v,.run c)
 | .error e=>r.2= .bad e
structure AgF {α:Type} (l:List Node) (r:RS->α×RS) (p:P α):Prop where
 run:∀c,Fits l c->Ag (r (.run c)) (p c)
 bad:∀e,(r (.bad e)).2= .bad e
 eats:Eats l p (fun _ _=>True)
theorem BC(b:Bool)(e x:Int):rMust b x (.bad e)= .bad e:=by cases b<;>rfl
theorem M9(a b:Bytes):(a==b)=decide (a=b):=by
 by_cases h:a=b
 ·rw [h,dt rfl,beq_self_eq_true]
 ·rw [df h];exact bn h
section
variable {α β : Type} {l : List Node}
theorem AgF.bnd{r:RS->α×RS}{p:P α}{k:α->RS->β×RS}{f:α->P β}(h1:AgF l r p)(h2:∀a,AgF l (k a) (f a)):AgF l (fun s=>k (r s).1 (r s).2) (bnd p f) where
 run c hf:=by
  have h:=h1.run c hf;unfold Cm.bnd;cases hp:p c with
  | error e=>
   rw [hp]at h;show(k (r (.run c)).1 (r (.run c)).2).2= .bad e;rw [show(r (.run c)).2= .bad e from h];exact(h2 _).bad e
  | ok q=>
   obtain⟨a,c'⟩:=q;rw [hp]at h;show Ag (k (r (.run c)).1 (r (.run c)).2) (f a c');rw [show r (.run c)=(a,.run c')from h];exact(h2 a).run c' (h1.eats c a c' hp hf).1
 bad e:=by
  show(k (r (.bad e)).1 (r (.bad e)).2).2= .bad e;rw [h1.bad e];exact(h2 _).bad e
 eats:=(h1.eats.bnd fun a=>(h2 a).eats).mono fun _ _ _=>trivial
theorem Ci(a:α):AgF l (fun s=>(a,s)) (ret a) where
 run _ _:=rfl
 bad _:=rfl
 eats:=(Ax a).mono fun _ _ _=>trivial
theorem En(b:Bool)(e:Int)(a:α){c:Prop}[Decidable c](h:b=decide c):AgF l (fun s=>(a,rMust b e s)) (if c then ret a else fail e) where
 run x _:=by
  subst h;by_cases hc:c
  ·rw [if_pos hc,dt hc];rfl
  ·rw [if_neg hc,df hc];rfl
 bad x:=BC _ _ _
 eats:=(Di a e).mono fun _ _ _=>trivial
theorem AgF.bar{r:RS->α×RS}{p:P α}{t:RS->Bool}{b:Cu->Bool}{e:Int}(h:AgF l r p)(hb:∀c,t (.run c)= !b c):AgF l (fun s=>r (rMust (t s) e s)) (bar b e p) where
 run c hf:=by
  unfold Cm.bar;show Ag (r (rMust (t (.run c)) e (.run c))) _;rw [hb c];cases hc:b c with
  | true=>exact h.bad e
  | false=>exact h.run c hf
 bad x:=by
  show(r (rMust _ e (.bad x))).2= .bad x;rw [BC];exact h.bad x
 eats:=h.eats.bar
variable (hr : ∀ a ∈ l, right a = true)
include hr
theorem CV{t:UInt8}(ht:t≠0)(hi:R5.inner t.toNat=false):AgF l (rLeaf l t.toNat) (take l t.toNat) where
 run c _:=by
  show Ag (match take l t.toNat c with | .ok (b,c')=>(b,RS.run c')| .error e=>([],RS.bad e)) (take l t.toNat c);cases take l t.toNat c with
  | ok q=>rfl
  | error e=>rfl
 bad _:=rfl
 eats:=(AI hr ht hi).mono fun _ _ _=>trivial
theorem AgF.inn{t:UInt8}{r:RS->α×RS}{p:P α}(h:AgF l r p)(ht:t≠0)(hi:R5.inner t.toNat=true):AgF l (fun s=>((r (rIn l t.toNat s)).1,rOut (r (rIn l t.toNat s)).2)) (inn l t.toNat p) where
 run c hf:=by
  unfold Cm.inn;have hrr:rIn l t.toNat (.run c)=match take l t.toNat c with | .ok (_,c')=> .run ⟨c'.at_,(l.getD c.at_ nz).kids.toNat::c'.left⟩| .error e=> .bad e:=rfl
  cases htk:take l t.toNat c with
  | error e=>
   rw [htk]at hrr;show rOut (r (rIn l t.toNat (.run c))).2= .bad e;rw [hrr];dsimp only;rw [h.bad e];rfl
  | ok q=>
   obtain⟨b,c'⟩:=q;rw [htk]at hrr;have hfi:=CU hr ht hi htk hf;dsimp only at hrr ⊢;rw [hrr];have hq:=h.run _ hfi;cases hp:p ⟨c'.at_,(l.getD c.at_ nz).kids.toNat::c'.left⟩with
   | error e=>
    rw [hp]at hq;show rOut (r _).2= .bad e;rw [show(r (.run ⟨c'.at_,(l.getD c.at_ nz).kids.toNat::c'.left⟩)).2= .bad e from hq];rfl
   | ok q2=>
    obtain⟨v,c2⟩:=q2;rw [hp]at hq;rw [show r (.run ⟨c'.at_,(l.getD c.at_ nz).kids.toNat::c'.left⟩)=(v,.run c2)from hq];dsimp only;unfold out;show Ag (v,match c2.left with | (_+1)::_=>RS.bad 9 | _=>RS.run ⟨c2.at_,c2.left.tail⟩) _;cases c2.left with
    | nil=>rfl
    | cons n r=>cases n<;>rfl
 bad e:=by
  show rOut (r (.bad e)).2= .bad e;rw [h.bad e];rfl
 eats:=(h.eats.inn hr ht hi).mono fun _ _ _=>trivial
theorem FA{tbl:List Bytes}(h:tbl.findIdx? (fun t=>t==[])=none):AgF l (rOne l tbl) (kind l tbl) where
 run c _:=by
  unfold kind Cm.bnd;have hl:rLeaf l 6 (.run c)=match take l 6 c with | .ok (b,c')=>(b,RS.run c')| .error e=>([],RS.bad e):=rfl
  unfold rOne;rw [hl];cases take l 6 c with
  | error e=>
   dsimp only;rw [h];rfl
  | ok q=>
   dsimp only;cases tbl.findIdx? (fun t=>t==q.1)<;>rfl
 bad e:=by
  unfold rOne;show(match tbl.findIdx? (fun t=>t==[])with | some i=>(i,RS.bad e)| none=>(0,rFault 11 (RS.bad e))).2=_;rw [h];rfl
 eats:=(Av hr tbl).mono fun _ _ _=>trivial
theorem DC(v:Bytes):AgF l (fun s=>((),rVer l v s)) (version l v):=
 (CV hr (t:=2) (by decide) (by decide)).bnd (k:=fun a s=>((),rMust (a==v) 11 s)) fun s=>En _ 11 () (M9 s v)
theorem Cs{a b m:Nat}(t:Bytes->Bool)(ht:∀s,t s=decide (a<=s.length/\s.length<=b/\s.length % m=0)):AgF l (rOcts l t) (octs l a b m):=
 (CV hr (t:=4) (by decide) (by decide)).bnd (k:=fun a s=>(a,rMust (t a) 9 s)) fun s=>En _ 9 s (ht s)
omit hr in
theorem LU(v s:Bytes):List.findIdx? (fun t=>t==s) [v]=if v=s then some 0 else none:=by
 by_cases h:v=s
 ·subst h;simp [List.findIdx?,List.findIdx?.go]
 ·have:(v==s)=false:=bn h;simp [List.findIdx?,List.findIdx?.go,this,h]
theorem Eo{v:Bytes}{r:RS->β×RS}{p:P β}(h:AgF l r p):AgF l (fun s=>r (rTyp l v s)) (Cm.bnd (kind l [v]) fun _=>p) where
 run c hf:=by
  have hE:=Av hr [v] c;have hl:rLeaf l 6 (.run c)=match take l 6 c with | .ok (b,c')=>(b,RS.run c')| .error e=>([],RS.bad e):=rfl
  unfold kind Cm.bnd at hE;unfold kind Cm.bnd rTyp;dsimp only;rw [hl];cases ht:take l 6 c with
  | error e=>
   show(r (rMust _ 11 (.bad e))).2= .bad e;rw [BC];exact h.bad e
  | ok q=>
   rw [ht]at hE;dsimp only at hE ⊢;rw [LU]at hE ⊢;by_cases hv:v=q.1
   ·rw [if_pos hv]at hE ⊢;rw [<-hv,beq_self_eq_true];exact h.run _ (hE 0 _ rfl hf).1
   ·rw [if_neg hv,bn fun e=>hv e.symm];exact h.bad 11
 bad e:=by
  show(r (rMust _ 11 (.bad e))).2= .bad e;rw [BC];exact h.bad e
 eats:=((Av hr [v]).bnd fun _=>h.eats).mono fun _ _ _=>trivial
theorem Na:AgF l (rName l) (nameP l):=
 (Cs hr tName (fun s=>by simp [tName,Nat.mod_one])).bnd (k:=fun a s=>(a,rMust (rNone l s) 11 s)) fun s=>(Ci s).bar (t:=rNone l) fun c=>by
  show(peek l c==0)= !(peek l c !=0);simp [bne]
omit hr in
theorem ME(s:Bytes)(a b m:Nat):(s.length % m==0 && decide (a<=s.length) && decide (s.length<=b))=decide (a<=s.length/\s.length<=b/\s.length % m=0):=by
 by_cases c:s.length % m=0
 ·simp [c]
 ·simp [c]
theorem KE:AgF l (rSealed l) (inn l 0xa2 (wrapped l)):=by
 have a3:∀nm i,AgF l (rW3 l nm i) (bnd (octs l 24 1032 8) fun k=>ret ⟨2,16+8*i,0,nm,k,[],0,[],[]⟩):=fun nm i=>
  (Cs hr tWrap (fun s=>ME s 24 1032 8)).bnd (k:=fun k s=>((⟨2,16+8*i,0,nm,k,[],0,[],[]⟩:Rec),s)) fun k=>Ci _
 have a2:∀nm,AgF l (rW2 l nm) (bnd (inn l 0x30 (kind l wrapT)) fun i=>bnd (octs l 24 1032 8) fun k=>ret ⟨2,16+8*i,0,nm,k,[],0,[],[]⟩):=fun nm=>
  ((FA hr (tbl:=wrapT) (by decide)).inn hr (t:=0x30) (by decide) (by decide)).bnd (k:=fun i s=>rW3 l nm i s) fun i=>a3 nm i
 have a1:AgF l (rW1 l) (bnd (inn l 0x30 (nameP l)) fun nm=>bnd (inn l 0x30 (kind l wrapT)) fun i=>bnd (octs l 24 1032 8) fun k=>ret ⟨2,16+8*i,0,nm,k,[],0,[],[]⟩):=
  ((Na hr).inn hr (t:=0x30) (by decide) (by decide)).bnd (k:=fun nm s=>rW2 l nm s) fun nm=>a2 nm
 have a0:AgF l (fun s=>rW1 l (rVer l [4] s)) (wrapped l):=(DC hr [4]).bnd (k:=fun _ s=>rW1 l s) fun _=>a1
 exact a0.inn hr (t:=0xa2) (by decide) (by decide)
omit hr in
theorem Hn:∀(s:Bytes) (n:Nat),(numC s n<=1048576->numC s n=s.foldl (fun a c=>a*256+c.toNat) n)/\(s.foldl (fun a c=>a*256+c.toNat) n<=1048576->numC s n=s.foldl (fun a c=>a*256+c.toNat) n)
 | [],n=>⟨fun _=>rfl,fun _=>rfl⟩
 | c::r,n=>by
  have ih:=Hn r (if n<=1048576 then n*256+c.toNat else n);unfold numC;rw [List.foldl_cons];by_cases h:n<=1048576
  ·rw [if_pos h]at ih ⊢;exact ih
  ·rw [if_neg h]at ih ⊢;have h1:=Dy r n;have h2:=Dy r (n*256+c.toNat);have h3:n<=numC r n:=by
    rcases Nat.lt_or_ge (numC r n) n with e | e
    ·have:numC r n<n:=e;clear ih h1 h2;exfalso;have hm:∀(r:Bytes) (n:Nat),n<=numC r n:=by
      intro r
      induction r with
      | nil=>intro n; exact Nat.le_refl n
      | cons c r ih=>
       intro n;unfold numC;refine Nat.le_trans ?_ (ih _)
       split<;>omega
     have:=hm r n;omega
    ·exact e
   exact⟨fun k=>by omega,fun k=>by omega⟩
theorem KF{lim:Lim}(hl:lim.r<=4096):AgF l (rRounds l lim) (rounds l lim) where
 run c hf:=by
  have hl2:rLeaf l 2 (.run c)=match take l 2 c with | .ok (b,c')=>(b,RS.run c')| .error e=>([],RS.bad e):=rfl
  have hE:=AI hr (t:=2) (by decide) (by decide) c;unfold rounds Cm.bnd rRounds;rw [hl2];cases ht:take l 2 c with
  | error e=>rfl
  | ok q=>
   obtain⟨s,c'⟩:=q;obtain⟨_,ts,n,r,⟨_,hb⟩,_⟩:=hE s c' ht hf;dsimp only;rw [show isBad (RS.run c')=false from rfl,if_neg (by decide)];by_cases h1:128<=(s.getD 0 0).toNat\/s=[0]
   ·rw [if_pos h1];have:(decide ((s.getD 0 0).toNat<128) && (s !=[0]))=false:=by
     rcases h1 with e | e
     ·rw [df (by omega),Bool.false_and]
     ·rw [e];simp
    rw [this];show rMust _ 10 (.bad 9)= .bad 9;exact BC _ _ _
   ·rw [if_neg h1];have:(decide ((s.getD 0 0).toNat<128) && (s !=[0]))=true:=by
     rw [dt (by omega)];have:(s !=[0])=true:=bne_iff_ne.2 fun e=>h1 (.inr e)
     rw [this];rfl
    rw [this];have hn:s.foldl (fun a c=>a*256+c.toNat) 0=num s:=rfl;obtain⟨k1,k2⟩:=Hn s 0;rw [hn]at k1 k2;by_cases h2:8<s.length\/lim.r<num s
    ·rw [if_pos h2];have h3:¬(numC s 0:Int)<=lim.r:=by
      intro h3;have h4:=k1 (by omega);obtain⟨e,_⟩:=Hc hb h1 (by omega);have h5:s.length<=2:=by
       have h6:=Bv (num s) (by omega);rw [e,h6]
       split<;>simp
      omega
     rw [df h3];rfl
    ·rw [if_neg h2];have h4:=k2 (by omega);rw [h4,dt (by omega)];rfl
 bad _:=rfl
 eats:=(CD hr hl).mono fun _ _ _=>trivial
theorem Nb:AgF l (rHash l) (hashP l):=(FA hr (tbl:=hashT) (by decide)).bnd (k:=fun i s=>(i,(rLeaf l 5 s).2)) fun i=>(CV hr (t:=5) (by decide) (by decide)).bnd (k:=fun _ s=>(i,s)) fun _=>Ci i
theorem LV{lim:Lim}(hl:lim.r<=4096):AgF l (rDeriv l lim) (derived l lim):=by
 have a3:∀salt n,AgF l (rD3 l salt n) (bnd (inn l 0x30 (hashP l)) fun i=>ret (salt,n,i)):=fun salt n=>((Nb hr).inn hr (t:=0x30) (by decide) (by decide)).bnd (k:=fun i s=>((salt,n,i),s)) fun i=>Ci _
 have a2:∀salt,AgF l (rD2 l lim salt) (bnd (rounds l lim) fun n=>bar (fun c=>peek l c==0 || peek l c==2) 11 (bnd (inn l 0x30 (hashP l)) fun i=>ret (salt,n,i))):=fun salt=>
  (KF hr hl).bnd (k:=fun n s=>rD3 l salt n (rMust (isBad s || (!rNone l s && !rIs l 2 s)) 11 s)) fun n=>(a3 salt n).bar (t:=fun s=>isBad s || (!rNone l s && !rIs l 2 s)) fun c=>by
   show(false || (!(peek l c==0) && !(peek l c==2)))= !(peek l c==0 || peek l c==2);simp
 have a1:AgF l (rD1 l lim) (derivP l lim):=(Cs hr tSalt (fun s=>by simp [tSalt,Nat.mod_one])).bnd (k:=fun salt s=>rD2 l lim salt s) fun salt=>a2 salt
 exact Eo hr (a1.inn hr (t:=0x30) (by decide) (by decide))
theorem Nc:AgF l (rLock l) (lockP l):=by
 have a2:∀j,AgF l (rL2 l j) (bnd (octs l 16 16 1) fun iv=>ret (j,iv)):=fun j=>(Cs hr tIv (fun s=>by
  unfold tIv;by_cases c:s.length=16
  ·simp [c,Nat.mod_one]
  ·rw [bn c]
   symm
   rw [decide_eq_false_iff_not];omega)).bnd (k:=fun iv s=>((j,iv),s)) fun iv=>Ci _
 have a1:AgF l (rL1 l) (lockQ l):=(FA hr (tbl:=lockTs) (by decide)).bnd (k:=fun j s=>rL2 l j s) fun j=>a2 j
 exact Eo hr (a1.inn hr (t:=0x30) (by decide) (by decide))
theorem Ix{lim:Lim}(hl:lim.r<=4096):AgF l (rPassword l lim) (inn l 0xa3 (password l lim)):=by
 have a3:∀d j,AgF l (rP3 l d j) (bnd (octs l 32 272 16) fun k=>ret ⟨3,16+8*j.1,256+128*d.2.2,[],k,d.1,d.2.1,j.2,[]⟩):=fun d j=>
  (Cs hr tPass (fun s=>ME s 32 272 16)).bnd (k:=fun k s=>((⟨3,16+8*j.1,256+128*d.2.2,[],k,d.1,d.2.1,j.2,[]⟩:Rec),s)) fun k=>Ci _
 have a2:∀d,AgF l (rP2 l d) (bnd (inn l 0x30 (lockP l)) fun j=>bnd (octs l 32 272 16) fun k=>ret ⟨3,16+8*j.1,256+128*d.2.2,[],k,d.1,d.2.1,j.2,[]⟩):=fun d=>
  ((Nc hr).inn hr (t:=0x30) (by decide) (by decide)).bnd (k:=fun j s=>rP3 l d j s) fun j=>a3 d j
 have a1:AgF l (rP1 l lim) (bnd (inn l 0xa0 (derived l lim)) fun d=>bnd (inn l 0x30 (lockP l)) fun j=>bnd (octs l 32 272 16) fun k=>ret ⟨3,16+8*j.1,256+128*d.2.2,[],k,d.1,d.2.1,j.2,[]⟩):=
  ((LV hr hl).inn hr (t:=0xa0) (by decide) (by decide)).bnd (k:=fun d s=>rP2 l d s) fun d=>a2 d
 have a0:AgF l (fun s=>rP1 l lim (rVer l [0] s)) (password l lim):=(DC hr [0]).bnd (k:=fun _ s=>rP1 l lim s) fun _=>a1
 exact a0.inn hr (t:=0xa3) (by decide) (by decide)
theorem Ho{lim:Lim}(hl:lim.r<=4096)(c:Cu)(hf:Fits l c):match recip l lim c with
  | .ok (r,c')=>rRecip l lim (.run c)=(some r,.run c')
  | .error e=>(rRecip l lim (.run c)).2= .bad e:=by
 have e:rRecip l lim (.run c)=if peek l c=0xa2 then(some (rSealed l (.run c)).1,(rSealed l (.run c)).2)
  else if peek l c=0xa3 then(some (rPassword l lim (.run c)).1,(rPassword l lim (.run c)).2)
  else if peek l c=0x30\/peek l c=0xa1\/peek l c=0xa4 then(none,.bad 11)
  else(none,.bad 9):=rfl
 rw [e];unfold recip;by_cases h1:peek l c=0xa2
 ·simp only [h1,if_true];have h:=(KE hr).run c hf;cases hp:inn l 0xa2 (wrapped l) c with
  | error e=>
   rw [hp]at h;exact h
  | ok q=>
   rw [hp]at h;dsimp only;rw [show rSealed l (.run c)=(q.1,.run q.2)from h]
 ·simp only [h1,if_false];by_cases h2:peek l c=0xa3
  ·simp only [h2,if_true];have h:=(Ix hr hl).run c hf;cases hp:inn l 0xa3 (password l lim) c with
   | error e=>
    rw [hp]at h;exact h
   | ok q=>
    rw [hp]at h;dsimp only;rw [show rPassword l lim (.run c)=(q.1,.run q.2)from h]
  ·simp only [h2,if_false];by_cases h3:peek l c=0x30\/peek l c=0xa1\/peek l c=0xa4
   ·simp only [h3,if_true]
   ·simp only [h3,if_false]
omit hr in
theorem Ct(lim:Lim)(e:Int):∀m acc,rLoop l lim m acc (.bad e)=(acc,.bad e)
 | 0,_=>rfl
 | _+1,_=>rfl
omit hr in
theorem Cv{c:Cu}{n:Nat}{r:List Nat}(hf:Fits l c)(h:c.left=(n+1)::r):peek l c≠0:=by
 have hst:=hf.2;rw [h]at hst;obtain⟨x,y,b,o,h1,h2,_⟩:=B0 hst;have hp:=h2.pos;cases x with
 | nil=>simp at hp
 | cons a x=>
  have hg:l.getD c.at_ nz=a:=by
   have:=congrArg (fun x=>x[0]?) h1;simp at this;simp [List.getD,this]
  have ha:right a=true:=h2.all a (List.mem_cons_self ..);unfold peek;rw [h,hg];intro h0;unfold right at ha;simp only [Bool.and_eq_true,beq_iff_eq]at ha;have:=ha.1.1.1;rw [show a.tag.toNat=0 from h0]at this;exact absurd this (by decide)
theorem Jg{lim:Lim}(hl:lim.r<=4096):∀(m:Nat) (acc:List Rec) (c:Cu),Fits l c->c.left.headD 0=m->match recipN l lim m c with
  | .ok (rs,c')=>rLoop l lim m acc (.run c)=(acc++rs,.run c')
  | .error e=>(rLoop l lim m acc (.run c)).2= .bad e
 | 0,acc,c,hf,hm=>by
  show rLoop l lim 0 acc (.run c)=(acc++ [],.run c)
  rw [List.append_nil];rfl
 | m+1,acc,c,hf,hm=>by
  obtain⟨r,hc⟩:∃r,c.left=(m+1)::r:=by
   cases h:c.left with
   | nil=>exact absurd h hf.1
   | cons n r=>
    rw [h]at hm;exact⟨r,by rw [show n=m+1 from hm]⟩
  have hn:rNone l (.run c)=false:=by
   show(peek l c==0)=false;exact bn (Cv hf hc)
  have hrc:=Ho hr hl c hf;have hE:=BS hr hl c;unfold recipN Cm.bnd rLoop;rw [hn,if_neg (by decide)];cases hp:recip l lim c with
  | error e=>
   rw [hp]at hrc;dsimp only at hrc ⊢;rw [hrc,Ct]
  | ok q=>
   obtain⟨x,c1⟩:=q;rw [hp]at hrc;obtain⟨hf1,ts,n,r2,⟨_,rfl⟩,k1,k2,_⟩:=hE x c1 hp hf;dsimp only at hrc ⊢;rw [hrc];have hm1:c1.left.headD 0=m:=by
    rw [hc]at k1;simp only [List.cons.injEq,List.length_cons,List.length_nil]at k1;rw [k2];show n=m;omega
   have ih:=Jg hl m (acc++ [x]) c1 hf1 hm1;cases hq:recipN l lim m c1 with
   | error e=>
    rw [hq]at ih;exact ih
   | ok q2=>
    obtain⟨rs,c2⟩:=q2;rw [hq]at ih;dsimp only [ret]at ih ⊢;rw [show(some x).toList=[x]from rfl,ih,List.append_assoc];rfl
theorem Gs{lim:Lim}(hl:lim.r<=4096):AgF l (rRecips l lim) (recips l lim) where
 run c hf:=by
  unfold recips rRecips;show Ag (rLoop l lim (c.left.headD 0) [] (rMust (false || decide (c.left.headD 0<=8)) 10 (rMust (false || decide (0<c.left.headD 0)) 9 (.run c)))) _;rw [Bool.false_or,Bool.false_or];by_cases h0:c.left.headD 0=0
  ·rw [if_pos h0,df (p:=0<c.left.headD 0) (by omega)];show(rLoop l lim _ [] (rMust _ 10 (.bad 9))).2=_;rw [BC,Ct]
  ·rw [if_neg h0,dt (p:=0<c.left.headD 0) (by omega)];by_cases h8:8<c.left.headD 0
   ·rw [if_pos h8,df (by omega)];show(rLoop l lim _ [] (.bad 10)).2=_;rw [Ct]
   ·rw [if_neg h8,dt (by omega)];have h:=Jg hr hl _ [] c hf rfl;cases hp:recipN l lim (c.left.headD 0) c with
    | error e=>
     rw [hp]at h;exact h
    | ok q=>
     rw [hp]at h;dsimp only at h;rw [List.nil_append]at h;exact h
 bad e:=by
  unfold rRecips;rw [BC,BC,Ct]
 eats:=(CE hr hl).mono fun _ _ _=>trivial
end
section
variable (l : List Node)
def tIvc(ccm:Bool)(s:Bytes):Bool:=(!ccm && decide (1<=s.length) && decide (s.length<=1024))|| (ccm && decide (7<=s.length) && decide (s.length<=13))
def rSize(iv:Bytes)(ccm:Bool)(s:RS):(Bytes×Nat)×RS:=((iv,((rLeaf l 2 s).1.getD 0 0).toNat),rMust ((rLeaf l 2 s).1.length==1 && tagged ((rLeaf l 2 s).1.getD 0 0).toNat ccm) 9 (rLeaf l 2 s).2)
def rPar2(ccm:Bool)(iv:Bytes)(s:RS):(Bytes×Nat)×RS:=if rIs l 2 s then rSize l iv ccm s else((iv,12),s)
def rParams(ccm:Bool)(s:RS):(Bytes×Nat)×RS:=rPar2 l ccm (rOcts l (tIvc ccm) s).1 (rOcts l (tIvc ccm) s).2
def rCiph2(i:Nat)(s:RS):(Nat×Bytes×Nat)×RS:=((i,(rParams l (decide (2<i)) (rIn l 0x30 s)).1),rOut (rParams l (decide (2<i)) (rIn l 0x30 s)).2)
def rCiph(s:RS):(Nat×Bytes×Nat)×RS:=rCiph2 l (rOne l sixT s).1 (rOne l sixT s).2
def tText(i:Nat)(iv s:Bytes):Bool:=decide (s.length<=70000) && (!decide (2<i)|| iv.length !=13 || decide (s.length<65536))
def rCont2(a:Nat×Bytes×Nat)(s:RS):((Nat×Bytes×Nat)×Bytes)×RS:=((a,(rLeaf l 0x80 s).1),rMust (tText a.1 a.2.1 (rLeaf l 0x80 s).1) 10 (rLeaf l 0x80 s).2)
def rSome(s:RS):RS:=rMust (isBad s || !rNone l s) 11 s
def rCont1(s:RS):((Nat×Bytes×Nat)×Bytes)×RS:=rCont2 l (rCiph l (rIn l 0x30 s)).1 (rSome l (rOut (rCiph l (rIn l 0x30 s)).2))
def rContent(s:RS):((Nat×Bytes×Nat)×Bytes)×RS:=((rCont1 l (rTyp l dataT (rIn l 0x30 s))).1,rOut (rCont1 l (rTyp l dataT (rIn l 0x30 s))).2)
def anyC:Nat->Cu->Cu
 | 0,c=>c
 | m+1,c=>anyC m ⟨nx l c.at_,dec c.left⟩
def rVals:RS->RS
 | .run c=>if c.left.headD 0=0 then .bad 9 else .run (anyC l (c.left.headD 0) c)
 | .bad e=> .bad e
def rAttr(s:RS):RS:=rOut (rOut (rVals l (rIn l 0x31 (rLeaf l 6 (rIn l 0x30 s)).2)))
def rAttrN:Nat->RS->RS
 | 0,s=>s
 | m+1,s=>if rNone l s then s else rAttrN m (rAttr l s)
noncomputable def rHead (p:Nat):RS->Bytes×RS
 | .run c=>((encOf (setOf ((l.take c.at_).drop p))).1,rMust (decide ((encOf (setOf ((l.take c.at_).drop p))).1.length<=70000)) 10 (rMust ((encOf (setOf ((l.take c.at_).drop p))).2==0) 9 (.run c)))
 | .bad e=>([],.bad e)
noncomputable def rBeside:RS->Bytes×RS
 | .run c=>
  if peek l c=0xa1 then rHead l c.at_ (rOut (rAttrN l (cntOf (rIn l 0xa1 (.run c))) (rMust (decide (0<cntOf (rIn l 0xa1 (.run c)))) 9 (rIn l 0xa1 (.run c)))))
  else([],.run c)
 | .bad e=>([],.bad e)
def rB5(rs:List Rec)(a:(Nat×Bytes×Nat)×Bytes)(h:Bytes)(s:RS):Env×RS:=(envOf rs a h (rOcts l (fun b=>b.length==a.1.2.2) s).1,rMust (!rIs l 0xa2 (rOcts l (fun b=>b.length==a.1.2.2) s).2) 11 (rOcts l (fun b=>b.length==a.1.2.2) s).2)
noncomputable def rB4 (rs:List Rec) (a:(Nat×Bytes×Nat)×Bytes) (s:RS):Env×RS:=rB5 l rs a (rBeside l s).1 (rBeside l s).2
noncomputable def rB3 (rs:List Rec) (s:RS):Env×RS:=rB4 l rs (rContent l s).1 (rContent l s).2
noncomputable def rB2 (lim:Lim) (s:RS):Env×RS:=rB3 l (rRecips l lim (rIn l 0x31 s)).1 (rOut (rRecips l lim (rIn l 0x31 s)).2)
noncomputable def rB1 (lim:Lim) (s:RS):Env×RS:=rB2 l lim (rMust (!rIs l 0xa0 (rVer l [0] s)) 11 (rVer l [0] s))
noncomputable def rBody (lim:Lim) (s:RS):Env×RS:=((rB1 l lim (rIn l 0x30 s)).1,rOut (rB1 l lim (rIn l 0x30 s)).2)
noncomputable def rWhole (lim:Lim) (s:RS):Env×RS:=((rBody l lim (rIn l 0xa0 (rTyp l sealedT (rIn l 0x30 s)))).1,rOut (rOut (rBody l lim (rIn l 0xa0 (rTyp l sealedT (rIn l 0x30 s)))).2))
noncomputable def rReadL (lim:Lim):Env×Int:=match rWhole l lim (.run ⟨0,[1]⟩)with
 | (x,.run _)=>(x,0)
 | (_,.bad e)=>(zero,e)
end
section
variable {l : List Node} (hr : ∀ a ∈ l, right a = true)
include hr
theorem Nd(ccm:Bool)(iv:Bytes):AgF l (rPar2 l ccm iv) (fun c=>if peek l c=2 then sizeP l iv ccm c else .ok ((iv,12),c)) where
 run c hf:=by
  unfold rPar2;show Ag (if(peek l c==2)=true then rSize l iv ccm (.run c)else((iv,12),.run c)) _;by_cases h:peek l c=2
  ·rw [h,if_pos (by decide),if_pos rfl];have hs:AgF l (rSize l iv ccm) (sizeP l iv ccm):=(CV hr (t:=2) (by decide) (by decide)).bnd (k:=fun a s=>((iv,(a.getD 0 0).toNat),rMust (a.length==1 && tagged (a.getD 0 0).toNat ccm) 9 s)) fun a=>En _ 9 _ (by
    by_cases c1:a.length=1
    ·simp [c1]
    ·simp [c1])
   exact hs.run c hf
  ·rw [if_neg (by simpa using h),if_neg h];rfl
 bad e:=rfl
 eats:=fun c v c' e hf=>by
  dsimp only at e
  split at e
  ·exact((Gl hr iv ccm).mono (S:=fun _ _=>True) fun _ _ _=>trivial) c v c' e hf
  ·exact((Ax (l:=l) (iv,12)).mono (S:=fun _ _=>True) fun _ _ _=>trivial) c v c' e hf
theorem KG(ccm:Bool):AgF l (rParams l ccm) (params l ccm):=
 (Cs hr (tIvc ccm) (fun s=>by
  unfold tIvc;cases ccm
  ·simp [Nat.mod_one]
  ·simp [Nat.mod_one])).bnd (k:=fun iv s=>rPar2 l ccm iv s) fun iv=>Nd hr ccm iv
theorem Nf:AgF l (rCiph l) (cipherP l):=by
 have a2:∀i,AgF l (rCiph2 l i) (bnd (inn l 0x30 (params l (decide (2<i)))) fun p=>ret (i,p)):=fun i=>((KG hr _).inn hr (t:=0x30) (by decide) (by decide)).bnd (k:=fun p s=>((i,p),s)) fun p=>Ci _
 exact(FA hr (tbl:=sixT) (by decide)).bnd (k:=fun i s=>rCiph2 l i s) fun i=>a2 i
theorem FB:AgF l (rContent l) (content l):=by
 have a2:∀a:Nat×Bytes×Nat,AgF l (rCont2 l a) (bnd (textP l a.1 a.2.1) fun s=>ret (a,s)):=fun a=>by
  have h:=((CV hr (t:=0x80) (by decide) (by decide)).bnd (k:=fun s q=>(s,rMust (tText a.1 a.2.1 s) 10 q)) (f:=fun s=>if 70000<s.length\/(65536<=s.length/\2<a.1/\a.2.1.length=13)then fail 10 else ret s) fun s=>(by
   have hm:=En (l:=l) (tText a.1 a.2.1 s) 10 s (c:=¬(70000<s.length\/(65536<=s.length/\2<a.1/\a.2.1.length=13))) (by
    unfold tText;by_cases c1:2<a.1
    ·by_cases c2:a.2.1.length=13
     ·simp [c1,c2]
     ·simp [c1,c2]
    ·simp [c1])
   by_cases hc:70000<s.length\/(65536<=s.length/\2<a.1/\a.2.1.length=13)
   ·rw [if_pos hc];rw [if_neg (Decidable.not_not.2 hc)]at hm;exact hm
   ·rw [if_neg hc];rw [if_pos hc]at hm;exact hm)).bnd (k:=fun s q=>((a,s),q)) fun s=>Ci (a,s)
  exact h
 have a1:AgF l (rCont1 l) (bnd (inn l 0x30 (cipherP l)) fun a=>bar (fun c=>peek l c==0) 11 (bnd (textP l a.1 a.2.1) fun s=>ret (a,s))):=
  ((Nf hr).inn hr (t:=0x30) (by decide) (by decide)).bnd (k:=fun a s=>rCont2 l a (rSome l s)) fun a=>(a2 a).bar (t:=fun s=>isBad s || !rNone l s) fun c=>by
   show(false || !(peek l c==0))= !(peek l c==0);rw [Bool.false_or]
 exact(Eo hr a1).inn hr (t:=0x30) (by decide) (by decide)
omit hr in
theorem Hp:∀(m:Nat) (c:Cu),anyN l m c= .ok ((),anyC l m c)
 | 0,_=>rfl
 | m+1,c=>Hp m ⟨nx l c.at_,dec c.left⟩
omit hr in
theorem ag_vals:AgF l (fun s=>((),rVals l s)) (valsP l) where
 run c hf:=by
  unfold valsP bar;show Ag ((),if c.left.headD 0=0 then RS.bad 9 else RS.run (anyC l (c.left.headD 0) c)) (if(peek l c==0)=true then .error 9 else anyN l (c.left.headD 0) c);by_cases h0:c.left.headD 0=0
  ·have hp:peek l c=0:=by
    unfold peek;cases h:c.left with
    | nil=>rfl
    | cons n r=>
     rw [h]at h0;rw [show n=0 from h0]
   rw [if_pos h0,hp,if_pos (by decide)];rfl
  ·have hp:peek l c≠0:=by
    cases h:c.left with
    | nil=>exact absurd h hf.1
    | cons n r=>
     rw [h]at h0;cases n with
     | zero=>exact absurd rfl h0
     | succ n=>exact Cv hf h
   rw [if_neg h0,if_neg (by simpa using hp),Hp];rfl
 bad _:=rfl
 eats:=eats_vals.mono fun _ _ _=>trivial
theorem Jh:AgF l (fun s=>((),rAttr l s)) (inn l 0x30 (attrQ l)):=
 ((CV hr (t:=6) (by decide) (by decide)).bnd (k:=fun _ s=>((),rOut (rVals l (rIn l 0x31 s)))) fun _=>ag_vals.inn hr (t:=0x31) (by decide) (by decide)).inn hr (t:=0x30) (by decide) (by decide)
omit hr in
theorem Da(e:Int):∀m,rAttrN l m (.bad e)= .bad e
 | 0=>rfl
 | _+1=>rfl
theorem EV:∀(m:Nat) (c:Cu),Fits l c->c.left.headD 0=m->match attrN l m c with
  | .ok (_,c')=>rAttrN l m (.run c)= .run c'
  | .error e=>rAttrN l m (.run c)= .bad e
 | 0,c,hf,hm=>rfl
 | m+1,c,hf,hm=>by
  obtain⟨r,hc⟩:∃r,c.left=(m+1)::r:=by
   cases h:c.left with
   | nil=>exact absurd h hf.1
   | cons n r=>
    rw [h]at hm;exact⟨r,by rw [show n=m+1 from hm]⟩
  have hn:rNone l (.run c)=false:=by
   show(peek l c==0)=false;exact bn (Cv hf hc)
  have hrc:=(Jh hr).run c hf;have hE:=C8 hr c;unfold attrN Cm.bnd rAttrN;rw [hn,if_neg (by decide)];cases hp:inn l 0x30 (attrQ l) c with
  | error e=>
   rw [hp]at hrc;have h2:rAttr l (.run c)= .bad e:=hrc;dsimp only;rw [h2,Da]
  | ok q=>
   obtain⟨x,c1⟩:=q;rw [hp]at hrc;obtain⟨hf1,ts,n,r2,⟨_,_,_,rfl⟩,k1,k2,_⟩:=hE x c1 hp hf;have h2:rAttr l (.run c)= .run c1:=congrArg Prod.snd (show((),rAttr l (.run c))=(x,RS.run c1)from hrc);dsimp only;rw [h2];have hm1:c1.left.headD 0=m:=by
    rw [hc]at k1;simp only [List.cons.injEq,List.length_cons,List.length_nil]at k1;rw [k2];show n=m;omega
   exact EV m c1 hf1 hm1
theorem Gt:AgF l (rBeside l) (beside l) where
 run c hf:=by
  unfold beside;show Ag (if peek l c=0xa1 then rHead l c.at_ (rOut (rAttrN l (cntOf (rIn l 0xa1 (.run c))) (rMust (decide (0<cntOf (rIn l 0xa1 (.run c)))) 9 (rIn l 0xa1 (.run c)))))else([],.run c)) _;by_cases h:peek l c=0xa1
  ·rw [if_pos h,if_pos h];have ht:take l 0xa1 c= .ok ((l.getD c.at_ nz).body,⟨c.at_+1,dec c.left⟩):=by
    unfold take;rw [if_pos h]
   have hi:rIn l 0xa1 (.run c)= .run ⟨c.at_+1,(l.getD c.at_ nz).kids.toNat::dec c.left⟩:=by
    show(match take l 0xa1 c with | .ok (_,c')=>RS.run ⟨c'.at_,(l.getD c.at_ nz).kids.toNat::c'.left⟩| .error e=>RS.bad e)=_;rw [ht]
   have hfi:=CU hr (t:=0xa1) (by decide) (by decide) ht hf;rw [hi];unfold attrs;have hk:(l.getD c.at_ nz).kids=0↔(l.getD c.at_ nz).kids.toNat=0:=by
    obtain⟨a,n,r,h1,h2,hg,h3,_⟩:=By (t:=0xa1) ht (by decide);rw [hg];have ha:=hr a h2;unfold right at ha;simp only [Bool.and_eq_true,beq_iff_eq]at ha;have h4:R5.inner a.tag.toNat=true:=by rw [h3]; decide
    have h5:leaf a=false:=by
     have:=ha.1.2;rw [h4]at this;cases hq:leaf a with
     | false=>rfl
     | true=>rw [hq]at this; cases this
    have h6:¬a.kids<0:=by
     have:decide (a.kids<0)=false:=h5;simpa using this
    omega
   show Ag (rHead l c.at_ (rOut (rAttrN l (l.getD c.at_ nz).kids.toNat (rMust (decide (0<(l.getD c.at_ nz).kids.toNat)) 9 (.run ⟨c.at_+1,(l.getD c.at_ nz).kids.toNat::dec c.left⟩))))) _;by_cases hz:(l.getD c.at_ nz).kids=0
   ·rw [if_pos hz,df (by have:=hk.1 hz; omega)];show(rHead l c.at_ (rOut (rAttrN l _ (.bad 9)))).2= .bad 9;rw [Da];rfl
   ·rw [if_neg hz,dt (by rcases Nat.eq_zero_or_pos (l.getD c.at_ nz).kids.toNat with e | e; exact absurd (hk.2 e) hz; exact e)];have hN:=EV hr _ _ hfi rfl;unfold Cm.inn;rw [ht];have hP:∀c,attrP l c=attrN l (c.left.headD 0) c:=fun _=>rfl
    dsimp only;rw [hP];show Ag (rHead l c.at_ (rOut (rAttrN l (l.getD c.at_ nz).kids.toNat (.run ⟨c.at_+1,(l.getD c.at_ nz).kids.toNat::dec c.left⟩)))) _;cases hq:attrN l ((⟨c.at_+1,(l.getD c.at_ nz).kids.toNat::dec c.left⟩:Cu).left.headD 0) ⟨c.at_+1,(l.getD c.at_ nz).kids.toNat::dec c.left⟩with
    | error e=>
     rw [hq]at hN;have h2:rAttrN l (l.getD c.at_ nz).kids.toNat (.run ⟨c.at_+1,(l.getD c.at_ nz).kids.toNat::dec c.left⟩)= .bad e:=hN;rw [h2];rfl
    | ok q=>
     obtain⟨v,c2⟩:=q;rw [hq]at hN;have h2:rAttrN l (l.getD c.at_ nz).kids.toNat (.run ⟨c.at_+1,(l.getD c.at_ nz).kids.toNat::dec c.left⟩)= .run c2:=hN;rw [h2];dsimp only;unfold out;show Ag (rHead l c.at_ (match c2.left with | (_+1)::_=>RS.bad 9 | _=>RS.run ⟨c2.at_,c2.left.tail⟩)) _;have hH:Ag (rHead l c.at_ (RS.run ⟨c2.at_,c2.left.tail⟩)) (match attrT ((l.take c2.at_).drop c.at_)with | .error e=> .error e | .ok s=> .ok (s,(⟨c2.at_,c2.left.tail⟩:Cu))):=by
      show Ag ((encOf (setOf ((l.take c2.at_).drop c.at_))).1,rMust (decide ((encOf (setOf ((l.take c2.at_).drop c.at_))).1.length<=70000)) 10 (rMust ((encOf (setOf ((l.take c2.at_).drop c.at_))).2==0) 9 (RS.run ⟨c2.at_,c2.left.tail⟩))) _;unfold attrT;generalize encOf (setOf ((l.take c2.at_).drop c.at_))=E;by_cases e1:E.2=0
      ·rw [e1,if_neg (by decide)];by_cases e2:70000<E.1.length
       ·rw [if_pos e2,df (by omega)];rfl
       ·rw [if_neg e2,dt (by omega)];rfl
      ·rw [if_pos e1,bn e1];exact BC _ _ _
     cases hl2:c2.left with
     | nil=>
      rw [hl2]at hH;exact hH
     | cons n r=>
      rw [hl2]at hH;cases n with
      | zero=>exact hH
      | succ n=>rfl
  ·rw [if_neg h,if_neg h];rfl
 bad _:=rfl
 eats:=(EC hr).mono fun _ _ _=>trivial
theorem LW{lim:Lim}(hl:lim.r<=4096):AgF l (rWhole l lim) (whole l lim):=by
 have a5:∀(rs:List Rec) (a:(Nat×Bytes×Nat)×Bytes) (h:Bytes),AgF l (rB5 l rs a h) (bnd (octs l a.1.2.2 a.1.2.2 1) fun t=>bar (fun c=>peek l c==0xa2) 11 (ret (envOf rs a h t))):=fun rs a h=>
  (Cs hr (fun b=>b.length==a.1.2.2) (fun s=>by
   by_cases c:s.length=a.1.2.2
   ·simp [c,Nat.mod_one]
   ·have:(s.length==a.1.2.2)=false:=bn c;rw [this]
    symm
    rw [decide_eq_false_iff_not];omega)).bnd (k:=fun t s=>(envOf rs a h t,rMust (!rIs l 0xa2 s) 11 s)) fun t=>(Ci (envOf rs a h t)).bar (t:=fun s=> !rIs l 0xa2 s) fun c=>rfl
 have a4:∀(rs:List Rec) (a:(Nat×Bytes×Nat)×Bytes),AgF l (rB4 l rs a) (bnd (beside l) fun h=>bnd (octs l a.1.2.2 a.1.2.2 1) fun t=>bar (fun c=>peek l c==0xa2) 11 (ret (envOf rs a h t))):=fun rs a=>(Gt hr).bnd (k:=fun h s=>rB5 l rs a h s) fun h=>a5 rs a h
 have a3:∀rs:List Rec,AgF l (rB3 l rs) (bnd (content l) fun a=>bnd (beside l) fun h=>bnd (octs l a.1.2.2 a.1.2.2 1) fun t=>bar (fun c=>peek l c==0xa2) 11 (ret (envOf rs a h t))):=fun rs=>(FB hr).bnd (k:=fun a s=>rB4 l rs a s) fun a=>a4 rs a
 have a2:AgF l (rB2 l lim) (bnd (inn l 0x31 (recips l lim)) fun rs=>bnd (content l) fun a=>bnd (beside l) fun h=>bnd (octs l a.1.2.2 a.1.2.2 1) fun t=>bar (fun c=>peek l c==0xa2) 11 (ret (envOf rs a h t))):=
  ((Gs hr hl).inn hr (t:=0x31) (by decide) (by decide)).bnd (k:=fun rs s=>rB3 l rs s) fun rs=>a3 rs
 have a1:AgF l (rB1 l lim) (body l lim):=(DC hr [0]).bnd (k:=fun _ s=>rB2 l lim (rMust (!rIs l 0xa0 s) 11 s)) fun _=>a2.bar (t:=fun s=> !rIs l 0xa0 s) fun c=>rfl
 have b0:AgF l (rBody l lim) (inn l 0x30 (body l lim)):=a1.inn hr (t:=0x30) (by decide) (by decide);have b1:AgF l (fun s=>((rBody l lim (rIn l 0xa0 s)).1,rOut (rBody l lim (rIn l 0xa0 s)).2)) (inn l 0xa0 (inn l 0x30 (body l lim))):=b0.inn hr (t:=0xa0) (by decide) (by decide);have b2:AgF l (fun s=>((rBody l lim (rIn l 0xa0 (rTyp l sealedT s))).1,rOut (rBody l lim (rIn l 0xa0 (rTyp l sealedT s))).2)) (bnd (kind l [sealedT]) fun _=>inn l 0xa0 (inn l 0x30 (body l lim))):=Eo hr (v:=sealedT) b1;have b3:=AgF.inn hr b2 (t:=0x30) (by decide) (by decide);rw [show UInt8.toNat 0x30=0x30 from rfl]at b3;unfold whole;have e:rWhole l lim=fun s=>((rBody l lim (rIn l 0xa0 (rTyp l sealedT (rIn l 0x30 s)))).1,rOut (rOut (rBody l lim (rIn l 0xa0 (rTyp l sealedT (rIn l 0x30 s)))).2)):=by
  funext s
  unfold rWhole;rfl
 rw [e];exact b3
theorem Ji{lim:Lim}(hl:lim.r<=4096)(hf:Fits l ⟨0,[1]⟩):rReadL l lim=readL l lim:=by
 have h:=(LW hr hl).run ⟨0,[1]⟩ hf;unfold readL rReadL;cases hp:whole l lim ⟨0,[1]⟩with
 | error e=>
  rw [hp]at h;have h2:(rWhole l lim (.run ⟨0,[1]⟩)).2= .bad e:=h;generalize rWhole l lim (.run ⟨0,[1]⟩)=q at h2;obtain⟨x,s⟩:=q;dsimp only at h2;subst h2;rfl
 | ok q=>
  rw [hp]at h;rw [show rWhole l lim (.run ⟨0,[1]⟩)=(q.1,.run q.2)from h]
end
end Go.Px.Cm
