import GoSem.Op.String
import Derived.Lib.ValidU
namespace Go.Px
theorem aN{a b:Prop}(h:a)(k:b):a/\b:=⟨h,k⟩
theorem bn{α:Type}[BEq α][LawfulBEq α]{a b:α}(h:a≠b):(a==b)=false:=beq_eq_false_iff_ne.2 h
theorem df{p:Prop}[Decidable p](h:¬p):decide p=false:=decide_eq_false h
theorem dt{p:Prop}[Decidable p](h:p):decide p=true:=decide_eq_true h
theorem Z1{α:Type}(l:List α)(i:Nat)(a:α):l.toArray.setIfInBounds i a=(l.set i a).toArray:=by simp
theorem Z2{α:Type}(x:α)(xs:List α)(a:α):(x::xs).set 0 a=a::xs:=rfl
theorem Z3{α:Type}(x:α)(xs:List α)(n:Nat)(a:α):(x::xs).set (n+1) a=x::xs.set n a:=rfl
end Go.Px
namespace Go.Px
abbrev Bytes:=List UInt8
structure Lim where
 d:Int
 i:Int
 b:Int
 r:Int
def Lim.may(l:Lim):Bool:=decide (1<=l.d) && decide (l.d<=32) && decide (1<=l.i) && decide (l.i<=4096) && decide (1<=l.b) && decide (l.b<=262144) && decide (1<=l.r) && decide (l.r<=4096)
structure Atom where
 kind:Int
 num:Nat
 text:Bytes
deriving DecidableEq
def leB(a b:Bytes):Bool:=Op.bytesLess a b || a==b
namespace Cf
structure Fm where
 kind:Int
 at_:Nat
 info:Nat
 num:Nat
 more:Nat
 left:Nat
 key:Bytes
 any:Bool
structure Feed where
 lim:Lim
 text:Bytes
 out:List Atom
 stack:List Fm
 next:Int
 kind:Int
 hat:Nat
 info:Nat
 num:Nat
 more:Nat
 err:Int
 at_:Int
def wrong(f:Feed)(p e:Int):Feed:= {f with err:=e,at_:=p}
def countedTop(x:Fm):Fm:= {x with left:=x.left - 1}
def countedKey(x:Fm)(s:Bytes):Fm:= {x with left:=x.left - 1,key:=s,any:=true}
def isKey(x:Fm):Bool:=x.kind==5 && x.left % 2==0
def counted(f:Feed)(p:Nat):Bool×Feed:=
 match f.stack with
 | []=>(true,f)
 | x::rest=>
  if isKey x then
   if x.any && leB (f.text.drop p) x.key then(false,wrong f p 9)
   else(true,{f with stack:=countedKey x (f.text.drop p)::rest})
  else(true,{f with stack:=countedTop x::rest})
def settleN:Nat->Feed->Feed
 | 0,f=> {f with next:=3}
 | n+1,f=>
  match f.stack with
  | []=> {f with next:=3}
  | x::rest=>if 0<x.left then f else
   match counted {f with stack:=rest} x.at_ with
   | (true,g)=>settleN n g
   | (false,g)=>g
def settle(f:Feed):Feed:=settleN f.stack.length {f with next:=0}
def ended(f:Feed)(p:Nat):Feed:=
 match counted f p with
 | (true,g)=>settle g
 | (false,g)=>g
def whole(f:Feed):Feed:=
 let s:=f.text.drop (f.text.length - f.num)
 if f.kind==3 && !Lib.validD s then wrong f f.hat 9
 else ended {f with out:=f.out++ [⟨f.kind,0,s⟩]} f.hat
def opens(f:Feed)(n:Nat):Feed:=
 if(f.stack.length:Int)==f.lim.d then wrong f f.hat 10
 else settle {f with out:=f.out++ [⟨f.kind,f.num,[]⟩],stack:=⟨f.kind,f.hat,f.info,f.num,f.more,n,[],false⟩::f.stack}
def known(f:Feed):Feed:=
 if f.kind==2 || f.kind==3 then
  let g:= {f with more:=f.num,next:=2}
  if f.num==0 then whole g else g
 else if f.kind==4 then opens f f.num
 else if f.kind==5 then opens f (2*min f.num 1099511627776)
 else if f.kind==6 then opens f 1
 else ended {f with out:=f.out++ [⟨f.kind,f.num,[]⟩]} f.hat
def least(info:Nat):Nat:=if info>24 then 2 ^ (4*2 ^ (info - 24))else 24
def argument(f:Feed)(c:Nat):Feed:=
 let g:= {f with num:=f.num*256+c,more:=f.more - 1}
 if 0<g.more then g
 else if g.num<least g.info then wrong g g.hat 9
 else known g
def headOn(g:Feed)(p k a:Nat):Feed:=
 if(g.out.length:Int)==g.lim.i then wrong g p 10
 else if 27<a then wrong g p 9
 else if k==7 && (decide (a<20)|| decide (23<a))then wrong g p 11
 else if a<24 then known {g with num:=a}
 else {g with more:=2 ^ (a - 24),next:=1}
def head(f:Feed)(c:Nat):Feed:=
 headOn {f with kind:=(c / 32:Nat),hat:=f.text.length - 1,info:=c % 32,num:=0,more:=0} (f.text.length - 1) (c / 32) (c % 32)
def byte(f:Feed)(c:UInt8):Feed:=
 if(f.text.length:Int)==f.lim.b then wrong f f.lim.b 10
 else
  let f:= {f with text:=f.text++ [c]}
  if f.next==0 then head f c.toNat
  else if f.next==1 then argument f c.toNat
  else if f.next==2 then
   let g:= {f with more:=f.more - 1}
   if g.more==0 then whole g else g
  else wrong f (f.text.length - 1:Nat) 9
structure FOk (f:Feed):Prop where
 each:∀x∈f.stack,x.left<18446744073709551616/\x.at_<f.text.length
 tail:∀x∈f.stack.tail,0<x.left
 text:f.text.length<=1000000
 stack:f.stack.length<=1000
theorem DR(f:Feed)(p:Nat):(counted f p).2.text=f.text:=by
 unfold counted; split
 ·rfl
 ·split
  ·split<;>rfl
  ·rfl
theorem Ij(f:Feed)(p:Nat):(counted f p).2.stack.length=f.stack.length:=by
 unfold counted; split
 ·rfl
 ·rename_i x rest h; split
  ·split
   ·rfl
   ·simp [h]
  ·simp [h]
theorem FOk.counted{f:Feed}(h:FOk f)(p:Nat):FOk (counted f p).2:=by
 refine⟨?_,?_,by rw [DR]; exact h.text,by rw [Ij]; exact h.stack⟩
 ·rw [DR];have he:=h.each;unfold Cf.counted
  split
  ·exact he
  ·rename_i x rest hs
   rw [hs]at he;have hx:=he x (by simp);have hr:∀y∈rest,y.left<18446744073709551616/\y.at_<f.text.length:=fun y hy=>he y (by simp [hy])
   split
   ·split
    ·simpa [wrong,hs] using he
    ·intro y hy;rcases List.mem_cons.1 hy with rfl | hy
     ·exact⟨by simp [countedKey]; omega,hx.2⟩
     ·exact hr y hy
   ·intro y hy;rcases List.mem_cons.1 hy with rfl | hy
    ·exact⟨by simp [countedTop]; omega,hx.2⟩
    ·exact hr y hy
 ·have ht:=h.tail;unfold Cf.counted
  split
  ·exact ht
  ·rename_i x rest hs
   rw [hs]at ht
   split
   ·split
    ·simpa [wrong,hs] using ht
    ·exact ht
   ·exact ht
theorem FOk.pop{f:Feed}(h:FOk f){x:Fm}{rest:List Fm}(hs:f.stack=x::rest):FOk {f with stack:=rest}:=by
 refine⟨fun y hy=>h.each y (by rw [hs]; simp [hy]),fun y hy=>h.tail y (by rw [hs]; exact List.mem_of_mem_tail hy),h.text,?_⟩;have:=h.stack;rw [hs]at this;simp at this;show rest.length<=1000;omega
theorem FOk.push{f:Feed}(h:FOk f)(hl:∀x∈f.stack,0<x.left)(N:Nat)(hN:N<18446744073709551616)(hp:f.hat<f.text.length)(hs:f.stack.length<=900):
  FOk {f with stack:=⟨f.kind,f.hat,f.info,f.num,f.more,N,[],false⟩::f.stack}:=by
 refine⟨fun x hx=>?_,hl,h.text,by show f.stack.length+1<=1000; omega⟩;rcases List.mem_cons.1 hx with rfl | hx
 ·exact⟨hN,hp⟩
 ·exact h.each x hx
theorem FOk.out{f:Feed}(h:FOk f)(l:List Atom):FOk {f with out:=l}:=⟨h.each,h.tail,h.text,h.stack⟩
end Cf
end Go.Px
namespace Go.Px.Co
structure Rec where
 way:Int
 size:Int
 kind:Int
 name:Bytes
 key:Bytes
 salt:Bytes
 rounds:Int
 iv:Bytes
 loose:Bytes
deriving DecidableEq
structure Env where
 fmt:Int
 alg:Int
 to:List Rec
 header:Bytes
 loose:Bytes
 aad:Bytes
 iv:Bytes
 cipher:Bytes
 tag:Bytes
deriving DecidableEq
def zero:Env:=⟨0,0,[],[],[],[],[],[],[]⟩
end Go.Px.Co
namespace Go.Px
structure Node where
 tag:UInt8
 kids:Int
 body:Bytes
deriving DecidableEq
namespace R5
structure St where
 out:List Node
 err:Int
 place:Int
 taken:Nat
 frames:Nat
 ended:Bool
def start:St:=⟨[],0,0,0,0,false⟩
def fault(x:St)(p e:Int):St:= {x with err:=e,place:=p}
def take(x:St)(n:Nat):St:= {x with taken:=max x.taken n}
def want(s:Bytes)(lim:Lim)(x:St)(p:Nat):Bool×St:=
 if p<s.length/\(p:Int)<lim.b then(true,take x (p+1))
 else if lim.b<s.length then(false,fault (take x lim.b.toNat) lim.b 10)
 else(false,{fault (take x s.length) s.length 9 with ended:=true})
def inner(t:Nat):Bool:=t / 32 % 2==1
def plainT(n:Nat):Bool:=(decide (1<=n) && decide (n<=6))|| n==12
def manyT(n:Nat):Bool:=n==16 || n==17
def tagE(t:Nat):Int:=
 if(t / 64 !=0 && t / 64 !=2)|| t % 32==31 || (t / 64==0 && !plainT (t % 32) && !manyT (t % 32))then 11
 else if t / 64==0 && inner t !=manyT (t % 32)then 9
 else 0
def oidN:Bytes->Bool->Bool
 | [],first=>first
 | c::r,first=>if first && c==128 then false else oidN r (decide (c.toNat<128))
def bitsN(c:Nat):Nat->Nat->Bool
 | 0,_=>true
 | m+1,i=>if c / 2 ^ i % 2==1 then false else bitsN c m (i+1)
def body(t:Nat)(s:Bytes):Bool:=
 let n:=s.length
 let a:=(s.getD 0 0).toNat
 let b:=(s.getD 1 0).toNat
 if t==1 then n==1 && (a==0 || a==255)
 else if t==2 then(if n<2 then n==1 else a*2+b / 128 !=0 && a*2+b / 128 !=511)
 else if t==3 then(if n<2 then n==1 && a==0 else if 7<a then false else bitsN (s.getD (n - 1) 0).toNat a 0)
 else if t==5 then n==0
 else if t==6 then decide (0<n) && oidN s true
 else if t==12 then Lib.validD s
 else true
def lenN(s:Bytes)(lim:Lim):Nat->St->Nat->Bool->Nat->Option Nat×St
 | 0,x,_,_,n=>(some n,x)
 | m+1,x,p,first,n=>match want s lim x p with
  | (false,y)=>(none,y)
  | (true,y)=>if first && (s.getD p 0).toNat==0 then(none,fault y p 9)else lenN s lim m y (p+1) false (256*n+(s.getD p 0).toNat)
def length(s:Bytes)(lim:Lim)(x:St)(p:Nat):Option (Nat×Nat)×St:=
 match want s lim x p with
 | (false,y)=>(none,y)
 | (true,y)=>
  let b:=(s.getD p 0).toNat
  if b<128 then(some (b,p+1),y)
  else if b=128\/132<b then(none,fault y p 9)
  else match lenN s lim (b % 128) y (p+1) true 0 with
   | (none,z)=>(none,z)
   | (some n,z)=>if n<128 then(none,fault z (p+b % 128:Nat) 9)else(some (n,p+1+b % 128),z)
def head(s:Bytes)(lim:Lim)(room:Bool)(x:St)(p:Nat)(e:Option Nat):Option (Nat×Nat)×St:=
 match want s lim x p with
 | (false,y)=>(none,y)
 | (true,y)=>
  let t:=(s.getD p 0).toNat
  if lim.i<=y.out.length then(none,fault y p 10)
  else if tagE t≠0 then(none,fault y p (tagE t))
  else if inner t && !room then(none,fault y p 10)
  else match length s lim y (p+1)with
   | (none,z)=>(none,z)
   | (some (n,q),z)=>if e.any (fun v=>decide (v<q+n))then(none,fault z p 9)else(some (n,q),z)
def bump(l:List Node)(i:Nat):List Node:=l.modify i (fun a=> {a with kids:=a.kids+1})
def insideN(s:Bytes)(rc:St->Nat->Option Nat×St)(t me e:Nat):Nat->St->Nat->Bytes->Option Nat×St
 | 0,x,at_,_=>(some at_,x)
 | m+1,x,at_,last=>
  if at_<e then
   match rc x at_ with
   | (none,y)=>(none,y)
   | (some q,y)=>
    let key:=(s.take q).drop at_
    if t==49 && Op.bytesLess key last then(none,fault {y with out:=bump y.out me} at_ 9)
    else insideN s rc t me e m {y with out:=bump y.out me} q key
  else(some e,x)
def inside(s:Bytes)(rc:St->Nat->Option Nat×St)(x:St)(t:UInt8)(at_ e:Nat):Option Nat×St:=
 match insideN s rc t.toNat x.out.length e (e - at_) {x with out:=x.out++ [⟨t,0,[]⟩],frames:=x.frames+1} at_ []with
 | (none,y)=>(none,y)
 | (some q,y)=>(some q,{y with frames:=y.frames - 1})
def leaf(s:Bytes)(lim:Lim)(x:St)(t:UInt8)(p at_ n:Nat):Option Nat×St:=
 match (if n=0 then(true,x)else want s lim x (at_+n - 1))with
 | (false,y)=>(none,y)
 | (true,y)=>
  let b:=(s.take (at_+n)).drop at_
  if body t.toNat b then(some (at_+n),{y with out:=y.out++ [⟨t,-1,b⟩]})else(none,fault y p 9)
def elem(s:Bytes)(lim:Lim):Nat->St->Nat->Option Nat->Option Nat×St
 | 0,x,p,e=>match head s lim false x p e with
  | (none,y)=>(none,y)
  | (some (n,q),y)=>leaf s lim y (s.getD p 0) p q n
 | d+1,x,p,e=>match head s lim true x p e with
  | (none,y)=>(none,y)
  | (some (n,q),y)=>
   if inner (s.getD p 0).toNat then inside s (fun x p=>elem s lim d x p (some (q+n))) y (s.getD p 0) q (q+n)
   else leaf s lim y (s.getD p 0) p q n
def read(s:Bytes)(lim:Lim):St:=
 match elem s lim lim.d.toNat start 0 none with
 | (none,x)=>x
 | (some q,x)=>if q<s.length then(match want s lim x q with | (true,y)=>fault y q 9 | (false,y)=>y)else x
def list(x:St):List Node:=if x.err==0 then x.out else []
def decode(s:Bytes)(lim:Lim):List Node×Int×Int:=
 if lim.may then(list (read s lim),(read s lim).place,(read s lim).err)else([],0,2)
end R5
end Go.Px
namespace Go.Px.D5
open R5 (inner tagE bump)
structure Fm where
 tag:UInt8
 at_:Nat
 end_:Nat
 no:Nat
 last:Bytes
structure Dx where
 at_:Nat
 stack:List Fm
 out:List Node
abbrev Flt:=Int×Int
def want(s:Bytes)(lim:Lim)(p:Nat):Except Flt Nat:=
 if(p:Int)<s.length/\(p:Int)<lim.b then .ok (s.getD p 0).toNat else if lim.b<s.length then .error (lim.b,10)else .error (s.length,9)
def lenN(s:Bytes)(lim:Lim):Nat->Nat->Bool->Nat->Except Flt Nat
 | 0,_,_,n=> .ok n
 | m+1,p,first,n=>match want s lim p with
  | .error e=> .error e
  | .ok c=>if first && c==0 then .error (p,9)else lenN s lim m (p+1) false (256*n+c)
def length(s:Bytes)(lim:Lim)(p:Nat):Except Flt (Nat×Nat):=
 match want s lim p with
 | .error e=> .error e
 | .ok b=>
  if b<128 then .ok (b,p+1)
  else if b=128\/132<b then .error (p,9)
  else match lenN s lim (b % 128) (p+1) true 0 with
   | .error e=> .error e
   | .ok n=>if n<128 then .error ((p+b % 128:Nat),9)else .ok (n,p+1+b % 128)
def head(s:Bytes)(lim:Lim)(o k p:Nat)(e:Option Nat):Except Flt (Nat×Nat):=
 match want s lim p with
 | .error e=> .error e
 | .ok t=>
  if(o:Int)=lim.i then .error (p,10)
  else if tagE t≠0 then .error (p,tagE t)
  else if inner t && decide ((k:Int)=lim.d)then .error (p,10)
  else match length s lim (p+1)with
   | .error e=> .error e
   | .ok (n,q)=>if e.any (fun v=>decide (v<q+n))then .error (p,9)else .ok (n,q)
def ended(s:Bytes)(x:Dx)(p:Nat):Except Flt Dx:=
 match x.stack with
 | []=> .ok x
 | f::rest=>
  if f.tag.toNat==49 then
   if Op.bytesLess ((s.take x.at_).drop p) f.last then .error (p,9)
   else .ok {x with stack:= {f with last:=(s.take x.at_).drop p}::rest}
  else .ok x
def bumpTop(l:List Node):List Fm->List Node
 | []=>l
 | f::_=>bump l f.no
def beginD(s:Bytes)(lim:Lim)(x:Dx):Except Flt Dx:=
 match head s lim x.out.length x.stack.length x.at_ (x.stack.head?.map (·.end_))with
 | .error e=> .error e
 | .ok (n,q)=>
  let t:=s.getD x.at_ 0
  if inner t.toNat then .ok {at_:=q,stack:=⟨t,x.at_,q+n,x.out.length,[]⟩::x.stack,out:=bumpTop x.out x.stack++ [⟨t,0,[]⟩]}
  else match (if n=0 then .ok 0 else want s lim (q+n - 1))with
   | .error e=> .error e
   | .ok _=>
    let b:=(s.take (q+n)).drop q
    if R5.body t.toNat b then ended s {at_:=q+n,stack:=x.stack,out:=bumpTop x.out x.stack++ [⟨t,-1,b⟩]} x.at_ else .error (x.at_,9)
def loopN(s:Bytes)(lim:Lim):Nat->Dx->Option (Except Flt Dx)
 | 0,_=>none
 | m+1,x=>match x.stack with
  | []=>some (.ok x)
  | f::rest=>
   if x.at_<f.end_ then(match beginD s lim x with | .error e=>some (.error e)| .ok y=>loopN s lim m y)
   else match ended s {x with stack:=rest} f.at_ with | .error e=>some (.error e)| .ok y=>loopN s lim m y
def after(s:Bytes)(lim:Lim)(r:Except Flt Dx)(m:Nat):Option (Except Flt Dx):=
 match r with
 | .error e=>some (.error e)
 | .ok y=>loopN s lim m y
def run(s:Bytes)(lim:Lim)(m:Nat):Option (Except Flt Dx):=after s lim (beginD s lim ⟨0,[],[]⟩) m
end Go.Px.D5
namespace Go.Px.D5
open R5 (St inner tagE bump)
structure Ok (s:Bytes) (lim:Lim) (x:St) (p:Nat):Prop where
 ps:p<=s.length
 pb:(p:Int)<=lim.b
 taken:x.taken=p
 out:(x.out.length:Int)<=lim.i
def flt(y:St):Flt:=(y.place,y.err)
theorem BE{s:Bytes}{lim:Lim}{x y:St}{p:Nat}(h:R5.want s lim x p=(true,y))(ht:x.taken<=p):want s lim p= .ok (s.getD p 0).toNat/\p<s.length/\(p:Int)<lim.b/\y= {x with taken:=p+1}:=by
 unfold R5.want at h;by_cases h1:p<s.length/\(p:Int)<lim.b
 ·rw [if_pos h1]at h;simp only [Prod.mk.injEq,true_and]at h;refine⟨?_,h1.1,h1.2,?_⟩
  ·unfold want; rw [if_pos (by omega)]
  ·rw [<-h]; unfold R5.take; rw [Nat.max_eq_right (by omega)]
 ·rw [if_neg h1]at h
  split at h<;>simp at h
theorem CY{s:Bytes}{lim:Lim}{x y:St}{p:Nat}(h:R5.want s lim x p=(false,y)):want s lim p= .error (flt y):=by
 unfold R5.want at h;by_cases h1:p<s.length/\(p:Int)<lim.b
 ·rw [if_pos h1]at h; simp at h
 ·rw [if_neg h1]at h;unfold want;rw [if_neg (by omega)];by_cases h2:lim.b<s.length
  ·rw [if_pos h2]at h;simp only [Prod.mk.injEq,true_and]at h;subst h;rw [if_pos (by omega)];rfl
  ·rw [if_neg h2]at h;simp only [Prod.mk.injEq,true_and]at h;subst h;rw [if_neg (by omega)];rfl
theorem I0(s:Bytes)(lim:Lim):∀(m:Nat) (x:St) (p:Nat) (first:Bool) (n:Nat),x.taken=p->p<=s.length->(p:Int)<=lim.b->
  match R5.lenN s lim m x p first n with
  | (some v,y)=>lenN s lim m p first n= .ok v/\y= {x with taken:=p+m}/\p+m<=s.length/\((p+m:Nat):Int)<=lim.b
  | (none,y)=>lenN s lim m p first n= .error (flt y)
 | 0,x,p,first,n,ht,hp,hb=>⟨rfl,by rw [Nat.add_zero,<-ht],hp,hb⟩
 | m+1,x,p,first,n,ht,hp,hb=>by
  unfold R5.lenN lenN;cases hw:R5.want s lim x p with
  | mk b y=>
   cases b
   ·simp only; rw [CY hw]
   ·obtain⟨h1,h2,h3,h4⟩:=BE hw (Nat.le_of_eq ht);simp only;rw [h1];simp only;by_cases hz:(first && (s.getD p 0).toNat==0)=true
    ·rw [if_pos hz,if_pos hz]; rfl
    ·rw [if_neg hz,if_neg hz];have:=I0 s lim m y (p+1) false (256*n+(s.getD p 0).toNat) (by rw [h4]) h2 (by omega);cases hr:R5.lenN s lim m y (p+1) false (256*n+(s.getD p 0).toNat)with
     | mk o z=>
      rw [hr]at this;cases o with
      | none=>exact this
      | some v=>
       obtain⟨a,b,c,d⟩:=this;exact⟨a,by rw [b,h4,show p+1+m=p+(m+1) by omega],by omega,by omega⟩
theorem Ff(s:Bytes)(lim:Lim):∀(m:Nat) (p:Nat) (first:Bool) (n k:Nat),n<256 ^ k->∀v,lenN s lim m p first n= .ok v->v<256 ^ (k+m)
 | 0,p,first,n,k,hn,v,h=>by
  unfold lenN at h;simp only [Except.ok.injEq]at h;rw [<-h]; exact hn
 | m+1,p,first,n,k,hn,v,h=>by
  unfold lenN at h;cases hw:want s lim p with
  | error e=>rw [hw]at h; simp at h
  | ok c=>
   rw [hw]at h;simp only at h;have hc:c<256:=by
    unfold want at hw
    split at hw
    ·simp only [Except.ok.injEq]at hw;rw [<-hw]; exact(s.getD p 0).toNat_lt
    ·split at hw<;>simp at hw
   split at h
   ·simp at h
   ·have:=Ff s lim m (p+1) false (256*n+c) (k+1) (by rw [Nat.pow_succ]; omega) v h;rw [show k+(m+1)=k+1+m by omega]; exact this
theorem CH{s:Bytes}{lim:Lim}{x:St}{p:Nat}(ht:x.taken=p):
  match R5.length s lim x p with
  | (some (n,q),y)=>length s lim p= .ok (n,q)/\y= {x with taken:=q}/\q<=s.length/\(q:Int)<=lim.b/\p<q/\n<4294967296
  | (none,y)=>length s lim p= .error (flt y):=by
 unfold R5.length length;cases hw:R5.want s lim x p with
 | mk b y=>
  cases b
  ·simp only; rw [CY hw]
  ·obtain⟨h1,h2,h3,h4⟩:=BE hw (Nat.le_of_eq ht);simp only;rw [h1];simp only;by_cases hb:(s.getD p 0).toNat<128
   ·rw [if_pos hb,if_pos hb];exact⟨rfl,h4,h2,by omega,Nat.lt_succ_self p,by omega⟩
   ·rw [if_neg hb,if_neg hb];by_cases hk:(s.getD p 0).toNat=128\/132<(s.getD p 0).toNat
    ·rw [if_pos hk,if_pos hk]; rfl
    ·rw [if_neg hk,if_neg hk];obtain⟨w,hwd⟩:∃w,w=(s.getD p 0).toNat % 128:=⟨_,rfl⟩
     rw [<-hwd];have:=I0 s lim w y (p+1) true 0 (by rw [h4]) h2 (by omega);cases hr:R5.lenN s lim w y (p+1) true 0 with
     | mk o z=>
      rw [hr]at this;cases o with
      | none=>simp only at this ⊢; rw [this]
      | some v=>
       obtain⟨a,b,c,d⟩:=this;simp only;rw [a];simp only;by_cases hv:v<128
       ·rw [if_pos hv,if_pos hv]; rfl
       ·rw [if_neg hv,if_neg hv];refine⟨rfl,by rw [b,h4],c,d,by omega,?_⟩;have h5:=Ff s lim _ _ _ _ 0 (by decide) v a;have h6:256 ^ (0+w)<=256 ^ 4:=Nat.pow_le_pow_right (by decide) (by omega);omega
theorem I1{s:Bytes}{lim:Lim}{x:St}{p k:Nat}{room:Bool}{e:Option Nat}(h:Ok s lim x p)(hr:room= !decide ((k:Int)=lim.d)):
  match R5.head s lim room x p e with
  | (some (n,q),y)=>head s lim x.out.length k p e= .ok (n,q)/\y= {x with taken:=q}/\q<=s.length/\(q:Int)<=lim.b/\p+1<q/\n<4294967296/\(x.out.length:Int)<lim.i/\(∀v,e=some v->q+n<=v)/\
    tagE (s.getD p 0).toNat=0/\(inner (s.getD p 0).toNat=true->room=true)/\p<s.length
  | (none,y)=>head s lim x.out.length k p e= .error (flt y):=by
 unfold R5.head head;cases hw:R5.want s lim x p with
 | mk b y=>
  cases b
  ·simp only; rw [CY hw]
  ·obtain⟨h1,h2,h3,h4⟩:=BE hw (Nat.le_of_eq h.taken);simp only;rw [h1];simp only;have hyo:y.out=x.out:=by rw [h4]
   have hout:=h.out;by_cases hi:lim.i<=y.out.length
   ·rw [if_pos hi,if_pos (show(x.out.length:Int)=lim.i by rw [hyo]at hi; omega)]; rfl
   ·rw [if_neg hi,if_neg (show ¬(x.out.length:Int)=lim.i by rw [hyo]at hi; omega)];by_cases ht:tagE (s.getD p 0).toNat≠0
    ·rw [if_pos ht,if_pos ht]; rfl
    ·rw [if_neg ht,if_neg ht];have hrm:(inner (s.getD p 0).toNat && !room)=(inner (s.getD p 0).toNat && decide ((k:Int)=lim.d)):=by rw [hr,Bool.not_not]
     rw [hrm];by_cases hf:(inner (s.getD p 0).toNat && decide ((k:Int)=lim.d))=true
     ·rw [if_pos hf,if_pos hf]; rfl
     ·rw [if_neg hf,if_neg hf];have:=CH (s:=s) (lim:=lim) (x:=y) (p:=p+1) (by rw [h4]);cases hl:R5.length s lim y (p+1)with
      | mk o z=>
       rw [hl]at this;cases o with
       | none=>simp only at this ⊢; rw [this]
       | some t=>
        obtain⟨n,q⟩:=t;obtain⟨a,b,c,d,g,f⟩:=this;simp only;rw [a];simp only;by_cases he:(e.any (fun v=>decide (v<q+n)))=true
        ·rw [if_pos he,if_pos he]; rfl
        ·rw [if_neg he,if_neg he];refine⟨rfl,by rw [b,h4],c,d,g,f,by rw [hyo]at hi; omega,?_,Decidable.not_not.1 ht,?_,h2⟩
         ·intro v hv;rw [hv]at he;simp only [Option.any_some,decide_eq_true_eq]at he;omega
         ·intro hin;rw [hr];rw [hin,Bool.true_and]at hf;simp only [Bool.not_eq_true]at hf;rw [hf]; rfl
theorem Ba(l:List Node)(i:Nat):(bump l i).length=l.length:=List.length_modify _ _ _
theorem Ck:∀(l r:List Node) (i:Nat),i<l.length->bump (l++r) i=bump l i++r
 | [],_,_,h=>by simp at h
 | a::l,r,0,_=>rfl
 | a::l,r,i+1,h=>by
  have:=Ck l r i (by simpa using h);unfold bump at*;simp only [List.cons_append,List.modify_succ_cons,this]
theorem Gc:∀(l:List Node) (i j:Nat),bump (bump l i) j=bump (bump l j) i
 | [],_,_=>by unfold bump; simp
 | a::l,0,0=>rfl
 | a::l,0,j+1=>rfl
 | a::l,i+1,0=>rfl
 | a::l,i+1,j+1=>by
  have:=Gc l i j;unfold bump at*;simp only [List.modify_succ_cons,this]
def bumps(l:List Node):List Nat->List Node
 | []=>l
 | n::ns=>bump (bumps l ns) n
def nos(st:List Fm):List Nat:=st.map (·.no)
theorem B2(l:List Node):∀ns,(bumps l ns).length=l.length
 | []=>rfl
 | n::ns=>by unfold bumps; rw [Ba,B2 l ns]
theorem C5(l r:List Node):∀ns:List Nat,(∀n∈ns,n<l.length)->bumps (l++r) ns=bumps l ns++r
 | [],_=>rfl
 | n::ns,h=>by
  unfold bumps;rw [C5 l r ns (fun k hk=>h k (List.mem_cons_of_mem _ hk)),Ck _ _ _ (by rw [B2]; exact h n (List.mem_cons_self ..))]
theorem Fg(l:List Node)(i:Nat):∀ns:List Nat,bumps (bump l i) ns=bump (bumps l ns) i
 | []=>rfl
 | n::ns=>by unfold bumps; rw [Fg l i ns,Gc]
theorem Dl(l:List Node)(st:List Fm):bumpTop (bumps l (nos st.tail)) st=bumps l (nos st):=by
 cases st with
 | nil=>rfl
 | cons f rest=>rfl
def Runs(r:Nat->Option (Except Flt Dx))(e:Nat->Option (Except Flt Dx)):Prop:=∃n,∀m,r (n+m)=e m
theorem Runs.refl{r:Nat->Option (Except Flt Dx)}:Runs r r:=⟨0,fun m=>by rw [Nat.zero_add]⟩
theorem Runs.trans{r e f:Nat->Option (Except Flt Dx)}(h:Runs r e)(k:Runs e f):Runs r f:=by
 obtain⟨n,h⟩:=h;obtain⟨n2,k⟩:=k;exact⟨n+n2,fun m=>by rw [Nat.add_assoc,h,k]⟩
theorem Runs.step{r e:Nat->Option (Except Flt Dx)}(h:∀m,r (m+1)=e m):Runs r e:=⟨1,fun m=>by rw [Nat.add_comm]; exact h m⟩
theorem Runs.of{r e:Nat->Option (Except Flt Dx)}(h:∀m,r m=e m):Runs r e:=⟨0,fun m=>by rw [Nat.zero_add]; exact h m⟩
def Nos(st:List Fm)(x:St):Prop:=∀n∈nos st,n<x.out.length
def ElemD(s:Bytes)(lim:Lim)(x:St)(p:Nat)(st:List Fm)(r:Option Nat×St):Prop:=
 match r with
 | (some q,y)=>Ok s lim y q/\x.out.length<y.out.length/\p<q/\(∀v,st.head?.map (·.end_)=some v->q<=v)/\
   Runs (after s lim (beginD s lim ⟨p,st,bumps x.out (nos st.tail)⟩)) (after s lim (ended s ⟨q,st,bumps y.out (nos st)⟩ p))
 | (none,y)=>Runs (after s lim (beginD s lim ⟨p,st,bumps x.out (nos st.tail)⟩)) (fun _=>some (.error (flt y)))
def InsD(s:Bytes)(lim:Lim)(x:St)(d:Dx)(st:List Fm)(at0 e:Nat)(r:Option Nat×St):Prop:=
 match r with
 | (some q,y)=>q=e/\Ok s lim y q/\x.out.length<=y.out.length/\Runs (fun m=>loopN s lim m d) (after s lim (ended s ⟨q,st,bumps y.out (nos st)⟩ at0))
 | (none,y)=>Runs (fun m=>loopN s lim m d) (fun _=>some (.error (flt y)))
theorem Ls(s:Bytes)(lim:Lim)(x:Dx)(f:Fm)(rest:List Fm)(h:x.stack=f::rest)(hl:x.at_<f.end_):Runs (fun m=>loopN s lim m x) (after s lim (beginD s lim x)):=by
 refine Runs.step fun m=>?_
 show loopN s lim (m+1) x=_;unfold loopN;rw [h];simp only;rw [if_pos hl];rfl
theorem GT(s:Bytes)(lim:Lim)(x:Dx)(f:Fm)(rest:List Fm)(h:x.stack=f::rest)(hl:¬x.at_<f.end_):Runs (fun m=>loopN s lim m x) (after s lim (ended s {x with stack:=rest} f.at_)):=by
 refine Runs.step fun m=>?_
 show loopN s lim (m+1) x=_;unfold loopN;rw [h];simp only;rw [if_neg hl];rfl
theorem Kd (s:Bytes) (lim:Lim) (rc:St->Nat->Option Nat×St) (e:Nat) (t:UInt8) (at0 me:Nat) (st:List Fm)
  (hrc:∀x p last,Ok s lim x p->Nos (⟨t,at0,e,me,last⟩::st) x->ElemD s lim x p (⟨t,at0,e,me,last⟩::st) (rc x p)):
  ∀(m:Nat) (x:St) (p:Nat) (last last':Bytes),Ok s lim x p->Nos (⟨t,at0,e,me,last⟩::st) x->p<=e->e - p<=m->(t.toNat=49->last'=last)->
   InsD s lim x ⟨p,⟨t,at0,e,me,last'⟩::st,bumps x.out (nos st)⟩ st at0 e (R5.insideN s rc t.toNat me e m x p last):=by
 intro m
 induction m with
 | zero=>
  intro x p last last' h hn hp hm _;exact⟨by omega,h,Nat.le_refl _,GT s lim _ ⟨t,at0,e,me,last'⟩ st rfl (by simp only; omega)⟩
 | succ m ih=>
  intro x p last last' h hn hp hm hl;unfold R5.insideN;by_cases hpe:p<e
  ·rw [if_pos hpe];have h1:=Ls s lim ⟨p,⟨t,at0,e,me,last'⟩::st,bumps x.out (nos st)⟩ ⟨t,at0,e,me,last'⟩ st rfl hpe;have h2:=hrc x p last' h hn;cases hr:rc x p with
   | mk o y=>
    rw [hr]at h2;cases o with
    | none=>exact h1.trans h2
    | some q=>
     simp only;obtain⟨i1,i2,i3,i4,i5⟩:=h2;have hq:q<=e:=i4 e rfl;have hb:bumps (bump y.out me) (nos st)=bumps y.out (nos (⟨t,at0,e,me,last'⟩::st)):=Fg _ _ _;by_cases hk:(t.toNat==49 && Op.bytesLess ((s.take q).drop p) last)=true
     ·rw [if_pos hk];simp only [Bool.and_eq_true,beq_iff_eq]at hk;refine h1.trans (i5.trans (Runs.of fun n=>?_));unfold ended;simp only;rw [if_pos (by rw [hk.1]; rfl),if_pos (by rw [hl hk.1]; exact hk.2)];rfl
     ·rw [if_neg hk];have hOk:Ok s lim {y with out:=bump y.out me} q:=⟨i1.ps,i1.pb,i1.taken,by simp only [Ba]; exact i1.out⟩
      have hN:∀l,Nos (⟨t,at0,e,me,l⟩::st) {y with out:=bump y.out me}:=fun l n hm=>by
       have:n<x.out.length:=hn n hm;simp only [Ba]; omega
      have key:∃l',(t.toNat=49->l'=(s.take q).drop p)/\ended s ⟨q,⟨t,at0,e,me,last'⟩::st,bumps y.out (nos (⟨t,at0,e,me,last'⟩::st))⟩ p= .ok ⟨q,⟨t,at0,e,me,l'⟩::st,bumps (bump y.out me) (nos st)⟩:=by
       by_cases ht:t.toNat=49
       ·refine⟨(s.take q).drop p,fun _=>rfl,?_⟩;unfold ended;simp only;have hk':¬Op.bytesLess ((s.take q).drop p) last'=true:=by
         rw [hl ht];intro hh;exact hk (by rw [ht,hh]; rfl)
        rw [if_pos (by rw [ht]; rfl),if_neg hk',hb]
       ·refine⟨last',fun hh=>absurd hh ht,?_⟩;unfold ended;simp only;rw [if_neg (by simpa using ht),hb]
      obtain⟨l',k1,k2⟩:=key;rw [k2]at i5;have h3:=ih {y with out:=bump y.out me} q ((s.take q).drop p) l' hOk (hN _) hq (by omega) k1;cases hr2:R5.insideN s rc t.toNat me e m {y with out:=bump y.out me} q ((s.take q).drop p)with
      | mk o2 z=>
       rw [hr2]at h3;cases o2 with
       | none=>exact h1.trans (i5.trans h3)
       | some r=>
        obtain⟨j1,j2,j3,j4⟩:=h3;refine⟨j1,j2,?_,h1.trans (i5.trans j4)⟩;simp only [Ba]at j3;omega
  ·rw [if_neg hpe];have hpe':p=e:=by omega
   subst hpe';exact⟨rfl,h,Nat.le_refl _,GT s lim _ ⟨t,at0,p,me,last'⟩ st rfl hpe⟩
theorem I2 {s:Bytes} {lim:Lim} {x y:St} {p q n:Nat} {st:List Fm} (hn:Nos st x) (hy:y= {x with taken:=q}) (hq1:q<=s.length) (hq2:(q:Int)<=lim.b) (hpq:p+1<q) (hlt:(x.out.length:Int)<lim.i)
  (hend:∀v,st.head?.map (·.end_)=some v->q+n<=v) (hh:head s lim x.out.length st.length p (st.head?.map (·.end_))= .ok (n,q)) (hin:inner (s.getD p 0).toNat=false):
  ElemD s lim x p st (R5.leaf s lim y (s.getD p 0) p q n):=by
 have hyo:y.out=x.out:=by rw [hy]
 have hbl:(bumps x.out (nos st.tail)).length=x.out.length:=B2 _ _;have hb:beginD s lim ⟨p,st,bumps x.out (nos st.tail)⟩=(match (if n=0 then .ok 0 else want s lim (q+n - 1))with
   | .error e=> .error e
   | .ok _=>if R5.body (s.getD p 0).toNat ((s.take (q+n)).drop q)then ended s {at_:=q+n,stack:=st,out:=bumpTop (bumps x.out (nos st.tail)) st++ [⟨s.getD p 0,-1,(s.take (q+n)).drop q⟩]} p else .error (p,9)):=by
  unfold beginD;simp only [hbl];rw [hh];simp only;rw [hin];rfl
 unfold R5.leaf;by_cases h0:n=0
 ·subst h0;rw [if_pos rfl]at hb ⊢;simp only [Nat.add_zero]at hb ⊢;by_cases hbd:R5.body (s.getD p 0).toNat ((s.take q).drop q)=true
  ·rw [if_pos hbd]at hb ⊢;refine⟨⟨hq1,hq2,by rw [hy],by simp [hyo]; omega⟩,by simp [hyo],by omega,fun v hv=>by have:=hend v hv; omega,Runs.of fun m=>?_⟩;rw [hb,Dl,hyo,C5 _ _ _ hn]
  ·rw [if_neg hbd]at hb ⊢;exact Runs.of fun m=>by rw [hb]; rfl
 ·rw [if_neg h0]at hb ⊢;cases hw:R5.want s lim y (q+n - 1)with
  | mk b z=>
   cases b
   ·rw [CY hw]at hb;exact Runs.of fun m=>by rw [hb]; rfl
   ·obtain⟨h1,h2,h3,h4⟩:=BE hw (by rw [hy]; show q<=_; omega);rw [h1]at hb;simp only at hb ⊢;have hzo:z.out=x.out:=by rw [h4,<-hyo]
    by_cases hbd:R5.body (s.getD p 0).toNat ((s.take (q+n)).drop q)=true
    ·rw [if_pos hbd]at hb ⊢;refine⟨⟨by omega,by omega,by rw [h4]; show q+n - 1+1=q+n; omega,by simp [hzo]; omega⟩,by simp [hzo],by omega,fun v hv=>hend v hv,Runs.of fun m=>?_⟩;rw [hb,Dl,hzo,C5 _ _ _ hn]
    ·rw [if_neg hbd]at hb ⊢;exact Runs.of fun m=>by rw [hb]; rfl
theorem MH(s:Bytes)(lim:Lim):∀(d:Nat) (x:St) (p:Nat) (st:List Fm),Ok s lim x p->Nos st x->((st.length+d:Nat):Int)=lim.d->ElemD s lim x p st (R5.elem s lim d x p (st.head?.map (·.end_))):=by
 intro d
 induction d with
 | zero=>
  intro x p st h hn hd;have hh:=I1 (k:=st.length) (room:=false) (e:=st.head?.map (·.end_)) h (by rw [decide_eq_true (by omega)]; rfl);unfold R5.elem;cases hr:R5.head s lim false x p (st.head?.map (·.end_))with
  | mk o y=>
   rw [hr]at hh;cases o with
   | none=>
    refine Runs.of fun m=>?_
    unfold beginD;simp only [B2];rw [hh];rfl
   | some t=>
    obtain⟨n,q⟩:=t;obtain⟨h1,h2,h3,h4,h5,h6,h7,h8,h9,h10,h11⟩:=hh;refine I2 hn h2 h3 h4 h5 h7 h8 h1 ?_;cases hi:inner (s.getD p 0).toNat with
    | false=>rfl
    | true=>exact absurd (h10 hi) (by decide)
 | succ d ih=>
  intro x p st h hn hd;have hh:=I1 (k:=st.length) (room:=true) (e:=st.head?.map (·.end_)) h (by rw [decide_eq_false (by omega)]; rfl);unfold R5.elem;cases hr:R5.head s lim true x p (st.head?.map (·.end_))with
  | mk o y=>
   rw [hr]at hh;cases o with
   | none=>
    refine Runs.of fun m=>?_
    unfold beginD;simp only [B2];rw [hh];rfl
   | some t=>
    obtain⟨n,q⟩:=t;obtain⟨h1,h2,h3,h4,h5,h6,h7,h8,h9,h10,h11⟩:=hh;simp only;have hyo:y.out=x.out:=by rw [h2]
    by_cases hin:inner (s.getD p 0).toNat=true
    ·rw [if_pos hin];have hb:beginD s lim ⟨p,st,bumps x.out (nos st.tail)⟩= .ok ⟨q,⟨s.getD p 0,p,q+n,x.out.length,[]⟩::st,bumps (x.out++ [⟨s.getD p 0,0,[]⟩]) (nos st)⟩:=by
      unfold beginD;simp only [B2];rw [h1];simp only;rw [if_pos hin,Dl,C5 _ _ _ hn]
     have hOk:Ok s lim {y with out:=y.out++ [⟨s.getD p 0,0,[]⟩],frames:=y.frames+1} q:=⟨h3,h4,by rw [h2],by simp [hyo]; omega⟩
     have hins:=Kd s lim (fun x p=>R5.elem s lim d x p (some (q+n))) (q+n) (s.getD p 0) p x.out.length st
      (fun x' p' last hk hk2=>ih x' p' (⟨s.getD p 0,p,q+n,x.out.length,last⟩::st) hk hk2 (by simp only [List.length_cons]; omega))
      (q+n - q) {y with out:=y.out++ [⟨s.getD p 0,0,[]⟩],frames:=y.frames+1} q [] [] hOk
      (fun k hk=>by
       simp only [nos,List.map_cons,List.mem_cons]at hk;simp only [hyo,List.length_append,List.length_singleton];rcases hk with rfl | hk
       ·omega
       ·have:k<x.out.length:=hn k hk;omega) (Nat.le_add_right _ _) (Nat.le_refl _) (fun _=>rfl)
     unfold R5.inside;rw [hyo]at hins ⊢;cases hr2:R5.insideN s (fun x p=>R5.elem s lim d x p (some (q+n))) (s.getD p 0).toNat x.out.length (q+n) (q+n - q) {y with out:=x.out++ [⟨s.getD p 0,0,[]⟩],frames:=y.frames+1} q []with
     | mk o2 z=>
      rw [hr2]at hins;have h0:Runs (after s lim (beginD s lim ⟨p,st,bumps x.out (nos st.tail)⟩)) (fun m=>loopN s lim m ⟨q,⟨s.getD p 0,p,q+n,x.out.length,[]⟩::st,bumps (x.out++ [⟨s.getD p 0,0,[]⟩]) (nos st)⟩):=Runs.of fun m=>by rw [hb]; rfl
      cases o2 with
      | none=>exact h0.trans hins
      | some r=>
       obtain⟨j1,j2,j3,j4⟩:=hins;simp only [List.length_append,List.length_singleton]at j3;exact⟨⟨j2.ps,j2.pb,j2.taken,j2.out⟩,by show x.out.length<z.out.length; omega,by omega,fun v hv=>by have:=h8 v hv; omega,h0.trans j4⟩
    ·rw [if_neg hin];exact I2 hn h2 h3 h4 h5 h7 h8 h1 (by simpa using hin)
theorem MI(s:Bytes)(lim:Lim)(hm:lim.may=true):
  match R5.elem s lim lim.d.toNat R5.start 0 none with
  | (some q,y)=>q<=s.length/\(q:Int)<=lim.b/\∃m,run s lim m=some (.ok ⟨q,[],y.out⟩)
  | (none,y)=>∃m,run s lim m=some (.error (flt y)):=by
 have hmay:1<=lim.d/\1<=lim.i/\1<=lim.b:=by
  unfold Lim.may at hm;simp only [Bool.and_eq_true,decide_eq_true_eq]at hm;omega
 have h:=MH s lim lim.d.toNat R5.start 0 [] ⟨Nat.zero_le _,by omega,rfl,by show((0:Nat):Int)<=lim.i; omega⟩ (fun n hn=>by simp [nos]at hn) (by show((0+lim.d.toNat:Nat):Int)=lim.d; omega);have h':ElemD s lim R5.start 0 [] (R5.elem s lim lim.d.toNat R5.start 0 none):=h;cases hr:R5.elem s lim lim.d.toNat R5.start 0 none with
 | mk o y=>
  rw [hr]at h';cases o with
  | none=>
   obtain⟨n,h'⟩:=h';exact⟨n,h' 0⟩
  | some q=>
   obtain⟨k,_,_,_,n,h'⟩:=h';exact⟨k.ps,k.pb,n+1,h' 1⟩
end Go.Px.D5
