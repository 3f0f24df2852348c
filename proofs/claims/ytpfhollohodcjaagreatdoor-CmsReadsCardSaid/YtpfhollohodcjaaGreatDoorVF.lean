import Derived.Test.YtpfhollohodcjaaGreatDoorVA
namespace Go.Px.E5
def beN:Nat->Nat->Bytes->Bytes
 | 0,_,s=>s
 | m+1,n,s=>if n=0 then s else beN m (n / 256) (UInt8.ofNat (n % 256)::s)
def lenB(n:Nat):Bytes:=if n<128 then [UInt8.ofNat n]else UInt8.ofNat (128+(beN 8 n []).length)::beN 8 n []
def wrap(t:UInt8)(b:Bytes):Bytes:=t::(lenB b.length++b)
def leaf(a:Node):Bool:=decide (a.kids<0)
def count(a:Node):Nat:=a.kids.toNat
def right(a:Node):Bool:=R5.tagE a.tag.toNat==0 && decide (-1<=a.kids) && (R5.inner a.tag.toNat== !leaf a) && (if leaf a then R5.body a.tag.toNat a.body else a.body.isEmpty)
def dec:List Nat->List Nat
 | []=> []
 | n::r=>(n - 1)::r
def pops:List Nat->List Nat
 | []=> []
 | n::r=>if n=0 then pops r else n::r
def shape:Bool->List Node->List Nat->Nat->Option (Nat×List Nat)
 | _,[],left,most=>some (most,left)
 | first,a::r,left,most=>
  if(!first && left.isEmpty)|| !right a then none
  else if leaf a then shape false r (pops (dec left)) most
  else shape false r (pops (count a::dec left)) (max most (left.length+1))
def behind:List Node->List Nat->Nat->Nat->Option Nat×Nat
 | [],_,most,_=>(none,most)
 | a::r,left,most,i=>
  if a.kids< -1 then(none,most)
  else
   let left2:=if leaf a then dec left else count a::dec left
   if(pops left2).isEmpty then(some (i+1),max most left2.length)else behind r (pops left2) (max most left2.length) (i+1)
def Kids(R:List Node->Bytes->Bool->Prop)(set:Bool):Nat->Bytes->List Node->Bytes->Bool->Prop
 | 0,_,l,b,o=>l=[]/\b=[]/\o=false
 | m+1,last,l,b,o=>∃x r bx br o1 o2,l=x++r/\b=bx++br/\R x bx o1/\Kids R set m bx r br o2/\o=(o1 || (set && Op.bytesLess bx last)|| o2)
def El:Nat->List Node->Bytes->Bool->Prop
 | 0,l,b,o=>∃a,l=[a]/\right a=true/\leaf a=true/\b=wrap a.tag a.body/\o=false
 | d+1,l,b,o=>(∃a,l=[a]/\right a=true/\leaf a=true/\b=wrap a.tag a.body/\o=false)\/
   (∃a r br,l=a::r/\right a=true/\leaf a=false/\Kids (El d) (a.tag.toNat==49) (count a) [] r br o/\b=wrap a.tag br)
theorem Kids.mono{R R':List Node->Bytes->Bool->Prop}(h:∀l b o,R l b o->R' l b o){set:Bool}:∀ {m last l b o},Kids R set m last l b o->Kids R' set m last l b o
 | 0,_,_,_,_,k=>k
 | _+1,_,_,_,_,⟨x,r,bx,br,o1,o2,e,e2,h1,h2,h3⟩=>⟨x,r,bx,br,o1,o2,e,e2,h _ _ _ h1,Kids.mono h h2,h3⟩
theorem El.succ:∀ {d l b o},El d l b o->El (d+1) l b o
 | 0,_,_,_,h=> .inl h
 | _+1,_,_,_,.inl h=> .inl h
 | _+1,_,_,_,.inr ⟨a,r,br,e,h1,h2,h3,h4⟩=> .inr ⟨a,r,br,e,h1,h2,h3.mono fun _ _ _ h=>El.succ h,h4⟩
theorem El.mono{d e:Nat}(hd:d<=e){l:List Node}{b:Bytes}{o:Bool}(h:El d l b o):El e l b o:=by
 induction hd with
 | refl=>exact h
 | step _ ih=>exact ih.succ
theorem El.pos{d:Nat}{l:List Node}{b:Bytes}{o:Bool}(h:El d l b o):1<=l.length:=by
 cases d with
 | zero=>obtain⟨a,rfl,_⟩:=h; exact Nat.le_refl _
 | succ d=>
  rcases h with ⟨a,rfl,_⟩| ⟨a,r,br,rfl,_⟩
  ·exact Nat.le_refl _
  ·simp
theorem El.all:∀ {d l b o},El d l b o->∀a∈l,right a=true
 | 0,_,_,_,⟨a,e,h,_⟩=>by subst e; intro b hb; rw [List.mem_singleton.1 hb]; exact h
 | d+1,_,_,_,.inl ⟨a,e,h,_⟩=>by subst e; intro b hb; rw [List.mem_singleton.1 hb]; exact h
 | d+1,_,_,_,.inr ⟨a,r,br,e,h,_,hk,_⟩=>by
  subst e;have inner:∀(m:Nat) (last:Bytes) (set:Bool) (l:List Node) (b:Bytes) (o:Bool),Kids (El d) set m last l b o->∀a∈l,right a=true:=by
   intro m
   induction m with
   | zero=>intro last set l b o k; obtain⟨rfl,_⟩:=k; intro a ha; cases ha
   | succ m ih=>
    intro last set l b o ⟨x,r,bx,br,o1,o2,e,_,h1,h2,_⟩;subst e;intro a ha;rcases List.mem_append.1 ha with ha | ha
    ·exact El.all h1 a ha
    ·exact ih _ _ _ _ _ h2 a ha
  intro b hb;rcases List.mem_cons.1 hb with rfl | hb
  ·exact h
  ·exact inner _ _ _ _ _ _ hk b hb
theorem El.node{d:Nat}{a:Node}{r:List Node}{br:Bytes}{o:Bool}(h1:right a=true)(h2:leaf a=false)(h3:Kids (El d) (a.tag.toNat==49) (count a) [] r br o):El (d+1) (a::r) (wrap a.tag br) o:= .inr ⟨a,r,br,rfl,h1,h2,h3,rfl⟩
theorem El.one{d:Nat}{a:Node}(h1:right a=true)(h2:leaf a=true):El d [a] (wrap a.tag a.body) false:=by
 cases d with
 | zero=>exact⟨a,rfl,h1,h2,rfl,rfl⟩
 | succ d=>exact .inl ⟨a,rfl,h1,h2,rfl,rfl⟩
def RowsN(R:List Node->Bytes->Bool->Prop):Nat->List Node->Prop
 | 0,l=>l=[]
 | n+1,l=>∃x r b o,l=x++r/\R x b o/\RowsN R n r
theorem RowsN.kids{R:List Node->Bytes->Bool->Prop}(set:Bool):∀ {n l},RowsN R n l->∀last,∃b o,Kids R set n last l b o
 | 0,_,h=>fun _=>⟨[],false,h,rfl,rfl⟩
 | n+1,_,⟨x,r,b,o,e,h1,h2⟩=>fun last=>by
  obtain⟨b2,o2,k⟩:=RowsN.kids set h2 b;exact⟨_,_,x,r,b,b2,o,o2,e,rfl,h1,k,rfl⟩
def Stk(D:Nat):List Nat->List Node->Prop
 | [],l=>l=[]
 | c::rest,l=>∃l1 l2,l=l1++l2/\RowsN (El (D - (rest.length+1))) c l1/\Stk D rest l2
theorem Stk.pops{D:Nat}:∀ {st l},Stk D (E5.pops st) l->Stk D st l
 | [],_,h=>h
 | n::r,l,h=>by
  unfold E5.pops at h;by_cases hn:n=0
  ·rw [if_pos hn]at h;subst hn;exact⟨[],l,rfl,rfl,Stk.pops h⟩
  ·rw [if_neg hn]at h;exact h
theorem Do:∀(st:List Nat),pops st=[]\/∃n r,pops st=(n+1)::r
 | []=> .inl rfl
 | n::r=>by
  unfold pops;by_cases hn:n=0
  ·rw [if_pos hn]; exact Do r
  ·rw [if_neg hn]; exact .inr ⟨n - 1,r,by rw [Nat.sub_add_cancel (by omega)]⟩
theorem BH:∀(st:List Nat),(pops st).length<=st.length
 | []=>Nat.le_refl _
 | n::r=>by
  unfold pops;by_cases hn:n=0
  ·rw [if_pos hn]; have:=BH r; simp; omega
  ·rw [if_neg hn]; exact Nat.le_refl _
theorem CQ:∀(l:List Node) (f:Bool) (left:List Nat) (most m:Nat) (e:List Nat),shape f l left most=some (m,e)->most<=m
 | [],f,left,most,m,e,h=>by unfold shape at h; simp only [Option.some.injEq,Prod.mk.injEq]at h; omega
 | a::r,f,left,most,m,e,h=>by
  unfold shape at h
  split at h
  ·cases h
  ·split at h
   ·exact CQ r _ _ _ _ _ h
   ·have:=CQ r _ _ _ _ _ h; omega
theorem C0(D:Nat):∀(l:List Node) (left:List Nat) (most m:Nat),shape false l left most=some (m,[])->m<=D->left.length<=D->(left=[]\/∃n r,left=(n+1)::r)->Stk D left l
 | [],left,most,m,h,_,_,_=>by
  unfold shape at h;simp only [Option.some.injEq,Prod.mk.injEq]at h;rw [h.2];exact rfl
 | a::r,left,most,m,h,hm,hl,hp=>by
  unfold shape at h;by_cases hc:(!false && left.isEmpty || !right a)=true
  ·rw [if_pos hc]at h; cases h
  ·rw [if_neg hc]at h;have hc2:left.isEmpty=false/\right a=true:=by
    simpa using hc
   obtain⟨hne,hra⟩:=hc2;rcases hp with rfl | ⟨n,rest,rfl⟩
   ·cases hne
   ·simp only [List.length_cons]at hl;have hdec:dec ((n+1)::rest)=n::rest:=rfl;rw [hdec]at h;cases hlf:leaf a
    ·rw [hlf,if_neg (by simp)]at h;have hmm:=CQ _ _ _ _ _ _ h;have:=BH (count a::n::rest);simp only [List.length_cons]at this hmm;have ih:=(C0 D r _ _ m h hm (by omega) (Do _)).pops;obtain⟨l1,l2,rfl,h1,h2⟩:=ih;obtain⟨l3,l4,rfl,h3,h4⟩:=h2;obtain⟨b,o,hko⟩:=h1.kids (a.tag.toNat==49) [];refine⟨a::l1++l3,l4,by simp,⟨a::l1,l3,wrap a.tag b,o,rfl,?_,h3⟩,h4⟩;have e1:D - (rest.length+1)=D - ((n::rest).length+1)+1:=by simp only [List.length_cons]; omega
     rw [e1];exact El.node hra hlf hko
    ·rw [hlf,if_pos rfl]at h;have:=BH (n::rest);simp only [List.length_cons]at this;have ih:=(C0 D r _ _ m h hm (by omega) (Do _)).pops;obtain⟨l1,l2,rfl,h1,h2⟩:=ih;exact⟨a::l1,l2,rfl,⟨[a],l1,_,false,rfl,El.one hra hlf,h1⟩,h2⟩
theorem Cy{D:Nat}{l:List Node}{m:Nat}(hn:l≠ [])(h:shape true l [] 0=some (m,[]))(hm:m<=D):∃b o,El D l b o:=by
 cases l with
 | nil=>exact absurd rfl hn
 | cons a r=>
  unfold shape at h;by_cases hc:(!true && ([]:List Nat).isEmpty || !right a)=true
  ·rw [if_pos hc]at h; cases h
  ·rw [if_neg hc]at h;have hra:right a=true:=by simpa using hc
   cases hlf:leaf a
   ·rw [hlf,if_neg (by simp)]at h;simp only [dec]at h;have hmm:=CQ _ _ _ _ _ _ h;have:=BH [count a];simp only [List.length_cons,List.length_nil]at this hmm;have ih:=(C0 D r _ _ m h hm (by omega) (Do _)).pops;obtain⟨l1,l2,rfl,h1,rfl⟩:=ih;obtain⟨b,o,hko⟩:=h1.kids (a.tag.toNat==49) [];rw [List.append_nil];refine⟨wrap a.tag b,o,?_⟩;have e1:D=D - (([]:List Nat).length+1)+1:=by simp only [List.length_nil]; omega
    rw [e1];exact El.node hra hlf hko
   ·rw [hlf,if_pos rfl]at h;simp only [dec,pops]at h;cases r with
    | nil=>exact⟨_,false,El.one hra hlf⟩
    | cons b t=>
     unfold shape at h;rw [if_pos (by simp)]at h;cases h
theorem Fi(d:Nat)(hR:∀x b o,El d x b o->∀r c rest most,∃m1,shape false (x++r) ((c+1)::rest) most=shape false r (pops (c::rest)) m1/\m1<=max most (rest.length+1+d))(set:Bool):
  ∀(n:Nat) (last:Bytes) (l:List Node) (b:Bytes) (o:Bool),Kids (El d) set n last l b o->∀r rest most,∃m1,shape false (l++r) (pops (n::rest)) most=shape false r (pops rest) m1/\m1<=max most (rest.length+1+d):=by
 intro n
 induction n with
 | zero=>
  intro last l b o h r rest most;obtain⟨rfl,_⟩:=h;exact⟨most,rfl,by omega⟩
 | succ n ih=>
  intro last l b o ⟨x,t,bx,br,o1,o2,e,_,h1,h2,_⟩ r rest most;subst e;obtain⟨m1,e1,l1⟩:=hR x bx o1 h1 (t++r) n rest most;obtain⟨m2,e2,l2⟩:=ih _ _ _ _ h2 r rest m1;refine⟨m2,?_,by omega⟩;rw [List.append_assoc];have hp:pops ((n+1)::rest)=(n+1)::rest:=rfl;rw [hp,e1,e2]
theorem LC:∀(d:Nat) (x:List Node) (b:Bytes) (o:Bool),El d x b o->∀r c rest most,∃m1,shape false (x++r) ((c+1)::rest) most=shape false r (pops (c::rest)) m1/\m1<=max most (rest.length+1+d):=by
 have one:∀(d:Nat) (a:Node),right a=true->leaf a=true->∀r c rest most,∃m1,shape false ([a]++r) ((c+1)::rest) most=shape false r (pops (c::rest)) m1/\m1<=max most (rest.length+1+d):=by
  intro d a h1 h2 r c rest most;refine⟨most,?_,by omega⟩;show shape false (a::r) ((c+1)::rest) most=_;rw [shape,if_neg (by simp [h1]),if_pos h2];rfl
 intro d
 induction d with
 | zero=>
  intro x b o h;obtain⟨a,rfl,h1,h2,_⟩:=h;exact one 0 a h1 h2
 | succ d ih=>
  intro x b o h;rcases h with ⟨a,rfl,h1,h2,_⟩| ⟨a,t,br,rfl,h1,h2,h3,_⟩
  ·exact one (d+1) a h1 h2
  ·intro r c rest most;obtain⟨m1,e1,l1⟩:=Fi d ih (a.tag.toNat==49) (count a) [] t br o h3 r (c::rest) (max most (((c+1)::rest).length+1));refine⟨m1,?_,by simp only [List.length_cons]at l1; omega⟩;show shape false (a::(t++r)) ((c+1)::rest) most=_;rw [shape,if_neg (by simp [h1]),if_neg (by rw [h2]; simp)];exact e1
theorem Cz{d:Nat}{l:List Node}{b:Bytes}{o:Bool}(h:El d l b o):∃m,shape true l [] 0=some (m,[])/\m<=d/\l≠ []:=by
 have one:∀(a:Node),right a=true->leaf a=true->shape true [a] [] 0=some (0,[]):=by
  intro a h1 h2;unfold shape;rw [if_neg (by simp [h1]),if_pos h2];rfl
 cases d with
 | zero=>
  obtain⟨a,rfl,h1,h2,_⟩:=h;exact⟨0,one a h1 h2,Nat.le_refl _,by simp⟩
 | succ d=>
  rcases h with ⟨a,rfl,h1,h2,_⟩| ⟨a,t,br,rfl,h1,h2,h3,_⟩
  ·exact⟨0,one a h1 h2,Nat.zero_le _,by simp⟩
  ·obtain⟨m1,e1,l1⟩:=Fi d (LC d) (a.tag.toNat==49) (count a) [] t br o h3 [] [] (max 0 (([]:List Nat).length+1));refine⟨m1,?_,by simp only [List.length_nil]at l1; omega,by simp⟩;rw [shape,if_neg (by simp [h1]),if_neg (by rw [h2]; simp)];rw [List.append_nil]at e1;exact e1
theorem Bl(l:List Nat):(dec l).length=l.length:=by cases l<;>rfl
theorem Ez{l:List Node}{most:Nat}(r:Nat×List Nat)(h:shape false l [] most=some r):l=[]:=by
 cases l with
 | nil=>rfl
 | cons a t=>unfold shape at h; rw [if_pos (by simp)]at h; cases h
theorem CA:∀(l:List Node) (f:Bool) (left:List Nat) (most:Nat) (r:Nat×List Nat),shape f l left most=some r->∀a∈l,right a=true
 | [],_,_,_,_,_=>fun _ h=>by cases h
 | a::t,f,left,most,r,h=>by
  unfold shape at h
  split at h
  ·cases h
  ·rename_i hc
   have hra:right a=true:=by
    simp only [Bool.or_eq_true,not_or,Bool.not_eq_true',Bool.not_eq_false]at hc;exact hc.2
   intro b hb;rcases List.mem_cons.1 hb with rfl | hb
   ·exact hra
   ·split at h
    ·exact CA t _ _ _ _ h b hb
    ·exact CA t _ _ _ _ h b hb
theorem Fj{a:Node}(h:right a=true): -1<=a.kids:=by
 unfold right at h;simp only [Bool.and_eq_true,decide_eq_true_eq]at h;exact h.1.1.2
theorem Ca:∀(l:List Node) (f:Bool) (left:List Nat) (most m i:Nat),shape f l left most=some (m,[])->l≠ []->left.length<=most->behind l left most i=(some (i+l.length),m)
 | [],_,_,_,_,_,_,hn,_=>absurd rfl hn
 | a::r,f,left,most,m,i,h,_,hlm=>by
  have hk:=Fj (CA _ _ _ _ _ h a (List.mem_cons_self ..));unfold shape at h;unfold behind
  split at h
  ·cases h
  ·rw [if_neg (by omega)];cases hlf:leaf a
   ·rw [hlf,if_neg (by simp)]at h;simp only [Bool.false_eq_true,if_false,List.length_cons,Bl];cases hp:pops (count a::dec left)with
    | nil=>
     rw [hp]at h;have hr:=Ez _ h;subst hr;rw [if_pos (by rfl)];unfold shape at h;simp only [Option.some.injEq,Prod.mk.injEq]at h;rw [<-h.1];rfl
    | cons c t=>
     rw [hp]at h;rw [if_neg (by simp)];have hr:r≠ []:=by
      rintro rfl;unfold shape at h;simp at h
     have hlen:=BH (count a::dec left);rw [hp]at hlen;simp only [List.length_cons,Bl]at hlen;rw [Ca r false _ _ m (i+1) h hr (by simp only [List.length_cons]; omega)];rw [show i+1+r.length=i+(r.length+1) by omega]
   ·rw [hlf,if_pos rfl]at h;simp only [if_true,Bl];have hmx:max most left.length=most:=by omega
    rw [hmx];cases hp:pops (dec left)with
    | nil=>
     rw [hp]at h;have hr:=Ez _ h;subst hr;rw [if_pos (by rfl)];unfold shape at h;simp only [Option.some.injEq,Prod.mk.injEq]at h;rw [<-h.1];rfl
    | cons c t=>
     rw [hp]at h;rw [if_neg (by simp)];have hr:r≠ []:=by
      rintro rfl;unfold shape at h;simp at h
     have hlen:=BH (dec left);rw [hp,Bl]at hlen;rw [Ca r false _ _ m (i+1) h hr (by omega)];rw [show i+1+r.length=i+(r.length+1) by omega,List.length_cons]
theorem Cb:∀(l:List Node) (f:Bool) (left:List Nat) (most m i:Nat),behind l left most i=(some (i+l.length),m)->(∀a∈l,right a=true)->(f=true\/left≠ [])->left.length<=most->shape f l left most=some (m,[])
 | [],_,_,_,_,_,h,_,_,_=>by unfold behind at h; simp at h
 | a::r,f,left,most,m,i,h,hra,hf,hlm=>by
  unfold behind at h;unfold shape;have ha:=hra a (by simp);have hrr:∀b∈r,right b=true:=fun b hb=>hra b (by simp [hb])
  have hcond:¬((!f && left.isEmpty || !right a)=true):=by
   rw [ha];rcases hf with rfl | hf
   ·simp
   ·simp [hf]
  rw [if_neg hcond]
  split at h
  ·simp at h
  ·simp only at h;cases hlf:leaf a
   ·rw [hlf]at h;simp only [Bool.false_eq_true,if_false,List.length_cons,Bl]at h ⊢;cases hp:pops (count a::dec left)with
    | nil=>
     rw [hp]at h;rw [if_pos (by rfl)]at h;simp only [Prod.mk.injEq,Option.some.injEq]at h;have hr:r=[]:=List.length_eq_zero_iff.1 (by omega);subst hr;rw [<-h.2];rfl
    | cons c t=>
     rw [hp]at h;rw [if_neg (by simp)]at h;have hlen:=BH (count a::dec left);rw [hp]at hlen;simp only [List.length_cons,Bl]at hlen;exact Cb r false _ _ m (i+1) (by rw [show i+1+r.length=i+(r.length+1) by omega]; exact h) hrr (.inr (by simp)) (by simp only [List.length_cons]; omega)
   ·rw [hlf]at h;simp only [if_true,Bl,List.length_cons]at h ⊢;have hmx:max most left.length=most:=by omega
    rw [hmx]at h;cases hp:pops (dec left)with
    | nil=>
     rw [hp]at h;rw [if_pos (by rfl)]at h;simp only [Prod.mk.injEq,Option.some.injEq]at h;have hr:r=[]:=List.length_eq_zero_iff.1 (by omega);subst hr;rw [<-h.2];rfl
    | cons c t=>
     rw [hp]at h;rw [if_neg (by simp)]at h;have hlen:=BH (dec left);rw [hp,Bl]at hlen;exact Cb r false _ _ m (i+1) (by rw [show i+1+r.length=i+(r.length+1) by omega]; exact h) hrr (.inr (by simp)) (by omega)
end Go.Px.E5
namespace Go.Px.E5
open R5 (St bump inner tagE)
theorem B3{s t:Bytes}{p:Nat}{c:UInt8}(h:s.drop p=c::t):p<s.length/\s.getD p 0=c/\s.drop (p+1)=t:=by
 have hp:p<s.length:=by
  by_cases hp:p<s.length
  ·exact hp
  ·rw [List.drop_eq_nil_of_le (by omega)]at h; cases h
 rw [List.drop_eq_getElem_cons hp,List.cons.injEq]at h;refine⟨hp,?_,h.2⟩;rw [List.getD_eq_getElem?_getD,List.getElem?_eq_getElem hp];exact h.1
theorem EO{s a t:Bytes}{p:Nat}(h:s.drop p=a++t):s.drop (p+a.length)=t:=by
 rw [<-List.drop_drop,h,List.drop_left]
theorem EP{s a t:Bytes}{p:Nat}(h:s.drop p=a++t)(hp:p<=s.length):p+a.length<=s.length:=by
 have:=congrArg List.length h;rw [List.length_drop,List.length_append]at this;omega
theorem DU{s a t:Bytes}{p:Nat}(h:s.drop p=a++t):(s.take (p+a.length)).drop p=a:=by
 rw [List.drop_take,h,Nat.add_sub_cancel_left,List.take_left]
def val:Bytes->Nat->Nat
 | [],a=>a
 | c::r,a=>val r (256*a+c.toNat)
theorem CB{n:Nat}(h:n<256):(UInt8.ofNat n).toNat=n:=by
 rw [UInt8.toNat_ofNat'];exact Nat.mod_eq_of_lt h
theorem GZ(m:Nat)(s:Bytes):beN m 0 s=s:=by
 cases m with
 | zero=>rfl
 | succ m=>unfold beN; rw [if_pos rfl]
theorem I6:∀(m n:Nat) (s:Bytes),n<256 ^ m->val (beN m n s) 0=val s n
 | 0,n,s,h=>by
  have:n=0:=by simpa using h
  rw [this]; rfl
 | m+1,n,s,h=>by
  unfold beN;by_cases hn:n=0
  ·rw [if_pos hn,hn]
  ·rw [if_neg hn,I6 m (n / 256) _ (by rw [Nat.pow_succ]at h; omega)];show val s (256*(n / 256)+(UInt8.ofNat (n % 256)).toNat)=val s n;rw [CB (by omega),show 256*(n / 256)+n % 256=n by omega]
theorem G0:∀(m n:Nat) (s:Bytes),n<256 ^ m->n≠0->∃c r,beN m n s=c::r/\c.toNat≠0
 | 0,n,s,h,hn=>absurd (by simpa using h) hn
 | m+1,n,s,h,hn=>by
  unfold beN;rw [if_neg hn];by_cases hd:n / 256=0
  ·rw [hd,GZ];exact⟨_,s,rfl,by rw [CB (by omega)]; omega⟩
  ·exact G0 m (n / 256) _ (by rw [Nat.pow_succ]at h; omega) hd
theorem Ei:∀(m n k:Nat) (s:Bytes),n<256 ^ k->(beN m n s).length<=s.length+k
 | 0,n,k,s,_=>Nat.le_add_right _ _
 | m+1,n,k,s,h=>by
  unfold beN;by_cases hn:n=0
  ·rw [if_pos hn]; exact Nat.le_add_right _ _
  ·rw [if_neg hn];cases k with
   | zero=>exact absurd (by simpa using h) hn
   | succ k=>
    have:=Ei m (n / 256) k (UInt8.ofNat (n % 256)::s) (by rw [Nat.pow_succ]at h; omega);simp only [List.length_cons]at this;omega
theorem Cc{s:Bytes}{lim:Lim}{x:St}{p:Nat}(h1:p<s.length)(h2:(p:Int)<lim.b)(ht:x.taken<=p):R5.want s lim x p=(true,{x with taken:=p+1}):=by
 unfold R5.want;rw [if_pos ⟨h1,h2⟩];unfold R5.take;rw [Nat.max_eq_right (by omega)]
theorem Fk(s:Bytes)(lim:Lim):∀(l:Bytes) (x:St) (p:Nat) (first:Bool) (a:Nat) (t:Bytes),s.drop p=l++t->((p+l.length:Nat):Int)<=lim.b->x.taken=p->(first=true->∀c r,l=c::r->c.toNat≠0)->
  R5.lenN s lim l.length x p first a=(some (val l a),{x with taken:=p+l.length})
 | [],x,p,first,a,t,_,_,ht,_=>by
  show(some a,x)=_;rw [List.length_nil,Nat.add_zero,<-ht];rfl
 | c::r,x,p,first,a,t,h,hb,ht,hf=>by
  obtain⟨h1,h2,h3⟩:=B3 h;simp only [List.length_cons]at hb;show R5.lenN s lim (r.length+1) x p first a=_
  unfold R5.lenN;rw [Cc h1 (by omega) (Nat.le_of_eq ht)];simp only;have hz:¬(first && (s.getD p 0).toNat==0)=true:=by
   rw [h2];intro hh;simp only [Bool.and_eq_true,beq_iff_eq]at hh;exact hf hh.1 c r rfl hh.2
  rw [if_neg hz,Fk s lim r {x with taken:=p+1} (p+1) false _ t h3 (by omega) rfl (fun e=>by cases e),h2];show(some (val r (256*a+c.toNat)),{x with taken:=p+1+r.length})=_;rw [List.length_cons,show p+1+r.length=p+(r.length+1) by omega];rfl
theorem LD(n:Nat):1<=(lenB n).length:=by
 unfold lenB
 split
 ·exact Nat.le_refl _
 ·simp
theorem G1{s t:Bytes}{lim:Lim}{x:St}{p n:Nat}(hn:n<4294967296)(h:s.drop p=lenB n++t)(hb:((p+(lenB n).length:Nat):Int)<=lim.b)(ht:x.taken=p):
  R5.length s lim x p=(some (n,p+(lenB n).length),{x with taken:=p+(lenB n).length}):=by
 unfold R5.length;unfold lenB at h hb ⊢;by_cases h8:n<128
 ·rw [if_pos h8]at h hb ⊢;obtain⟨h1,h2,_⟩:=B3 h;simp only [List.length_singleton]at hb ⊢;rw [Cc h1 (by omega) (Nat.le_of_eq ht)];simp only;rw [h2,CB (by omega),if_pos h8]
 ·rw [if_neg h8]at h hb ⊢;obtain⟨c,r,hc,hc0⟩:=G0 8 n [] (by omega) (by omega);have hl:(beN 8 n []).length<=0+4:=Ei 8 n 4 [] (by omega);have hl1:1<=(beN 8 n []).length:=by rw [hc]; simp
  have hv:val (beN 8 n []) 0=n:=I6 8 n [] (by omega);generalize beN 8 n []=L at h hb hc hl hl1 hv ⊢;obtain⟨h1,h2,h3⟩:=B3 h;simp only [List.length_cons]at hb ⊢;rw [Cc h1 (by omega) (Nat.le_of_eq ht)];simp only;have hby:(s.getD p 0).toNat=128+L.length:=by rw [h2,CB (by omega)]
  obtain⟨w,hw⟩:∃w,w=(s.getD p 0).toNat:=⟨_,rfl⟩
  rw [<-hw]at hby ⊢;have hm:w % 128=L.length:=by omega
  rw [if_neg (by omega),if_neg (by omega),hm,Fk s lim L {x with taken:=p+1} (p+1) true 0 t h3 (by omega) rfl (fun _ c' r' e=>by rw [hc]at e; simp only [List.cons.injEq]at e; rw [<-e.1]; exact hc0)];simp only;rw [hv,if_neg h8,show p+1+L.length=p+(L.length+1) by omega]
theorem Fl {s t:Bytes} {lim:Lim} {x:St} {p n:Nat} {room:Bool} {c:UInt8} {e:Option Nat} (hn:n<4294967296) (h:s.drop p=c::(lenB n++t)) (hb:((p+1+(lenB n).length:Nat):Int)<=lim.b) (ht:x.taken=p)
  (ho:(x.out.length:Int)<lim.i) (hg:tagE c.toNat=0) (hr:inner c.toNat=true->room=true) (he:∀v,e=some v->p+1+(lenB n).length+n<=v):
  R5.head s lim room x p e=(some (n,p+1+(lenB n).length),{x with taken:=p+1+(lenB n).length}):=by
 obtain⟨h1,h2,h3⟩:=B3 h;unfold R5.head;rw [Cc h1 (by omega) (Nat.le_of_eq ht)];simp only;have hrm:¬(inner c.toNat && !room)=true:=by
  intro hh;simp only [Bool.and_eq_true,Bool.not_eq_true']at hh;rw [hr hh.1]at hh;exact absurd hh.2 (by decide)
 rw [h2,if_neg (by omega),if_neg (by rw [hg]; decide),if_neg hrm,G1 hn h3 hb rfl];simp only;have hen:¬(e.any (fun v=>decide (v<p+1+(lenB n).length+n)))=true:=by
  cases e with
  | none=>simp
  | some v=>simp only [Option.any_some,decide_eq_true_eq]; have:=he v rfl; omega
 rw [if_neg hen]
def Reads(x:St)(p:Nat)(l:List Node)(b:Bytes)(o:Bool)(res:Option Nat×St):Prop:=
 match o with
 | false=>res=(some (p+b.length),{x with out:=x.out++l,taken:=p+b.length})
 | true=>∃y,res=(none,y)/\y.err=9
def bumpN(l:List Node)(i:Nat):Nat->List Node
 | 0=>l
 | n+1=>bumpN (bump l i) i n
theorem DV:∀(l:List Node) (a:Node),bump (l++ [a]) l.length=l++ [{a with kids:=a.kids+1}]
 | [],a=>rfl
 | b::l,a=>by
  have:=DV l a;unfold bump at*;simp only [List.cons_append,List.length_cons,List.modify_succ_cons,this]
theorem Dp(l:List Node):∀(n:Nat) (a:Node),bumpN (l++ [a]) l.length n=l++ [{a with kids:=a.kids+n}]
 | 0,a=>by
  show l++ [a]=_;rw [show a.kids+((0:Nat):Int)=a.kids by omega]
 | n+1,a=>by
  unfold bumpN;rw [DV,Dp l n];simp only;rw [show a.kids+1+(n:Int)=a.kids+((n+1:Nat):Int) by omega]
theorem DW(i:Nat):∀(k:Nat) (u v:List Node),i<u.length->bumpN (u++v) i k=bumpN u i k++v
 | 0,_,_,_=>rfl
 | k+1,u,v,hu=>by
  unfold bumpN;rw [D5.Ck _ _ _ hu,DW i k _ _ (by rw [D5.Ba]; exact hu)]
def ElR(s:Bytes)(lim:Lim)(d:Nat):Prop:=
 ∀(x:St) (p:Nat) (l:List Node) (b:Bytes) (o:Bool) (t:Bytes) (e:Option Nat),El d l b o->x.taken=p->p<=s.length->s.drop p=b++t->((x.out.length+l.length:Nat):Int)<=lim.i->((p+b.length:Nat):Int)<=lim.b->
  (∀v,e=some v->p+b.length<=v)->Reads x p l b o (R5.elem s lim d x p e)
theorem Cp(t:UInt8)(b:Bytes):(wrap t b).length=1+(lenB b.length).length+b.length:=by
 unfold wrap;rw [List.length_cons,List.length_append];omega
theorem El.bytes{d:Nat}{l:List Node}{b:Bytes}{o:Bool}(h:El d l b o):2<=b.length:=by
 have w:∀t (b:Bytes),2<=(wrap t b).length:=fun t b=>by have:=LD b.length; rw [Cp]; omega
 cases d with
 | zero=>obtain⟨a,_,_,_,rfl,_⟩:=h; exact w _ _
 | succ d=>
  rcases h with ⟨a,_,_,_,rfl,_⟩| ⟨a,r,br,_,_,_,_,rfl⟩
  ·exact w _ _
  ·exact w _ _
theorem G2{s:Bytes}{lim:Lim}{d:Nat}(hR:ElR s lim d)(tg me:Nat)(e:Nat):
  ∀(n:Nat) (last:Bytes) (l:List Node) (b:Bytes) (o:Bool) (x:St) (p m:Nat) (t:Bytes),Kids (El d) (tg==49) n last l b o->x.taken=p->p<=s.length->s.drop p=b++t->((x.out.length+l.length:Nat):Int)<=lim.i->((p+b.length:Nat):Int)<=lim.b->
   e=p+b.length->e - p<=m->me<x.out.length->
   (match o with
    | false=>R5.insideN s (fun x p=>R5.elem s lim d x p (some e)) tg me e m x p last=(some e,{x with out:=bumpN x.out me n++l,taken:=e})
    | true=>∃y,R5.insideN s (fun x p=>R5.elem s lim d x p (some e)) tg me e m x p last=(none,y)/\y.err=9):=by
 intro n
 induction n with
 | zero=>
  intro last l b o x p m t h ht hp hs hi hb he hm hme;obtain⟨rfl,rfl,rfl⟩:=h;simp only [List.length_nil,Nat.add_zero]at he;subst he;have hx:({x with out:=bumpN x.out me 0++ [],taken:=e}:St)=x:=by
   rw [<-ht];show({x with out:=x.out++ [],taken:=x.taken}:St)=x;rw [List.append_nil]
  show R5.insideN s _ tg me e m x e last=_;rw [hx];cases m with
  | zero=>rfl
  | succ m=>unfold R5.insideN; rw [if_neg (Nat.lt_irrefl e)]
 | succ n ih=>
  intro last l b o x p m t h ht hp hs hi hb he hm hme;obtain⟨lx,lr,bx,br,o1,o2,rfl,rfl,h1,h2,rfl⟩:=h;simp only [List.length_append]at hi hb he;have hbx:=h1.bytes;rw [List.append_assoc]at hs;have hq:=hR x p lx bx o1 (br++t) (some e) h1 ht hp hs (by omega) (by omega) (fun v hv=>by simp only [Option.some.injEq]at hv; omega);cases m with
  | zero=>omega
  | succ m=>
   unfold R5.insideN;rw [if_pos (by omega)];cases o1 with
   | true=>
    obtain⟨y,hy,hy9⟩:=hq;simp only [Bool.true_or];rw [hy];exact⟨y,rfl,hy9⟩
   | false=>
    have hq':R5.elem s lim d x p (some e)=(some (p+bx.length),{x with out:=x.out++lx,taken:=p+bx.length}):=hq;rw [hq'];simp only [Bool.false_or];rw [DU hs];by_cases hk:(tg==49 && Op.bytesLess bx last)=true
    ·rw [if_pos hk,hk];exact⟨_,rfl,rfl⟩
    ·rw [if_neg hk];simp only [Bool.not_eq_true]at hk;rw [hk,Bool.false_or];have hbu:bump (x.out++lx) me=bump x.out me++lx:=D5.Ck _ _ _ hme;have:=ih bx lr br o2 {x with out:=bump (x.out++lx) me,taken:=p+bx.length} (p+bx.length) m t h2 rfl (EP hs hp) (EO hs)
      (by simp only [D5.Ba,List.length_append]; omega) (by omega) (by omega) (by omega) (by simp only [D5.Ba,List.length_append]; omega)
     cases o2 with
     | true=>exact this
     | false=>
      refine this.trans ?_;simp only;rw [hbu,DW me n _ _ (by rw [D5.Ba]; exact hme),List.append_assoc];rfl
theorem Dq{a:Node}(h:right a=true):inner a.tag.toNat= !leaf a/\tagE a.tag.toNat=0/\(leaf a=true->R5.body a.tag.toNat a.body=true/\a.kids= -1)/\(leaf a=false->a.body=[]/\a.kids=(count a:Nat)):=by
 unfold right at h;simp only [Bool.and_eq_true,decide_eq_true_eq,beq_iff_eq]at h;obtain⟨⟨⟨h1,h2⟩,h3⟩,h4⟩:=h;refine⟨h3,h1,fun hl=>?_,fun hl=>?_⟩
 ·rw [if_pos hl]at h4;unfold leaf at hl;simp only [decide_eq_true_eq]at hl;exact⟨h4,by omega⟩
 ·rw [hl,if_neg (by simp)]at h4;unfold leaf at hl;simp only [decide_eq_false_iff_not]at hl;exact⟨by simpa using h4,by unfold count; omega⟩
theorem Fo {s t:Bytes} {lim:Lim} {x:St} {p:Nat} {a:Node} {e:Option Nat} (d:Nat) (hL:lim.b<=262144) (h1:right a=true) (h2:leaf a=true) (ht:x.taken=p) (hp:p<=s.length) (hs:s.drop p=wrap a.tag a.body++t) (hi:((x.out.length+1:Nat):Int)<=lim.i)
  (hb:((p+(wrap a.tag a.body).length:Nat):Int)<=lim.b) (he:∀v,e=some v->p+(wrap a.tag a.body).length<=v):Reads x p [a] (wrap a.tag a.body) false (R5.elem s lim d x p e):=by
 obtain⟨g1,g2,g3,_⟩:=Dq h1;obtain⟨g4,g5⟩:=g3 h2;have hin:inner a.tag.toNat=false:=by rw [g1,h2]; rfl
 have hlen:=EP hs hp;have hpart:=DU hs;rw [Cp]at hb he hlen;have hs1:s.drop p=a.tag::(lenB a.body.length++(a.body++t)):=by rw [hs]; unfold wrap; rw [List.cons_append,List.append_assoc]
 obtain⟨k1,k2,k3⟩:=B3 hs1;have k4:=EO k3;have hh:=fun room=>Fl (room:=room) (x:=x) (lim:=lim) (e:=e) (show a.body.length<4294967296 by omega) hs1 (by omega) ht (by omega) g2 (fun h=>by rw [hin]at h; cases h) (fun v hv=>by have:=he v hv; omega)
 have hlf:R5.leaf s lim {x with taken:=p+1+(lenB a.body.length).length} a.tag p (p+1+(lenB a.body.length).length) a.body.length=(some (p+(wrap a.tag a.body).length),{x with out:=x.out++ [a],taken:=p+(wrap a.tag a.body).length}):=by
  have hw:(if a.body.length=0 then(true,({x with taken:=p+1+(lenB a.body.length).length}:St))else R5.want s lim {x with taken:=p+1+(lenB a.body.length).length} (p+1+(lenB a.body.length).length+a.body.length - 1))=(true,{x with taken:=p+(wrap a.tag a.body).length}):=by
   rw [Cp];by_cases h0:a.body.length=0
   ·rw [if_pos h0,show p+(1+(lenB a.body.length).length+a.body.length)=p+1+(lenB a.body.length).length by omega]
   ·rw [if_neg h0,Cc (by omega) (by omega) (by show p+1+(lenB a.body.length).length<=_; omega)];simp only;rw [show p+1+(lenB a.body.length).length+a.body.length - 1+1=p+(1+(lenB a.body.length).length+a.body.length) by omega]
  unfold R5.leaf;rw [hw];simp only;rw [DU k4,if_pos g4,Cp,<-g5,show p+1+(lenB a.body.length).length+a.body.length=p+(1+(lenB a.body.length).length+a.body.length) by omega]
 show _=_;cases d with
 | zero=>
  unfold R5.elem;rw [hh false];simp only;rw [k2,hlf]
 | succ d=>
  unfold R5.elem;rw [hh true];simp only;rw [k2,if_neg (by rw [hin]; simp),hlf]
theorem JE(s:Bytes)(lim:Lim)(hL:lim.b<=262144):∀d,ElR s lim d:=by
 intro d
 induction d with
 | zero=>
  intro x p l b o t e h ht hp hs hi hb he;obtain⟨a,rfl,h1,h2,rfl,rfl⟩:=h;exact Fo 0 hL h1 h2 ht hp hs hi hb he
 | succ d ih=>
  intro x p l b o t e h ht hp hs hi hb he;rcases h with ⟨a,rfl,h1,h2,rfl,rfl⟩| ⟨a,r,br,rfl,h1,h2,h3,rfl⟩
  ·exact Fo (d+1) hL h1 h2 ht hp hs hi hb he
  ·obtain⟨g1,g2,_,g3⟩:=Dq h1;obtain⟨g4,g5⟩:=g3 h2;have hin:inner a.tag.toNat=true:=by rw [g1,h2]; rfl
   have hlen:=EP hs hp;rw [Cp]at hb he hlen;have hs1:s.drop p=a.tag::(lenB br.length++(br++t)):=by rw [hs]; unfold wrap; rw [List.cons_append,List.append_assoc]
   obtain⟨k1,k2,k3⟩:=B3 hs1;have k4:=EO k3;simp only [List.length_cons]at hi;have hh:=Fl (room:=true) (x:=x) (lim:=lim) (e:=e) (show br.length<4294967296 by omega) hs1 (by omega) ht (by omega) g2 (fun _=>rfl) (fun v hv=>by have:=he v hv; omega);unfold R5.elem;rw [hh];simp only;rw [k2,if_pos hin];unfold R5.inside;have hi2:=G2 ih a.tag.toNat x.out.length (p+1+(lenB br.length).length+br.length) (count a) [] r br o {x with out:=x.out++ [⟨a.tag,0,[]⟩],taken:=p+1+(lenB br.length).length,frames:=x.frames+1} (p+1+(lenB br.length).length)
    (p+1+(lenB br.length).length+br.length - (p+1+(lenB br.length).length)) t h3 rfl (by omega) k4 (by simp only [List.length_append,List.length_singleton]; omega) (by omega) rfl (Nat.le_refl _) (by simp only [List.length_append,List.length_singleton]; omega)
   cases o with
   | true=>
    obtain⟨y,hy,hy9⟩:=hi2;simp only at hy ⊢;rw [hy];exact⟨y,rfl,hy9⟩
   | false=>
    simp only at hi2 ⊢;rw [hi2];show _=_;simp only;have ha:(⟨a.tag,0+(count a:Nat),[]⟩:Node)=a:=by
     rw [show(0:Int)+(count a:Nat)=(count a:Nat) by omega,<-g5,<-g4]
    rw [Dp,ha,Cp,List.append_assoc,show p+1+(lenB br.length).length+br.length=p+(1+(lenB br.length).length+br.length) by omega];rfl
end Go.Px.E5
namespace Go.Px.E5
open R5 (St bump inner tagE)
open D5 (Ok)
theorem BQ(s:Bytes)(p:Nat):(s.take p).drop p=[]:=List.drop_eq_nil_of_le (by rw [List.length_take]; omega)
theorem BR{s:Bytes}{p q:Nat}(h:p<s.length)(hq:p<q):(s.take q).drop p=s.getD p 0::(s.take q).drop (p+1):=by
 rw [List.drop_eq_getElem_cons (by rw [List.length_take]; omega),List.getElem_take,List.getD_eq_getElem?_getD,List.getElem?_eq_getElem h];rfl
theorem Dr{s:Bytes}{p q r:Nat}(h1:p<=q)(h2:q<=r):(s.take r).drop p=(s.take q).drop p++(s.take r).drop q:=by
 have e:(s.take r).drop q=((s.take r).drop p).drop (q - p):=by rw [List.drop_drop]; congr 1; omega
 have e2:(s.take q).drop p=((s.take r).drop p).take (q - p):=by
  rw [List.drop_take,List.drop_take,List.take_take]; congr 1; omega
 rw [e,e2,List.take_append_drop]
theorem Ds{s:Bytes}{p q:Nat}(h:q<=s.length):((s.take q).drop p).length=q - p:=by
 rw [List.length_drop,List.length_take];omega
theorem Kn:∀(l:Bytes) (a:Nat),a<=val l a
 | [],a=>Nat.le_refl a
 | c::r,a=>by
  have:=Kn r (256*a+c.toNat);show a<=val r (256*a+c.toNat);omega
theorem I7:∀(l:Bytes) (c:UInt8) (a:Nat),val (l++ [c]) a=256*val l a+c.toNat
 | [],_,_=>rfl
 | d::r,c,a=>I7 r c (256*a+d.toNat)
theorem Ko:∀(m:Nat) (L s:Bytes),L.length<=m->(∀c r,L=c::r->c.toNat≠0)->beN m (val L 0) s=L++s
 | 0,L,s,h,_=>by
  have:L=[]:=List.length_eq_zero_iff.1 (by omega);subst this;rfl
 | m+1,L,s,h,hc=>by
  rcases List.eq_nil_or_concat L with rfl | ⟨L',c,e⟩
  ·exact GZ _ _
  ·rw [List.concat_eq_append]at e;subst e;have hnz:val (L'++ [c]) 0≠0:=by
    cases L' with
    | nil=>
     have:=hc c [] rfl;show 256*0+c.toNat≠0;omega
    | cons c' r'=>
     have h1:=hc c' (r'++ [c]) rfl;have h2:=Kn (r'++ [c]) (256*0+c'.toNat);show val (r'++ [c]) (256*0+c'.toNat)≠0;omega
   have hlt:c.toNat<256:=c.toNat_lt;unfold beN;rw [if_neg hnz,I7];have e1:(256*val L' 0+c.toNat) / 256=val L' 0:=by omega
   have e2:(256*val L' 0+c.toNat) % 256=c.toNat:=by omega
   rw [e1,e2,UInt8.ofNat_toNat,Ko m L' (c::s) (by rw [List.length_append,List.length_singleton]at h; omega) (fun c' r' e=>hc c' (r'++ [c]) (by rw [e]; rfl)),List.append_assoc];rfl
theorem Fp(s:Bytes)(lim:Lim):∀(m:Nat) (x y:St) (p:Nat) (first:Bool) (a v:Nat),R5.lenN s lim m x p first a=(some v,y)->x.taken=p->p<=s.length->(p:Int)<=lim.b->
  v=val ((s.take (p+m)).drop p) a/\(first=true->∀c r,(s.take (p+m)).drop p=c::r->c.toNat≠0)
 | 0,x,y,p,first,a,v,h,_,_,_=>by
  unfold R5.lenN at h;simp only [Prod.mk.injEq,Option.some.injEq]at h;rw [Nat.add_zero,BQ];exact⟨h.1.symm,fun _ c r e=>by cases e⟩
 | m+1,x,y,p,first,a,v,h,ht,hp,hb=>by
  unfold R5.lenN at h;cases hw:R5.want s lim x p with
  | mk b z=>
   rw [hw]at h;cases b with
   | false=>simp at h
   | true=>
    obtain⟨_,k2,k3,k4⟩:=D5.BE hw (Nat.le_of_eq ht);simp only at h;by_cases hz:(first && (s.getD p 0).toNat==0)=true
    ·rw [if_pos hz]at h; simp at h
    ·rw [if_neg hz]at h;have ih:=Fp s lim m z y (p+1) false _ v h (by rw [k4]) k2 (by omega);rw [BR k2 (show p<p+(m+1) by omega),show p+(m+1)=p+1+m by omega];refine⟨ih.1,fun hf c r e=>?_⟩;simp only [List.cons.injEq]at e;rw [<-e.1];rw [hf,Bool.true_and]at hz;simpa using hz
theorem G3{s:Bytes}{lim:Lim}{x y:St}{p n q:Nat}(h:R5.length s lim x p=(some (n,q),y))(ht:x.taken=p):(s.take q).drop p=lenB n:=by
 have hq:=D5.CH (s:=s) (lim:=lim) (x:=x) (p:=p) ht;rw [h]at hq;obtain⟨_,_,hq1,hq2,hq3,_⟩:=hq;unfold R5.length at h;cases hw:R5.want s lim x p with
 | mk b z=>
  rw [hw]at h;cases b with
  | false=>simp at h
  | true=>
   obtain⟨_,k2,k3,k4⟩:=D5.BE hw (Nat.le_of_eq ht);simp only at h;unfold lenB;by_cases h8:(s.getD p 0).toNat<128
   ·rw [if_pos h8]at h;simp only [Prod.mk.injEq,Option.some.injEq]at h;rw [<-h.1.1,<-h.1.2,if_pos h8,BR k2 (Nat.lt_succ_self p),BQ,UInt8.ofNat_toNat]
   ·rw [if_neg h8]at h;obtain⟨w,hwd⟩:∃w,w=(s.getD p 0).toNat:=⟨_,rfl⟩
    rw [<-hwd]at h h8;have hw256:w<256:=by rw [hwd]; exact(s.getD p 0).toNat_lt
    by_cases hk:w=128\/132<w
    ·rw [if_pos hk]at h; simp at h
    ·rw [if_neg hk]at h;cases hl:R5.lenN s lim (w % 128) z (p+1) true 0 with
     | mk o u=>
      rw [hl]at h;cases o with
      | none=>simp at h
      | some v=>
       simp only at h;by_cases hv:v<128
       ·rw [if_pos hv]at h; simp at h
       ·rw [if_neg hv]at h;simp only [Prod.mk.injEq,Option.some.injEq]at h;obtain⟨⟨rfl,rfl⟩,_⟩:=h;obtain⟨j1,j2⟩:=Fp s lim (w % 128) z u (p+1) true 0 v hl (by rw [k4]) k2 (by omega);have hL:=Ko 8 ((s.take (p+1+w % 128)).drop (p+1)) [] (by rw [Ds hq1]; omega) (j2 rfl);rw [<-j1,List.append_nil]at hL;rw [if_neg hv,BR k2 (by omega),hL,Ds hq1];have e:UInt8.ofNat (128+(p+1+w % 128 - (p+1)))=s.getD p 0:=by
         rw [show 128+(p+1+w % 128 - (p+1))=w by omega,hwd,UInt8.ofNat_toNat]
        rw [e]
theorem Dt{s:Bytes}{lim:Lim}{room:Bool}{x y:St}{p n q:Nat}{e:Option Nat}(h:R5.head s lim room x p e=(some (n,q),y))(ht:x.taken=p):(s.take q).drop p=s.getD p 0::lenB n:=by
 unfold R5.head at h;cases hw:R5.want s lim x p with
 | mk b z=>
  rw [hw]at h;cases b with
  | false=>simp at h
  | true=>
   obtain⟨_,k2,k3,k4⟩:=D5.BE hw (Nat.le_of_eq ht);simp only at h
   split at h
   ·simp at h
   ·split at h
    ·simp at h
    ·split at h
     ·simp at h
     ·cases hl:R5.length s lim z (p+1)with
      | mk o u=>
       rw [hl]at h;cases o with
       | none=>simp at h
       | some v=>
        obtain⟨n',q'⟩:=v;simp only at h
        split at h
        ·simp at h
        ·simp only [Prod.mk.injEq,Option.some.injEq]at h;obtain⟨⟨rfl,rfl⟩,_⟩:=h;have hz:z.taken=p+1:=by rw [k4]
         have hq:=D5.CH (s:=s) (lim:=lim) (x:=z) (p:=p+1) hz;rw [hl]at hq;obtain⟨_,_,_,_,hq3,_⟩:=hq;rw [BR k2 (by omega),G3 hl hz]
theorem Cd{s:Bytes}{lim:Lim}{room:Bool}{x y:St}{p n q:Nat}{e:Option Nat}(hok:Ok s lim x p)(h:R5.head s lim room x p e=(some (n,q),y)):
  y= {x with taken:=q}/\q<=s.length/\(q:Int)<=lim.b/\p+1<q/\(x.out.length:Int)<lim.i/\(∀v,e=some v->q+n<=v)/\tagE (s.getD p 0).toNat=0/\(inner (s.getD p 0).toNat=true->room=true):=by
 unfold R5.head at h;cases hw:R5.want s lim x p with
 | mk b z=>
  rw [hw]at h;cases b with
  | false=>simp at h
  | true=>
   obtain⟨_,k2,k3,k4⟩:=D5.BE hw (Nat.le_of_eq hok.taken);have hzo:z.out=x.out:=by rw [k4]
   simp only at h
   split at h
   ·simp at h
   ·rename_i g1
    split at h
    ·simp at h
    ·rename_i g2
     split at h
     ·simp at h
     ·rename_i g3
      have hz:z.taken=p+1:=by rw [k4]
      have hq:=D5.CH (s:=s) (lim:=lim) (x:=z) (p:=p+1) hz;cases hl:R5.length s lim z (p+1)with
      | mk o u=>
       rw [hl]at h hq;cases o with
       | none=>simp at h
       | some v=>
        obtain⟨n',q'⟩:=v;simp only at h
        split at h
        ·simp at h
        ·rename_i g4
         simp only [Prod.mk.injEq,Option.some.injEq]at h;obtain⟨⟨rfl,rfl⟩,rfl⟩:=h;obtain⟨_,j2,j3,j4,j5,_⟩:=hq;refine⟨by rw [j2,k4],j3,j4,j5,by rw [hzo]at g1; omega,?_,Decidable.not_not.1 g2,?_⟩
         ·intro v hv;rw [hv]at g4;simp only [Option.any_some,decide_eq_true_eq]at g4;omega
         ·intro hi;rw [hi]at g3;simpa using g3
structure Snd (s:Bytes) (lim:Lim) (d:Nat) (x y:St) (p q:Nat) (e:Option Nat) (l:List Node):Prop where
 el:El d l ((s.take q).drop p) false
 out:y.out=x.out++l
 lt:p<q
 ok:Ok s lim y q
 le:∀v,e=some v->q<=v
 err:y.err=x.err
 place:y.place=x.place
def ElS(s:Bytes)(lim:Lim)(d:Nat):Prop:=∀(x y:St) (p q:Nat) (e:Option Nat),Ok s lim x p->R5.elem s lim d x p e=(some q,y)->∃l,Snd s lim d x y p q e l
theorem G4{s:Bytes}{lim:Lim}{d:Nat}(hR:ElS s lim d)(tg me e:Nat):
  ∀(m:Nat) (x y:St) (p q:Nat) (last:Bytes),Ok s lim x p->p<=e->e - p<=m->me<x.out.length->R5.insideN s (fun x p=>R5.elem s lim d x p (some e)) tg me e m x p last=(some q,y)->
   q=e/\∃n l,Kids (El d) (tg==49) n last l ((s.take e).drop p) false/\y.out=bumpN x.out me n++l/\Ok s lim y e/\y.err=x.err/\y.place=x.place:=by
 intro m
 induction m with
 | zero=>
  intro x y p q last hok hp hm hme h;unfold R5.insideN at h;simp only [Prod.mk.injEq,Option.some.injEq]at h;obtain⟨rfl,rfl⟩:=h;have:p=e:=by omega
  subst this;exact⟨rfl,0,[],⟨rfl,BQ _ _,rfl⟩,(List.append_nil _).symm,hok,rfl,rfl⟩
 | succ m ih=>
  intro x y p q last hok hp hm hme h;unfold R5.insideN at h;by_cases hpe:p<e
  ·rw [if_pos hpe]at h;simp only at h;cases hr:R5.elem s lim d x p (some e)with
   | mk o y1=>
    rw [hr]at h;cases o with
    | none=>simp at h
    | some q1=>
     simp only at h;obtain⟨lx,hs⟩:=hR x y1 p q1 (some e) hok hr;have hq1:=hs.le e rfl;by_cases hk:(tg==49 && Op.bytesLess ((s.take q1).drop p) last)=true
     ·rw [if_pos hk]at h; simp at h
     ·rw [if_neg hk]at h;simp only [Bool.not_eq_true]at hk;have hlt:=hs.lt;have hlen:me<y1.out.length:=by rw [hs.out,List.length_append]; omega
      obtain⟨rfl,n,l,k1,k2,k3,k4,k5⟩:=ih {y1 with out:=bump y1.out me} y q1 q _ ⟨hs.ok.ps,hs.ok.pb,hs.ok.taken,by simp only [D5.Ba]; exact hs.ok.out⟩ hq1 (by omega) (by simp only [D5.Ba]; exact hlen) h;refine⟨rfl,n+1,lx++l,⟨lx,l,_,_,false,false,rfl,Dr (by omega) hq1,hs.el,k1,by rw [hk]; rfl⟩,?_,k3,k4.trans hs.err,k5.trans hs.place⟩;rw [k2];show bumpN (bump y1.out me) me n++l=bumpN (bump x.out me) me n++(lx++l)
      rw [hs.out,D5.Ck _ _ _ hme,DW _ _ _ _ (by rw [D5.Ba]; exact hme),List.append_assoc]
  ·rw [if_neg hpe]at h;simp only [Prod.mk.injEq,Option.some.injEq]at h;obtain⟨rfl,rfl⟩:=h;have:p=e:=by omega
   subst this;exact⟨rfl,0,[],⟨rfl,BQ _ _,rfl⟩,(List.append_nil _).symm,hok,rfl,rfl⟩
theorem Fq {s:Bytes} {lim:Lim} {x y z:St} {p q n r:Nat} {e:Option Nat} (d:Nat) (hy:y= {x with taken:=q}) (hq1:q<=s.length) (hq2:(q:Int)<=lim.b) (hpq:p+1<q) (hlt:(x.out.length:Int)<lim.i)
  (he:∀v,e=some v->q+n<=v) (hb:(s.take q).drop p=s.getD p 0::lenB n) (hg:tagE (s.getD p 0).toNat=0) (hin:inner (s.getD p 0).toNat=false) (h:R5.leaf s lim y (s.getD p 0) p q n=(some r,z)):∃l,Snd s lim d x z p r e l:=by
 unfold R5.leaf at h;have key:∀u:St,(if n=0 then(true,y)else R5.want s lim y (q+n - 1))=(true,u)->u= {x with taken:=q+n}/\q+n<=s.length/\((q+n:Nat):Int)<=lim.b:=by
  intro u hu;by_cases h0:n=0
  ·rw [if_pos h0]at hu;simp only [Prod.mk.injEq,true_and]at hu;rw [<-hu,hy,h0];exact⟨rfl,hq1,hq2⟩
  ·rw [if_neg h0]at hu;obtain⟨_,k2,k3,k4⟩:=D5.BE hu (by rw [hy]; show q<=_; omega);exact⟨by rw [k4,hy]; show({x with taken:=q+n - 1+1}:St)=_; rw [show q+n - 1+1=q+n by omega],by omega,by omega⟩
 cases hw:(if n=0 then(true,y)else R5.want s lim y (q+n - 1))with
 | mk b u=>
  rw [hw]at h;cases b with
  | false=>simp at h
  | true=>
   obtain⟨k1,k2,k3⟩:=key u hw;simp only at h
   split at h
   ·rename_i hbd
    simp only [Prod.mk.injEq,Option.some.injEq]at h;obtain⟨rfl,rfl⟩:=h;have hbl:((s.take (q+n)).drop q).length=n:=by rw [Ds k2]; omega
    have hwr:(s.take (q+n)).drop p=wrap (s.getD p 0) ((s.take (q+n)).drop q):=by
     rw [Dr (show p<=q by omega) (show q<=q+n by omega),hb];unfold wrap;rw [hbl];rfl
    refine⟨[⟨s.getD p 0,-1,(s.take (q+n)).drop q⟩],?_,?_,by omega,⟨k2,k3,by rw [k1],?_⟩,he,by rw [k1],by rw [k1]⟩
    ·rw [hwr];refine El.one (a:=⟨s.getD p 0,-1,(s.take (q+n)).drop q⟩) ?_ rfl;unfold right;simp only;rw [hg,hin,show leaf ⟨s.getD p 0,-1,(s.take (q+n)).drop q⟩=true from rfl,if_pos rfl,hbd];rfl
    ·simp only [k1]
    ·simp only [k1,List.length_append,List.length_singleton];omega
   ·simp at h
theorem Ce(s:Bytes)(lim:Lim):∀d,ElS s lim d:=by
 intro d
 induction d with
 | zero=>
  intro x y p q e hok h;unfold R5.elem at h;cases hr:R5.head s lim false x p e with
  | mk o z=>
   rw [hr]at h;cases o with
   | none=>simp at h
   | some t=>
    obtain⟨n,q1⟩:=t;simp only at h;obtain⟨h2,h3,h4,h5,h7,h8,h9,h10⟩:=Cd hok hr;refine Fq 0 h2 h3 h4 h5 h7 h8 (Dt hr hok.taken) h9 ?_ h;cases hi:inner (s.getD p 0).toNat with
    | false=>rfl
    | true=>exact absurd (h10 hi) (by decide)
 | succ d ih=>
  intro x y p q e hok h;unfold R5.elem at h;cases hr:R5.head s lim true x p e with
  | mk o z=>
   rw [hr]at h;cases o with
   | none=>simp at h
   | some t=>
    obtain⟨n,q1⟩:=t;simp only at h;obtain⟨h2,h3,h4,h5,h7,h8,h9,h10⟩:=Cd hok hr;by_cases hin:inner (s.getD p 0).toNat=true
    ·rw [if_pos hin]at h;unfold R5.inside at h;have hzo:z.out=x.out:=by rw [h2]
     cases hi:R5.insideN s (fun x p=>R5.elem s lim d x p (some (q1+n))) (s.getD p 0).toNat z.out.length (q1+n) (q1+n - q1) {z with out:=z.out++ [⟨s.getD p 0,0,[]⟩],frames:=z.frames+1} q1 []with
     | mk o2 u=>
      rw [hi]at h;cases o2 with
      | none=>simp at h
      | some r=>
       simp only [Prod.mk.injEq,Option.some.injEq]at h;obtain⟨rfl,rfl⟩:=h;obtain⟨rfl,m,l,k1,k2,k3,k4,k5⟩:=G4 ih _ _ _ _ _ _ _ _ _ ⟨h3,h4,by rw [h2],by simp only [hzo,List.length_append,List.length_singleton]; omega⟩ (by omega) (Nat.le_refl _) (by simp) hi;have hbl:((s.take (q1+n)).drop q1).length=n:=by rw [Ds k3.ps]; omega
       have hwr:(s.take (q1+n)).drop p=wrap (s.getD p 0) ((s.take (q1+n)).drop q1):=by
        rw [Dr (show p<=q1 by omega) (show q1<=q1+n by omega),Dt hr hok.taken];unfold wrap;rw [hbl];rfl
       refine⟨⟨s.getD p 0,(m:Nat),[]⟩::l,?_,?_,by omega,⟨k3.ps,k3.pb,k3.taken,k3.out⟩,h8,k4.trans (by rw [h2]),k5.trans (by rw [h2])⟩
       ·rw [hwr];refine El.node (a:=⟨s.getD p 0,(m:Nat),[]⟩) ?_ ?_ ?_
        ·unfold right;have hlf:leaf ⟨s.getD p 0,(m:Nat),[]⟩=false:=by unfold leaf; exact df (by simp only; omega)
         simp only;rw [h9,hin,hlf,dt (by omega)];rfl
        ·unfold leaf; exact df (by simp only; omega)
        ·exact k1
       ·show u.out=_;rw [k2];show bumpN (z.out++ [⟨s.getD p 0,0,[]⟩]) z.out.length m++l=_;rw [Dp,hzo,List.append_assoc];simp only;rw [show(0:Int)+(m:Nat)=(m:Nat) by omega];rfl
    ·rw [if_neg hin]at h;exact Fq (d+1) h2 h3 h4 h5 h7 h8 (Dt hr hok.taken) h9 (by simpa using hin) h
theorem BX{s:Bytes}{lim:Lim}{x y:St}{p:Nat}(h:R5.want s lim x p=(false,y)):y.err≠0:=by
 unfold R5.want at h
 split at h
 ·simp at h
 ·split at h<;>(simp only [Prod.mk.injEq,true_and]at h; subst h; simp [R5.fault])
theorem G5(s:Bytes)(lim:Lim):∀(m:Nat) (x y:St) (p:Nat) (first:Bool) (a:Nat),R5.lenN s lim m x p first a=(none,y)->y.err≠0
 | 0,x,y,p,first,a,h=>by unfold R5.lenN at h; simp at h
 | m+1,x,y,p,first,a,h=>by
  unfold R5.lenN at h;cases hw:R5.want s lim x p with
  | mk b z=>
   rw [hw]at h;cases b with
   | false=>simp only [Prod.mk.injEq,true_and]at h; rw [<-h]; exact BX hw
   | true=>
    simp only at h
    split at h
    ·simp only [Prod.mk.injEq,true_and]at h; rw [<-h]; simp [R5.fault]
    ·exact G5 s lim m _ y _ _ _ h
theorem JF{s:Bytes}{lim:Lim}{x y:St}{p:Nat}(h:R5.length s lim x p=(none,y)):y.err≠0:=by
 unfold R5.length at h;cases hw:R5.want s lim x p with
 | mk b z=>
  rw [hw]at h;cases b with
  | false=>simp only [Prod.mk.injEq,true_and]at h; rw [<-h]; exact BX hw
  | true=>
   simp only at h
   split at h
   ·simp at h
   ·split at h
    ·simp only [Prod.mk.injEq,true_and]at h; rw [<-h]; simp [R5.fault]
    ·cases hl:R5.lenN s lim ((s.getD p 0).toNat % 128) z (p+1) true 0 with
     | mk o u=>
      rw [hl]at h;cases o with
      | none=>simp only [Prod.mk.injEq,true_and]at h; rw [<-h]; exact G5 _ _ _ _ _ _ _ _ hl
      | some v=>
       simp only at h
       split at h
       ·simp only [Prod.mk.injEq,true_and]at h; rw [<-h]; simp [R5.fault]
       ·simp at h
theorem G6{s:Bytes}{lim:Lim}{room:Bool}{x y:St}{p:Nat}{e:Option Nat}(h:R5.head s lim room x p e=(none,y)):y.err≠0:=by
 unfold R5.head at h;cases hw:R5.want s lim x p with
 | mk b z=>
  rw [hw]at h;cases b with
  | false=>simp only [Prod.mk.injEq,true_and]at h; rw [<-h]; exact BX hw
  | true=>
   simp only at h
   split at h
   ·simp only [Prod.mk.injEq,true_and]at h; rw [<-h]; simp [R5.fault]
   ·split at h
    ·rename_i hg
     simp only [Prod.mk.injEq,true_and]at h; rw [<-h]; exact hg
    ·split at h
     ·simp only [Prod.mk.injEq,true_and]at h; rw [<-h]; simp [R5.fault]
     ·cases hl:R5.length s lim z (p+1)with
      | mk o u=>
       rw [hl]at h;cases o with
       | none=>simp only [Prod.mk.injEq,true_and]at h; rw [<-h]; exact JF hl
       | some v=>
        obtain⟨n',q'⟩:=v;simp only at h
        split at h
        ·simp only [Prod.mk.injEq,true_and]at h; rw [<-h]; simp [R5.fault]
        ·simp at h
theorem G7{s:Bytes}{lim:Lim}{x y:St}{t:UInt8}{p q n:Nat}(h:R5.leaf s lim x t p q n=(none,y)):y.err≠0:=by
 unfold R5.leaf at h;cases hw:(if n=0 then(true,x)else R5.want s lim x (q+n - 1))with
 | mk b u=>
  rw [hw]at h;cases b with
  | false=>
   simp only [Prod.mk.injEq,true_and]at h;rw [<-h]
   split at hw
   ·simp at hw
   ·exact BX hw
  | true=>
   simp only at h
   split at h
   ·simp at h
   ·simp only [Prod.mk.injEq,true_and]at h; rw [<-h]; simp [R5.fault]
theorem Fs{s:Bytes}{rc:St->Nat->Option Nat×St}(hR:∀x p y,rc x p=(none,y)->y.err≠0)(tg me e:Nat):∀(m:Nat) (x y:St) (p:Nat) (last:Bytes),R5.insideN s rc tg me e m x p last=(none,y)->y.err≠0
 | 0,x,y,p,last,h=>by unfold R5.insideN at h; simp at h
 | m+1,x,y,p,last,h=>by
  unfold R5.insideN at h
  split at h
  ·cases hr:rc x p with
   | mk o z=>
    rw [hr]at h;cases o with
    | none=>simp only [Prod.mk.injEq,true_and]at h; rw [<-h]; exact hR _ _ _ hr
    | some q=>
     simp only at h
     split at h
     ·simp only [Prod.mk.injEq,true_and]at h; rw [<-h]; simp [R5.fault]
     ·exact Fs hR tg me e m _ y _ _ h
  ·simp at h
theorem EQ(s:Bytes)(lim:Lim):∀(d:Nat) (x y:St) (p:Nat) (e:Option Nat),R5.elem s lim d x p e=(none,y)->y.err≠0:=by
 intro d
 induction d with
 | zero=>
  intro x y p e h;unfold R5.elem at h;cases hr:R5.head s lim false x p e with
  | mk o z=>
   rw [hr]at h;cases o with
   | none=>simp only [Prod.mk.injEq,true_and]at h; rw [<-h]; exact G6 hr
   | some t=>exact G7 h
 | succ d ih=>
  intro x y p e h;unfold R5.elem at h;cases hr:R5.head s lim true x p e with
  | mk o z=>
   rw [hr]at h;cases o with
   | none=>simp only [Prod.mk.injEq,true_and]at h; rw [<-h]; exact G6 hr
   | some t=>
    obtain⟨n,q⟩:=t;simp only at h
    split at h
    ·unfold R5.inside at h;cases hi:R5.insideN s (fun x p=>R5.elem s lim d x p (some (q+n))) (s.getD p 0).toNat z.out.length (q+n) (q+n - q) {z with out:=z.out++ [⟨s.getD p 0,0,[]⟩],frames:=z.frames+1} q []with
     | mk o2 u=>
      rw [hi]at h;cases o2 with
      | none=>simp only [Prod.mk.injEq,true_and]at h; rw [<-h]; exact Fs (fun x p y=>ih x y p _) _ _ _ _ _ _ _ _ hi
      | some r=>simp at h
    ·exact G7 h
theorem Aw{lim:Lim}(hm:lim.may=true):1<=lim.d/\lim.d<=32/\1<=lim.i/\lim.i<=4096/\1<=lim.b/\lim.b<=262144/\1<=lim.r/\lim.r<=4096:=by
 unfold Lim.may at hm;simp only [Bool.and_eq_true,decide_eq_true_eq]at hm;omega
theorem Du{s:Bytes}{lim:Lim}(hm:lim.may=true):Ok s lim R5.start 0:=by
 have hmay:=Aw hm;exact⟨Nat.zero_le _,by omega,rfl,by show((0:Nat):Int)<=lim.i; omega⟩
theorem decode_no{s:Bytes}{lim:Lim}(h:lim.may=false):R5.decode s lim=([],0,2):=by unfold R5.decode; rw [h]; rfl
theorem Cg{s:Bytes}{lim:Lim}(h:lim.may=true):R5.decode s lim=(R5.list (R5.read s lim),(R5.read s lim).place,(R5.read s lim).err):=by unfold R5.decode; rw [h]; rfl
theorem DX{l:List Node}{b:Bytes}{o:Bool}{lim:Lim}(hm:lim.may=true)(h:El lim.d.toNat l b o)(hi:(l.length:Int)<=lim.i)(hb:(b.length:Int)<=lim.b):
  if o then(R5.decode b lim).2.2=9 else R5.decode b lim=(l,0,0):=by
 have hmay:=Aw hm;have hr:=JE b lim (by omega) lim.d.toNat R5.start 0 l b o [] none h rfl (Nat.zero_le _) (List.append_nil _).symm (by show((0+l.length:Nat):Int)<=lim.i; omega) (by omega) (fun v hv=>by cases hv);rw [Cg hm];unfold R5.read;cases o with
 | true=>
  obtain⟨y,e1,e2⟩:=hr;rw [e1];exact e2
 | false=>
  have hr':R5.elem b lim lim.d.toNat R5.start 0 none=(some (0+b.length),{R5.start with out:=R5.start.out++l,taken:=0+b.length}):=hr;rw [hr'];simp only [Nat.zero_add,Nat.lt_irrefl,if_false];show(R5.list _,(0:Int),(0:Int))=_;unfold R5.list;simp [R5.start]
theorem BI{s:Bytes}{lim:Lim}(h:(R5.decode s lim).2.2=0):
  lim.may=true/\(R5.decode s lim).2.1=0/\El lim.d.toNat (R5.decode s lim).1 s false/\((R5.decode s lim).1.length:Int)<=lim.i/\(s.length:Int)<=lim.b/\
   ∃y,R5.elem s lim lim.d.toNat R5.start 0 none=(some s.length,y)/\y.out=(R5.decode s lim).1/\y.err=0/\y.place=0:=by
 cases hm:lim.may with
 | false=>rw [decode_no hm]at h; simp at h
 | true=>
  rw [Cg hm]at h ⊢;simp only at h;have hok:=Du (s:=s) hm;unfold R5.read at h ⊢;cases hr:R5.elem s lim lim.d.toNat R5.start 0 none with
  | mk o y=>
   rw [hr]at h;cases o with
   | none=>exact absurd h (EQ _ _ _ _ _ _ _ hr)
   | some q=>
    obtain⟨l,h2⟩:=Ce s lim lim.d.toNat R5.start y 0 q none hok hr;simp only at h ⊢;by_cases hlt:q<s.length
    ·rw [if_pos hlt]at h;exfalso;cases hw:R5.want s lim y q with
     | mk b z=>
      rw [hw]at h;cases b
      ·exact BX hw h
      ·simp [R5.fault]at h
    ·rw [if_neg hlt];have hq:q=s.length:=by have:=h2.ok.ps; omega
     subst hq;have hout:y.out=l:=h2.out;have he:y.err=0:=h2.err;have hl:R5.list y=l:=by unfold R5.list; rw [he]; simpa using hout
     have hp:y.place=0:=h2.place;simp only [hl];have hel:=h2.el;rw [List.take_length,List.drop_zero]at hel;have ho:=h2.ok.out;rw [hout]at ho;exact⟨trivial,hp,hel,ho,h2.ok.pb,y,rfl,hout,he,hp⟩
end Go.Px.E5
namespace Go.Px.E5
open R5 (St bump inner tagE)
structure Foll (s s':Bytes) (lim lim':Lim) (e:Nat) (Bad:St->Prop):Prop where
 byte:∀p,p<s'.length->s'.getD p 0=s.getD p 0
 part:∀p q,q<=s'.length->(s'.take q).drop p=(s.take q).drop p
 want:∀x p,R5.want s' lim' x p=R5.want s lim x p\/∃y,R5.want s' lim' x p=(false,y)/\Bad y
 items:∀(x:St) (p:Nat),lim'.i<=x.out.length->lim.i<=x.out.length\/Bad (R5.fault x p 10)
 less:∀x:St,lim.i<=x.out.length->lim'.i<=x.out.length
 deep:e≠0->∀(x:St) (p:Nat),Bad (R5.fault x p 10)
def Agree(s':Bytes)(Bad:St->Prop)(r' r:Option Nat×St):Prop:=
 (r'=r/\∀q y,r=(some q,y)->q<=s'.length)\/∃y,r'=(none,y)/\Bad y
section
variable {s s' : Bytes} {lim lim' : Lim} {e : Nat} {Bad : St -> Prop}
theorem Ej{x y:St}{p:Nat}(h:R5.want s' lim' x p=(true,y)):p<s'.length:=by
 unfold R5.want at h
 split at h
 ·rename_i hc; exact hc.1
 ·split at h<;>simp at h
theorem Gf(F:Foll s s' lim lim' e Bad):∀(m:Nat) (x:St) (p:Nat) (first:Bool) (n:Nat),p<=s'.length->
  (R5.lenN s' lim' m x p first n=R5.lenN s lim m x p first n/\∀v y,R5.lenN s lim m x p first n=(some v,y)->p+m<=s'.length)\/∃y,R5.lenN s' lim' m x p first n=(none,y)/\Bad y
 | 0,x,p,first,n,hp=> .inl ⟨rfl,fun _ _ _=>hp⟩
 | m+1,x,p,first,n,hp=>by
  unfold R5.lenN;rcases F.want x p with h | ⟨y,h,hb⟩
  ·rw [<-h];cases hw:R5.want s' lim' x p with
   | mk b z=>
    cases b
    ·exact .inl ⟨rfl,fun v y e=>by simp at e⟩
    ·have hl:=Ej hw;simp only;rw [F.byte p hl];by_cases hz:(first && (s.getD p 0).toNat==0)=true
     ·rw [if_pos hz,if_pos hz];exact .inl ⟨rfl,fun v y e=>by simp at e⟩
     ·rw [if_neg hz,if_neg hz];rcases Gf F m z (p+1) false (256*n+(s.getD p 0).toNat) hl with ⟨k1,k2⟩| k
      ·exact .inl ⟨k1,fun v y e=>by have:=k2 v y e; omega⟩
      ·exact .inr k
  ·rw [h];exact .inr ⟨y,rfl,hb⟩
theorem Ip(F:Foll s s' lim lim' e Bad)(x:St)(p:Nat):
  (R5.length s' lim' x p=R5.length s lim x p/\∀n q y,R5.length s lim x p=(some (n,q),y)->q<=s'.length)\/∃y,R5.length s' lim' x p=(none,y)/\Bad y:=by
 unfold R5.length;rcases F.want x p with h | ⟨y,h,hb⟩
 ·rw [<-h];cases hw:R5.want s' lim' x p with
  | mk b z=>
   cases b
   ·exact .inl ⟨rfl,fun n q y e=>by simp at e⟩
   ·have hl:=Ej hw;simp only;rw [F.byte p hl];by_cases h8:(s.getD p 0).toNat<128
    ·rw [if_pos h8,if_pos h8];exact .inl ⟨rfl,fun n q y e=>by simp only [Prod.mk.injEq,Option.some.injEq]at e; omega⟩
    ·rw [if_neg h8,if_neg h8];by_cases hk:(s.getD p 0).toNat=128\/132<(s.getD p 0).toNat
     ·rw [if_pos hk,if_pos hk];exact .inl ⟨rfl,fun n q y e=>by simp at e⟩
     ·rw [if_neg hk,if_neg hk];obtain⟨w,hwd⟩:∃w,w=(s.getD p 0).toNat % 128:=⟨_,rfl⟩
      rw [<-hwd];rcases Gf F w z (p+1) true 0 hl with ⟨k1,k2⟩| ⟨y,k,hb⟩
      ·rw [k1];cases hr:R5.lenN s lim w z (p+1) true 0 with
       | mk o u=>
        cases o with
        | none=>exact .inl ⟨rfl,fun n q y e=>by simp at e⟩
        | some v=>
         have:=k2 v u hr;simp only;by_cases hv:v<128
         ·rw [if_pos hv]; exact .inl ⟨trivial,fun n q y e=>by simp at e⟩
         ·rw [if_neg hv];exact .inl ⟨trivial,fun n q y e=>by simp only [Prod.mk.injEq,Option.some.injEq]at e; omega⟩
      ·rw [k];exact .inr ⟨y,rfl,hb⟩
 ·rw [h];exact .inr ⟨y,rfl,hb⟩
theorem Gg(F:Foll s s' lim lim' e Bad)(room' room:Bool)(hroom:room'=room\/(room'=false/\e≠0))(x:St)(p:Nat)(en:Option Nat):
  ((R5.head s' lim' room' x p en=R5.head s lim room x p en/\∀n q y,R5.head s lim room x p en=(some (n,q),y)->q<=s'.length/\p<s'.length/\(inner (s.getD p 0).toNat=true->room'=true)))\/∃y,R5.head s' lim' room' x p en=(none,y)/\Bad y:=by
 unfold R5.head;rcases F.want x p with h | ⟨y,h,hb⟩
 ·rw [<-h];cases hw:R5.want s' lim' x p with
  | mk b z=>
   cases b
   ·exact .inl ⟨rfl,fun n q y e=>by simp at e⟩
   ·have hl:=Ej hw;simp only;rw [F.byte p hl];by_cases hi:lim'.i<=z.out.length
    ·rw [if_pos hi];rcases F.items z p hi with hi2 | hb
     ·rw [if_pos hi2];exact .inl ⟨rfl,fun n q y e=>by simp at e⟩
     ·exact .inr ⟨_,rfl,hb⟩
    ·rw [if_neg hi,if_neg (fun h2=>hi (F.less z h2))];by_cases hg:tagE (s.getD p 0).toNat≠0
     ·rw [if_pos hg,if_pos hg];exact .inl ⟨rfl,fun n q y e=>by simp at e⟩
     ·rw [if_neg hg,if_neg hg];by_cases hf':(inner (s.getD p 0).toNat && !room')=true
      ·rw [if_pos hf'];rcases hroom with hroom | ⟨_,he⟩
       ·rw [hroom]at hf';rw [if_pos hf'];exact .inl ⟨rfl,fun n q y e=>by simp at e⟩
       ·exact .inr ⟨_,rfl,F.deep he z p⟩
      ·rw [if_neg hf'];have hf:¬(inner (s.getD p 0).toNat && !room)=true:=by
        intro hh;simp only [Bool.and_eq_true,Bool.not_eq_true']at hh hf';apply hf';refine⟨hh.1,?_⟩;rcases hroom with e1 | ⟨e1,_⟩
        ·rw [e1]; exact hh.2
        ·exact e1
       have hin:inner (s.getD p 0).toNat=true->room'=true:=by
        intro hh;rw [hh]at hf';simpa using hf'
       rw [if_neg hf];rcases Ip F z (p+1)with ⟨k1,k2⟩| ⟨y,k,hb⟩
       ·rw [k1];cases hr:R5.length s lim z (p+1)with
        | mk o u=>
         cases o with
         | none=>exact .inl ⟨rfl,fun n q y e=>by simp at e⟩
         | some v=>
          obtain⟨n',q'⟩:=v;have:=k2 n' q' u hr;simp only;by_cases hv:(en.any (fun v=>decide (v<q'+n')))=true
          ·rw [if_pos hv]; exact .inl ⟨trivial,fun n q y e=>by simp at e⟩
          ·rw [if_neg hv];refine .inl ⟨trivial,fun n q y e=>?_⟩;simp only [Prod.mk.injEq,Option.some.injEq]at e;exact⟨by omega,hl,hin⟩
       ·rw [k];exact .inr ⟨y,rfl,hb⟩
 ·rw [h];exact .inr ⟨y,rfl,hb⟩
theorem DY(F:Foll s s' lim lim' e Bad)(t:UInt8)(n:Nat)(x:St)(p at_:Nat)(ha:at_<=s'.length):Agree s' Bad (R5.leaf s' lim' x t p at_ n) (R5.leaf s lim x t p at_ n):=by
 have fin:∀y:St,at_+n<=s'.length->Agree s' Bad (if R5.body t.toNat ((s'.take (at_+n)).drop at_)then(some (at_+n),{y with out:=y.out++ [⟨t,-1,(s'.take (at_+n)).drop at_⟩]})else(none,R5.fault y p 9))
   (if R5.body t.toNat ((s.take (at_+n)).drop at_)then(some (at_+n),{y with out:=y.out++ [⟨t,-1,(s.take (at_+n)).drop at_⟩]})else(none,R5.fault y p 9)):=by
  intro y hl;rw [F.part at_ (at_+n) hl];refine .inl ⟨rfl,fun q y e=>?_⟩
  split at e
  ·simp only [Prod.mk.injEq,Option.some.injEq]at e;omega
  ·simp at e
 unfold R5.leaf;by_cases h0:n=0
 ·rw [if_pos h0,if_pos h0];exact fin x (by omega)
 ·rw [if_neg h0,if_neg h0];rcases F.want x (at_+n - 1)with h | ⟨y,h,hb⟩
  ·rw [<-h];cases hw:R5.want s' lim' x (at_+n - 1)with
   | mk b z=>
    cases b
    ·exact .inl ⟨rfl,fun q y e=>by simp at e⟩
    ·have hl:=Ej hw;exact fin z (by omega)
  ·rw [h];exact .inr ⟨y,rfl,hb⟩
theorem EA(F:Foll s s' lim lim' e Bad){rc rc':St->Nat->Option Nat×St}(hR:∀x p,Agree s' Bad (rc' x p) (rc x p))(tg me en:Nat):∀(m:Nat) (x:St) (p:Nat) (last:Bytes),p<=s'.length->Agree s' Bad (R5.insideN s' rc' tg me en m x p last) (R5.insideN s rc tg me en m x p last)
 | 0,x,p,last,hp=>by
  refine .inl ⟨rfl,fun q y h=>?_⟩;unfold R5.insideN at h;simp only [Prod.mk.injEq,Option.some.injEq]at h;omega
 | m+1,x,p,last,hp=>by
  unfold R5.insideN;by_cases hpe:p<en
  ·rw [if_pos hpe,if_pos hpe];rcases hR x p with ⟨h,h2⟩| ⟨y,h,hb⟩
   ·rw [h];cases hr:rc x p with
    | mk o z=>
     cases o with
     | none=>exact .inl ⟨rfl,fun q y e=>by simp at e⟩
     | some q=>
      have hq:=h2 q z hr;simp only;rw [F.part p q hq];by_cases hk:(tg==49 && Op.bytesLess ((s.take q).drop p) last)=true
      ·rw [if_pos hk,if_pos hk];exact .inl ⟨rfl,fun q y e=>by simp at e⟩
      ·rw [if_neg hk,if_neg hk];exact EA F hR tg me en m _ q _ hq
   ·rw [h];exact .inr ⟨y,rfl,hb⟩
  ·rw [if_neg hpe,if_neg hpe];refine .inl ⟨rfl,fun q y h=>?_⟩;simp only [Prod.mk.injEq,Option.some.injEq]at h;omega
theorem Kp(F:Foll s s' lim lim' e Bad):∀(d:Nat) (x:St) (p:Nat) (en:Option Nat),Agree s' Bad (R5.elem s' lim' d x p en) (R5.elem s lim (d+e) x p en):=by
 have unf:∀(s:Bytes) (lim:Lim) (d:Nat) (x:St) (p:Nat) (en:Option Nat),R5.elem s lim d x p en=(match R5.head s lim (decide (d≠0)) x p en with
  | (none,y)=>(none,y)
  | (some (n,q),y)=>(match d with
   | 0=>R5.leaf s lim y (s.getD p 0) p q n
   | d+1=>if inner (s.getD p 0).toNat then R5.inside s (fun x p=>R5.elem s lim d x p (some (q+n))) y (s.getD p 0) q (q+n)else R5.leaf s lim y (s.getD p 0) p q n)):=by
  intro s lim d x p en;cases d with
  | zero=>
   conv=>lhs; unfold R5.elem
   rw [show decide ((0:Nat)≠0)=false from rfl];cases R5.head s lim false x p en with | mk o y=>cases o<;>rfl
  | succ d=>
   conv=>lhs; unfold R5.elem
   rw [show decide (d+1≠0)=true from dt (by omega)];cases R5.head s lim true x p en with | mk o y=>cases o<;>rfl
 intro d
 induction d with
 | zero=>
  intro x p en;rw [unf s' lim' 0 x p en,unf s lim (0+e) x p en];rcases Gg F (decide ((0:Nat)≠0)) (decide (0+e≠0)) (by
   by_cases he:e=0
   ·left; rw [he]
   ·right; exact⟨rfl,he⟩) x p en with ⟨h,h2⟩| ⟨y,h,hb⟩
  ·rw [h];cases hr:R5.head s lim (decide (0+e≠0)) x p en with
   | mk o z=>
    cases o with
    | none=>exact .inl ⟨rfl,fun q y e=>by simp at e⟩
    | some t=>
     obtain⟨n,q⟩:=t;obtain⟨k1,k2,k3⟩:=h2 n q z hr;have hin:¬inner (s.getD p 0).toNat=true:=fun hh=>by have:=k3 hh; simp at this
     simp only;rw [F.byte p k2,Nat.zero_add];cases e with
     | zero=>exact DY F _ n z p q k1
     | succ e=>
      simp only;rw [if_neg hin];exact DY F _ n z p q k1
  ·rw [h];exact .inr ⟨y,rfl,hb⟩
 | succ d ih=>
  intro x p en;rw [show d+1+e=d+e+1 by omega,unf s' lim' (d+1) x p en,unf s lim (d+e+1) x p en];rcases Gg F (decide (d+1≠0)) (decide (d+e+1≠0)) (.inl (by rw [dt (by omega),dt (by omega)])) x p en with ⟨h,h2⟩| ⟨y,h,hb⟩
  ·rw [h];cases hr:R5.head s lim (decide (d+e+1≠0)) x p en with
   | mk o z=>
    cases o with
    | none=>exact .inl ⟨rfl,fun q y e=>by simp at e⟩
    | some t=>
     obtain⟨n,q⟩:=t;obtain⟨k1,k2,_⟩:=h2 n q z hr;simp only;rw [F.byte p k2];by_cases hin:inner (s.getD p 0).toNat=true
     ·rw [if_pos hin,if_pos hin];unfold R5.inside;rcases EA F (rc:=fun x p=>R5.elem s lim (d+e) x p (some (q+n))) (rc':=fun x p=>R5.elem s' lim' d x p (some (q+n))) (fun x p=>ih x p (some (q+n))) (s.getD p 0).toNat z.out.length (q+n) (q+n - q)
       {z with out:=z.out++ [⟨s.getD p 0,0,[]⟩],frames:=z.frames+1} q [] k1 with ⟨j1,j2⟩| ⟨y,j,hb⟩
      ·rw [j1];cases hr2:R5.insideN s (fun x p=>R5.elem s lim (d+e) x p (some (q+n))) (s.getD p 0).toNat z.out.length (q+n) (q+n - q) {z with out:=z.out++ [⟨s.getD p 0,0,[]⟩],frames:=z.frames+1} q []with
       | mk o2 u=>
        cases o2 with
        | none=>exact .inl ⟨rfl,fun q y e=>by simp at e⟩
        | some r=>
         refine .inl ⟨rfl,fun q y e=>?_⟩;simp only [Prod.mk.injEq,Option.some.injEq]at e;rw [<-e.1];exact j2 r u hr2
      ·rw [j];exact .inr ⟨y,rfl,hb⟩
     ·rw [if_neg hin,if_neg hin];exact DY F _ n z p q k1
  ·rw [h];exact .inr ⟨y,rfl,hb⟩
end
theorem LE(s:Bytes){lim lim':Lim}(e:Nat)(hb:lim'.b<=lim.b)(hi:lim'.i<=lim.i):Foll s s lim lim' e (fun y=>y.err=10/\(lim'.i=lim.i->e=0->y.place=lim'.b)) where
 byte _ _:=rfl
 part _ _ _:=rfl
 want x p:=by
  unfold R5.want;by_cases h1:p<s.length/\(p:Int)<lim'.b
  ·rw [if_pos h1,if_pos ⟨h1.1,by omega⟩];exact .inl rfl
  ·rw [if_neg h1];by_cases h2:lim'.b<s.length
   ·rw [if_pos h2];exact .inr ⟨_,rfl,rfl,fun _ _=>rfl⟩
   ·rw [if_neg h2,if_neg (by omega),if_neg (by omega)];exact .inl rfl
 items x p h:=by
  by_cases h2:lim.i<=x.out.length
  ·exact .inl h2
  ·exact .inr ⟨rfl,fun h3=>absurd h3 (by omega)⟩
 less x h:=by omega
 deep h x p:=⟨rfl,fun _ h2=>absurd h2 h⟩
def Well(s:Bytes)(lim:Lim)(l:List Node):Prop:=∃y,R5.elem s lim lim.d.toNat R5.start 0 none=(some s.length,y)/\y.out=l/\y.err=0/\y.place=0
theorem Well.decode{s:Bytes}{lim:Lim}{l:List Node}(hm:lim.may=true)(h:Well s lim l):R5.decode s lim=(l,0,0):=by
 obtain⟨y,h1,h2,h3,h4⟩:=h;rw [Cg hm];unfold R5.read;rw [h1];simp only [Nat.lt_irrefl,if_false];rw [h3,h4];unfold R5.list;rw [h3,h2];rfl
theorem Iq{s:Bytes}{lim more:Lim}(h:(R5.decode s lim).2.2=0)(hm:more.may=true)(hd:lim.d<=more.d)(hi:lim.i<=more.i)(hb:lim.b<=more.b):R5.decode s more=((R5.decode s lim).1,0,0):=by
 obtain⟨hm0,_,_,_,_,y,h1,h2,h3,h4⟩:=BI h;have m0:=Aw hm0;have m1:=Aw hm;rcases Kp (LE s (lim:=more) (lim':=lim) (more.d.toNat - lim.d.toNat) hb hi) lim.d.toNat R5.start 0 none with ⟨k,_⟩| ⟨z,k,_⟩
 ·rw [h1,show lim.d.toNat+(more.d.toNat - lim.d.toNat)=more.d.toNat by omega]at k;exact Well.decode hm ⟨y,k.symm,h2,h3,h4⟩
 ·rw [h1]at k; simp at k
end Go.Px.E5
namespace Go.Px.E5
def Det(R:List Node->Bytes->Bool->Prop):Prop:=∀x x' b b' o o' r r',R x b o->R x' b' o'->x++r=x'++r'->x=x'/\r=r'/\b=b'/\o=o'
theorem G8{R:List Node->Bytes->Bool->Prop}(hR:Det R)(set:Bool):∀(n:Nat) (last:Bytes) (l l':List Node) (b b':Bytes) (o o':Bool) (r r':List Node),Kids R set n last l b o->Kids R set n last l' b' o'->l++r=l'++r'->l=l'/\r=r'/\b=b'/\o=o'
 | 0,_,_,_,_,_,_,_,_,_,⟨h1,h2,h3⟩,⟨k1,k2,k3⟩,e=>by
  subst h1 h2 h3 k1 k2 k3;exact⟨rfl,e,rfl,rfl⟩
 | n+1,last,_,_,_,_,_,_,r,r',⟨x,t,bx,bt,o1,o2,h1,h2,h3,h4,h5⟩,⟨x',t',bx',bt',o1',o2',k1,k2,k3,k4,k5⟩,e=>by
  subst h1 h2 h5 k1 k2 k5;rw [List.append_assoc,List.append_assoc]at e;obtain⟨rfl,e2,rfl,rfl⟩:=hR _ _ _ _ _ _ _ _ h3 k3 e;obtain⟨rfl,rfl,rfl,rfl⟩:=G8 hR set n _ _ _ _ _ _ _ _ _ h4 k4 e2;exact⟨rfl,rfl,rfl,rfl⟩
theorem NI:∀d,Det (El d):=by
 have one:∀(a a':Node) (r r':List Node),[a]++r=[a']++r'->a=a'/\r=r':=fun a a' r r' e=>by
  simp only [List.singleton_append,List.cons.injEq]at e;exact e
 intro d
 induction d with
 | zero=>
  intro x x' b b' o o' r r' ⟨a,h1,h2,h3,h4,h5⟩ ⟨a',k1,k2,k3,k4,k5⟩ e;subst h1 h4 h5 k1 k4 k5;obtain⟨rfl,rfl⟩:=one _ _ _ _ e;exact⟨rfl,rfl,rfl,rfl⟩
 | succ d ih=>
  intro x x' b b' o o' r r' h k e;rcases h with ⟨a,h1,h2,h3,h4,h5⟩| ⟨a,t,bt,h1,h2,h3,h4,h5⟩
  ·rcases k with ⟨a',k1,k2,k3,k4,k5⟩| ⟨a',t',bt',k1,k2,k3,k4,k5⟩
   ·subst h1 h4 h5 k1 k4 k5;obtain⟨rfl,rfl⟩:=one _ _ _ _ e;exact⟨rfl,rfl,rfl,rfl⟩
   ·subst h1 k1;simp only [List.cons_append,List.cons.injEq]at e;rw [<-e.1,h3]at k3;cases k3
  ·rcases k with ⟨a',k1,k2,k3,k4,k5⟩| ⟨a',t',bt',k1,k2,k3,k4,k5⟩
   ·subst h1 k1;simp only [List.cons_append,List.cons.injEq]at e;rw [e.1,k3]at h3;cases h3
   ·subst h1 h5 k1 k5;simp only [List.cons_append,List.cons.injEq]at e;obtain⟨rfl,e2⟩:=e;obtain⟨rfl,rfl,rfl,rfl⟩:=G8 ih _ _ _ _ _ _ _ _ _ _ _ h4 k4 e2;exact⟨rfl,rfl,rfl,rfl⟩
theorem El.det{d d':Nat}{l:List Node}{b b':Bytes}{o o':Bool}(h:El d l b o)(k:El d' l b' o'):b=b'/\o=o':=by
 obtain⟨_,_,h1,h2⟩:=NI (max d d') l l b b' o o' [] [] (h.mono (Nat.le_max_left _ _)) (k.mono (Nat.le_max_right _ _)) rfl;exact⟨h1,h2⟩
def encLim:Lim:=⟨32,4096,262144,1⟩
theorem Ft:encLim.may=true:=by decide
inductive Enc (l:List Node):Bytes×Int->Prop
 | many:4096<l.length->Enc l ([],10)
 | form:l.length<=4096->(∀d b o,¬El d l b o)->Enc l ([],9)
 | deep (m:Nat):l.length<=4096->shape true l [] 0=some (m,[])->l≠ []->32<m->Enc l ([],10)
 | long (b:Bytes) (o:Bool):l.length<=4096->El 32 l b o->262144<b.length->Enc l ([],10)
 | out (b:Bytes):l.length<=4096->El 32 l b true->b.length<=262144->Enc l ([],9)
 | ok (b:Bytes):l.length<=4096->El 32 l b false->b.length<=262144->Enc l (b,0)
theorem Dv{d:Nat}{l:List Node}{b:Bytes}{o:Bool}{m:Nat}(h:El d l b o)(hs:shape true l [] 0=some (m,[])):m<=d:=by
 obtain⟨m',h1,h2,_⟩:=Cz h;rw [hs]at h1;simp only [Option.some.injEq,Prod.mk.injEq,and_true]at h1;omega
theorem Enc.det{l:List Node}{r r':Bytes×Int}(h:Enc l r)(k:Enc l r'):r=r':=by
 have ex:∀ {m:Nat},shape true l [] 0=some (m,[])->l≠ []->(∀d b o,¬El d l b o)->False:=fun hs hn hno=>by
  obtain⟨b,o,h⟩:=Cy hn hs (Nat.le_refl _);exact hno _ _ _ h
 cases h with
 | many h1=>cases k<;>first | rfl | (exfalso; omega)
 | form h1 h2=>
  cases k with
  | many=>exfalso; omega
  | form=>rfl
  | deep m k1 k2 k3 k4=>exact(ex k2 k3 h2).elim
  | long b o k1 k2 k3=>exact(h2 _ _ _ k2).elim
  | out b k1 k2 k3=>rfl
  | ok b k1 k2 k3=>exact(h2 _ _ _ k2).elim
 | deep m h1 h2 h3 h4=>
  cases k with
  | many=>rfl
  | form k1 k2=>exact(ex h2 h3 k2).elim
  | deep=>rfl
  | long=>rfl
  | out b k1 k2 k3=>have:=Dv k2 h2; exfalso; omega
  | ok b k1 k2 k3=>have:=Dv k2 h2; exfalso; omega
 | long b o h1 h2 h3=>
  cases k with
  | many=>rfl
  | form k1 k2=>exact(k2 _ _ _ h2).elim
  | deep=>rfl
  | long=>rfl
  | out b' k1 k2 k3=>obtain⟨rfl,_⟩:=h2.det k2; exfalso; omega
  | ok b' k1 k2 k3=>obtain⟨rfl,_⟩:=h2.det k2; exfalso; omega
 | out b h1 h2 h3=>
  cases k with
  | many=>exfalso; omega
  | form=>rfl
  | deep m k1 k2 k3 k4=>have:=Dv h2 k2; exfalso; omega
  | long b' o k1 k2 k3=>obtain⟨rfl,_⟩:=h2.det k2; exfalso; omega
  | out=>rfl
  | ok b' k1 k2 k3=>obtain⟨_,e⟩:=h2.det k2; cases e
 | ok b h1 h2 h3=>
  cases k with
  | many=>exfalso; omega
  | form k1 k2=>exact(k2 _ _ _ h2).elim
  | deep m k1 k2 k3 k4=>have:=Dv h2 k2; exfalso; omega
  | long b' o k1 k2 k3=>obtain⟨rfl,_⟩:=h2.det k2; exfalso; omega
  | out b' k1 k2 k3=>obtain⟨_,e⟩:=h2.det k2; cases e
  | ok b' k1 k2 k3=>obtain⟨rfl,_⟩:=h2.det k2; rfl
theorem Enc.back{l:List Node}{b:Bytes}{e:Int}(h:Enc l (b,e))(he:e=0)(lim:Lim)(hm:lim.may=true)(hd:lim.d=32)(hi:lim.i=4096)(hb:lim.b=262144):R5.decode b lim=(l,0,0):=by
 subst he;cases h with
 | ok _ h1 h2 h3=>
  have hd':lim.d.toNat=32:=by rw [hd]; rfl
  exact DX hm (by rw [hd']; exact h2) (by omega) (by omega)
theorem Enc.fail{l:List Node}{b:Bytes}{e:Int}(h:Enc l (b,e))(he:e≠0):b=[]:=by
 cases h<;>first | rfl | exact absurd rfl he
theorem GH{s:Bytes}{lim:Lim}(h:(R5.decode s lim).2.2=0):Enc (R5.decode s lim).1 (s,0):=by
 obtain⟨hm,_,h1,h2,h3,_⟩:=BI h;have hmay:=Aw hm;exact .ok s (by omega) (h1.mono (by omega)) (by omega)
end Go.Px.E5
namespace Go.Px.E5
def headN(n:Nat):Nat:=1+(lenB n).length
def dgN:Nat->Nat->Nat
 | 0,_=>0
 | m+1,n=>if n=0 then 0 else 1+dgN m (n / 256)
theorem G9:∀(m n:Nat) (s:Bytes),(beN m n s).length=s.length+dgN m n
 | 0,n,s=>rfl
 | m+1,n,s=>by
  unfold beN dgN;by_cases h:n=0
  ·rw [if_pos h,if_pos h]; rfl
  ·rw [if_neg h,if_neg h,G9 m];simp only [List.length_cons];omega
theorem DZ:∀(m n:Nat),dgN m n<=m
 | 0,_=>Nat.le_refl _
 | m+1,n=>by
  unfold dgN
  split
  ·omega
  ·have:=DZ m (n / 256); omega
theorem BY:∀(m n:Nat),n<256 ^ m->dgN (m+1) n=dgN m n
 | 0,n,h=>by
  have:n=0:=by simpa using h
  subst this;rfl
 | m+1,n,h=>by
  conv=>lhs; unfold dgN
  conv=>rhs; unfold dgN
  by_cases h0:n=0
  ·rw [if_pos h0,if_pos h0]
  ·rw [if_neg h0,if_neg h0,BY m (n / 256) (by rw [Nat.pow_succ]at h; omega)]
theorem CC(n:Nat):(lenB n).length=if n<128 then 1 else 1+dgN 8 n:=by
 unfold lenB;by_cases h:n<128
 ·rw [if_pos h,if_pos h]; rfl
 ·rw [if_neg h,if_neg h,List.length_cons,G9];simp only [List.length_nil];omega
theorem CT(n:Nat):(lenB n).length<=9:=by
 rw [CC];have:=DZ 8 n
 split<;>omega
def beD:Nat->Nat->Bytes
 | 0,_=> []
 | w+1,n=>UInt8.ofNat (n / 256 ^ w % 256)::beD w n
theorem Bu:∀(w n:Nat),beD (w+1) n=beD w (n / 256)++ [UInt8.ofNat (n % 256)]
 | 0,n=>by simp [beD]
 | w+1,n=>by
  rw [show beD (w+1+1) n=UInt8.ofNat (n / 256 ^ (w+1) % 256)::beD (w+1) n from rfl,Bu w n];rw [show beD (w+1) (n / 256)=UInt8.ofNat (n / 256 / 256 ^ w % 256)::beD w (n / 256)from rfl,List.cons_append,Nat.div_div_eq_div_mul,Nat.pow_succ,Nat.mul_comm]
theorem I8:∀(m n:Nat) (s:Bytes),beN m n s=beD (dgN m n) n++s
 | 0,n,s=>rfl
 | m+1,n,s=>by
  unfold beN dgN;by_cases h:n=0
  ·rw [if_pos h,if_pos h]; rfl
  ·rw [if_neg h,if_neg h,I8 m,Nat.add_comm 1,Bu,List.append_assoc];rfl
def szR:List Node->List Nat×List Nat
 | []=>([],[])
 | a::r=>((a.body.length+((szR r).2.take (count a)).sum)::(szR r).1,(a.body.length+((szR r).2.take (count a)).sum+headN (a.body.length+((szR r).2.take (count a)).sum))::(szR r).2.drop (count a))
def emit:List Node->List Nat->Bytes
 | a::r,k::ks=>(a.tag::(lenB k++a.body))++emit r ks
 | _,_=> []
theorem Dw(a:Node)(r:List Node):szR (a::r)=((a.body.length+((szR r).2.take (count a)).sum)::(szR r).1,(a.body.length+((szR r).2.take (count a)).sum+headN (a.body.length+((szR r).2.take (count a)).sum))::(szR r).2.drop (count a)):=rfl
theorem C7(a:Node)(r:List Node)(k:Nat)(ks:List Nat):emit (a::r) (k::ks)=(a.tag::(lenB k++a.body))++emit r ks:=rfl
theorem FU:∀(l:List Node),(szR l).1.length=l.length
 | []=>rfl
 | a::r=>by simp [szR,FU r]
theorem A1(t:UInt8)(b:Bytes):(wrap t b).length=b.length+headN b.length:=by
 unfold wrap headN;simp only [List.length_cons,List.length_append];omega
theorem JG{a:Node}(h:leaf a=true):count a=0:=by
 unfold leaf at h;unfold count;simp only [decide_eq_true_eq]at h;omega
structure Em (x:List Node) (b:Bytes) (v:List Nat) (r:List Node) (u:List Nat):Prop where
 one:(szR (x++r)).1=u++(szR r).1
 two:(szR (x++r)).2=v++(szR r).2
 len:u.length=x.length
 sum:v.sum=b.length
 le:∀n∈u,n<=b.length
 em:∀ks,emit (x++r) (u++ks)=b++emit r ks
 cnt:∀p a t,x=p++a::t->count a<=(szR (t++r)).2.length
 lo:(x.map (fun a=>a.body.length)).sum<=b.length
 hi:b.length<=(x.map (fun a=>a.body.length)).sum+10*x.length
theorem NJ{a:Node}(h2:leaf a=true)(r:List Node):Em [a] (wrap a.tag a.body) [(wrap a.tag a.body).length] r [a.body.length]:=by
 have hc:=JG h2;refine⟨?_,?_,rfl,by simp,?_,?_,?_,?_,?_⟩
 ·simp [szR,hc]
 ·simp [szR,hc,A1]
 ·intro n hn;rw [List.mem_singleton.1 hn,A1];omega
 ·intro ks;simp [emit,wrap]
 ·intro p a' t e;cases p with
  | nil=>simp only [List.nil_append,List.cons.injEq]at e; rw [<-e.1,hc]; omega
  | cons c p=>simp only [List.cons_append,List.cons.injEq]at e; have:=congrArg List.length e.2; simp at this
 ·rw [A1]; simp
 ·rw [A1];have:=CT a.body.length;unfold headN;simp only [List.map_cons,List.map_nil,List.sum_cons,List.sum_nil,List.length_cons,List.length_nil];omega
theorem I9{R:List Node->Bytes->Bool->Prop}(hR:∀x b o,R x b o->∀r,∃u,Em x b [b.length] r u)(set:Bool):∀(m:Nat) (last:Bytes) (l:List Node) (b:Bytes) (o:Bool),Kids R set m last l b o->∀r,∃u v,Em l b v r u/\v.length=m
 | 0,last,l,b,o,⟨h1,h2,h3⟩,r=>by
  subst h1 h2;exact⟨[],[],⟨rfl,rfl,rfl,rfl,nofun,fun _=>rfl,fun p a t e=>by have:=congrArg List.length e; simp at this,Nat.le_refl _,Nat.le_refl _⟩,rfl⟩
 | m+1,last,l,b,o,⟨x,t,bx,bt,o1,o2,h1,h2,h3,h4,h5⟩,r=>by
  subst h1 h2;obtain⟨u2,v2,g,gl⟩:=I9 hR set m _ _ _ _ h4 r;obtain⟨u1,f⟩:=hR _ _ _ h3 (t++r);refine⟨u1++u2,bx.length::v2,⟨?_,?_,?_,?_,?_,?_,?_,?_,?_⟩,by simp [gl]⟩
  ·rw [List.append_assoc,f.one,g.one,List.append_assoc]
  ·rw [List.append_assoc,f.two,g.two]; rfl
  ·rw [List.length_append,List.length_append,f.len,g.len]
  ·rw [List.sum_cons,g.sum,List.length_append]
  ·intro n hn;rw [List.length_append];rcases List.mem_append.1 hn with hn | hn
   ·have:=f.le n hn; omega
   ·have:=g.le n hn; omega
  ·intro ks;rw [List.append_assoc,List.append_assoc,f.em,g.em,List.append_assoc]
  ·intro p a q e;rcases List.append_eq_append_iff.1 e with ⟨zs,h1,h2⟩| ⟨bs,h1,h2⟩
   ·exact g.cnt zs a q h2
   ·cases bs with
    | nil=>
     simp only [List.nil_append]at h2;exact g.cnt [] a q h2.symm
    | cons c bs=>
     simp only [List.cons_append,List.cons.injEq]at h2;obtain⟨rfl,h3⟩:=h2;subst h3;have:=f.cnt p a bs h1;rw [List.append_assoc];exact this
  ·have:=f.lo;have:=g.lo;rw [List.map_append,List.sum_append,List.length_append];omega
  ·have:=f.hi;have:=g.hi;rw [List.map_append,List.sum_append,List.length_append,List.length_append];omega
theorem El.em:∀(d:Nat) (x:List Node) (b:Bytes) (o:Bool),El d x b o->∀r,∃u,Em x b [b.length] r u:=by
 have one:∀(a:Node) (b:Bytes),leaf a=true->b=wrap a.tag a.body->∀r,∃u,Em [a] b [b.length] r u:=fun a b h e r=>by
  subst e;exact⟨_,NJ h r⟩
 intro d
 induction d with
 | zero=>
  intro x b o ⟨a,h1,h2,h3,h4,h5⟩ r;subst h1;exact one a b h3 h4 r
 | succ d ih=>
  intro x b o h r;rcases h with ⟨a,h1,h2,h3,h4,h5⟩| ⟨a,t,bt,h1,h2,h3,h4,h5⟩
  ·subst h1;exact one a b h3 h4 r
  ·subst h1 h5;obtain⟨u,v,g,gl⟩:=I9 ih _ _ _ _ _ _ h4 r;have hbd:a.body=[]:=(Dq h2).2.2.2 h3 |>.1
   have hn:a.body.length+((szR (t++r)).2.take (count a)).sum=bt.length:=by
    rw [hbd,g.two,<-gl,List.take_left,g.sum];simp
   refine⟨bt.length::u,⟨?_,?_,?_,by simp,?_,?_,?_,?_,?_⟩⟩
   ·rw [List.cons_append,Dw,hn,List.cons_append,<-g.one]
   ·rw [List.cons_append,Dw,hn,A1,g.two,<-gl,List.drop_left];rfl
   ·simp [g.len]
   ·intro n hn2;rw [A1];rcases List.mem_cons.1 hn2 with rfl | hn2
    ·omega
    ·have:=g.le n hn2; omega
   ·intro ks;rw [List.cons_append,List.cons_append,C7,g.em,hbd];simp [wrap]
   ·intro p c q e;cases p with
    | nil=>
     simp only [List.nil_append,List.cons.injEq]at e;rw [<-e.1,<-e.2,g.two,List.length_append];omega
    | cons c' p=>
     simp only [List.cons_append,List.cons.injEq]at e;exact g.cnt p c q e.2
   ·rw [A1];have:=g.lo;simp only [List.map_cons,List.sum_cons];rw [hbd];simp only [List.length_nil];omega
   ·rw [A1];have:=g.hi;have:=CT bt.length;unfold headN;simp only [List.map_cons,List.sum_cons,List.length_cons];omega
theorem El.whole{d:Nat}{l:List Node}{b:Bytes}{o:Bool}(h:El d l b o):
  (szR l).2=[b.length]/\emit l (szR l).1=b/\(∀n∈(szR l).1,n<=b.length)/\(∀p a t,l=p++a::t->count a<=(szR t).2.length)/\(l.map (fun a=>a.body.length)).sum<=b.length/\b.length<=(l.map (fun a=>a.body.length)).sum+10*l.length:=by
 obtain⟨u,g⟩:=El.em d l b o h [];have e1:=g.one;have e2:=g.two;rw [List.append_nil]at e1 e2;have e1':(szR l).1=u:=by rw [e1]; simp [szR]
 refine⟨by rw [e2]; simp [szR],?_,?_,?_,g.lo,g.hi⟩
 ·have:=g.em [];rw [List.append_nil,List.append_nil]at this;rw [e1',this];simp [emit]
 ·rw [e1']; exact g.le
 ·intro p a t e;have:=g.cnt p a t e;rw [List.append_nil]at this;exact this
end Go.Px.E5
namespace Go.Px.E5
def totN:List Node->Nat->Nat
 | [],t=>t
 | a::r,t=>totN r (if 262144<a.body.length\/262144<t then 262145 else t+a.body.length)
theorem Ja:∀(l:List Node) (a:Node) (t:Nat),totN (l++ [a]) t=if 262144<a.body.length\/262144<totN l t then 262145 else totN l t+a.body.length
 | [],a,t=>rfl
 | b::l,a,t=>by
  rw [List.cons_append];unfold totN;exact Ja l a _
theorem Jb:∀(l:List Node) (t:Nat),262144<totN l t->262144<t+(l.map (fun a=>a.body.length)).sum
 | [],t,h=>by simpa [totN] using h
 | a::r,t,h=>by
  unfold totN at h;have:=Jb r _ h;rw [List.map_cons,List.sum_cons];by_cases hc:262144<a.body.length\/262144<t
  ·rw [if_pos hc]at this;omega
  ·rw [if_neg hc]at this;omega
theorem Gh:∀(l:List Node) (t:Nat),¬262144<totN l t->t+(l.map (fun a=>a.body.length)).sum<=262144
 | [],t,h=>by simpa [totN] using h
 | a::r,t,h=>by
  unfold totN at h;have:=Gh r _ h;rw [List.map_cons,List.sum_cons];by_cases hc:262144<a.body.length\/262144<t
  ·rw [if_pos hc]at this;omega
  ·rw [if_neg hc]at this;omega
theorem Ha{d:Nat}{l:List Node}{b:Bytes}{o:Bool}(h:El d l b o):∃m,behind l [] 0 0=(some l.length,m)/\l≠ []:=by
 obtain⟨m,h1,_,h3⟩:=Cz h;refine⟨m,?_,h3⟩;have:=Ca l true [] 0 m 0 h1 h3 (Nat.le_refl _);rw [Nat.zero_add]at this;exact this
theorem JH{l:List Node}(hl:l.length<=4096)(h:l=[]\/(behind l [] 0 0).1≠some l.length):Enc l ([],9):=by
 refine .form hl fun d b o he=>?_
 obtain⟨m,h1,h2⟩:=Ha he;rcases h with h | h
 ·exact h2 h
 ·rw [h1]at h; exact h rfl
theorem Kq{l:List Node}{a:Node}(hl:l.length<=4096)(ha:a∈l)(h:right a=false):Enc l ([],9):=
 .form hl fun d b o he=>by rw [he.all a ha]at h; cases h
theorem Hb{l:List Node}{m:Nat}(h:behind l [] 0 0=(some l.length,m))(hr:∀a∈l,right a=true):shape true l [] 0=some (m,[]):=
 Cb l true [] 0 m 0 (by rw [Nat.zero_add]; exact h) hr (.inl rfl) (Nat.le_refl _)
theorem Kr{l:List Node}{m:Nat}(hl:l.length<=4096)(hn:l≠ [])(h:shape true l [] 0=some (m,[]))(hm:m<=32)(ht:262144<totN l 0):Enc l ([],10):=by
 obtain⟨b,o,he⟩:=Cy hn h hm;have:=Jb l 0 ht;exact .long b o hl he (by have:=he.whole.2.2.2.2.1; omega)
theorem LF{l:List Node}{b:Bytes}{o:Bool}{d:Nat}(hl:l.length<=4096)(h:El d l b o)(ht:¬262144<totN l 0):b.length<=400000:=by
 have:=Gh l 0 ht;have:=h.whole.2.2.2.2.2;omega
theorem D0{l:List Node}(hl:l.length<=4096)(h:l=[]\/shape true l [] 0=none\/∃m c r,shape true l [] 0=some (m,c::r)):Enc l ([],9):=by
 refine .form hl fun d b o he=>?_
 obtain⟨m,h1,_,h3⟩:=Cz he;rcases h with h | h | ⟨m',c,r,h⟩
 ·exact h3 h
 ·rw [h1]at h; cases h
 ·rw [h1]at h; simp at h
end Go.Px.E5
