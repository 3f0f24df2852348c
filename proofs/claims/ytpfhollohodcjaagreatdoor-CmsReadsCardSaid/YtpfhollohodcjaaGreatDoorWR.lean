import Derived.Test.YtpfhollohodcjaaGreatDoorWQ
import Derived.Test.YtpfhollohodcjaaGreatDoorVQ
set_option maxRecDepth 100000
set_option maxHeartbeats 20000000
namespace Go.Proofs.YtpfhollohodcjaaGreatDoor
open Go.RowKit Go.Px Go.Px.Co Go.Px.Cm
def cInt(i:Int):List Value:=[.int .i64 i]
theorem Mw(a:Int):(cInt a).length=1:=rfl
theorem Kb{l:List Int}{t x:Int}{k:Nat}(hx:l[k]?=some x)(he:(t==x)=true)(hno:∀j y,j<k->l[j]?=some y->(t==y)=false):l.findIdx? (fun y=>y==t)=some k:=by
 obtain⟨hk,hx2⟩:=List.getElem?_eq_some_iff.1 hx;rw [List.findIdx?_eq_some_iff_getElem];refine⟨hk,by rw [hx2]; rw [beq_iff_eq]at he ⊢; exact he.symm,fun j hj=>?_⟩;have:=hno j l[j] hj (List.getElem?_eq_getElem (by omega));rw [beq_eq_false_iff_ne]at this;simp only [beq_iff_eq];exact fun e=>this e.symm
theorem Kc{l:List Int}{t:Int}(hno:∀j y,j<l.length->l[j]?=some y->(t==y)=false):l.findIdx? (fun y=>y==t)=none:=by
 rw [List.findIdx?_eq_none_iff];intro y hy;obtain⟨j,hj,e⟩:=List.mem_iff_getElem.1 hy;have:=hno j y hj (by rw [List.getElem?_eq_getElem hj,e]);rw [beq_eq_false_iff_ne]at this ⊢;exact fun e=>this e.symm
theorem FR(v:Value)(l:List Int)(t:Int)(hl:l.length<=1000000)(w:World)(h:Lies w 1 cInt v l):
  Calls Tryz.prog 43 #[v,.int .i64 t] w fun e w'=>e= .returned (.int .i64 (idx (l.findIdx? (fun y=>y==t))))/\w=w':=by
 obtain⟨a,cap,hv,_⟩:=h.slice;subst hv;have H:=zz h;obtain⟨r,hr⟩:∃r,r=idx (l.findIdx? (fun y=>y==t)):=⟨_,rfl⟩
 rw [<-hr];have HR:=zz hr;clear h hr;go_enter Tryz.func43,Tryz.ntmps43;go_wp2;go_loopw [8] (fun i wr=>∃k,k<=l.length/\i= .int .i64 (k:Nat)/\w=wr/\∀j y,j<k->l[j]?=some y->(t==y)=false) (fun i _=>l.length - (intOf i).toNat)
 case atStart=>exact⟨0,Nat.zero_le _,rfl,rfl,fun j _ hj=>by omega⟩
 case round=>
  obtain⟨k,hk,rfl,rfl,hno⟩:=hrel;by_cases hlt:k<l.length
  ·have hltz:(k:Int)<(l.length:Int):=by omega
   obtain⟨x,hx⟩:∃x,l[k]?=some x:=⟨_,List.getElem?_eq_getElem hlt⟩
   obtain⟨g,off,cap',hv',_,hc⟩:=H.out.cell k x hx;simp only [Value.slice.injEq]at hv';have ha:=hv'.1;subst ha;have ck:w.cell? ⟨g,off+k,none⟩=some (.int .i64 x):=by have:=hc 0 (.int .i64 x) rfl; simpa using this
   have HX:=zz (aN hx hno);have HLT:=zz hlt;clear hv' hc hx hno hlt;obtain⟨q,hq⟩:∃q,(t==x)=q:=⟨_,rfl⟩
   have HQ:=zz hq;cases q with
   | true=>
    have HF:=zz (Kb HX.out.1 HQ.out HX.out.2);go_wp2;go_ret;rw [HR.out,HF.out];exact⟨rfl,rfl⟩
   | false=>
    go_wp2;go_roundw
    case rel=>
     refine⟨k+1,HLT.out,by go_num,trivial,fun j y hj hy=>?_⟩;by_cases e:j=k
     ·subst e;rw [HX.out.1]at hy;cases hy;exact HQ.out
     ·exact HX.out.2 j y (by omega) hy
    case measure=>have:=HLT.out; simp [intOf]; omega
  ·have hlt':¬(k:Int)<(l.length:Int):=by omega
   have HNO:=zz (Kc (l:=l) (t:=t) (fun j y hj hy=>hno j y (by omega) hy));clear hno;go_wp2;go_ret;rw [HR.out,HNO.out];exact⟨rfl,rfl⟩
theorem Id(v:Value)(l:List Int)(t:Int)(hl:l.length<=1000000)(w:World)(h:Lies w 1 cInt v l):
  Calls Tryz.prog 42 #[v,.int .i64 t] w fun e w'=>e= .returned (.bool (l.findIdx? (fun y=>y==t)).isSome)/\w=w':=by
 have HI:=zz (FR v l t hl w h);obtain⟨o,ho⟩:∃o,o=l.findIdx? (fun y=>y==t):=⟨_,rfl⟩
 rw [<-ho]at HI ⊢;clear ho h;go_enter Tryz.func42,Tryz.ntmps42;go_wp2_with fail;refine HI.out.mono ?_;rintro e w1 ⟨rfl,rfl⟩;cases o with
 | none=>
  go_wp2;go_ret;exact⟨rfl,rfl⟩
 | some i=>
  have hz:decide ((0:Int)<=idx (some i))=true:=dt (show(0:Int)<=(i:Int) by omega);go_wp2;go_ret;exact⟨rfl,rfl⟩
end Go.Proofs.YtpfhollohodcjaaGreatDoor
namespace Go.Proofs.YtpfhollohodcjaaGreatDoor
open Go.RowKit Go.Px Go.Px.Co
theorem Eg{α:Type}(a b:List α)(i:Nat)(ha:i<a.length)(hb:i<b.length):(a.drop i=b.drop i)↔(a[i]=b[i]/\a.drop (i+1)=b.drop (i+1)):=by
 rw [List.drop_eq_getElem_cons ha,List.drop_eq_getElem_cons hb,List.cons.injEq]
theorem Ny{a b:Rec}(h1:a.way=b.way)(h2:a.size=b.size)(h3:a.kind=b.kind)(h4:a.name=b.name)(h5:a.key=b.key)(h6:a.salt=b.salt)(h7:a.rounds=b.rounds)(h8:a.iv=b.iv)(h9:a.loose=b.loose):a=b:=by
 cases a; cases b; simp_all
theorem EJ{x y:Rec}(h:¬x=y)(w:World):(binOp .neq 78 (.agg #[.int .i64 x.way,.int .i64 x.size,.int .i64 x.kind,S x.name,S x.key,S x.salt,.int .i64 x.rounds,S x.iv,S x.loose]) (.agg #[.int .i64 y.way,.int .i64 y.size,.int .i64 y.kind,S y.name,S y.key,S y.salt,.int .i64 y.rounds,S y.iv,S y.loose])).run Tryz.prog w= .ok (.bool true) w:=by
 rw [run_neq_struct,run_equalIn_struct w 9999 _ _ _ (by kernel_rfl) (by kernel_rfl)];simp only [Program.fieldsOf,Tryz.underlying78];go_simp;by_cases h1:x.way=y.way
 ·by_cases h2:x.size=y.size
  ·by_cases h3:x.kind=y.kind
   ·by_cases h4:x.name=y.name
    ·by_cases h5:x.key=y.key
     ·by_cases h6:x.salt=y.salt
      ·by_cases h7:x.rounds=y.rounds
       ·by_cases h8:x.iv=y.iv
        ·by_cases h9:x.loose=y.loose
         ·exact absurd (Ny h1 h2 h3 h4 h5 h6 h7 h8 h9) h
         ·simp [h1,h2,h3,h4,h5,h6,h7,h8,h9]
        ·simp [h1,h2,h3,h4,h5,h6,h7,h8]
       ·simp [h1,h2,h3,h4,h5,h6,h7]
      ·simp [h1,h2,h3,h4,h5,h6]
     ·simp [h1,h2,h3,h4,h5]
    ·simp [h1,h2,h3,h4]
   ·simp [h1,h2,h3]
  ·simp [h1,h2]
 ·simp [h1]
theorem C4{w:World}{b off cap:Nat}{l:List Rec}(h:Lies w 9 cRec (.slice (some ⟨b,off,none⟩) l.length cap) l)(i:Nat)(hi:i<l.length):
  w.cell? ⟨b,off+i*9,none⟩=some (.int .i64 l[i].way)/\w.cell? ⟨b,off+i*9+1,none⟩=some (.int .i64 l[i].size)/\w.cell? ⟨b,off+i*9+2,none⟩=some (.int .i64 l[i].kind)/\w.cell? ⟨b,off+i*9+3,none⟩=some (S l[i].name)/\w.cell? ⟨b,off+i*9+4,none⟩=some (S l[i].key)/\w.cell? ⟨b,off+i*9+5,none⟩=some (S l[i].salt)/\w.cell? ⟨b,off+i*9+6,none⟩=some (.int .i64 l[i].rounds)/\w.cell? ⟨b,off+i*9+7,none⟩=some (S l[i].iv)/\w.cell? ⟨b,off+i*9+8,none⟩=some (S l[i].loose):=by
 obtain⟨b',off',cap',hve,hxb,hcx⟩:=h.cell i l[i] (by simp [hi]);simp only [Value.slice.injEq,Option.some.injEq,Addr.mk.injEq,true_and,and_true]at hve;obtain⟨⟨rfl,rfl⟩,rfl⟩:=hve;exact⟨hcx 0 _ rfl,hcx 1 _ rfl,hcx 2 _ rfl,hcx 3 _ rfl,hcx 4 _ rfl,hcx 5 _ rfl,hcx 6 _ rfl,hcx 7 _ rfl,hcx 8 _ rfl⟩
theorem Ln(va vb:Value)(la lb:List Rec)(w:World)(ha:Lies w 9 cRec va la)(hb:Lies w 9 cRec vb lb)(hl:la.length<=140737488351232):
  Calls Tryz.prog 91 #[va,vb] w fun e w'=>e= .returned (.bool (decide (la=lb)))/\Same w w':=by
 obtain⟨aa,ac,rfl,_,_⟩:=ha.slice;obtain⟨ba,bc,rfl,_,_⟩:=hb.slice;have H:=zz (aN ha hb);clear ha hb;by_cases hn:la.length=lb.length
 ·have hnz:(la.length:Int)=(lb.length:Int):=by omega
  have HN:=zz hn;have HL:=zz hnz;clear hnz;go_enter Tryz.func91,Tryz.ntmps91;rw [<-hn];clear hn;go_wp2;go_loopg [13] (la.length+1) (fun gk t13 wr=>∃i:Nat,gk+i=la.length+1/\i<=la.length/\t13= .int .i64 i/\Hid (((la=lb)↔(la.drop i=lb.drop i))/\Same w wr))
  case atStart=>exact⟨0,rfl,Nat.zero_le _,rfl,zz ⟨Iff.rfl,sE w⟩⟩
  case round=>
   obtain⟨i,hgk,hi,rfl,HS⟩:=hrel;have HGK:=zz hgk;clear hgk;by_cases hlt:i<la.length
   ·have hltz:(i:Int)<(la.length:Int):=by omega
    have hlb:i<lb.length:=by have:=HN.out; omega
    have hA:=Lies.same H.out.1 HS.out.2;have hB:=Lies.same H.out.2 HS.out.2;obtain⟨xb,xo,xc,hve,_,_⟩:=hA.cell i la[i] (by simp [hlt]);obtain⟨yb,yo,yc,hve2,_,_⟩:=hB.cell i lb[i] (by simp [hlb]);simp only [Value.slice.injEq,true_and]at hve hve2;obtain⟨rfl,rfl⟩:=hve;obtain⟨rfl,rfl⟩:=hve2;obtain⟨x0,x1,x2,x3,x4,x5,x6,x7,x8⟩:=C4 hA i hlt;obtain⟨y0,y1,y2,y3,y4,y5,y6,y7,y8⟩:=C4 hB i hlb;have hst:=Eg la lb i hlt hlb;obtain⟨x,hx⟩:∃x,x=la[i]:=⟨_,rfl⟩
    obtain⟨y,hy⟩:∃y,y=lb[i]:=⟨_,rfl⟩
    rw [<-hx]at x0 x1 x2 x3 x4 x5 x6 x7 x8 hst;rw [<-hy]at y0 y1 y2 y3 y4 y5 y6 y7 y8 hst;have HST:=zz hst;clear hx hy hst hA hB;by_cases hxy:x=y
    ·subst hxy;have HE:=zz (show(la=lb)↔(la.drop (i+1)=lb.drop (i+1))from HS.out.1.trans (HST.out.trans ⟨fun h=>h.2,fun h=>⟨rfl,h⟩⟩));go_wp2_with fail;go_quiet (fail)
     go_wp2;go_roundg (la.length - i)
     case measure=>have:=HGK.out; omega
     case rel=>exact⟨i+1,by omega,by omega,by go_num,zz ⟨HE.out,Fr.drewN HS.out.2 _⟩⟩
    ·have HE:=zz (show ¬la=lb from fun h=>hxy (HST.out.1 (HS.out.1.1 h)).1);have hne:=fun W=>EJ hxy W
     clear hxy;go_wp2_with fail;go_quiet (fail)
     go_wp2;go_ret;rw [df HE.out];exact⟨rfl,Fr.drewN HS.out.2 _⟩
   ·have hltz:¬(i:Int)<(la.length:Int):=by omega
    have HE:=zz (show la=lb from HS.out.1.2 (by rw [List.drop_of_length_le (by omega),List.drop_of_length_le (by have:=HN.out; omega)]));go_wp2;go_ret;rw [dt HE.out];exact⟨rfl,HS.out.2⟩
 ·have hnz:¬(la.length:Int)=(lb.length:Int):=by omega
  have HE:=zz (show ¬la=lb from fun h=>hn (by rw [h]));go_enter Tryz.func91,Tryz.ntmps91;go_wp2;go_ret;rw [df HE.out];exact⟨rfl,sE w⟩
theorem Bw(w:World)(o:Obj)(cs:Array Value)(T:TypeId):Blk ((w.alloc o).alloc (.cells cs T (0,0))) (w.heap.size+1) cs T:=by
 have z:=Af (w.alloc o) cs T;have e:(w.alloc o).heap.size=w.heap.size+1:=by simp
 rw [e]at z;exact z
theorem Mx(x y:Env)(va vb:Value)(w:World)(ha:Lies w 9 cRec va x.to)(hb:Lies w 9 cRec vb y.to)(hl:x.to.length<=140737488351232)(hl2:y.to.length<=140737488351232):
  Calls Tryz.prog 47 #[.agg (envC x va),.agg (envC y vb)] w fun e w'=>e= .returned (.bool (decide (x=y)))/\Same w w':=by
 have HQ:=zz (fun(W:World) (hW:Same w W)=>Ln va vb x.to y.to W (Lies.same ha hW) (Lies.same hb hW) hl);obtain⟨aa,ac,rfl,_,_⟩:=ha.slice;obtain⟨ba,bc,rfl,_,_⟩:=hb.slice;clear ha hb;obtain⟨D,hD⟩:∃D,D=decide (x=y):=⟨_,rfl⟩
 rw [<-hD];have HD:=zz hD;clear hD;obtain⟨x0,x1,x2,x3,x4,x5,x6,x7,x8⟩:=x;obtain⟨y0,y1,y2,y3,y4,y5,y6,y7,y8⟩:=y;unfold envC;simp only at HQ hl hl2 ⊢;by_cases h0:x0=y0
 ·subst h0;by_cases h1:x1=y1
  ·subst h1;by_cases h2:x2=y2
   ·subst h2;by_cases h3:x3=y3
    ·subst h3;by_cases h4:x4=y4
     ·subst h4;by_cases h5:x5=y5
      ·subst h5;by_cases h6:x6=y6
       ·subst h6;by_cases h7:x7=y7
        ·subst h7;by_cases h8:x8=y8
         ·subst h8;go_enter Tryz.func47,Tryz.ntmps47;go_wp2_with fail;refine(HQ.out _ (fA (fA (fR _ w) _) _)).mono ?_;rintro e w1 ⟨rfl,hs⟩;have HS:=zz (show Same w w1 from sT (fA (fA (fR _ w) _) _) hs);have bx:Blk w1 (w.heap.size) #[.int .i64 x0,.int .i64 x1,.slice aa x2.length ac,S x3,S x4,S x5,S x6,S x7,S x8] 27:=Blk.fr (Blk.alloc (Af w _ _) _) hs (fun x=>x);have by_:Blk w1 (w.heap.size+1) #[.int .i64 x0,.int .i64 x1,.slice ba x2.length bc,S x3,S x4,S x5,S x6,S x7,S x8] 27:=Blk.fr (Bw w _ _ _) hs (fun x=>x);obtain⟨c0,c1,c2,c3,c4,c5,c6,c7,c8,_⟩:=AT bx;obtain⟨e0,e1,e2,e3,e4,e5,e6,e7,e8,_⟩:=AT by_;clear bx by_;clear hs;go_wp2;go_ret;rw [show D=true by rw [HD.out]; simp];exact⟨by first | rfl | simp,HS.out⟩
         ·have HE:=zz (show ¬((⟨x0,x1,x2,x3,x4,x5,x6,x7,x8⟩:Env)=⟨x0,x1,x2,x3,x4,x5,x6,x7,y8⟩)from fun e=>h8 (congrArg Env.tag e));have b8:(x8==y8)=false:=by simpa using h8
          go_enter Tryz.func47,Tryz.ntmps47;go_wp2_with fail;refine(HQ.out _ (fA (fA (fR _ w) _) _)).mono ?_;rintro e w1 ⟨rfl,hs⟩;have HS:=zz (show Same w w1 from sT (fA (fA (fR _ w) _) _) hs);have bx:Blk w1 (w.heap.size) #[.int .i64 x0,.int .i64 x1,.slice aa x2.length ac,S x3,S x4,S x5,S x6,S x7,S x8] 27:=Blk.fr (Blk.alloc (Af w _ _) _) hs (fun x=>x);have by_:Blk w1 (w.heap.size+1) #[.int .i64 x0,.int .i64 x1,.slice ba x2.length bc,S x3,S x4,S x5,S x6,S x7,S y8] 27:=Blk.fr (Bw w _ _ _) hs (fun x=>x);obtain⟨c0,c1,c2,c3,c4,c5,c6,c7,c8,_⟩:=AT bx;obtain⟨e0,e1,e2,e3,e4,e5,e6,e7,e8,_⟩:=AT by_;clear bx by_;clear hs;go_wp2;go_ret;rw [show D=false from HD.out.trans (df HE.out)];exact⟨rfl,HS.out⟩
        ·have HE:=zz (show ¬((⟨x0,x1,x2,x3,x4,x5,x6,x7,x8⟩:Env)=⟨x0,x1,x2,x3,x4,x5,x6,y7,y8⟩)from fun e=>h7 (congrArg Env.cipher e));have b7:(x7==y7)=false:=by simpa using h7
         go_enter Tryz.func47,Tryz.ntmps47;go_wp2_with fail;refine(HQ.out _ (fA (fA (fR _ w) _) _)).mono ?_;rintro e w1 ⟨rfl,hs⟩;have HS:=zz (show Same w w1 from sT (fA (fA (fR _ w) _) _) hs);have bx:Blk w1 (w.heap.size) #[.int .i64 x0,.int .i64 x1,.slice aa x2.length ac,S x3,S x4,S x5,S x6,S x7,S x8] 27:=Blk.fr (Blk.alloc (Af w _ _) _) hs (fun x=>x);have by_:Blk w1 (w.heap.size+1) #[.int .i64 x0,.int .i64 x1,.slice ba x2.length bc,S x3,S x4,S x5,S x6,S y7,S y8] 27:=Blk.fr (Bw w _ _ _) hs (fun x=>x);obtain⟨c0,c1,c2,c3,c4,c5,c6,c7,c8,_⟩:=AT bx;obtain⟨e0,e1,e2,e3,e4,e5,e6,e7,e8,_⟩:=AT by_;clear bx by_;clear hs;go_wp2;go_ret;rw [show D=false from HD.out.trans (df HE.out)];exact⟨rfl,HS.out⟩
       ·have HE:=zz (show ¬((⟨x0,x1,x2,x3,x4,x5,x6,x7,x8⟩:Env)=⟨x0,x1,x2,x3,x4,x5,y6,y7,y8⟩)from fun e=>h6 (congrArg Env.iv e));have b6:(x6==y6)=false:=by simpa using h6
        go_enter Tryz.func47,Tryz.ntmps47;go_wp2_with fail;refine(HQ.out _ (fA (fA (fR _ w) _) _)).mono ?_;rintro e w1 ⟨rfl,hs⟩;have HS:=zz (show Same w w1 from sT (fA (fA (fR _ w) _) _) hs);have bx:Blk w1 (w.heap.size) #[.int .i64 x0,.int .i64 x1,.slice aa x2.length ac,S x3,S x4,S x5,S x6,S x7,S x8] 27:=Blk.fr (Blk.alloc (Af w _ _) _) hs (fun x=>x);have by_:Blk w1 (w.heap.size+1) #[.int .i64 x0,.int .i64 x1,.slice ba x2.length bc,S x3,S x4,S x5,S y6,S y7,S y8] 27:=Blk.fr (Bw w _ _ _) hs (fun x=>x);obtain⟨c0,c1,c2,c3,c4,c5,c6,c7,c8,_⟩:=AT bx;obtain⟨e0,e1,e2,e3,e4,e5,e6,e7,e8,_⟩:=AT by_;clear bx by_;clear hs;go_wp2;go_ret;rw [show D=false from HD.out.trans (df HE.out)];exact⟨rfl,HS.out⟩
      ·have HE:=zz (show ¬((⟨x0,x1,x2,x3,x4,x5,x6,x7,x8⟩:Env)=⟨x0,x1,x2,x3,x4,y5,y6,y7,y8⟩)from fun e=>h5 (congrArg Env.aad e));have b5:(x5==y5)=false:=by simpa using h5
       go_enter Tryz.func47,Tryz.ntmps47;go_wp2_with fail;refine(HQ.out _ (fA (fA (fR _ w) _) _)).mono ?_;rintro e w1 ⟨rfl,hs⟩;have HS:=zz (show Same w w1 from sT (fA (fA (fR _ w) _) _) hs);have bx:Blk w1 (w.heap.size) #[.int .i64 x0,.int .i64 x1,.slice aa x2.length ac,S x3,S x4,S x5,S x6,S x7,S x8] 27:=Blk.fr (Blk.alloc (Af w _ _) _) hs (fun x=>x);have by_:Blk w1 (w.heap.size+1) #[.int .i64 x0,.int .i64 x1,.slice ba x2.length bc,S x3,S x4,S y5,S y6,S y7,S y8] 27:=Blk.fr (Bw w _ _ _) hs (fun x=>x);obtain⟨c0,c1,c2,c3,c4,c5,c6,c7,c8,_⟩:=AT bx;obtain⟨e0,e1,e2,e3,e4,e5,e6,e7,e8,_⟩:=AT by_;clear bx by_;clear hs;go_wp2;go_ret;rw [show D=false from HD.out.trans (df HE.out)];exact⟨rfl,HS.out⟩
     ·have HE:=zz (show ¬((⟨x0,x1,x2,x3,x4,x5,x6,x7,x8⟩:Env)=⟨x0,x1,x2,x3,y4,y5,y6,y7,y8⟩)from fun e=>h4 (congrArg Env.loose e));have b4:(x4==y4)=false:=by simpa using h4
      go_enter Tryz.func47,Tryz.ntmps47;go_wp2_with fail;refine(HQ.out _ (fA (fA (fR _ w) _) _)).mono ?_;rintro e w1 ⟨rfl,hs⟩;have HS:=zz (show Same w w1 from sT (fA (fA (fR _ w) _) _) hs);have bx:Blk w1 (w.heap.size) #[.int .i64 x0,.int .i64 x1,.slice aa x2.length ac,S x3,S x4,S x5,S x6,S x7,S x8] 27:=Blk.fr (Blk.alloc (Af w _ _) _) hs (fun x=>x);have by_:Blk w1 (w.heap.size+1) #[.int .i64 x0,.int .i64 x1,.slice ba x2.length bc,S x3,S y4,S y5,S y6,S y7,S y8] 27:=Blk.fr (Bw w _ _ _) hs (fun x=>x);obtain⟨c0,c1,c2,c3,c4,c5,c6,c7,c8,_⟩:=AT bx;obtain⟨e0,e1,e2,e3,e4,e5,e6,e7,e8,_⟩:=AT by_;clear bx by_;clear hs;go_wp2;go_ret;rw [show D=false from HD.out.trans (df HE.out)];exact⟨rfl,HS.out⟩
    ·have HE:=zz (show ¬((⟨x0,x1,x2,x3,x4,x5,x6,x7,x8⟩:Env)=⟨x0,x1,x2,y3,y4,y5,y6,y7,y8⟩)from fun e=>h3 (congrArg Env.header e));have b3:(x3==y3)=false:=by simpa using h3
     go_enter Tryz.func47,Tryz.ntmps47;go_wp2_with fail;refine(HQ.out _ (fA (fA (fR _ w) _) _)).mono ?_;rintro e w1 ⟨rfl,hs⟩;have HS:=zz (show Same w w1 from sT (fA (fA (fR _ w) _) _) hs);have bx:Blk w1 (w.heap.size) #[.int .i64 x0,.int .i64 x1,.slice aa x2.length ac,S x3,S x4,S x5,S x6,S x7,S x8] 27:=Blk.fr (Blk.alloc (Af w _ _) _) hs (fun x=>x);have by_:Blk w1 (w.heap.size+1) #[.int .i64 x0,.int .i64 x1,.slice ba x2.length bc,S y3,S y4,S y5,S y6,S y7,S y8] 27:=Blk.fr (Bw w _ _ _) hs (fun x=>x);obtain⟨c0,c1,c2,c3,c4,c5,c6,c7,c8,_⟩:=AT bx;obtain⟨e0,e1,e2,e3,e4,e5,e6,e7,e8,_⟩:=AT by_;clear bx by_;clear hs;go_wp2;go_ret;rw [show D=false from HD.out.trans (df HE.out)];exact⟨rfl,HS.out⟩
   ·have HE:=zz (show ¬((⟨x0,x1,x2,x3,x4,x5,x6,x7,x8⟩:Env)=⟨x0,x1,y2,y3,y4,y5,y6,y7,y8⟩)from fun e=>h2 (congrArg Env.«to» e));have b2:decide (x2=y2)=false:=by simpa using h2
    rw [b2]at HQ;clear b2 h2;go_enter Tryz.func47,Tryz.ntmps47;go_wp2_with fail;refine(HQ.out _ (fA (fA (fR _ w) _) _)).mono ?_;rintro e w1 ⟨rfl,hs⟩;have HS:=zz (show Same w w1 from sT (fA (fA (fR _ w) _) _) hs);have bx:Blk w1 (w.heap.size) #[.int .i64 x0,.int .i64 x1,.slice aa x2.length ac,S x3,S x4,S x5,S x6,S x7,S x8] 27:=Blk.fr (Blk.alloc (Af w _ _) _) hs (fun x=>x);have by_:Blk w1 (w.heap.size+1) #[.int .i64 x0,.int .i64 x1,.slice ba y2.length bc,S y3,S y4,S y5,S y6,S y7,S y8] 27:=Blk.fr (Bw w _ _ _) hs (fun x=>x);obtain⟨c0,c1,c2,c3,c4,c5,c6,c7,c8,_⟩:=AT bx;obtain⟨e0,e1,e2,e3,e4,e5,e6,e7,e8,_⟩:=AT by_;clear bx by_;clear hs;go_wp2;go_ret;rw [show D=false from HD.out.trans (df HE.out)];exact⟨rfl,HS.out⟩
  ·have HE:=zz (show ¬((⟨x0,x1,x2,x3,x4,x5,x6,x7,x8⟩:Env)=⟨x0,y1,y2,y3,y4,y5,y6,y7,y8⟩)from fun e=>h1 (congrArg Env.alg e));have b1:(x1==y1)=false:=by simpa using h1
   go_enter Tryz.func47,Tryz.ntmps47;go_wp2;go_ret;rw [show D=false from HD.out.trans (df HE.out)];exact⟨rfl,fA (fA (fR _ w) _) _⟩
 ·have HE:=zz (show ¬((⟨x0,x1,x2,x3,x4,x5,x6,x7,x8⟩:Env)=⟨y0,y1,y2,y3,y4,y5,y6,y7,y8⟩)from fun e=>h0 (congrArg Env.fmt e));have b0:(x0==y0)=false:=by simpa using h0
  go_enter Tryz.func47,Tryz.ntmps47;go_wp2;go_ret;rw [show D=false from HD.out.trans (df HE.out)];exact⟨rfl,fA (fA (fR _ w) _) _⟩
end Go.Proofs.YtpfhollohodcjaaGreatDoor
namespace Go.Px.Cm
open E5 Co
structure RecS (r:Rec):Prop where
 kind: -9223372036854775808<=r.kind/\r.kind<=9223372036854775807
 name:r.name.length<=140737488355327
 key:r.key.length<=140737488355327
 salt:r.salt.length<=140737488355327
 iv:r.iv.length<=140737488355327
structure EnvS (x:Env):Prop where
 recs:∀r∈x.to,RecS r
 header:x.header.length<=140737488355327
 iv:x.iv.length<=140737488355327
 cipher:x.cipher.length<=140737488355327
 tag:x.tag.length<=140737488355327
end Go.Px.Cm
namespace Go.Proofs.YtpfhollohodcjaaGreatDoor
open Go.RowKit Go.Px Go.Px.Co Go.Px.Cm
structure TrW (w1 wr:World) (v:Value) (ps:List VT):Prop where
 own:Owns wr 80 1 cVT v ps
 each:∀p∈ps,Lies wr 3 cNode p.1 p.2
 ap:∀p∈ps,Apart v.ownBlock p.1.ownBlock
 new:∀q,v.ownBlock=some q->w1.heap.size<=q
 same:Same w1 wr
 lt:∀p∈ps,∀q,p.1.ownBlock=some q->q<wr.heap.size
theorem Nz(w:World):TrW w w (.slice none 0 0) []:=⟨A4 _ _ _ _,nofun,nofun,nofun,sE _,nofun⟩
theorem TrW.row{w1 wr:World}{v:Value}{ps:List VT}(h:TrW w1 wr v ps):Row wr v ps:=⟨Owns.lies h.own Gb,h.each⟩
theorem TrW.push {w1 wr W W' w3:World} {v:Value} {ps:List VT} {t:List Px.Node} {a:Option Addr} {n c g cap:Nat} {o:Obj} (h:TrW w1 wr v ps) (hs:Same wr W) (hm:MkT W t a n c W')
  (hown:w3.ownsRow 0 80 1 (.slice (some ⟨g,0,none⟩) (ps.length+1) cap) (ps.length+1) (ps.flatMap cVT++ [.slice a n c])) (hgrow:(W'.alloc o).grownBy w3 v.ownBlock) (hat:v.ownBlock=some g\/W'.heap.size<=g):
  TrW w1 w3 (.slice (some ⟨g,0,none⟩) (ps.length+1) cap) (ps++ [(.slice a n c,t)]):=by
 have hs1:Same wr (W'.alloc o):=(sT hs hm.same).alloc o;have hf:Fr (fun q=>v.ownBlock=some q) wr w3:=(hs1.fr _).grown hgrow (fun k e=> .inl e);have hlow:∀q,v.ownBlock=some q->q<wr.heap.size:=fun q hq=>h.own.lt hq
 have ht:Lies w3 3 cNode (.slice a n c) t:=by
  refine Lies.keep hm.lies (Nat.le_trans (by simp) hgrow.size) (fun q hq=>?_);have hqn:=hm.new q hq;have hql:=(show q<W'.heap.size from Owns.lt hm.own hq)
  rw [hgrow.block q (by simp; omega) (fun e=>by have:=hlow q e.symm; have:=hs.size; omega)];exact Below.heap_alloc W' o q hql
 have hb2:∀q,(Value.slice (some ⟨g,0,none⟩) (ps.length+1) cap).ownBlock=some q->g=q:=fun q hq=>Option.some.inj hq
 refine⟨?_,?_,?_,?_,?_,?_⟩
 ·exact Bb (c:=cVT) (a:=(.slice a n c,t)) hown
 ·intro p hp;rcases List.mem_append.1 hp with hp | hp
  ·exact Lies.keepF (h.each p hp) hf (fun q hq e=>h.ap p hp q e hq)
  ·rw [List.mem_singleton.1 hp];exact ht
 ·intro p hp q hq e;have hgq:=hb2 q hq;subst hgq;rcases List.mem_append.1 hp with hp | hp
  ·rcases hat with e2 | e2
   ·exact h.ap p hp g e2 e
   ·have h1:=h.lt p hp g e;have:=(sT hs hm.same).size;omega
  ·rw [List.mem_singleton.1 hp]at e;have h1:=hm.new g e;have h2:=Owns.lt hm.own e;rcases hat with e2 | e2
   ·have:=hlow g e2;have:=hs.size;omega
   ·omega
 ·intro q hq;have hgq:=hb2 q hq;subst hgq;rcases hat with e2 | e2
  ·exact h.new g e2
  ·have:=(sT (sT h.same hs) hm.same).size;omega
 ·exact fT h.same hf (fun q hq e=>by have:=h.new q e; omega)
 ·intro p hp q hq;rcases List.mem_append.1 hp with hp | hp
  ·exact Nat.lt_of_lt_of_le (h.lt p hp q hq) hf.size
  ·rw [List.mem_singleton.1 hp]at hq;have h2:=Owns.lt hm.own hq;exact Nat.lt_of_lt_of_le h2 (Nat.le_trans (by simp) hgrow.size)
theorem My(r:Co.Rec):(recT r).length<=20:=by
 unfold recT
 split
 ·simp [wrapUs,ofT,lf,sizedT]
 ·simp [passUs,howT,lockL,ofT,lf,sizedT]
theorem Fe:∀l:List Co.Rec,(l.map recT).flatten.length<=20*l.length
 | []=>by simp
 | r::l=>by
  have h1:=My r;have h2:=Fe l;rw [List.map_cons,List.flatten_cons,List.length_append,List.length_cons];omega
theorem Er{w1 W:World}(hs:Same w1 W)(ps:List VT)(hl:ps.length<=maxLen)(h:∀p∈ps,Lies W 3 cNode p.1 p.2/\∀q,p.1.ownBlock=some q->q<W.heap.size):TrW w1 (W.alloc (.cells (ps.flatMap cVT).toArray 80 (0,0))) (.slice (some ⟨W.heap.size,0,none⟩) ps.length ps.length) ps:=by
 refine⟨DN Gb (heap_alloc_new W _) hl,fun p hp=>Lies.same (h p hp).1 ((fR _ W).alloc _),fun p hp q hq e=>?_,fun q hq=>?_,hs.alloc _,fun p hp q hq=>?_⟩
 ·have e2:W.heap.size=q:=Option.some.inj hq;have:=(h p hp).2 q e;omega
 ·have e2:W.heap.size=q:=Option.some.inj hq;have:=hs.size;omega
 ·have:=(h p hp).2 q hq;simp;omega
end Go.Proofs.YtpfhollohodcjaaGreatDoor
