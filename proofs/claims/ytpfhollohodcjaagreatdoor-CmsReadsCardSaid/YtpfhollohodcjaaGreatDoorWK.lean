import Derived.Test.YtpfhollohodcjaaGreatDoorWJ
import Derived.Deep.LoopGhost
import Derived.Deep.RegionWith
import Derived.Deep.CutBlock
set_option maxRecDepth 100000
set_option maxHeartbeats 16000000
namespace Go.Proofs.YtpfhollohodcjaaGreatDoor
open Go.RowKit Go.Px Go.Px.R5
theorem Dk(a b:List UInt8):(ByteArray.mk a.toArray)++(ByteArray.mk b.toArray)=⟨(a++b).toArray⟩:=by
 apply ByteArray.ext;simp
theorem FM(m:Nat)(hm:m<256)(b:Nat)(W:World)(h:W.heap[b]?=some (.cells #[.int .u8 (m:Nat)] 5 (0,0))):(convert 145 9 (.slice (some ⟨b,0,none⟩) 1 1)).run Tryz.prog W= .ok (S [UInt8.ofNat m]) W:=by
 have e:(UInt8.ofNat m).toNat=m:=by rw [UInt8.toNat_ofNat']; omega
 have:=Owns.str (w:=W) (v:= .slice (some ⟨b,0,none⟩) 1 1) (l:=[UInt8.ofNat m]) ⟨rfl,.inr ⟨b,1,_,rfl,Nat.zero_le _,h,Nat.le_refl _,by unfold maxLen; omega,rfl,by simp [cByte,e]⟩⟩;exact this
theorem Ei:∀(m n:Nat) (s:Bytes),(E5.beN m n s).length<=s.length+m
 | 0,_,s=>Nat.le_refl _
 | m+1,n,s=>by
  unfold E5.beN
  split
  ·omega
  ·have:=Ei m (n / 256) (UInt8.ofNat (n % 256)::s);rw [List.length_cons]at this;omega
theorem FN(n:Nat)(hn:n<=2000000000)(w:World):
  Calls Tryz.prog 150 #[.int .i64 (n:Nat)] w fun e w'=>e= .returned (S (E5.lenB n))/\Same w w':=by
 by_cases hs:n<128
 ·have hz:(n:Int)<128:=by omega
  have hwc:IntKind.u8.wrap (n:Int)=n:=by rw [IntKind.wrap_u8]; omega
  have hcv:=FM n (by omega) w.heap.size (w.alloc (.cells #[.int .u8 (n:Nat)] 5 (0,0))) (heap_alloc_new _ _);have HE:=zz (show E5.lenB n=[UInt8.ofNat n] by unfold E5.lenB; rw [if_pos hs]);clear hs;go_enter Tryz.func150,Tryz.ntmps150;go_wp2;go_ret;rw [HE.out];exact⟨rfl,(sE w).alloc _⟩
 ·have hz:¬(n:Int)<128:=by omega
  have HE:=zz (show E5.lenB n=UInt8.ofNat (128+(E5.beN 8 n []).length)::E5.beN 8 n [] by unfold E5.lenB; rw [if_neg hs]);clear hs;go_enter Tryz.func150,Tryz.ntmps150;go_wp2;go_loopg [0,3] 9 (fun gk t0 t3 wr=>∃(m n':Nat) (s':Bytes),m<gk/\t0= .int .i64 (n':Nat)/\t3=S s'/\n'<=2000000000/\n'<256 ^ m/\Hid (Same w wr/\E5.beN m n' s'=E5.beN 8 n []/\s'.length<=8/\m<=8/\m+s'.length<=8))
  case atStart=>exact⟨8,n,[],by omega,rfl,rfl,hn,by omega,zz ⟨sE w,rfl,by simp,by omega,by simp⟩⟩
  case round=>
   obtain⟨m,n',s',hm,rfl,rfl,hn',hlt,HQ⟩:=hrel;by_cases h0:0<n'
   ·have h0z:(0:Int)<(n':Int):=by omega
    obtain⟨m',rfl⟩:∃m',m=m'+1:=⟨m - 1,by
     rcases m with _ | m
     ·simp at hlt; omega
     ·rfl⟩
    obtain⟨g',rfl⟩:∃g',gk=g'+1:=⟨gk - 1,by omega⟩
    have hmod:(n':Int).tmod 256=((n' % 256:Nat):Int):=by rw [Int.tmod_eq_emod_of_nonneg (by omega)]; omega
    have hdiv:(n':Int).tdiv 256=((n' / 256:Nat):Int):=by rw [Int.tdiv_eq_ediv_of_nonneg (by omega)]; omega
    have hwc:IntKind.u8.wrap ((n':Int) % 256)=(n':Int) % 256:=by rw [IntKind.wrap_u8]; omega
    have hcv:=FM (n' % 256) (by omega) wr.heap.size (wr.alloc (.cells #[.int .u8 ((n':Int) % 256)] 5 (0,0))) (by rw [heap_alloc_new]; rfl);obtain⟨cd,hcd⟩:∃cd,cd=[UInt8.ofNat (n' % 256)]:=⟨_,rfl⟩
    rw [<-hcd]at hcv;have happ:=Dk cd s';have hszc:(ByteArray.mk cd.toArray).size=1:=by rw [Ad,hcd]; rfl
    have hszs:(ByteArray.mk s'.toArray).size=s'.length:=Ad s';have hsl8:s'.length<=8:=HQ.out.2.2.1;obtain⟨sn,hsn⟩:∃sn,sn=cd++s':=⟨_,rfl⟩
    rw [<-hsn]at happ;have HSN:=zz (show sn=UInt8.ofNat (n' % 256)::s' by rw [hsn,hcd]; rfl);clear hsn hcd;have hd2:n' / 256<256 ^ m':=by rw [Nat.pow_succ]at hlt; exact Nat.div_lt_of_lt_mul (by rw [Nat.mul_comm]; exact hlt)
    have HD:=zz (aN hd2 hm);have HN0:=zz (show n'≠0 by omega);clear hlt hd2 hm h0;go_wp2;go_roundg g'
    case measure=>omega
    case rel=>
     refine⟨m',n' / 256,sn,by have:=HD.out.2; omega,by go_num,rfl,by omega,HD.out.1,zz ⟨HQ.out.1.alloc _,?_,?_,by have:=HQ.out.2.2.2.1; omega,?_⟩⟩
     ·rw [<-HQ.out.2.1]
      conv=>rhs; unfold E5.beN
      rw [if_neg HN0.out,HSN.out]
     ·have:=HQ.out.2.2.2.2; rw [HSN.out,List.length_cons]; omega
     ·have:=HQ.out.2.2.2.2; rw [HSN.out,List.length_cons]; omega
   ·have h0z:¬(0:Int)<(n':Int):=by omega
    have h00:n'=0:=by omega
    have hbe:s'=E5.beN 8 n []:=by
     rw [<-HQ.out.2.1,h00];cases m with
     | zero=>rfl
     | succ m=>unfold E5.beN; rw [if_pos rfl]
    have hsl:=HQ.out.2.2.1;have hsz:(ByteArray.mk s'.toArray).size=s'.length:=Ad s';have hwc:IntKind.u8.wrap (128+(s'.length:Int))=128+(s'.length:Int):=by rw [IntKind.wrap_u8]; omega
    have hcv:=FM (128+s'.length) (by omega) wr.heap.size (wr.alloc (.cells #[.int .u8 (128+(s'.length:Int))] 5 (0,0))) (by rw [heap_alloc_new]; rfl);obtain⟨cd,hcd⟩:∃cd,cd=[UInt8.ofNat (128+s'.length)]:=⟨_,rfl⟩
    rw [<-hcd]at hcv;have happ:=Dk cd s';have hszc:(ByteArray.mk cd.toArray).size=1:=by rw [Ad,hcd]; rfl
    have hszs:(ByteArray.mk s'.toArray).size=s'.length:=Ad s';have hsl8:s'.length<=8:=HQ.out.2.2.1;obtain⟨sn,hsn⟩:∃sn,sn=cd++s':=⟨_,rfl⟩
    rw [<-hsn]at happ;have HB:=zz (show sn=E5.lenB n by rw [HE.out,<-hbe,hsn,hcd]; rfl);clear hsn hcd;clear hlt hm h0 h00 hbe;go_wp2;go_ret;refine⟨?_,HQ.out.1.alloc _⟩;rw [<-HB.out];rfl
end Go.Proofs.YtpfhollohodcjaaGreatDoor
namespace Go.Px.E5
theorem Ia:∀(m a b:Nat),a<=b->dgN m a<=dgN m b
 | 0,_,_,_=>Nat.le_refl _
 | m+1,a,b,h=>by
  unfold dgN;by_cases ha:a=0
  ·rw [if_pos ha]; exact Nat.zero_le _
  ·rw [if_neg ha,if_neg (by omega)];have:=Ia m (a / 256) (b / 256) (Nat.div_le_div_right h);omega
theorem J9{a b:Nat}(h:a<=b):headN a<=headN b:=by
 unfold headN;rw [CC,CC];have:=Ia 8 a b h
 split<;>split<;>omega
theorem Ld(t:UInt8){s b:Bytes}(h:s.length<=b.length):(wrap t s).length<=(wrap t b).length:=by
 rw [A1,A1];have:=J9 h;omega
theorem Jq{R:List Node->Bytes->Bool->Prop}(hR:∀l b o,R l b o->1<=l.length)(set:Bool):∀ {n:Nat} {last:Bytes} {l:List Node} {b:Bytes} {o:Bool},Kids R set n last l b o->n<=l.length
 | 0,_,_,_,_,_=>Nat.zero_le _
 | n+1,_,_,_,_,⟨x,r,_,_,_,_,e,_,h1,h2,_⟩=>by
  have:=hR _ _ _ h1;have:=Jq hR set h2;rw [e,List.length_append];omega
end Go.Px.E5
namespace Go.Proofs.YtpfhollohodcjaaGreatDoor
open Go.RowKit Go.Px Go.Px.R5
theorem Cj{w w':World}(h:Same w w'):∀(b:Nat) (o:Obj),w.heap[b]?=some o->w'.heap[b]?=some o:=fun b _ hb=>(h.block b (Au hb) (fun x=>x)).trans hb
structure Tl (w:World) (b:Nat) (va:Value) (lg ou:Bool):Prop where
 blk:w.heap[b]?=some (.cells #[va,.bool lg,.bool ou] 189 (0,0))
theorem Tl.cells{w:World}{b:Nat}{va:Value}{lg ou:Bool}(h:Tl w b va lg ou):w.cell? ⟨b,0,none⟩=some va/\w.cell? ⟨b,1,none⟩=some (.bool lg)/\w.cell? ⟨b,2,none⟩=some (.bool ou):=
 ⟨Ab h.blk 0 rfl,Ab h.blk 1 rfl,Ab h.blk 2 rfl⟩
theorem Tl.sm{w w':World}{b:Nat}{va:Value}{lg ou:Bool}(h:Tl w b va lg ou)(hs:Same w w'):Tl w' b va lg ou:=⟨(hs.block b (Au h.blk) (fun x=>x)).trans h.blk⟩
theorem Tl.setLong{w:World}{b:Nat}{va:Value}{lg ou:Bool}(h:Tl w b va lg ou)(n:Bool):Tl (w.setCell ⟨b,1,none⟩ (.bool n)) b va n ou:=⟨by rw [heap_setCell_same w b 1 _ _ _ h.blk]; rfl⟩
theorem Tl.setOut{w:World}{b:Nat}{va:Value}{lg ou:Bool}(h:Tl w b va lg ou)(n:Bool):Tl (w.setCell ⟨b,2,none⟩ (.bool n)) b va lg n:=⟨by rw [heap_setCell_same w b 2 _ _ _ h.blk]; rfl⟩
structure Lst (w0:World) (b xb xo:Nat) (L:List Px.Node):Prop where
 cell:∀(j:Nat) (x:Px.Node),L[j]?=some x->∀i u,(cNode x)[i]?=some u->w0.cell? ⟨xb,xo+(j*3+i),none⟩=some u
 lt:xb<w0.heap.size
 le:w0.heap.size<=b
 len:L.length<=4096
structure Told (w0:World) (b:Nat) (va:Value) (k:Nat) (x:List Px.Node) (B:Bytes) (o out:Bool) (s:Bytes) (w':World) (k':Nat) (lg ou:Bool):Prop where
 tl:Tl w' b va lg ou
 same:Same w0 w'
 or:(lg=false/\s=B/\k'=k+x.length/\ou=(out || o))\/(lg=true/\262144<B.length/\s.length<=B.length)
def ToldP(w0 w:World)(b:Nat)(va:Value)(k:Nat)(x:List Px.Node)(B:Bytes)(o out:Bool)(e:Ending)(w':World):Prop:=
 ∃s k' lg ou,e= .returned (.tuple #[S s,.int .i64 (k':Nat)])/\Told w0 b va k x B o out s w' k' lg ou/\Fr (It b) w w'
theorem ToldP.mk{w0 w w':World}{b:Nat}{va:Value}{k:Nat}{x:List Px.Node}{B:Bytes}{o out:Bool}{e:Ending}(s:Bytes)(k':Nat)(lg ou:Bool)(h1:e= .returned (.tuple #[S s,.int .i64 (k':Nat)]))(h2:Told w0 b va k x B o out s w' k' lg ou)(h3:Fr (It b) w w'):ToldP w0 w b va k x B o out e w':=⟨s,k',lg,ou,h1,h2,h3⟩
def ToldC(w0:World)(b xb xo cap:Nat)(L:List Px.Node)(d:Nat):Prop:=
 ∀(w:World) (k:Nat) (x r:List Px.Node) (B:Bytes) (o out:Bool),Tl w b (.slice (some ⟨xb,xo,none⟩) L.length cap) false out->Same w0 w->E5.El d x B o->L.drop k=x++r->B.length<=1000000->
  Calls Tryz.prog 126 #[.pointer (some ⟨b,0,none⟩),.int .i64 (k:Nat)] w (ToldP w0 w b (.slice (some ⟨xb,xo,none⟩) L.length cap) k x B o out)
theorem EH{L r:List Px.Node}{a:Px.Node}{k:Nat}(h:L.drop k=a::r):k<L.length/\L[k]?=some a/\L.drop (k+1)=r:=by
 have hk:k<L.length:=by
  rcases Nat.lt_or_ge k L.length with h1 | h1
  ·exact h1
  ·rw [List.drop_eq_nil_of_le h1]at h; cases h
 rw [List.drop_eq_getElem_cons hk]at h;simp only [List.cons.injEq]at h;exact⟨hk,by rw [List.getElem?_eq_getElem hk,h.1],h.2⟩
structure TagLen (ct LB HB body AB:Bytes):Prop where
 one:ct.length=1
 nine:LB.length<=9
 h1:ByteArray.mk ct.toArray++ByteArray.mk LB.toArray=⟨HB.toArray⟩
 h2:ByteArray.mk HB.toArray++ByteArray.mk body.toArray=⟨AB.toArray⟩
 hl:HB.length<=10
theorem Lf(t:UInt8)(body:Bytes):TagLen [t] (E5.lenB body.length) ([t]++E5.lenB body.length) body (E5.wrap t body):=by
 have:=E5.CT body.length;exact⟨rfl,this,Dk _ _,by rw [Dk]; rfl,by rw [List.length_append,List.length_singleton]; omega⟩
theorem Lg (w0:World) (b xb xo cap:Nat) (L:List Px.Node) (hL:Lst w0 b xb xo L) (a:Px.Node)
  (w:World) (k:Nat) (r:List Px.Node) (out:Bool) (ht:Tl w b (.slice (some ⟨xb,xo,none⟩) L.length cap) false out) (hs:Same w0 w) (hlf:E5.leaf a=true) (hd:L.drop k=[a]++r) (hB:(E5.wrap a.tag a.body).length<=1000000):
  Calls Tryz.prog 126 #[.pointer (some ⟨b,0,none⟩),.int .i64 (k:Nat)] w (ToldP w0 w b (.slice (some ⟨xb,xo,none⟩) L.length cap) k [a] (E5.wrap a.tag a.body) false out):=by
 obtain⟨hkl,hget,hdrop⟩:=EH hd;have hcx:=hL.cell k a hget;have hxb:=hL.lt;have hx0:=hcx 0 _ rfl;have hx1:=hcx 1 _ rfl;have hx2:=hcx 2 _ rfl;rw [<-Nat.add_assoc]at hx0 hx1 hx2;rw [Nat.add_zero]at hx0;have x0:=(hs.cell (p:=⟨xb,xo+k*3,none⟩) hxb (fun x=>x)).trans hx0;have x1:=(hs.cell (p:=⟨xb,xo+k*3+1,none⟩) hxb (fun x=>x)).trans hx1;have x2:=(hs.cell (p:=⟨xb,xo+k*3+2,none⟩) hxb (fun x=>x)).trans hx2;obtain⟨t0,t1,t2⟩:=ht.cells;have hlen:=hL.len;have hklz:(k:Int)<(L.length:Int):=by omega
 have hneg:a.kids<0:=by simpa [E5.leaf] using hlf
 have HH:=zz (aN ht hs);have hbl:a.body.length<=1000000:=by rw [E5.A1]at hB; omega
 have htl:=Lf a.tag a.body;have HLEN0:=fun W=>FN a.body.length (by omega) W
 have HCV0:=fun q W h=>FM a.tag.toNat (UInt8.toNat_lt _) q W h
 rw [UInt8.ofNat_toNat]at HCV0;obtain⟨ct,hct⟩:∃ct,ct=[a.tag]:=⟨_,rfl⟩
 obtain⟨LB,hLB⟩:∃LB,LB=E5.lenB a.body.length:=⟨_,rfl⟩
 obtain⟨HB,hHB⟩:∃HB,HB=[a.tag]++E5.lenB a.body.length:=⟨_,rfl⟩
 obtain⟨AB,hAB⟩:∃AB,AB=E5.wrap a.tag a.body:=⟨_,rfl⟩
 rw [<-hHB,<-hct,<-hLB,<-hAB]at htl;rw [<-hct]at HCV0;rw [<-hLB]at HLEN0;rw [<-hAB];have HCV:=zz HCV0;have HLEN:=zz HLEN0;have hszC:(ByteArray.mk ct.toArray).size=1:=by rw [Ad]; exact htl.one
 have hszL:(ByteArray.mk LB.toArray).size=LB.length:=Ad LB;have hszH:(ByteArray.mk HB.toArray).size=HB.length:=Ad HB;have hszB:(ByteArray.mk a.body.toArray).size=a.body.length:=Ad a.body;have hn9:=htl.nine;have hn10:=htl.hl;have happ1:=htl.h1;have happ2:=htl.h2;clear ht hs hlf hd hB hget hdrop hcx hx0 hx1 hx2 htl hct hLB hHB hAB HCV0 HLEN0;go_enter Tryz.func126,Tryz.ntmps126;go_upto_region 2 with fail
 obtain⟨q,hq⟩:∃q,q=w.heap.size:=⟨_,rfl⟩
 obtain⟨W2,hW2⟩:∃W2,W2=w.alloc (.cells #[.int .u8 a.tag.toNat,.int .i64 a.kids,.string ⟨a.body.toArray⟩] 90 (0,0)):=⟨_,rfl⟩
 rw [<-hW2,<-hq];have hs2:Same w W2:=by rw [hW2]; exact(sE w).alloc _
 have hb2:W2.heap[q]?=some (.cells #[.int .u8 a.tag.toNat,.int .i64 a.kids,S a.body] 90 (0,0)):=by rw [hW2,hq]; exact heap_alloc_new w _
 have HX:=zz (aN hs2 (aN hb2 hq));have HY:=zz (show ∀W,Same W2 W->W.cell? ⟨q,0,none⟩=some (.int .u8 a.tag.toNat)/\W.cell? ⟨q,2,none⟩=some (S a.body)from fun W h=>by
  have hk:=Cj h _ _ hb2;exact⟨Ab hk 0 rfl,Ab hk 2 rfl⟩)
 have y0:=Ab hb2 0 rfl;have y1:=Ab hb2 1 rfl;have y2:=Ab hb2 2 rfl;have hwl:q<W2.heap.size:=Au hb2;clear hs2 hb2 hW2 hq x0 x1 x2 t0 t1 t2;go_upto_region 3 with fail
 have hw1:IntKind.i64.wrap ((k:Int)+1)=(k:Int)+1:=IntWalk.i64_in _ ⟨by omega,by omega⟩;have hca:=HCV.out W2.heap.size (W2.alloc (.cells #[.int .u8 (a.tag.toNat:Nat)] 5 (0,0))) (heap_alloc_new _ _);have hcd:=HCV.out W2.heap.size (W2.alloc (.cells #[.int .u8 (a.tag.toNat:Nat)] 5 (0,0))).drew (heap_alloc_new _ _);go_cut [4,5] (fun t4 t5 wx=>t4=S AB/\t5= .int .i64 (k+1:Nat)/\Same W2 wx)
 case first=>
  go_region_with (go_at_call 150; refine(HLEN.out _).mono ?_; rintro e wm ⟨rfl,hm⟩; have hke:=HCV.out wm.heap.size (wm.alloc (.cells #[.int .u8 (a.tag.toNat:Nat)] 5 (0,0))) (heap_alloc_new _ _); (try (have hkf:=HCV.out W2.heap.size wm (Cj hm _ _ (heap_alloc_new _ _)))); have hM0:Same W2 wm:=(by first | exact sT (fD (sE W2)) hm | exact sT (fA (fD (sE W2)) _) hm); have z0:=(HY.out wm hM0).1; have z2:=(HY.out wm hM0).2; have HM:=zz hM0; have hwm:=Nat.lt_of_lt_of_le hwl hM0.size; clear hm hM0)
  all_goals
   go_wp2_with fail;go_meet
   first
    | exact⟨rfl,by go_num,HM.out⟩
    | exact⟨rfl,by go_num,fA HM.out _⟩
 case rest=>
  obtain⟨rfl,rfl,hsc⟩:=hcut;have HS:=zz (HX.out.1.trans hsc);clear hsc;go_wp2;go_ret2
  exact ToldP.mk AB (k+1) false out rfl ⟨HH.out.1.sm HS.out,HH.out.2.trans HS.out,.inl ⟨rfl,rfl,rfl,by rw [Bool.or_false]⟩⟩ (HS.out.fr _)
end Go.Proofs.YtpfhollohodcjaaGreatDoor
