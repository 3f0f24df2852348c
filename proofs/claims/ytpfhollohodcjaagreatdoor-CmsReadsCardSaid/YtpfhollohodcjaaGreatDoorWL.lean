import Derived.Test.YtpfhollohodcjaaGreatDoorWK
set_option maxRecDepth 100000
set_option maxHeartbeats 16000000
namespace Go.Proofs.YtpfhollohodcjaaGreatDoor
open Go.RowKit Go.Px Go.Px.R5
structure TSt (w0 w wr:World) (b:Nat) (va:Value) (k d:Nat) (x r:List Px.Node) (bx:Bytes) (o out:Bool) (L:List Px.Node) (set:Bool) (n q:Nat) (a:Px.Node) (i:Nat) (s last:Bytes) (pos:Nat):Prop where
 same:Same w0 wr
 fr:Fr (It b) w wr
 own:wr.heap[q]?=some (.cells #[.int .u8 a.tag.toNat,.int .i64 (n:Nat),S a.body] 90 (0,0))
 st:(∃y rest br o1 o2,x=y++rest/\bx=s++br/\E5.Kids (E5.El d) set (n - i) last rest br o2/\o=(o1 || o2)/\Tl wr b va false (out || o1)/\pos=k+1+y.length/\L.drop (k+1+y.length)=rest++r)\/
  (∃ou,Tl wr b va true ou/\262144<bx.length/\s.length<=bx.length)
def TEnd(wr:World)(b:Nat)(va:Value)(k:Nat)(x:List Px.Node)(bx:Bytes)(o out:Bool)(n i:Nat)(s:Bytes)(pos:Nat):Prop:=
 ∃lg ou,Tl wr b va lg ou/\(i<n->lg=true)/\((lg=false/\s=bx/\pos=k+1+x.length/\ou=(out || o))\/(lg=true/\262144<bx.length/\s.length<=bx.length))
theorem TSt.ends{w0 w wr:World}{b:Nat}{va:Value}{k d:Nat}{x r:List Px.Node}{bx:Bytes}{o out:Bool}{L:List Px.Node}{set:Bool}{n q:Nat}{a:Px.Node}{i:Nat}{s last:Bytes}{pos:Nat}(h:TSt w0 w wr b va k d x r bx o out L set n q a i s last pos)(hi:i<=n):TEnd wr b va k x bx o out n i s pos\/(i<n/\∃y rest br o1 o2,x=y++rest/\bx=s++br/\E5.Kids (E5.El d) set (n - i) last rest br o2/\o=(o1 || o2)/\Tl wr b va false (out || o1)/\pos=k+1+y.length/\L.drop (k+1+y.length)=rest++r):=by
 rcases h.st with ⟨y,rest,br,o1,o2,e1,e2,hk,eo,ht,ep,ed⟩| ⟨ou,ht,h1,h2⟩
 ·by_cases hlt:i<n
  ·exact .inr ⟨hlt,y,rest,br,o1,o2,e1,e2,hk,eo,ht,ep,ed⟩
  ·rw [show n - i=0 by omega]at hk;obtain⟨rfl,rfl,rfl⟩:=hk;refine .inl ⟨false,_,ht,fun h=>absurd h hlt,.inl ⟨rfl,by rw [e2,List.append_nil],by rw [e1,List.append_nil,ep],by rw [eo,Bool.or_false]⟩⟩
 ·exact .inl ⟨true,ou,ht,fun _=>rfl,.inr ⟨rfl,h1,h2⟩⟩
theorem Lh (w0:World) (b xb xo cap:Nat) (L:List Px.Node) (hL:Lst w0 b xb xo L) (d:Nat) (a:Px.Node) (hI:ToldC w0 b xb xo cap L d)
  (w:World) (k:Nat) (x r:List Px.Node) (bx:Bytes) (o out:Bool) (ht:Tl w b (.slice (some ⟨xb,xo,none⟩) L.length cap) false out) (hs:Same w0 w) (hlf:E5.leaf a=false) (hk:E5.Kids (E5.El d) (a.tag.toNat==49) (E5.count a) [] x bx o) (hd:L.drop k=(a::x)++r) (hB:bx.length<=1000000):
  Calls Tryz.prog 126 #[.pointer (some ⟨b,0,none⟩),.int .i64 (k:Nat)] w (ToldP w0 w b (.slice (some ⟨xb,xo,none⟩) L.length cap) k (a::x) (E5.wrap a.tag bx) o out):=by
 obtain⟨hkl,hget,hdrop⟩:=EH hd;have hcx:=hL.cell k a hget;have hxb:=hL.lt;have hx0:=hcx 0 _ rfl;have hx1:=hcx 1 _ rfl;have hx2:=hcx 2 _ rfl;rw [<-Nat.add_assoc]at hx0 hx1 hx2;rw [Nat.add_zero]at hx0;have hnn:a.kids=((E5.count a:Nat):Int):=by unfold E5.count; simp [E5.leaf]at hlf; omega
 have hn4:E5.count a<=4096:=by
  have h1:=E5.Jq (fun _ _ _ h=>E5.El.pos h) _ hk;have h2:=congrArg List.length hd;have h3:=hL.len;simp only [List.length_drop,List.length_append,List.length_cons]at h2;omega
 rw [hnn]at hx1;obtain⟨n,hn⟩:∃n,n=E5.count a:=⟨_,rfl⟩
 rw [<-hn]at hx1 hk hn4;have x0:=(hs.cell (p:=⟨xb,xo+k*3,none⟩) hxb (fun x=>x)).trans hx0;have x1:=(hs.cell (p:=⟨xb,xo+k*3+1,none⟩) hxb (fun x=>x)).trans hx1;have x2:=(hs.cell (p:=⟨xb,xo+k*3+2,none⟩) hxb (fun x=>x)).trans hx2;obtain⟨t0,t1,t2⟩:=ht.cells;have hlen:=hL.len;have hklz:(k:Int)<(L.length:Int):=by omega
 obtain⟨SET,hSET⟩:∃SET,SET=(a.tag.toNat==49):=⟨_,rfl⟩
 rw [<-hSET]at hk;have hbw:=Au ht.blk;have HH:=zz (aN ht (aN hs (aN hI (aN hL.le hSET))));have HCV0:=fun q W h=>FM a.tag.toNat (UInt8.toNat_lt _) q W h
 rw [UInt8.ofNat_toNat]at HCV0;have HK:=zz (aN hk hdrop);clear ht hs hlf hd hget hdrop hcx hx0 hx1 hx2 hk hn hnn hSET hL hI;go_enter Tryz.func126,Tryz.ntmps126;go_upto_region 2 with fail
 obtain⟨q,hq⟩:∃q,q=w.heap.size:=⟨_,rfl⟩
 obtain⟨W2,hW2⟩:∃W2,W2=w.alloc (.cells #[.int .u8 a.tag.toNat,.int .i64 (n:Nat),.string ⟨a.body.toArray⟩] 90 (0,0)):=⟨_,rfl⟩
 rw [<-hW2,<-hq];have hs2:Same w W2:=by rw [hW2]; exact(sE w).alloc _
 have hb2:W2.heap[q]?=some (.cells #[.int .u8 a.tag.toNat,.int .i64 (n:Nat),S a.body] 90 (0,0)):=by rw [hW2,hq]; exact heap_alloc_new w _
 have hqb:q≠b:=by omega
 have HT:=zz (show TSt w0 w W2 b (.slice (some ⟨xb,xo,none⟩) L.length cap) k d x r bx o out L SET n q a 0 [] [] (k+1)from
  ⟨HH.out.2.1.trans hs2,hs2.fr _,hb2,.inl ⟨[],x,bx,false,o,rfl,rfl,HK.out.1,rfl,by rw [Bool.or_false]; exact HH.out.1.sm hs2,rfl,HK.out.2⟩⟩)
 have y1:=Ab hb2 1 rfl;clear hs2 hb2 hW2 hq x0 x1 x2 t0 t1 t2 HK;go_wp2;go_loopg [7,8,9,10] (n+1) (fun gk t7 t8 t9 t10 wr=>∃(i:Nat) (s last:Bytes) (pos:Nat),gk+i=n+1/\i<=n/\t7=S s/\t8=S last/\t9= .int .i64 (pos:Nat)/\t10= .int .i64 (i:Nat)/\Hid (TSt w0 w wr b (.slice (some ⟨xb,xo,none⟩) L.length cap) k d x r bx o out L SET n q a i s last pos))
 case atStart=>exact⟨0,[],[],k+1,rfl,Nat.zero_le _,rfl,rfl,by go_num,rfl,HT.out⟩
 case round=>
  clear HT y1;obtain⟨i,s,last,pos,hgk,hi,rfl,rfl,rfl,rfl,HQ⟩:=hrel;have HG:=zz hgk;clear hgk;have y0:=Ab HQ.out.own 0 rfl;have y1:=Ab HQ.out.own 1 rfl;rcases HQ.out.ends hi with hend | ⟨hlt,y,rest,br,o1,o2,hx,hbx,hkids,ho,htl,hpos,hdr⟩
  ·obtain⟨lg,ou,htl,hstop,hor⟩:=hend;have HE:=zz (aN htl hor);have hsl:s.length<=1000000:=by rcases hor with ⟨_,rfl,_⟩| ⟨_,_,h⟩<;>omega
   obtain⟨_,tc1,_⟩:=htl.cells;have HST:=zz hstop;clear hor htl hstop;have hways:((i:Int)<(n:Int)/\wr.cell? ⟨b,1,none⟩=some (.bool true))\/¬(i:Int)<(n:Int):=by
    by_cases hlt:i<n
    ·exact .inl ⟨by omega,by rw [<-HST.out hlt]; exact tc1⟩
    ·exact .inr (by omega)
   clear tc1;have htl:=Lf a.tag s;have HLEN0:=fun W=>FN s.length (by omega) W
   obtain⟨ct,hct⟩:∃ct,ct=[a.tag]:=⟨_,rfl⟩
   obtain⟨LB,hLB⟩:∃LB,LB=E5.lenB s.length:=⟨_,rfl⟩
   obtain⟨HB,hHB⟩:∃HB,HB=[a.tag]++E5.lenB s.length:=⟨_,rfl⟩
   obtain⟨AB,hAB⟩:∃AB,AB=E5.wrap a.tag s:=⟨_,rfl⟩
   rw [<-hHB,<-hct,<-hLB,<-hAB]at htl;rw [<-hct]at HCV0;rw [<-hLB]at HLEN0;have HCV:=zz HCV0;have HLEN:=zz HLEN0;have HAB:=zz hAB;have hszC:(ByteArray.mk ct.toArray).size=1:=by rw [Ad]; exact htl.one
   have hszL:(ByteArray.mk LB.toArray).size=LB.length:=Ad LB;have hszH:(ByteArray.mk HB.toArray).size=HB.length:=Ad HB;have hszB:(ByteArray.mk s.toArray).size=s.length:=Ad s;have hn9:=htl.nine;have hn10:=htl.hl;have happ1:=htl.h1;have happ2:=htl.h2;have HY:=zz (show ∀W,Same wr W->W.cell? ⟨q,0,none⟩=some (.int .u8 a.tag.toNat)from fun W h=>Ab (Cj h _ _ HQ.out.own) 0 rfl);have hwl:q<wr.heap.size:=Au HQ.out.own;clear htl hct hLB hHB hAB HCV0 HLEN0;rcases hways with ⟨hltz,tc1⟩| hltz
   all_goals
    go_upto_region 18 with fail
    have hca:=HCV.out wr.heap.size (wr.alloc (.cells #[.int .u8 (a.tag.toNat:Nat)] 5 (0,0))) (heap_alloc_new _ _);have hcd:=HCV.out wr.heap.size (wr.alloc (.cells #[.int .u8 (a.tag.toNat:Nat)] 5 (0,0))).drew (heap_alloc_new _ _);go_cut [4,5] (fun t4 t5 wx=>t4=S AB/\t5= .int .i64 (pos:Nat)/\Same wr wx)
    case first=>
     go_region_with (go_at_call 150; refine(HLEN.out _).mono ?_; rintro e wm ⟨rfl,hm⟩; have hke:=HCV.out wm.heap.size (wm.alloc (.cells #[.int .u8 (a.tag.toNat:Nat)] 5 (0,0))) (heap_alloc_new _ _); (try (have hkf:=HCV.out wr.heap.size wm (Cj hm _ _ (heap_alloc_new _ _)))); have hM0:Same wr wm:=(by first | exact sT (fD (sE wr)) hm | exact sT (fA (fD (sE wr)) _) hm); have z0:=HY.out wm hM0; have HM:=zz hM0; have hwm:=Nat.lt_of_lt_of_le hwl hM0.size; clear hm hM0)
     all_goals
      go_wp2_with fail;go_meet
      first
       | exact⟨rfl,rfl,HM.out⟩
       | exact⟨rfl,rfl,fA HM.out _⟩
    case rest=>
     obtain⟨rfl,rfl,hsc⟩:=hcut;have HS:=zz hsc;clear hsc;go_wp2;go_ret2
     refine ToldP.mk AB pos lg ou rfl ⟨HE.out.1.sm HS.out,HQ.out.same.trans HS.out,?_⟩ (fT HQ.out.fr HS.out (fun _ _ x=>x.elim));rw [HAB.out];rcases HE.out.2 with ⟨e1,e2,e3,e4⟩| ⟨e1,e2,e3⟩
     ·exact .inl ⟨e1,by rw [e2],by rw [e3,List.length_cons]; omega,e4⟩
     ·exact .inr ⟨e1,by rw [E5.A1]; omega,E5.Ld _ e3⟩
  ·have hltz:(i:Int)<(n:Int):=by omega
   have htc:=htl.cells.2.1;obtain⟨g',rfl⟩:∃g',gk=g'+1:=⟨gk - 1,by have:=HG.out; omega⟩
   rw [show n - i=(n - (i+1))+1 by omega]at hkids;obtain⟨x1,r1,b1,br1,p1,p2,hr1,hb1,hx1,hk1,hp⟩:=hkids;have hlb:s.length+(b1.length+br1.length)=bx.length:=by rw [hbx,hb1,List.length_append,List.length_append]
   have hpl:pos<=5000:=by
    have:=congrArg List.length hdr;rw [hr1]at this;simp only [List.length_drop,List.length_append]at this;have:=E5.El.pos hx1;omega
   have hcall:=HH.out.2.2.1 wr pos x1 (r1++r) b1 p1 (out || o1) htl HQ.out.same hx1 (by rw [hpos,hdr,hr1,List.append_assoc]) (by omega);have HC:=zz (aN hcall (aN hx (aN hbx (aN ho (aN hpos (aN hdr (aN hr1 (aN hb1 (aN hk1 hp)))))))));clear hcall hx hbx ho hpos hdr hr1 hb1 hk1 hp htl hx1;go_wp2_with fail;refine HC.out.1.mono ?_;rintro e w4 ⟨s1,k4,lg,ou,rfl,htold,hf⟩;have hs1:s1.length<=b1.length:=by rcases htold.or with ⟨_,e,_⟩| ⟨_,_,e⟩; exact Nat.le_of_eq (by rw [e]); exact e
   have hown:=(hf.block q (Au HQ.out.own) (fun e=>by unfold It at e; exact hqb e)).trans HQ.out.own;have HT4:=zz (aN htold (aN (fT HQ.out.fr hf (fun _ _ e=>e)) hown));clear htold hf hown htc y0 y1;obtain⟨sn,hsn⟩:∃sn,sn=s++s1:=⟨_,rfl⟩
   have happ:=Dk s s1;rw [<-hsn]at happ;have hsz1:(ByteArray.mk s.toArray).size=s.length:=Ad s;have hsz2:(ByteArray.mk s1.toArray).size=s1.length:=Ad s1;have hsz3:(ByteArray.mk sn.toArray).size=sn.length:=Ad sn;have hsnl:sn.length=s.length+s1.length:=by rw [hsn,List.length_append]
   have HSN:=zz (aN hsn hsnl);have hsnb:sn.length<=1000000:=by omega
   obtain⟨lg2,hlg2⟩:∃lg2,lg2=(lg || decide (262144<sn.length)):=⟨_,rfl⟩
   have HL2:=zz hlg2;clear hsn hlg2 hsnl;go_upto_if 64 with fail
   go_cut [] (fun wx=>Tl wx b (.slice (some ⟨xb,xo,none⟩) L.length cap) lg2 ou/\Fr (It b) w4 wx/\Same w0 wx)
   case first=>
    have hto:=HT4.out.1.tl;have hfo:=AZ hto.blk 1;have hco:=hto.cells.2.1;have hbc:=Au hto.blk;have HTO:=zz hto;clear hto;by_cases hbig:262144<sn.length
    ·have hbz:(262144:Int)<(sn.length:Int):=by omega
     have HE:=zz (show lg2=true by rw [HL2.out,dt hbig,Bool.or_true]);clear hbig;go_wp2_with fail;go_meet
     rw [HE.out];exact⟨HTO.out.setLong true,It.set _,HT4.out.1.same.setCell (p:=⟨b,1,none⟩) (.inr HH.out.2.2.2.1) _⟩
    ·have hbz:¬(262144:Int)<(sn.length:Int):=by omega
     have HE:=zz (show lg2=lg by rw [HL2.out,df hbig,Bool.or_false]);clear hbig;go_wp2_with fail;go_meet
     rw [HE.out];exact⟨HTO.out,fR _ _,HT4.out.1.same⟩
   case rest=>
    obtain⟨htl,hfr,hsm⟩:=hcut;have hown:=(hfr.block q (Au HT4.out.2.2) (fun e=>by unfold It at e; exact hqb e)).trans HT4.out.2.2;have y0:=Ab hown 0 rfl;have HT5:=zz (aN htl (aN (fT HT4.out.2.1 hfr (fun _ _ e=>e)) (aN hown hsm)));clear htl hfr hown hsm;obtain⟨CM,hCM⟩:∃CM,CM=(SET && Op.bytesLess s1 last):=⟨_,rfl⟩
    have HCM:=zz hCM;clear hCM;go_upto_region 15 with fail
    go_cut [75] (fun t75 wx=>t75= .bool CM/\wx=wc)
    case first=>
     by_cases h49:a.tag.toNat=49
     ·have HE:=zz (show CM=Op.bytesLess s1 last by rw [HCM.out,HH.out.2.2.2.2,beq_iff_eq.2 h49]; rfl);rw [h49]at y0;clear h49;go_wp2_with fail;go_meet
      rw [HE.out];exact⟨rfl,rfl⟩
     ·have HE:=zz (show CM=false by rw [HCM.out,HH.out.2.2.2.2,bn h49]; rfl);have hne:((a.tag.toNat:Int)==49)=false:=bn (by omega);clear h49;go_wp2_with fail;go_meet
      rw [HE.out];exact⟨rfl,rfl⟩
    case rest=>
     obtain⟨rfl,hwc⟩:=hcut;subst hwc;go_upto_if 75 with fail
     go_cut [] (fun wx=>Tl wx b (.slice (some ⟨xb,xo,none⟩) L.length cap) lg2 (ou || CM)/\Fr (It b) wc wx/\Same w0 wx)
     case first=>
      have hto:=HT5.out.1;have hfo:=AZ hto.blk 2;have hco:=hto.cells.2.2;have hbc:=Au hto.blk;have HTO:=zz hto;clear hto;cases CM
      ·go_wp2_with fail;go_meet
       rw [Bool.or_false];exact⟨HTO.out,fR _ _,HT5.out.2.2.2⟩
      ·go_wp2_with fail;go_meet
       rw [Bool.or_true];exact⟨HTO.out.setOut true,It.set _,HT5.out.2.2.2.setCell (p:=⟨b,2,none⟩) (.inr HH.out.2.2.2.1) _⟩
     case rest=>
      obtain⟨htl,hfr,hsm⟩:=hcut;have hown:=(hfr.block q (Au HT5.out.2.2.1) (fun e=>by unfold It at e; exact hqb e)).trans HT5.out.2.2.1;have HT6:=zz (aN htl (aN (fT HT5.out.2.1 hfr (fun _ _ e=>e)) (aN hown hsm)));clear htl hfr hown hsm y0;go_wp2;go_roundg g'
      case measure=>omega
      case rel=>
       refine⟨i+1,sn,s1,k4,by have:=HG.out; omega,by omega,rfl,rfl,rfl,by go_num,zz ⟨HT6.out.2.2.2,HT6.out.2.1,HT6.out.2.2.1,?_⟩⟩;have hcases:lg2=false\/lg2=true:=by cases lg2; exact .inl rfl; exact .inr rfl
       rcases hcases with hlg | hlg
       ·have h1:=HL2.out;rw [hlg]at h1;have h2:lg=false/\¬262144<sn.length:=by
         cases lg
         ·exact⟨rfl,by simpa using h1⟩
         ·simp at h1
        rcases HT4.out.1.or with ⟨_,e1,e2,e3⟩| ⟨e,_⟩
        ·refine .inl ⟨y++x1,r1,br1,(o1 || p1 || CM),p2,?_,?_,?_,?_,?_,?_,?_⟩
         ·rw [HC.out.2.1,HC.out.2.2.2.2.2.2.1,List.append_assoc]
         ·rw [HSN.out.1,HC.out.2.2.1,HC.out.2.2.2.2.2.2.2.1,e1,List.append_assoc]
         ·rw [e1]; exact HC.out.2.2.2.2.2.2.2.2.1
         ·rw [HC.out.2.2.2.1,HC.out.2.2.2.2.2.2.2.2.2,HCM.out,e1];simp only [Bool.or_assoc]
         ·have h3:=HT6.out.1;rw [hlg,e3]at h3;simpa only [Bool.or_assoc] using h3
         ·rw [e2,HC.out.2.2.2.2.1,List.length_append]; omega
         ·rw [List.length_append,<-Nat.add_assoc,<-List.drop_drop,HC.out.2.2.2.2.2.1,HC.out.2.2.2.2.2.2.1,List.append_assoc,List.drop_left]
        ·rw [h2.1]at e; cases e
       ·refine .inr ⟨_,by have:=HT6.out.1; rw [hlg]at this; exact this,?_,?_⟩
        ·have h1:=HL2.out;rw [hlg]at h1;cases hl:lg with
         | false=>
          rw [hl]at h1;have:262144<sn.length:=by simpa using h1.symm
          have:=HSN.out.2;omega
         | true=>
          rcases HT4.out.1.or with ⟨e,_⟩| ⟨_,e1,_⟩
          ·rw [hl]at e; cases e
          ·omega
        ·have:=HSN.out.2; omega
theorem Mr(w0:World)(b xb xo cap:Nat)(L:List Px.Node)(hL:Lst w0 b xb xo L):∀d,ToldC w0 b xb xo cap L d:=by
 have leafC:∀(a:Px.Node),E5.leaf a=true->∀(w:World) (k:Nat) (r:List Px.Node) (out:Bool),Tl w b (.slice (some ⟨xb,xo,none⟩) L.length cap) false out->Same w0 w->L.drop k=[a]++r->(E5.wrap a.tag a.body).length<=1000000->
   Calls Tryz.prog 126 #[.pointer (some ⟨b,0,none⟩),.int .i64 (k:Nat)] w (ToldP w0 w b (.slice (some ⟨xb,xo,none⟩) L.length cap) k [a] (E5.wrap a.tag a.body) false out):=
  fun a h w k r out ht hs hd hB=>Lg w0 b xb xo cap L hL a w k r out ht hs h hd hB
 intro d
 induction d with
 | zero=>
  intro w k x r B o out ht hs hit hd hB;obtain⟨a,rfl,_,h2,rfl,rfl⟩:=hit;exact leafC a h2 w k r out ht hs hd hB
 | succ d ih=>
  intro w k x r B o out ht hs hit hd hB;rcases hit with ⟨a,rfl,_,h2,rfl,rfl⟩| ⟨a,t,br,rfl,_,h2,h3,rfl⟩
  ·exact leafC a h2 w k r out ht hs hd hB
  ·exact Lh w0 b xb xo cap L hL d a ih w k t r br o out ht hs h2 h3 hd (by rw [E5.A1]at hB; omega)
end Go.Proofs.YtpfhollohodcjaaGreatDoor
