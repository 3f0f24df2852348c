import Derived.Test.YtpfhollohodcjaaGreatDoorWL
set_option maxRecDepth 100000
set_option maxHeartbeats 8000000
namespace Go.Px.E5
theorem EI:∀(l:List Node) (left:List Nat) (most i m:Nat),behind l left most i=(some (i+l.length),m)->∀a∈l,-1<=a.kids
 | [],_,_,_,_,_=>nofun
 | a::r,left,most,i,m,h=>by
  unfold behind at h;by_cases hk:a.kids< -1
  ·rw [if_pos hk]at h; simp at h
  ·rw [if_neg hk]at h;have ha: -1<=a.kids:=by omega
   intro b hb;rcases List.mem_cons.1 hb with rfl | hb
   ·exact ha
   ·dsimp only at h;generalize (if leaf a=true then dec left else count a::dec left)=l2 at h
    split at h
    ·simp only [Prod.mk.injEq,Option.some.injEq,List.length_cons]at h;have:r.length=0:=by omega
     rw [List.eq_nil_of_length_eq_zero this]at hb;cases hb
    ·exact EI r _ _ (i+1) m (by rw [h,List.length_cons]; congr 2; omega) b hb
def refW(a:Node):Bool:= !(R5.tagE a.tag.toNat==0 && (R5.inner a.tag.toNat==decide (0<=a.kids)) && (if leaf a then R5.body a.tag.toNat a.body else a.body.isEmpty))
theorem FO{a:Node}(h: -1<=a.kids):right a= !refW a:=by
 unfold right refW;rw [Bool.not_not,dt h,Bool.and_true];have e:(!leaf a)=decide (0<=a.kids):=by
  unfold leaf;by_cases hk:a.kids<0
  ·rw [dt hk,df (by omega)]; rfl
  ·rw [df hk,dt (by omega)]; rfl
 rw [e]
theorem Li(a:Node):(∃te,te=R5.tagE a.tag.toNat/\(te==0)=false/\refW a=true)\/(R5.tagE a.tag.toNat=0/\
  ((R5.inner a.tag.toNat=true/\¬0<=a.kids/\refW a=true)\/(R5.inner a.tag.toNat=false/\0<=a.kids/\refW a=true)\/(R5.inner a.tag.toNat=true/\0<=a.kids/\refW a= !a.body.isEmpty)\/(R5.inner a.tag.toNat=false/\¬0<=a.kids/\refW a= !R5.body a.tag.toNat a.body))):=by
 unfold refW;by_cases h1:R5.tagE a.tag.toNat=0
 ·refine .inr ⟨h1,?_⟩;rw [show(R5.tagE a.tag.toNat==0)=true from beq_iff_eq.2 h1,Bool.true_and];by_cases h3:0<=a.kids
  ·have hl:leaf a=false:=df (by omega);rw [hl,dt h3];cases R5.inner a.tag.toNat
   ·exact .inr (.inl ⟨rfl,h3,rfl⟩)
   ·exact .inr (.inr (.inl ⟨rfl,h3,by simp⟩))
  ·have hl:leaf a=true:=dt (by omega);rw [hl,df h3];cases R5.inner a.tag.toNat
   ·exact .inr (.inr (.inr ⟨rfl,h3,by simp⟩))
   ·exact .inl ⟨rfl,h3,rfl⟩
 ·exact .inl ⟨_,rfl,bn h1,by rw [show(R5.tagE a.tag.toNat==0)=false from bn h1]; rfl⟩
theorem Ms(l:List Node)(k:Nat)(hk:k<l.length):totN (l.take (k+1)) 0=if 262144<l[k].body.length\/262144<totN (l.take k) 0 then 262145 else totN (l.take k) 0+l[k].body.length:=by
 rw [List.take_succ_eq_append_getElem hk,Ja]
end Go.Px.E5
namespace Go.Proofs.YtpfhollohodcjaaGreatDoor
open Go.RowKit Go.Px Go.Px.R5
theorem Jr(t:Nat)(h:inner t=true):((t:Int) / 32 % 2==1)=true:=by
 unfold inner at h;rw [beq_iff_eq]at h ⊢;omega
theorem Js(t:Nat)(h:inner t=false):((t:Int) / 32 % 2==1)=false:=by
 unfold inner at h;rw [beq_eq_false_iff_ne]at h ⊢;omega
theorem GP(v:Value)(l:List Px.Node)(w:World)(h:Lies w 3 cNode v l)(hw:∀a∈l,-9223372036854775808<=a.kids/\a.kids<=9223372036854775807/\a.body.length<=140737488355327):
  Calls Tryz.prog 84 #[v] w (EncP w l):=by
 obtain⟨va,vc,hv,hv1,hv2⟩:=h.slice;subst hv;have hvm:l.length<=9223372036854775807:=by unfold maxLen at hv2; omega
 have H:=zz (aN h hw);clear h hw hv2;by_cases hmany:4096<l.length
 ·have hz:(4096:Int)<(l.length:Int):=by omega
  have HR:=zz (show E5.Enc l ([],10)from .many hmany);clear hmany;go_enter Tryz.func84,Tryz.ntmps84;go_wp2;go_ret2
  exact EncP.mk [] 10 HR.out rfl (sE w)
 ·have hz:¬(4096:Int)<(l.length:Int):=by omega
  have hl:l.length<=4096:=by omega
  clear hmany;have HB:=zz (J6 _ l w H.out.1 hl (fun a ha=>⟨(H.out.2 a ha).1,(H.out.2 a ha).2.1⟩));obtain⟨eb,m,hem⟩:∃eb m,E5.behind l [] 0 0=(eb,m):=⟨_,_,rfl⟩
  rw [hem]at HB;by_cases hend:l≠ []/\eb=some l.length
  ·obtain⟨hne,rfl⟩:=hend;have hpos:0<l.length:=List.length_pos_iff.2 hne;have HEM:=zz (aN hem hne);have HKIDS:=zz (E5.EI l [] 0 0 m (by rw [Nat.zero_add]; exact hem));unfold behV at HB;have hne0:((l.length:Int)==0)=false:=bn (by omega);clear hem hne;go_enter Tryz.func84,Tryz.ntmps84;go_wp2_with fail;refine HB.out.mono ?_;rintro e w1 ⟨rfl,hs1⟩;have HS1:=zz hs1;clear hs1;go_wp2;go_loopg [6,7] (l.length+1) (fun gk t6 t7 wr=>∃k:Nat,gk+k=l.length+1/\k<=l.length/\t6= .int .i64 (E5.totN (l.take k) 0:Nat)/\t7= .int .i64 (k:Nat)/\Hid (Same w wr/\E5.totN (l.take k) 0<=524288/\∀j (hj:j<l.length),j<k->E5.right l[j]=true))
   case atStart=>exact⟨0,rfl,Nat.zero_le _,rfl,rfl,zz ⟨HS1.out,by simp [E5.totN],fun j hj h=>absurd h (Nat.not_lt_zero j)⟩⟩
   case round=>
    clear HS1;obtain⟨k,hgk,hk,rfl,rfl,HT⟩:=hrel;have HG:=zz hgk;clear hgk;have htb:=HT.out.2.1;have HTK:=zz (fun hk=>E5.Ms l k hk);obtain⟨tk,htk⟩:∃tk,tk=E5.totN (l.take k) 0:=⟨_,rfl⟩
    rw [<-htk]at HTK htb ⊢;have HTKE:=zz htk;clear htk;by_cases hlt:k<l.length
    ·have hlz:(k:Int)<(l.length:Int):=by omega
     obtain⟨g',rfl⟩:∃g',gk=g'+1:=⟨gk - 1,by have:=HG.out; omega⟩
     obtain⟨xb,xo,xc,hve,hxb,hcx⟩:=(Lies.same H.out.1 HT.out.1).cell k l[k] (by simp [hlt]);simp only [Value.slice.injEq,true_and]at hve;obtain⟨rfl,rfl⟩:=hve;have x0:=hcx 0 _ rfl;have x1:=hcx 1 _ rfl;have x2:=hcx 2 _ rfl;rw [<-Nat.add_assoc]at x0 x1 x2;rw [Nat.add_zero]at x0;have hmem:l[k]∈l:=List.getElem_mem _;have hsum:=HTK.out hlt;obtain⟨x,hx⟩:∃x,x=l[k]:=⟨_,rfl⟩
     rw [<-hx]at x0 x1 x2 hmem hsum;have hxl:=H.out.2 x hmem;have HX:=zz (aN hx (aN hmem (aN hsum (aN hxl.2.2 (HKIDS.out x hmem)))));have hk1:=hxl.1;have hk2:=hxl.2.1;have hbl:=hxl.2.2;have hsz:(ByteArray.mk x.body.toArray).size=x.body.length:=Ad x.body;clear hcx hx hmem hsum hxl;go_upto_region 11 with fail
     obtain⟨q,hq⟩:∃q,q=wr.heap.size:=⟨_,rfl⟩
     obtain⟨WX,hWX⟩:∃WX,WX=wr.alloc (.cells #[.int .u8 x.tag.toNat,.int .i64 x.kids,.string ⟨x.body.toArray⟩] 90 (0,0)):=⟨_,rfl⟩
     rw [<-hWX,<-hq];have hsX:Same wr WX:=by rw [hWX]; exact(sE wr).alloc _
     have hbX:WX.heap[q]?=some (.cells #[.int .u8 x.tag.toNat,.int .i64 x.kids,S x.body] 90 (0,0)):=by rw [hWX,hq]; exact heap_alloc_new wr _
     have HSX:=zz (aN (HT.out.1.trans hsX) hbX);have y0:=Ab hbX 0 rfl;have y1:=Ab hbX 1 rfl;have y2:=Ab hbX 2 rfl;clear hWX hsX hbX x0 x1 x2 hq;have htb8:x.tag.toNat<256:=UInt8.toNat_lt _;go_cut [77] (fun t77 wx=>t77= .bool (E5.refW x)/\Same WX wx)
     case first=>
      rcases E5.Li x with ⟨te,hte,q1,q2⟩| ⟨hte,⟨q1,q3,q2⟩| ⟨q1,q3,q2⟩| ⟨q1,q3,q2⟩| ⟨q1,q3,q2⟩⟩
      ·have HE:=zz (aN hte q2);have hne:¬te=0:=beq_eq_false_iff_ne.1 q1;have hbn:(te !=0)=true:=bne_iff_ne.2 hne;clear hte q2;go_wp2_with fail;refine(AX _ htb8 _).mono ?_;rintro r w2 ⟨rfl,hw2⟩;subst hw2;rw [<-HE.out.1];go_wp2_with fail;go_meet
       rw [HE.out.2];exact⟨rfl,sE _⟩
      ·have HE:=zz (aN hte q2);have hbt:=Jr _ q1;have d2:=df q3;clear hte q2 q1;go_wp2_with fail;refine(AX _ htb8 _).mono ?_;rintro r w2 ⟨rfl,hw2⟩;subst hw2;rw [HE.out.1];go_wp2_with fail;go_meet
       rw [HE.out.2];exact⟨rfl,sE _⟩
      ·have HE:=zz (aN hte q2);have hbt:=Js _ q1;have d2:=dt q3;clear hte q2 q1;go_wp2_with fail;refine(AX _ htb8 _).mono ?_;rintro r w2 ⟨rfl,hw2⟩;subst hw2;rw [HE.out.1];go_wp2_with fail;go_meet
       rw [HE.out.2];exact⟨rfl,sE _⟩
      ·have HE:=zz (aN hte q2);have hbt:=Jr _ q1;have d2:=dt q3;have d3:¬x.kids<0:=by omega
       clear hte q2 q1;by_cases hbe:x.body=[]
       ·have HE2:=zz (show(!x.body.isEmpty)=false by rw [hbe]; rfl);rw [hbe]at y2;clear hbe;go_wp2_with fail;refine(AX _ htb8 _).mono ?_;rintro r w2 ⟨rfl,hw2⟩;subst hw2;rw [HE.out.1];go_wp2_with fail;go_meet
        rw [HE.out.2,HE2.out];exact⟨rfl,sE _⟩
       ·have HE2:=zz (show(!x.body.isEmpty)=true by rw [show x.body.isEmpty=false by rw [List.isEmpty_eq_false_iff]; exact hbe]; rfl);obtain⟨nb,hnb⟩:∃nb,x.body.length=nb+1:=⟨x.body.length - 1,by have:=List.length_pos_iff.2 hbe; omega⟩
        rw [hnb]at hsz;clear hbe hnb;go_wp2_with fail;refine(AX _ htb8 _).mono ?_;rintro r w2 ⟨rfl,hw2⟩;subst hw2;rw [HE.out.1];go_wp2_with fail;go_meet
        rw [HE.out.2,HE2.out];exact⟨rfl,sE _⟩
      ·have HE:=zz (aN hte q2);have hbt:=Js _ q1;have d2:=df q3;have d3:x.kids<0:=by omega
       clear hte q2 q1;go_wp2_with fail;refine(AX _ htb8 _).mono ?_;rintro r w2 ⟨rfl,hw2⟩;subst hw2;rw [HE.out.1];go_wp2_with fail;refine(DT _ _ HX.out.2.2.2.1 _).mono ?_;rintro r w3 ⟨rfl,hs3⟩;have HS3:=zz hs3;clear hs3;go_wp2_with fail;go_meet
       rw [HE.out.2];exact⟨rfl,HS3.out⟩
     case rest=>
      obtain⟨rfl,hsc⟩:=hcut;have HSC:=zz (aN (HSX.out.1.trans hsc) ((hsc.block q (Au HSX.out.2) (fun x=>x)).trans HSX.out.2));clear hsc y0 y1 y2 HSX;cases hrw:E5.refW x
      ·have HRW:=zz (show E5.right x=true by rw [E5.FO HX.out.2.2.2.2,hrw]; rfl);clear hrw;have y2:=Ab HSC.out.2 2 rfl;obtain⟨tn,htn⟩:∃tn,tn=(if 262144<x.body.length\/262144<tk then 262145 else tk+x.body.length):=⟨_,rfl⟩
       have HTN:=zz htn;clear htn;obtain⟨BG,hBG⟩:∃BG,BG=decide (262144<x.body.length\/262144<tk):=⟨_,rfl⟩
       have HBG:=zz hBG;clear hBG;go_upto_region 13 with fail
       go_cut [85] (fun t85 wx=>t85= .bool BG/\wx=wc)
       case first=>
        by_cases hb1:262144<x.body.length
        ·have hz1:(262144:Int)<(x.body.length:Int):=by omega
         have HE:=zz (show BG=true by rw [HBG.out,dt (.inl hb1)]);clear hb1;go_wp2_with fail;go_meet
         rw [HE.out];exact⟨rfl,rfl⟩
        ·have hz1:¬(262144:Int)<(x.body.length:Int):=by omega
         by_cases hb2:262144<tk
         ·have hz2:(262144:Int)<(tk:Int):=by omega
          have HE:=zz (show BG=true by rw [HBG.out,dt (.inr hb2)]);clear hb1 hb2;go_wp2_with fail;go_meet
          rw [HE.out];exact⟨rfl,rfl⟩
         ·have hz2:¬(262144:Int)<(tk:Int):=by omega
          have HE:=zz (show BG=false by rw [HBG.out,df (by omega)]);clear hb1 hb2;go_wp2_with fail;go_meet
          rw [HE.out];exact⟨rfl,rfl⟩
       case rest=>
         obtain⟨rfl,hwc⟩:=hcut;subst hwc;have htn5:tn<=524288:=by rw [HTN.out]; split<;>omega
         have HREL:=zz (show tn=E5.totN (l.take (k+1)) 0/\Same w wc/\E5.totN (l.take (k+1)) 0<=524288/\∀j (hj:j<l.length),j<k+1->E5.right l[j]=true from by
        have e:tn=E5.totN (l.take (k+1)) 0:=by rw [HX.out.2.2.1]; exact HTN.out
        refine⟨e,HSC.out.1,by rw [<-e]; exact htn5,fun j hj hjk=>?_⟩;by_cases hjk2:j<k
        ·exact HT.out.2.2 j hj hjk2
        ·obtain rfl:j=k:=by omega
         rw [<-HX.out.1];exact HRW.out)
         cases BG
         ·have hnb:=of_decide_eq_false HBG.out.symm;have HE:=zz (show tn=tk+x.body.length by rw [HTN.out,if_neg hnb]);have h1:x.body.length<=262144:=by omega
          have h2:tk<=262144:=by omega
          clear hnb;go_wp2;go_roundg g'
          case measure=>omega
          case rel=>exact⟨k+1,by have:=HG.out; omega,by omega,by rw [<-HREL.out.1,HE.out]; go_num,by go_num,zz HREL.out.2⟩
         ·have HE:=zz (show tn=262145 by rw [HTN.out,if_pos (of_decide_eq_true HBG.out.symm)]);go_wp2;go_roundg g'
          case measure=>omega
          case rel=>exact⟨k+1,by have:=HG.out; omega,by omega,by rw [<-HREL.out.1,HE.out]; rfl,by go_num,zz HREL.out.2⟩
      ·have HR:=zz (E5.Kq hl HX.out.2.1 (by rw [E5.FO HX.out.2.2.2.2,hrw]; rfl));clear hrw;go_wp2;go_ret2
       exact EncP.mk [] 9 HR.out rfl HSC.out.1
    ·have hlz:¬(k:Int)<(l.length:Int):=by omega
     have HTE:=zz (show tk=E5.totN l 0 by rw [HTKE.out,show k=l.length by omega,List.take_length]);have HSH:=zz (E5.Hb HEM.out.1 (fun a ha=>by
      obtain⟨j,hj,rfl⟩:=List.getElem_of_mem ha;exact HT.out.2.2 j hj (by omega)))
     clear hk hlt HG HTKE HTK;by_cases h32:32<m
     ·have h32z:(32:Int)<(m:Int):=by omega
      have HR:=zz (show E5.Enc l ([],10)from .deep m hl HSH.out HEM.out.2 h32);clear h32;go_wp2;go_ret2
      exact EncP.mk [] 10 HR.out rfl HT.out.1
     ·have h32z:¬(32:Int)<(m:Int):=by omega
      by_cases hbig:262144<tk
      ·have hbz:(262144:Int)<(tk:Int):=by omega
       have HR:=zz (E5.Kr hl HEM.out.2 HSH.out (by omega) (by rw [<-HTE.out]; exact hbig));clear h32 hbig;go_wp2;go_ret2
       exact EncP.mk [] 10 HR.out rfl HT.out.1
      ·have hbz:¬(262144:Int)<(tk:Int):=by omega
       obtain⟨B,o,hit⟩:=E5.Cy (D:=32) HEM.out.2 HSH.out (by omega);have hBl:=E5.LF hl hit (by rw [<-HTE.out]; exact hbig);obtain⟨xb,xo,xc,hve,hxb,_⟩:=(Lies.same H.out.1 HT.out.1).cell 0 l[0] (by simp [hpos]);simp only [Value.slice.injEq,true_and]at hve;obtain⟨rfl,rfl⟩:=hve;have hlst:Lst wr wr.heap.size xb xo l:=⟨fun j x hj i u hu=>by
        obtain⟨b',o',c',hve,_,hc⟩:=(Lies.same H.out.1 HT.out.1).cell j x hj;simp only [Value.slice.injEq,Option.some.injEq,Addr.mk.injEq,and_true,true_and]at hve;obtain⟨⟨rfl,rfl⟩,_⟩:=hve;exact hc i u hu,hxb,Nat.le_refl _,hl⟩
       have HTO:=zz (aN (Mr wr wr.heap.size xb xo vc l hlst 32) (aN hit (show B.length<=1000000 by omega)));clear hlst hit h32 hbig hBl;go_wp2_with fail;have HBX:=zz (show Tl (wr.alloc (.cells #[.slice (some ⟨xb,xo,none⟩) l.length vc,.bool false,.bool false] 189 (0,0))) wr.heap.size (.slice (some ⟨xb,xo,none⟩) l.length vc) false false from⟨heap_alloc_new wr _⟩);refine(HTO.out.1 _ 0 l [] B o false HBX.out ((sE wr).alloc _) HTO.out.2.1 (by simp) HTO.out.2.2).mono ?_;rintro e w5 ⟨s,k',lg,ou,rfl,htold,_⟩;have HQ:=zz htold;have q1:=htold.tl.cells.2.1;have q2:=htold.tl.cells.2.2;have hsz:(ByteArray.mk s.toArray).size=s.length:=Ad s;clear htold;have HS5:=zz (HT.out.1.trans HQ.out.same);cases lg
       ·have hor:s=B/\ou=o:=by
         rcases HQ.out.or with ⟨_,e,_,e2⟩| ⟨e,_⟩
         ·exact⟨e,by rw [e2]; rfl⟩
         ·cases e
        have HEL:=zz (show E5.El 32 l s ou by rw [hor.1,hor.2]; exact HTO.out.2.1);have hs1:s.length<=1000000:=by rw [hor.1]; exact HTO.out.2.2
        clear hor;by_cases hlong:262144<s.length
        ·have hlz2:(262144:Int)<(s.length:Int):=by omega
         have HR:=zz (show E5.Enc l ([],10)from .long s ou hl HEL.out hlong);clear hlong;go_wp2;go_ret2
         exact EncP.mk [] 10 HR.out rfl HS5.out
        ·have hlz2:¬(262144:Int)<(s.length:Int):=by omega
         cases ou
         ·have HR:=zz (show E5.Enc l (s,0)from .ok s hl HEL.out (by omega));clear hlong;go_wp2;go_ret2
          exact EncP.mk s 0 HR.out rfl HS5.out
         ·have HR:=zz (show E5.Enc l ([],9)from .out s hl HEL.out (by omega));clear hlong;go_wp2;go_ret2
          exact EncP.mk [] 9 HR.out rfl HS5.out
       ·have HR:=zz (show E5.Enc l ([],10)from .long B o hl HTO.out.2.1 (by
         rcases HQ.out.or with ⟨e,_⟩| ⟨_,e,_⟩
         ·cases e
         ·exact e))
        go_wp2;go_ret2
        exact EncP.mk [] 10 HR.out rfl HS5.out
  ·have HR:=zz (E5.JH hl (by
    by_cases hn:l=[]
    ·exact .inl hn
    ·exact .inr (by rw [hem]; exact fun e=>hend ⟨hn,e⟩)))
   unfold behV at HB;have HEND:=zz hend;clear hem hend;cases eb with
   | none=>
    have hne:((-1:Int) !=(l.length:Int))=true:=bne_iff_ne.2 (by omega);go_enter Tryz.func84,Tryz.ntmps84;go_wp2_with fail;refine HB.out.mono ?_;rintro e w2 ⟨rfl,hs2⟩;have HS2:=zz hs2;clear hs2;by_cases hn0:l.length=0
    ·have hnz:((l.length:Int)==0)=true:=beq_iff_eq.2 (by omega);clear hn0;go_wp2;go_ret2
     exact EncP.mk [] 9 HR.out rfl HS2.out
    ·have hnz:((l.length:Int)==0)=false:=bn (by omega);clear hn0;go_wp2;go_ret2
     exact EncP.mk [] 9 HR.out rfl HS2.out
   | some p=>
    go_enter Tryz.func84,Tryz.ntmps84;go_wp2_with fail;refine HB.out.mono ?_;rintro e w2 ⟨rfl,hs2⟩;have HS2:=zz hs2;clear hs2;by_cases hn0:l.length=0
    ·have hnz:((l.length:Int)==0)=true:=beq_iff_eq.2 (by omega);clear hn0;go_wp2;go_ret2
     exact EncP.mk [] 9 HR.out rfl HS2.out
    ·have hnz:((l.length:Int)==0)=false:=bn (by omega);have hne:((p:Int) !=(l.length:Int))=true:=bne_iff_ne.2 (fun e=>HEND.out ⟨fun e2=>hn0 (by rw [e2]; rfl),by rw [show p=l.length by omega]⟩);clear hn0;go_wp2;go_ret2
     exact EncP.mk [] 9 HR.out rfl HS2.out
end Go.Proofs.YtpfhollohodcjaaGreatDoor
