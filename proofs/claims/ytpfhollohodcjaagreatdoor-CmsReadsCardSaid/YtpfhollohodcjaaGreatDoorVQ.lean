import Derived.Test.YtpfhollohodcjaaGreatDoorVP
import Derived.Test.YtpfhollohodcjaaGreatDoorVA
import Derived.WalkLawsBesides
import Derived.WalkSpells
import Derived.Deep.QuietTactic
import Derived.BigQuiet
import Derived.Deep.RegionHeld3
import Derived.Deep.LoopGhost
import Derived.Deep.RegionLaw
import Derived.Deep.DeepCutAuto
import Derived.Deep.RegionWith
set_option maxRecDepth 100000
set_option maxHeartbeats 8000000
namespace Go.Proofs.YtpfhollohodcjaaGreatDoor
open Go.RowKit Go.Px Go.Px.R5
def EncP(w:World)(l:List Px.Node)(e:Ending)(w':World):Prop:=∃d,E5.Enc l d/\Tells w d e w'
theorem EncP.mk{w w':World}{l:List Px.Node}{e:Ending}(s:Bytes)(c:Int)(h1:E5.Enc l (s,c))(h2:e= .returned (.tuple #[S s,.int .i64 c]))(h3:Same w w'):EncP w l e w':=⟨_,h1,h2,h3⟩
theorem EF(v:Value)(l:List Px.Node)(w:World)(h:Lies w 3 cNode v l)(hw:∀a∈l,-9223372036854775808<=a.kids/\a.kids<=9223372036854775807/\a.body.length<=140737488355327)(hT:Tabs w):
  Calls Tryz.prog 46 #[v] w (EncP w l):=by
 obtain⟨va,vc,hv,hv1,hv2⟩:=h.slice;subst hv;have hvm:l.length<=9223372036854775807:=by unfold maxLen at hv2; omega
 have H:=zz (aN h (aN hw hT));clear h hw hT hv2;by_cases hmany:4096<l.length
 ·have hz:(4096:Int)<(l.length:Int):=by omega
  have HR:=zz (E5.Enc.many hmany);clear hmany;go_enter Tryz.func46,Tryz.ntmps46;go_wp2;go_ret2
  exact EncP.mk _ _ HR.out rfl (sE w)
 ·have hz:¬(4096:Int)<(l.length:Int):=by omega
  have hl:l.length<=4096:=by omega
  clear hmany hvm;obtain⟨i0,hi0,hz0,hz1,hz2⟩:=info_parts Tryz.infoU8;have hsh:=JU _ l w H.out.1 hl H.out.2.1 H.out.2.2;obtain⟨m,hm⟩:∃m,m=(shapeV l).1:=⟨_,rfl⟩
  rw [<-hm]at hsh;cases hok:(shapeV l).2
  ·rw [hok]at hsh;have HSH:=zz (aN hsh (KN hl hok));clear hsh hok hm;go_enter Tryz.func46,Tryz.ntmps46;go_wp2_with fail;refine HSH.out.1.mono ?_;rintro e w1 ⟨rfl,hs⟩;have HS:=zz hs;clear hs;go_wp2;go_ret2
   exact EncP.mk _ _ HSH.out.2 rfl HS.out
  ·rw [hok]at hsh;obtain⟨hshp,hne⟩:=KO hok;rw [<-hm]at hshp;by_cases h32:32<m
   ·have hz32:(32:Int)<(m:Int):=by omega
    have HSH:=zz (aN hsh (E5.Enc.deep m hl hshp hne h32));clear hsh hok hm h32 hshp hne;go_enter Tryz.func46,Tryz.ntmps46;go_wp2_with fail;refine HSH.out.1.mono ?_;rintro e w1 ⟨rfl,hs⟩;have HS:=zz hs;clear hs;go_wp2;go_ret2
    exact EncP.mk _ _ HSH.out.2 rfl HS.out
   ·have hz32:¬(32:Int)<(m:Int):=by omega
    obtain⟨b,o,hel⟩:=E5.Cy hne hshp (Nat.le_of_not_lt h32);have hszs:=FE (.slice va l.length vc) l;have HSH:=zz (aN hsh (aN (fun W hW=>FE (.slice va l.length vc) l W hW hne hl (fun a ha=>(H.out.2.1 a ha).2.2) b o hel) (aN hel hel.whole)));clear hsh hok hm h32 hshp hne hel hszs;go_enter Tryz.func46,Tryz.ntmps46;go_wp2_with fail;refine HSH.out.1.mono ?_;rintro e w1 ⟨rfl,hs⟩;have HS:=zz hs;clear hs;go_wp2_with fail;refine(HSH.out.2.1 w1 (Lies.same H.out.1 HS.out)).mono ?_;rintro e w2 ⟨sv,hs2,⟨hb,rfl⟩| ⟨hb,rfl,ho⟩⟩
    ·have HS2:=zz (aN (HS.out.trans hs2) (E5.Enc.long b o hl HSH.out.2.2.1 hb));clear hs2 hb;go_wp2;go_ret2
     exact EncP.mk _ _ HS2.out.2 rfl HS2.out.1
    ·obtain⟨sa,sc,hsv,_⟩:=ho.len;rw [E5.FU]at hsv;subst hsv;obtain⟨ks,hks⟩:∃ks,ks=(E5.szR l).1:=⟨_,rfl⟩
     have hkl:l.length=ks.length:=by rw [hks,E5.FU]
     have hkb:∀n∈ks,n<=262144:=fun n hn=>by rw [hks]at hn; exact Nat.le_trans (HSH.out.2.2.2.2.2.1 n hn) hb
     have hem:E5.emit l ks=b:=by rw [hks]; exact HSH.out.2.2.2.2.1
     rw [<-hks]at ho;have HS2:=zz (aN (HS.out.trans hs2) (aN ho (aN hkl (aN hkb (aN hem hb)))));clear hs2 ho hkl hkb hem hb hks HS;go_wp2;go_loopw [7,33] (fun v7 i wr=>∃k:Nat,k<=l.length/\i= .int .i64 (k:Nat)/\Hid (Owns wr 5 1 cByte v7 (E5.emit (l.take k) (ks.take k))/\Same w2 wr/\(∀g,v7.ownBlock=some g->w2.heap.size<=g))) (fun _ i _=>l.length - (intOf i).toNat)
     case atStart=>exact⟨0,Nat.zero_le _,rfl,zz ⟨A4 _ _ _ _,sE _,nofun⟩⟩
     case round=>
      obtain⟨k,hk,rfl,HL⟩:=hrel;by_cases hlt:k<l.length
      ·have hlz:(k:Int)<(l.length:Int):=by omega
       obtain⟨xb,xo,xc,hve,hxb,hcx⟩:=(Lies.same H.out.1 (HS2.out.1.trans HL.out.2.1)).cell k l[k] (by simp [hlt]);simp only [Value.slice.injEq,true_and]at hve;obtain⟨rfl,rfl⟩:=hve;have x0:=hcx 0 _ rfl;have x1:=hcx 1 _ rfl;have x2:=hcx 2 _ rfl;rw [<-Nat.add_assoc]at x0 x1 x2;rw [Nat.add_zero]at x0;obtain⟨x,hx⟩:∃x,x=l[k]:=⟨_,rfl⟩
       have hkk:k<ks.length:=by have:=HS2.out.2.2.1; omega
       obtain⟨n,hn⟩:∃n,n=ks[k]:=⟨_,rfl⟩
       have hnb:n<=262144:=by rw [hn]; exact HS2.out.2.2.2.1 _ (List.getElem_mem _)
       have hstep:=KP l ks k HS2.out.2.2.1 hlt;have hpart:=KQ l ks (k+1) HS2.out.2.2.1;rw [HS2.out.2.2.2.2.1]at hpart;rw [<-hx,<-hn]at hstep;have hkget:ks[k]?=some n:=by rw [hn]; exact List.getElem?_eq_getElem hkk
       have hbody:=(H.out.2.1 x (by rw [hx]; exact List.getElem_mem _)).2.2;rw [<-hx]at x0 x1 x2;have hszx:(ByteArray.mk x.body.toArray).size=x.body.length:=Ad x.body;obtain⟨LB,hLB⟩:∃LB,LB=E5.emit (l.take k) (ks.take k):=⟨_,rfl⟩
       rw [<-hLB]at hstep;have hlen:=congrArg List.length hstep;simp only [List.length_append,List.length_cons]at hlen;have hLBl:LB.length+x.body.length+(E5.lenB n).length+1<=262144:=by have:=HS2.out.2.2.2.2.2; omega
       have hown:=HL.out.1;rw [<-hLB]at hown;obtain⟨ga,gc,hgv,_⟩:=hown.len;subst hgv;have HX:=zz (aN hown (aN hstep (aN hkget hLBl)));have hb1:LB.length<=262144:=by omega
       have hb2:x.body.length<=262144:=by omega
       clear hcx hx hn hkk hstep hpart hkget hlen hLB hown hLBl;go_upto_region 15 with fail
       obtain⟨WX,hWX⟩:∃WX,WX=wr.alloc (.cells #[.int .u8 x.tag.toNat,.int .i64 x.kids,.string ⟨x.body.toArray⟩] 90 (0,0)):=⟨_,rfl⟩
       rw [<-hWX];have hsX:Same wr WX:=by rw [hWX]; exact(sE wr).alloc _
       have hbX:WX.heap[wr.heap.size]?=some (.cells #[.int .u8 x.tag.toNat,.int .i64 x.kids,S x.body] 90 (0,0)):=by rw [hWX]; exact heap_alloc_new wr _
       have y0:=Ab hbX 0 rfl;have HW:=zz (aN hsX (aN hbX (Owns.same HX.out.1 hsX)));have hwl:wr.heap.size<WX.heap.size:=Au hbX;clear hWX hsX hbX x0 x1 x2;go_wp2_with (at_builtin; go_must (refine wpList_append_lies _ rfl _ _ _ rfl 0 5 i0 _ 1 1 Tryz.underlying145 hi0 hz0 hz1 hz2 rfl (by omega) (.slice ga LB.length gc) LB.length (LB.flatMap cByte) rfl (Owns.alloc HW.out.2.2 _) ⟨WX.heap.size,0,none⟩ 1 1 [.int .u8 x.tag.toNat] rfl rfl (World.news_of_block (cs:= #[.int .u8 x.tag.toNat]) (t:=5) (fr:=(0,0)) (heap_alloc_new WX _)) (by simp [Value.oneCell']) (by omega) (by unfold maxLen; omega) (by omega) (by omega) (WX.heap.size+1) (by simp) ?_))
       intro gg cap W1 hown1 hgrow hat hlt1;have hG1:Grown WX (.slice ga LB.length gc) (LB++ [x.tag]) (.slice (some ⟨gg,0,none⟩) (LB.length+1) cap) W1:=DH hown1 (AA (w:=WX) hgrow) (hat.imp id (fun e=>by omega));have hvb:(Value.slice ga LB.length gc).ownBlock≠some wr.heap.size:=fun e=>by have:=HX.out.1.lt e; omega
       have hbX1:=(hG1.2.1.block wr.heap.size hwl hvb).trans HW.out.2.1;have hsv1:Owns W1 3 1 cNum (.slice sa l.length sc) ks:=by
        have h1:Owns WX 3 1 cNum (.slice sa l.length sc) ks:=Owns.same HS2.out.2.1 (HL.out.2.1.trans HW.out.1);refine h1.fr hG1.2.1 (fun g hg e=>?_);have h2:=HL.out.2.2 g e;have h3:=HS2.out.2.1.lt hg;omega
       obtain⟨sg,sc2,hsve,_,_,hscell,_⟩:=hsv1.at Bk HX.out.2.2.1;simp only [Value.slice.injEq]at hsve;have hsg:=hsve.1;subst hsg;clear hsve;have kc:=hscell 0 _ rfl;rw [Nat.mul_one,Nat.add_zero]at kc;have hL1:(LB++ [x.tag]).length=LB.length+1:=by simp
       obtain⟨L1,hL1e⟩:∃L1,L1=LB++ [x.tag]:=⟨_,rfl⟩
       rw [<-hL1e]at hG1 hL1;rw [<-hL1]at hG1 ⊢;have hb3:L1.length<=262145:=by omega
       have h1pos:0<L1.length:=by omega
       have HG1:=zz (aN hG1 (aN hbX1 (aN hsv1 hL1e)));clear hown1 hgrow hat hG1 hvb hbX1 hsv1 hscell y0 hL1e hL1;go_upto_if 48 with fail
       go_cut [7] (fun t7 wx=>Grown W1 (.slice (some ⟨gg,0,none⟩) L1.length cap) (L1++E5.lenB n) t7 wx)
       case first=>
        have HO1:=zz HG1.out.1.1;by_cases h128:n<128
        ·have hz128:(n:Int)<128:=by omega
         have hwc:IntKind.u8.wrap (n:Int)=n:=by rw [IntKind.wrap_u8]; omega
         have hcb: [Value.int .u8 (n:Int)]=cByte (UInt8.ofNat n):=by
          unfold cByte;rw [UInt8.toNat_ofNat',Nat.mod_eq_of_lt (by omega)]
         have HCB:=zz (aN hcb (JW h128));clear h128 hcb;go_wp2_with (at_builtin; go_must (refine wpList_append_lies _ rfl _ _ _ rfl 0 5 i0 _ 1 1 Tryz.underlying145 hi0 hz0 hz1 hz2 rfl (by omega) (.slice (some ⟨gg,0,none⟩) L1.length cap) L1.length (L1.flatMap cByte) rfl (Owns.alloc HO1.out _) ⟨W1.heap.size,0,none⟩ 1 1 [.int .u8 (n:Int)] rfl rfl (World.news_of_block (cs:= #[.int .u8 (n:Int)]) (t:=5) (fr:=(0,0)) (heap_alloc_new W1 _)) (by simp [Value.oneCell']) (by omega) (by unfold maxLen; omega) (by omega) (by omega) (W1.heap.size+1) (by simp) ?_))
         intro g3 cap3 W3 hown3 hgrow3 hat3 hlt3;rw [HCB.out.1]at hown3;have HV:=zz (show Grown W1 (.slice (some ⟨gg,0,none⟩) L1.length cap) (L1++ [UInt8.ofNat n]) (.slice (some ⟨g3,0,none⟩) (L1.length+1) cap3) W3 from DH hown3 (AA (w:=W1) hgrow3) (hat3.imp id (fun e=>by omega)));clear hown3 hgrow3 hat3;go_wp2_with fail;go_meet
         rw [HCB.out.2];exact HV.out
        ·have hz128:¬(n:Int)<128:=by omega
         have hd3:=Mc hnb;have hd1:=NV h128;have hfar:=Mb h128;have hhn:E5.headN n=E5.dgN 8 n+2:=by rw [Fb,if_neg h128,Nat.add_comm]
         obtain⟨D,hD⟩:∃D,D=E5.dgN 8 n:=⟨_,rfl⟩
         rw [<-hD]at hd3 hd1 hfar hhn;have hwc:IntKind.u8.wrap (128+(D:Int))=128+D:=by rw [IntKind.wrap_u8]; omega
         have hcb: [Value.int .u8 (128+(D:Int))]=cByte (UInt8.ofNat (128+D)):=by
          unfold cByte;rw [UInt8.toNat_ofNat',Nat.mod_eq_of_lt (by omega)]
          congr 2
         have HF:=zz (aN hfar (aN hhn hcb));clear h128 hD hfar hhn hcb;go_wp2_with fail;refine(Gx n hnb _).mono ?_;rintro r w3x ⟨rfl,hw3x⟩;subst hw3x;rw [HF.out.2.1];have hpc:((D+2:Nat):Int)=(D:Int)+2:=by omega
         rw [hpc];clear hpc;go_wp2_with (at_builtin; go_must (refine wpList_append_lies _ rfl _ _ _ rfl 0 5 i0 _ 1 1 Tryz.underlying145 hi0 hz0 hz1 hz2 rfl (by omega) (.slice (some ⟨gg,0,none⟩) L1.length cap) L1.length (L1.flatMap cByte) rfl (Owns.alloc HO1.out _) ⟨W1.heap.size,0,none⟩ 1 1 [.int .u8 (128+(D:Int))] rfl rfl (World.news_of_block (cs:= #[.int .u8 (128+(D:Int))]) (t:=5) (fr:=(0,0)) (heap_alloc_new W1 _)) (by simp [Value.oneCell']) (by omega) (by unfold maxLen; omega) (by omega) (by omega) (W1.heap.size+1) (by simp) ?_))
         intro g3 cap3 W3 hown3 hgrow3 hat3 hlt3;rw [HF.out.2.2]at hown3;have HV:=zz (show Grown W1 (.slice (some ⟨gg,0,none⟩) L1.length cap) (L1++ [UInt8.ofNat (128+D)]) (.slice (some ⟨g3,0,none⟩) (L1.length+1) cap3) W3 from DH hown3 (AA (w:=W1) hgrow3) (hat3.imp id (fun e=>by omega)));clear hown3 hgrow3 hat3;go_wp2;go_loopw [7,11] (fun v i wl=>∃(m:Nat) (L:Bytes),m<=D/\i= .int .i64 ((m:Int) - 1)/\L.length<=262200 - m/\Hid (Grown W1 (.slice (some ⟨gg,0,none⟩) L1.length cap) L v wl/\L++E5.beD m n=L1++E5.lenB n)) (fun _ i _=>(intOf i+1).toNat)
         case atStart=>exact⟨D,L1++ [UInt8.ofNat (128+D)],Nat.le_refl _,by go_num,by simp; omega,zz ⟨HV.out,by rw [HF.out.1,List.append_assoc]; rfl⟩⟩
         case round=>
          clear HV;obtain⟨m,L,hm1,rfl,hll,HO⟩:=hrel;obtain⟨xa,xc2,hvl,_⟩:=HO.out.1.1.len;subst hvl;by_cases hm0:1<=m
          ·have z1:(0:Int)<=(m:Int) - 1:=by omega
           have z2:(1:Int)<=(m:Int):=by omega
           obtain⟨q,hq⟩:∃q,q=m - 1:=⟨_,rfl⟩
           have hsh:(n:Int) / 2 ^ (8*(m - 1)) % 256=((n / 256 ^ q % 256:Nat):Int):=by
            have e:8*(m - 1)=8*q:=by omega
            rw [e,show(256:Nat)=2 ^ 8 by rfl,<-Nat.pow_mul]
            push_cast
            rfl
           have hqb:E5.beD m n=UInt8.ofNat (n / 256 ^ q % 256)::E5.beD q n:=by rw [show m=q+1 by omega]; rfl
           have hqv:(UInt8.ofNat (n / 256 ^ q % 256)).toNat=n / 256 ^ q % 256:=by simp
           have hq1:((m:Int) - 1)=(q:Int):=by omega
           obtain⟨c,hc⟩:∃c,c=UInt8.ofNat (n / 256 ^ q % 256):=⟨_,rfl⟩
           rw [<-hc]at hqb hqv;rw [<-hqv]at hsh;have HQ:=zz (aN hqb (aN hq hq1));clear hqb hqv hc hq hq1;go_wp2_with (at_builtin; go_must (refine wpList_append_lies _ rfl _ _ _ rfl 0 5 i0 _ 1 1 Tryz.underlying145 hi0 hz0 hz1 hz2 rfl (by omega) (.slice xa L.length xc2) L.length (L.flatMap cByte) rfl (Owns.alloc HO.out.1.1 _) ⟨wr.heap.size,0,none⟩ 1 1 [.int .u8 c.toNat] rfl rfl (World.news_of_block (cs:= #[.int .u8 c.toNat]) (t:=5) (fr:=(0,0)) (heap_alloc_new wr _)) (by simp [Value.oneCell']) (by omega) (by unfold maxLen; omega) (by omega) (by omega) (wr.heap.size+1) (by simp) ?_))
           intro g4 cap4 W4 hown4 hgrow4 hat4 hlt4;have HV:=zz (show Grown wr (.slice xa L.length xc2) (L++ [c]) (.slice (some ⟨g4,0,none⟩) (L.length+1) cap4) W4 from DH hown4 (AA (w:=wr) hgrow4) (hat4.imp id (fun e=>by omega)));clear hown4 hgrow4 hat4;go_wp2;go_roundw
           case rel=>
            refine⟨q,L++ [c],by have:=HQ.out.2.1; omega,?_,by have:=HQ.out.2.1; simp; omega,zz ⟨HO.out.1.trans HV.out,?_⟩⟩
            ·have:=HQ.out.2.2; go_num
            ·rw [List.append_assoc,<-HO.out.2,HQ.out.1]; rfl
           case measure=>simp [intOf]; omega
          ·have z1:¬(0:Int)<=(m:Int) - 1:=by omega
           have z2:¬(1:Int)<=(m:Int):=by omega
           have HE:=zz (show L=L1++E5.lenB n by have:=HO.out.2; rw [show m=0 by omega]at this; simpa [E5.beD] using this);go_wp2_with fail;go_meet
           rw [<-HE.out];exact HO.out.1
       case rest=>
        have hcut0:=hcut;obtain⟨ga2,gc2,hgv2,_⟩:=hcut0.1.len;subst hgv2;obtain⟨L2,hL2⟩:∃L2,L2=L1++E5.lenB n:=⟨_,rfl⟩
        rw [<-hL2]at hcut hcut0 ⊢;have hL2l:L2.length<=262160/\0<L2.length:=by
         rw [hL2,List.length_append];have:=E5.CT n;omega
        have hgne:(Value.slice (some ⟨gg,0,none⟩) L1.length cap).ownBlock≠some wr.heap.size:=fun e=>by
         rcases HG1.out.1.2.2 _ e with q | q
         ·have:=HX.out.1.lt q; omega
         ·omega
        have hbX2:=(hcut.2.1.block wr.heap.size (Au HG1.out.2.1) hgne).trans HG1.out.2.1;have y2:=Ab hbX2 2 rfl;have hsrc:∀W,Src Tryz.prog 1 9 (S x.body) x.body.length (x.body.flatMap cByte) W:=fun W=>by
         have:=Src.ofString (P:=Tryz.prog) (w:=W) Tryz.underlying9 ⟨x.body.toArray⟩;rw [Ad,Nn]at this;exact this
        have hl2a:=hL2l.1;have hl2b:=hL2l.2;have HGC:=zz (aN hcut (aN hL2 (aN hsrc hcut.1)));clear hcut hcut0 hL2 hL2l hgne hbX2 hsrc kc;go_upto_region 25 with fail
        go_wp2_with (at_builtin; go_must (refine CP rfl _ _ 145 9 rfl 5 i0 _ 1 1 Tryz.underlying145 hi0 hz0 hz1 hz2 rfl (.slice ga2 L2.length gc2) L2.length (L2.flatMap cByte) rfl HGC.out.2.2.2 (S x.body) x.body.length (x.body.flatMap cByte) rfl (HGC.out.2.2.1 _) hl2b (by unfold maxLen; omega) (by omega) ?_))
        intro g5 cap5 W5 hown5 hgrow5 hat5;have HFN:=zz (show Grown WX (.slice ga LB.length gc) (E5.emit (l.take (k+1)) (ks.take (k+1))) (.slice (some ⟨g5,0,none⟩) (L2.length+x.body.length) cap5) W5 from by
         have h1:=HG1.out.1.trans HGC.out.1;have h2:=Grown.app h1 hown5 hgrow5 hat5;rw [HX.out.2.1];rw [show LB++x.tag::(E5.lenB n++x.body)=L2++x.body by rw [HGC.out.2.1,HG1.out.2.2.2]; simp];exact h2)
        clear hown5 hgrow5 hat5 y2;go_wp2;go_roundw
        case rel=>
         refine⟨k+1,by omega,by go_num,zz ⟨HFN.out.1,?_,fun g hg=>?_⟩⟩
         ·exact Fr.toSame (F:=fun k=>(Value.slice ga LB.length gc).ownBlock=some k) (fT ((HL.out.2.1.trans HW.out.1).fr _) HFN.out.2.1 (fun _ _ e=>e)) (fun k e=>HL.out.2.2 k e)
         ·rcases HFN.out.2.2 g hg with e | e
          ·exact HL.out.2.2 g e
          ·exact Nat.le_trans (HL.out.2.1.trans HW.out.1).size e
        case measure=>simp [intOf]; omega
      ·have hlz:¬(k:Int)<(l.length:Int):=by omega
       have hke:k=l.length:=by omega
       have hown:=HL.out.1;rw [hke,List.take_length,show ks.take l.length=ks by rw [HS2.out.2.2.1]; exact List.take_length,HS2.out.2.2.2.2.1]at hown;obtain⟨la,lc,hv6,_⟩:=hown.len;subst hv6;have hstr:=Owns.str hown;have hstr2:=fun W (hW:Same wr W)=>Owns.str (Owns.same hown hW)
       have HO:=zz (aN (IH b (by have:=HS2.out.2.2.2.2.2; omega) wr (H.out.2.2.same (HS2.out.1.trans HL.out.2.1))) (aN (HS2.out.1.trans HL.out.2.1) hstr2));have hways:=Ma hl HSH.out.2.2.1 HS2.out.2.2.2.2.2;obtain⟨d,hd⟩:∃d,d=(R5.decode b E5.encLim).2.2:=⟨_,rfl⟩
       rw [<-hd]at hways HO;clear hlt hke hown hstr2 hd HL;go_wp2_with fail;refine HO.out.1.mono ?_;rintro r w3 ⟨rfl,hs3⟩;have HS3:=zz (HO.out.2.1.trans hs3);have hstr3:=HO.out.2.2 w3 hs3;clear hs3 hstr;rcases hways with ⟨he,henc⟩| ⟨he,henc⟩
       ·have HE:=zz henc;have hb:(d==0)=true:=beq_iff_eq.2 he;clear henc he;rw [hb];clear hb;go_wp2;go_ret2
        exact EncP.mk _ _ HE.out rfl HS3.out
       ·have HE:=zz henc;have hb:(d==0)=false:=bn he;clear henc he;rw [hb];clear hb;go_wp2;go_ret2
        exact EncP.mk _ _ HE.out rfl HS3.out
def most:Lim:=⟨32,4096,262144,4096⟩
theorem Hw(w:World):Calls Tryz.prog 16 #[] w fun e w'=>e= .returned (limV most)/\Same w w':=by
 go_enter Tryz.func16,Tryz.ntmps16;go_wp2;exact bodyPost_ret (v:=limV most) (by simp [results,Tryz.results16,go_sem,limV,most]) rfl ⟨rfl,(fR _ w).alloc _⟩
def limObj(l:Lim):Obj:= .cells #[.int .i64 l.d,.int .i64 l.i,.int .i64 l.b,.int .i64 l.r] 23 (0,0)
def LimIn(w0 w:World)(b:Nat)(l:Lim):Prop:=Same w0 w/\w.heap[b]?=some (limObj l)
theorem LimIn.same{w0 w w':World}{b:Nat}{l:Lim}(h:LimIn w0 w b l)(hs:Same w w'):LimIn w0 w' b l:=⟨h.1.trans hs,(hs.block b (Au h.2) (fun x=>x)).trans h.2⟩
theorem LimIn.boxed(w:World)(l:Lim):LimIn w (w.alloc (.cells #[.int .i64 l.d,.int .i64 l.i,.int .i64 l.b,.int .i64 l.r] 23 (0,0))) w.heap.size l:=⟨(fR _ w).alloc _,heap_alloc_new w _⟩
theorem LimIn.cells{w0 w:World}{b:Nat}{l:Lim}(h:LimIn w0 w b l):w.cell? ⟨b,0,none⟩=some (.int .i64 l.d)/\w.cell? ⟨b,1,none⟩=some (.int .i64 l.i)/\w.cell? ⟨b,2,none⟩=some (.int .i64 l.b)/\w.cell? ⟨b,3,none⟩=some (.int .i64 l.r):=
 ⟨Ab h.2 0 rfl,Ab h.2 1 rfl,Ab h.2 2 rfl,Ab h.2 3 rfl⟩
theorem Tabs.lim{w w':World}{b:Nat}{l:Lim}(h:Tabs w)(hz:LimIn w w' b l):Tabs w':=h.same hz.1
def Wf(l:List Px.Node):Prop:=∀a∈l,-9223372036854775808<=a.kids/\a.kids<=9223372036854775807/\a.body.length<=140737488355327
theorem Np{l:List Px.Node}{a:Px.Node}(h:a∈l):a.body.length<=(l.map (fun a=>a.body.length)).sum:=by
 induction l with
 | nil=>cases h
 | cons b t ih=>
  rw [List.map_cons,List.sum_cons];rcases List.mem_cons.1 h with rfl | h
  ·omega
  ·have:=ih h; omega
theorem CN:∀(l:List Px.Node) (f:Bool) (left:List Nat) (most m:Nat),E5.shape f l left most=some (m,[])->left.sum<=l.length/\∀a∈l,a.kids<=(l.length:Int)
 | [],f,left,most,m,h=>by
  unfold E5.shape at h;simp only [Option.some.injEq,Prod.mk.injEq]at h;rw [h.2];exact⟨Nat.le_refl _,nofun⟩
 | a::r,f,left,most,m,h=>by
  have hp:∀st:List Nat,(E5.pops st).sum=st.sum:=by
   intro st
   induction st with
   | nil=>rfl
   | cons n t ih=>
    unfold E5.pops
    split
    ·rename_i h0; rw [ih,h0,List.sum_cons,Nat.zero_add]
    ·rfl
  have hd:left.sum<=(E5.dec left).sum+1:=by
   cases left with
   | nil=>exact Nat.zero_le _
   | cons n t=>show(n::t).sum<=((n - 1)::t).sum+1; rw [List.sum_cons,List.sum_cons]; omega
  unfold E5.shape at h
  split at h
  ·cases h
  ·split at h
   ·rename_i hl
    obtain⟨h1,h2⟩:=CN r _ _ _ _ h;rw [hp]at h1;refine⟨by rw [List.length_cons]; omega,fun b hb=>?_⟩;rw [List.length_cons];rcases List.mem_cons.1 hb with rfl | hb
    ·unfold E5.leaf at hl;simp only [decide_eq_true_eq]at hl;omega
    ·have:=h2 b hb; omega
   ·obtain⟨h1,h2⟩:=CN r _ _ _ _ h;rw [hp,List.sum_cons]at h1;refine⟨by rw [List.length_cons]; omega,fun b hb=>?_⟩;rw [List.length_cons];rcases List.mem_cons.1 hb with rfl | hb
    ·have:b.kids<=(E5.count b:Int):=by unfold E5.count; omega
     omega
    ·have:=h2 b hb; omega
theorem KR{s:Bytes}{lim:Lim}(h:(R5.decode s lim).2.2=0):Wf (R5.decode s lim).1:=by
 obtain⟨hm,_,h1,h2,h3,_⟩:=E5.BI h;have hmay:=E5.Aw hm;obtain⟨m,k1,k2,k3⟩:=E5.Cz h1;intro a ha;have hk:=(CN _ _ _ _ _ k1).2 a ha;have hr:=E5.Fj (E5.CA _ _ _ _ _ k1 a ha);have hb:=Np ha;have hw:=h1.whole.2.2.2.2.1;exact⟨by omega,by omega,by omega⟩
theorem Gives.len{w w':World}{d:List Px.Node×Int×Int}{r:Ending}(h:Gives w d r w'):∃a c,r= .returned (.tuple #[.slice a d.1.length c,.int .i64 d.2.1,.int .i64 d.2.2])/\Owns w' 90 3 cNode (.slice a d.1.length c) d.1/\Same w w':=by
 obtain⟨vo,rfl,h1,h2,_⟩:=h;obtain⟨a,c,hv,_⟩:=h1.len;subst hv;exact⟨a,c,rfl,h1,h2⟩
structure On (w w':World) (b:Nat) (lim:Lim):Prop where
 lim:LimIn w w' b lim
 tabs:Tabs w'
theorem On.sm{w w1 w2:World}{b:Nat}{lim:Lim}(h:On w w1 b lim)(hs:Same w1 w2):On w w2 b lim:=⟨h.lim.same hs,h.tabs.same hs⟩
theorem On.boxed{w:World}(lim:Lim)(h:Tabs w):On w (w.alloc (.cells #[.int .i64 lim.d,.int .i64 lim.i,.int .i64 lim.b,.int .i64 lim.r] 23 (0,0))) w.heap.size lim:=⟨LimIn.boxed w lim,h.lim (LimIn.boxed w lim)⟩
end Go.Proofs.YtpfhollohodcjaaGreatDoor
namespace Go.Px
open Go.RowKit
def Blk(w:World)(b:Nat)(cs:Array Value)(T:TypeId):Prop:=w.heap[b]?=some (.cells cs T (0,0))
section
variable {w : World} {b : Nat} {cs : Array Value} {T : TypeId}
theorem Blk.cell(h:Blk w b cs T)(i:Nat){v:Value}(hv:cs[i]?=some v):w.cell? ⟨b,i,none⟩=some v:=Ab h i hv
theorem Blk.free(h:Blk w b cs T)(i:Nat):w.frozen? ⟨b,i,none⟩=false:=AZ h i
theorem Blk.lt(h:Blk w b cs T):b<w.heap.size:=Au h
theorem Blk.alloc(h:Blk w b cs T)(o:Obj):Blk (w.alloc o) b cs T:=(heap_alloc_old w o h.lt).trans h
theorem Blk.drew(h:Blk w b cs T):Blk w.drew b cs T:=h
theorem Blk.other(h:Blk w b cs T){p:Addr}(u:Value)(hne:¬b=p.block):Blk (w.setCell p u) b cs T:=(heap_setCell_other w p b u hne).trans h
theorem Blk.set(h:Blk w b cs T)(o:Nat)(u:Value):Blk (w.setCell ⟨b,o,none⟩ u) b (cs.setIfInBounds o u) T:=heap_setCell_same w b o cs T u h
theorem Blk.fr{F:Nat->Prop}{w':World}(h:Blk w b cs T)(hf:Fr F w w')(hn:¬F b):Blk w' b cs T:=(hf.block b h.lt hn).trans h
theorem Af(w:World)(cs:Array Value)(T:TypeId):Blk (w.alloc (.cells cs T (0,0))) w.heap.size cs T:=heap_alloc_new w _
end
theorem AT{w:World}{b:Nat}{T:TypeId}{a0 a1 a2 a3 a4 a5 a6 a7 a8:Value}(h:Blk w b #[a0,a1,a2,a3,a4,a5,a6,a7,a8] T):w.cell? ⟨b,0,none⟩=some a0/\w.cell? ⟨b,1,none⟩=some a1/\w.cell? ⟨b,2,none⟩=some a2/\w.cell? ⟨b,3,none⟩=some a3/\w.cell? ⟨b,4,none⟩=some a4/\w.cell? ⟨b,5,none⟩=some a5/\w.cell? ⟨b,6,none⟩=some a6/\w.cell? ⟨b,7,none⟩=some a7/\w.cell? ⟨b,8,none⟩=some a8/\w.frozen? ⟨b,0,none⟩=false/\w.frozen? ⟨b,1,none⟩=false/\w.frozen? ⟨b,2,none⟩=false/\w.frozen? ⟨b,3,none⟩=false/\w.frozen? ⟨b,4,none⟩=false/\w.frozen? ⟨b,5,none⟩=false/\w.frozen? ⟨b,6,none⟩=false/\w.frozen? ⟨b,7,none⟩=false/\w.frozen? ⟨b,8,none⟩=false:=
 ⟨h.cell 0 rfl,h.cell 1 rfl,h.cell 2 rfl,h.cell 3 rfl,h.cell 4 rfl,h.cell 5 rfl,h.cell 6 rfl,h.cell 7 rfl,h.cell 8 rfl,h.free 0,h.free 1,h.free 2,h.free 3,h.free 4,h.free 5,h.free 6,h.free 7,h.free 8⟩
end Go.Px
namespace Go.Proofs.YtpfhollohodcjaaGreatDoor
open Go.RowKit Go.Px Go.Px.Co
def cRec(r:Rec):List Value:=[.int .i64 r.way,.int .i64 r.size,.int .i64 r.kind,S r.name,S r.key,S r.salt,.int .i64 r.rounds,S r.iv,S r.loose]
def envC(x:Env)(vto:Value):Array Value:= #[.int .i64 x.fmt,.int .i64 x.alg,vto,S x.header,S x.loose,S x.aad,S x.iv,S x.cipher,S x.tag]
def EnvB(w:World)(b:Nat)(x:Env)(vto:Value):Prop:=Blk w b (envC x vto) 27
theorem Lies.fr{α:Type}{w w':World}{sz:Nat}{c:α->List Value}{v:Value}{l:List α}{F:Nat->Prop}(h:Lies w sz c v l)(hs:Fr F w w')(hn:∀k,v.ownBlock=some k->¬F k):Lies w' sz c v l:=
 ⟨h.slice,fun j x hj=>by
  obtain⟨b,off,cap,h1,h2,h3⟩:=h.cell j x hj;refine⟨b,off,cap,h1,Nat.lt_of_lt_of_le h2 hs.size,fun i u hu=>?_⟩;exact(hs.cell (p:=⟨b,off+(j*sz+i),none⟩) h2 (hn b (by rw [h1]; rfl))).trans (h3 i u hu)⟩
theorem II(w:World)(p:Addr)(u:Value)(cs:Array Value)(T:TypeId):Blk ((w.setCell p u).alloc (.cells cs T (0,0))) w.heap.size cs T:=by
 have e:(w.setCell p u).heap.size=w.heap.size:=by simp [World.setCell]
 rw [<-e];exact Af _ _ _
theorem BJ(r:Rec):(cRec r).length=9:=rfl
end Go.Proofs.YtpfhollohodcjaaGreatDoor
