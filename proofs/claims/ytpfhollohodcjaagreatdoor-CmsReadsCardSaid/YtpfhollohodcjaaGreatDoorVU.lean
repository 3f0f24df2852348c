import Derived.Test.YtpfhollohodcjaaGreatDoorVT
import Derived.Laws.EntriesVeiled
import Derived.IntWalk
import Derived.BigRegion
set_option maxRecDepth 100000
set_option maxHeartbeats 8000000
namespace Go.Proofs.YtpfhollohodcjaaGreatDoor
open Go.RowKit Go.Px Go.Px.Co Go.Px.Cm
def ps3(L:List Px.Node)(d:Bytes×Nat×Nat)(j:Nat×Bytes):P Co.Rec:=bnd (octs L 32 272 16) fun k=>ret ⟨3,16+8*j.1,256+128*d.2.2,[],k,d.1,d.2.1,j.2,[]⟩
def ps2(L:List Px.Node)(d:Bytes×Nat×Nat):P Co.Rec:=bnd (inn L 48 (lockP L)) fun j=>ps3 L d j
def ps1(L:List Px.Node)(lim:Lim):P Co.Rec:=bnd (inn L 160 (derived L lim)) fun d=>ps2 L d
theorem Hy(b br:Nat)(va:Value)(L:List Px.Node)(lim:Lim)(k:Cu)(F:Nat->Prop)(w:World)(h:CuAt w b va L lim k F)(hf:Fits L k)(hd:k.left.length<=95)(hr:∀a∈L,E5.right a=true)(hl:0<=lim.r/\lim.r<=4096)(hx:RecP br zeroR F w)(hv:∀q,va.ownBlock=some q->q≠br):
  Calls Tryz.prog 106 #[.pointer (some ⟨b,0,none⟩),.pointer (some ⟨br,0,none⟩)] w (RunsE w b va L lim F (fun q=>q=br) (RecP br) (password L lim k)):=by
 obtain⟨R,hR⟩:∃R,R=password L lim k:=⟨_,rfl⟩
 rw [<-hR];have HR:=zz hR;have H:=zz (aN h (aN hf (aN hd (aN hr hv))));have HL:=zz hl;have hbl:=hx.2.lt;have k0:=hx.2.cell 0 rfl;have fb:=hx.2.free 0;obtain⟨w3,hw3⟩:∃w3,w3=(((w.setCell ⟨br,0,none⟩ (.int .i64 3)).alloc (.cells #[.pointer (some ⟨b,0,none⟩)] 50)).alloc (.cells #[.pointer (some ⟨br,0,none⟩)] 167)):=⟨_,rfl⟩
 have hsz:(w.setCell ⟨br,0,none⟩ (.int .i64 3)).heap.size=w.heap.size:=by simp [World.setCell]
 have hs2:Same (w.setCell ⟨br,0,none⟩ (.int .i64 3)) w3:=by rw [hw3]; exact((fR _ _).alloc _).alloc _
 have hf2:Fr (fun q=>q=br) w (w.setCell ⟨br,0,none⟩ (.int .i64 3)):=fC (F:=fun q=>q=br) (fR _ w) (p:=⟨br,0,none⟩) (.inl rfl) _;have hbx:Blk (w.setCell ⟨br,0,none⟩ (.int .i64 3)) br (cRec {zeroR with way:=3}).toArray 78:=hx.2.set 0 (.int .i64 3);have hrw3:RecW w3 F w.heap.size (w.heap.size+1) b br {zeroR with way:=3}:=by
  have b0:=(Af (w.setCell ⟨br,0,none⟩ (.int .i64 3)) #[.pointer (some ⟨b,0,none⟩)] 50).alloc (.cells #[.pointer (some ⟨br,0,none⟩)] 167);have b1:=Af ((w.setCell ⟨br,0,none⟩ (.int .i64 3)).alloc (.cells #[.pointer (some ⟨b,0,none⟩)] 50)) #[.pointer (some ⟨br,0,none⟩)] 167;rw [show((w.setCell ⟨br,0,none⟩ (.int .i64 3)).alloc (.cells #[.pointer (some ⟨b,0,none⟩)] 50)).heap.size=w.heap.size+1 by simp [World.setCell]]at b1;rw [<-hw3]at b0 b1;rw [hsz]at b0;refine⟨b0.cell 0 rfl,b1.cell 0 rfl,hbx.fr hs2 (fun x=>x),fun x=>?_,fun x=>?_,hx.1,by omega,by omega⟩
  ·have:=h.lt _ x; omega
  ·have:=h.lt _ x; omega
 have hcu3:CuAt w3 b va L lim k F:=(h.fr (G:=fun q=>q=br) hf2 (fun q hq e=>hx.1 (by rw [<-e]; exact hq)) hv).same hs2;have hfr3:Fr (fun q=>F q\/q=br) w w3:=(Fr.mono hf2 fun _ x=> .inr x).trans (hs2.fr _) fun _ _ x=>x
 have c1:=hrw3.cc;have c2:=hrw3.cr;have W3:=zz hw3;have HV:=zz (Dh b va L lim k F [0] w3 hcu3 hf);have H3:=zz (aN hrw3 hfr3);have hHG:=zz (Aa w F);rw [hw3]at c1 c2;clear hR h hf hd hr hv hl hx hs2 hf2 hsz hbx hrw3 hcu3 hfr3 hw3;go_enter Tryz.func106,Tryz.ntmps106;go_wp2_with fail;rw [<-W3.out];refine HV.out.mono ?_;intro e w4 hT;obtain⟨pc,hpc⟩:∃pc,pc=w.heap.size:=⟨_,rfl⟩
 obtain⟨pr,hpr⟩:∃pr,pr=w.heap.size+1:=⟨_,rfl⟩
 clear c1 c2;rw [<-hpr,<-hpc];have hrw3:=H3.out.1;rw [<-hpr,<-hpc]at hrw3;have HRW:=zz hrw3;clear hrw3 hpc hpr;cases hk:version L [0] k with
 | error n=>
  rw [hk]at hT;have HI:=zz (HR.out.trans (An hk));obtain⟨⟨v,rfl,fb,rfl,hb⟩,hs⟩:=hT;have HE:=zz (aN hb (AY H3.out.2 hHG.out (Fr.mono hs fun _ x=> .inl x)));clear hb hs hk HV;go_wp2;go_ret;rw [HI.out];exact⟨⟨_,rfl,fb,rfl,HE.out.1⟩,HE.out.2⟩
 | ok q=>
  obtain⟨u,k1⟩:=q;rw [hk]at hT;obtain⟨rfl,hcu,hfr⟩:=hT;have hR1:R=ps1 L lim k1:=HR.out.trans (Ao hk);obtain⟨hf1,hd1⟩:=Aq (Bz H.out.2.2.2.1 [0]) hk H.out.2.1;have hrw:=HRW.out.stable hfr;have hin:=Bd b va L lim k1 F (fun q=>q=br) 0xa0 (by decide) (by decide) 140 #[.pointer (some ⟨pc,0,none⟩),.pointer (some ⟨pr,0,none⟩)] (derived L lim) (fun d F' w'=>RecW w' F' pc pr b br {way:=3,size:=0,kind:=256+128*(d.2.2:Nat),name:=[],key:=[],salt:=d.1,rounds:=(d.2.1:Nat),iv:=[],loose:=[]}) w4 hcu hf1 (by have:=H.out.2.2.1; omega) H.out.2.2.2.1 (fun _=>rfl) (Ay (C2 H.out.2.2.2.1 HL.out.2)) (fun v F w w' h hf=>h.stable hf)
   (fun w1 F1 k2 h1 h2 h3 h4 h5=>KW pc pr b br va L lim k2 F1 {zeroR with way:=3} w1 h1 h2 (by have:=H.out.2.2.1; omega) H.out.2.2.2.1 HL.out (hrw.keep h4 h5) H.out.2.2.2.2)
  rw [show((0xa0:UInt8).toNat)=160 from rfl]at hin;have HIN:=zz hin;have HR1:=zz hR1;have H4:=zz (aN hd1 (aN hf1 (AY H3.out.2 hHG.out (Fr.mono hfr fun _ x=> .inl x))));have c1:=hrw.cc;have c2:=hrw.cr;clear hcu hfr hR1 hf1 hd1 hrw hin hk HV HR H3;go_wp2_with fail;refine HIN.out.mono ?_;intro e w5 hT;clear c1 c2;cases hk:inn L 160 (derived L lim) k1 with
  | error n=>
   rw [hk]at hT;have HI:=zz (HR1.out.trans (An hk));obtain⟨⟨v,rfl,fb,rfl,hb⟩,hs⟩:=hT;have HE:=zz (aN hb (AY H4.out.2.2 (A0 H4.out.2.2 hHG.out (Aa _ F)) hs));clear hb hs hk HIN;go_wp2;go_ret;rw [HI.out];exact⟨⟨_,rfl,fb,rfl,HE.out.1⟩,HE.out.2⟩
  | ok q=>
   obtain⟨d,k2⟩:=q;rw [hk]at hT;obtain⟨rfl,⟨F1,hcu,hfs,hrw⟩,hfr⟩:=hT;have hR2:R=ps2 L d k2:=HR1.out.trans (Ao hk);have hei:=Aq (Eats.inn (t:=0xa0) H.out.2.2.2.1 (C2 H.out.2.2.2.1 HL.out.2) (by decide) (by decide)) hk H4.out.2.1;obtain⟨hf2,hd2⟩:=hei;have hin:=Bd b va L lim k2 F1 (fun q=>q=br) 0x30 (by decide) (by decide) 142 #[.pointer (some ⟨pc,0,none⟩),.pointer (some ⟨pr,0,none⟩)] (lockP L) (fun i F' w'=>RecW w' F' pc pr b br {way:=3,size:=16+8*(i.1:Nat),kind:=256+128*(d.2.2:Nat),name:=[],key:=[],salt:=d.1,rounds:=(d.2.1:Nat),iv:=i.2,loose:=[]}) w5 hcu hf2 (by have:=H.out.2.2.1; have:=H4.out.1; omega) H.out.2.2.2.1 (fun _=>rfl) (Ay (D4 H.out.2.2.2.1)) (fun v F w w' h hf=>h.stable hf)
    (fun w1 F2 k3 h1 h2 h3 h4 h5=>KX pc pr b br va L lim k3 F2 _ w1 h1 h2 (by have:=H.out.2.2.1; have:=H4.out.1; omega) H.out.2.2.2.1 (hrw.keep h4 h5) H.out.2.2.2.2)
   rw [show((0x30:UInt8).toNat)=48 from rfl]at hin;have HIN2:=zz hin;have HR2:=zz hR2;have hfr5:=AY H4.out.2.2 (Aa w F) hfr;have hfs5:=A0 H4.out.2.2 (Aa w F) hfs;have H5:=zz (aN hf2 (aN hfr5 hfs5));have c1:=hrw.cc;have c2:=hrw.cr;clear hcu hfr hR2 hf2 hd2 hrw hin hk HIN HR1 hfs H4 hfr5 hfs5;go_wp2_with fail;refine HIN2.out.mono ?_;intro e w6 hT;clear c1 c2;cases hk:inn L 48 (lockP L) k2 with
   | error n=>
    rw [hk]at hT;have HI:=zz (HR2.out.trans (An hk));obtain⟨⟨v,rfl,fb,rfl,hb⟩,hs⟩:=hT;have HE:=zz (aN hb (AY H5.out.2.1 H5.out.2.2 hs));clear hb hs hk HIN2;go_wp2;go_ret;rw [HI.out];exact⟨⟨_,rfl,fb,rfl,HE.out.1⟩,HE.out.2⟩
   | ok q=>
    obtain⟨i,k3⟩:=q;rw [hk]at hT;obtain⟨rfl,⟨F2,hcu,hfs,hrw⟩,hfr⟩:=hT;have hR3:R=ps3 L d i k3:=HR2.out.trans (Ao hk);have hei:=Aq (Eats.inn (t:=0x30) H.out.2.2.2.1 (D4 H.out.2.2.2.1) (by decide) (by decide)) hk H5.out.1;obtain⟨hf3,_⟩:=hei;obtain⟨R1,hR1⟩:∃R1,R1=octs L 32 272 16 k3:=⟨_,rfl⟩
    replace HR:=zz (aN hR3 hR1);replace HRW:=zz hrw;have hvv:=H.out.2.2.2.2;replace H:=zz (aN hcu (aN hf3 (aN hvv True.intro)));have H6:=zz (aN (AY H5.out.2.1 H5.out.2.2 hfr) (A0 H5.out.2.1 H5.out.2.2 hfs));have c1:=hrw.cc;have c2:=hrw.cr;clear hcu hfr hR3 hf3 hrw hk HIN2 HR2 hfs H5 hR1 hvv;go_upto_region 11 with fail
    go_cut [7] (fun t6 wx=>MidB (fun s=> {way:=3,size:=16+8*(i.1:Nat),kind:=256+128*(d.2.2:Nat),name:=[],key:=s,salt:=d.1,rounds:=(d.2.1:Nat),iv:=i.2,loose:=[]}) w6 b pc pr br va L lim F2 R1 t6 wx)
    case first=>
     obtain⟨SS,hSS⟩:∃SS:World->Prop,SS=(fun W:World=>W.cell? ⟨pc,0,none⟩=some (.pointer (some ⟨b,0,none⟩))/\W.cell? ⟨pr,0,none⟩=some (.pointer (some ⟨br,0,none⟩))):=⟨_,rfl⟩
     have hS0:SS w6.drew:=by rw [hSS]; exact⟨c1,c2⟩
     refine sR hS0 fun hHeld=>?_
     refine tQ 0 ?_ ?_ ?_;rotate_left
     ·intro w hw;rw [hSS]at hw;obtain⟨q1,q2⟩:=hw;go_simp;try (with_reducible rfl)
     simp only [Act.put,Z1,Z2,Z3];refine tQ 1 ?_ ?_ ?_;rotate_left
     ·intro w hw;rw [hSS]at hw;obtain⟨q1,q2⟩:=hw;go_simp;try (with_reducible rfl)
     simp only [Act.put,Z1,Z2,Z3];refine rD 2 rfl (fun K hK=>?_);go_simp;refine(A3 32 272 16 _).mono ?_;rintro e wa ⟨rfl,hba,hbc,hbm,hsa⟩;refine sO hK ?_ fun hHeld=>?_
     ·rw [hSS];have hrw:=(HRW.out.keep (fD (fR _ w6)) (Aa _ F2)).keep (hsa.fr F2) (Aa _ F2);exact⟨hrw.cc,hrw.cr⟩
     clear hK K;refine rD 3 rfl (fun K hK=>?_);go_simp;have hro:=HRW.out.keep (fD (fR _ w6)) (Aa _ F2);have hrw:=hro.keep (hsa.fr F2) (Aa _ F2);have hcu:=(H.out.1.same (fD (sE w6))).same hsa;refine(BL b va L lim k3 F2 _ 32 272 16 (by omega) (by omega) wa hcu H.out.2.1 (Aw H.out.1.lt hba hbc hbm)).mono ?_;intro e wb hT;rw [<-HR.out.2]at hT;obtain⟨s,t,rfl,hfb,hmid⟩:=Ec (i:=4) (set:=(fun s=> {way:=3,size:=16+8*(i.1:Nat),kind:=256+128*(d.2.2:Nat),name:=[],key:=s,salt:=d.1,rounds:=(d.2.1:Nat),iv:=i.2,loose:=[]})) (fun s=>by simp [cRec]) hT hrw H.out.2.2.1;refine sO hK ?_ fun hHeld=>?_
     ·rw [hSS];have hrx:=hrw.keep hfb (Aa _ F2);exact⟨hrx.cc,hrx.cr⟩
     clear hK K;refine tQ 4 ?_ ?_ ?_;rotate_left
     ·intro w hw;rw [hSS]at hw;obtain⟨q1,q2⟩:=hw;go_simp;try (with_reducible rfl)
     simp only [Act.put,Z1,Z2,Z3];refine tQ 5 ?_ ?_ ?_;rotate_left
     ·intro w hw;rw [hSS]at hw;obtain⟨q1,q2⟩:=hw;go_simp;try (with_reducible rfl)
     simp only [Act.put,Z1,Z2,Z3];refine tQ 6 ?_ ?_ ?_;rotate_left
     ·intro w hw;rw [hSS]at hw;obtain⟨q1,q2⟩:=hw;go_simp;try (with_reducible rfl)
     simp only [Act.put,Z1,Z2,Z3];refine tQ 7 ?_ ?_ ?_;rotate_left
     ·intro w hw;rw [hSS]at hw;obtain⟨q1,q2⟩:=hw;go_simp;try (with_reducible rfl)
     simp only [Act.put,Z1,Z2,Z3];refine tQ 8 ?_ ?_ ?_;rotate_left
     ·intro w hw;rw [hSS]at hw;obtain⟨q1,q2⟩:=hw;go_simp;try (with_reducible rfl)
     simp only [Act.put,Z1,Z2,Z3];have fb:=(hrw.keep hfb (Aa _ F2)).rb.free 4;have k0:=(hrw.keep hfb (Aa _ F2)).rb.cell 4 rfl;refine rD 9 rfl (fun K hK=>?_);go_simp;refine sO hK ?_ fun hHeld=>?_
     ·rw [hSS];have hrx:=(hrw.keep hfb (Aa _ F2)).set (r':=(fun s=> {way:=3,size:=16+8*(i.1:Nat),kind:=256+128*(d.2.2:Nat),name:=[],key:=s,salt:=d.1,rounds:=(d.2.1:Nat),iv:=i.2,loose:=[]}) s) 4 (S s) (by simp [cRec]);exact⟨hrx.cc,hrx.cr⟩
     clear hK K;refine tQ 10 ?_ ?_ ?_;rotate_left
     ·intro w hw;rw [hSS]at hw;obtain⟨q1,q2⟩:=hw;go_simp;try (with_reducible rfl)
     simp only [Act.put,Z1,Z2,Z3];refine wpAnyH_done (by kernel_rfl) ?_ _;go_wp2_with fail;go_meet
     exact hmid.base (sT (fD (fR _ w6)) hsa)
    case rest=>
     clear c1 c2;cases R1 with
     | error n=>
      have HI:=zz (HR.out.1.trans (An HR.out.2.symm));obtain⟨⟨fb,rfl,hb⟩,hs⟩:=hcut;have HE:=zz (aN hb (AY H6.out.1 H6.out.2 hs));clear hb hs HR;go_wp2;go_ret;rw [HI.out];exact⟨⟨_,rfl,fb,rfl,HE.out.1⟩,HE.out.2⟩
     | ok q=>
      obtain⟨s,k4⟩:=q;have HI:=zz (HR.out.1.trans (Ao HR.out.2.symm));obtain⟨rfl,hc,hw,hs⟩:=hcut;have HE:=zz (aN hc (aN hw (AY H6.out.1 H6.out.2 hs)));clear hc hw hs HR;go_wp2;go_ret;rw [HI.out];exact⟨rfl,⟨F2,HE.out.1,H6.out.2,HE.out.2.1.nb,HE.out.2.1.rb⟩,HE.out.2.2⟩
theorem Mf(pc b br:Nat)(va:Value)(L:List Px.Node)(lim:Lim)(k:Cu)(F:Nat->Prop)(w:World)(h:CuAt w b va L lim k F)(hf:Fits L k)(hd:k.left.length<=99)(hr:∀a∈L,E5.right a=true)(hx:RecP br zeroR F w)(hv:∀q,va.ownBlock=some q->q≠br)(c1:w.cell? ⟨pc,0,none⟩=some (.pointer (some ⟨b,0,none⟩))):
  Calls Tryz.prog 103 #[.pointer (some ⟨pc,0,none⟩),.pointer (some ⟨br,0,none⟩)] w (RunsE w b va L lim F (fun q=>q=br) (RecP br) (wrapped L k)):=by
 have HD:=zz (IJ b br va L lim k F w h hf hd hr hx hv);obtain⟨R,hR⟩:∃R,R=wrapped L k:=⟨_,rfl⟩
 rw [<-hR]at HD ⊢;clear hR h hf hd hr hx hv;go_enter Tryz.func103,Tryz.ntmps103;go_wp2_with fail;refine HD.out.mono ?_;intro e w1 hT;cases R with
 | error n=>
  obtain⟨⟨v,rfl,fb,rfl,hb⟩,hs⟩:=hT;have HE:=zz (aN hb hs);clear hb hs HD;go_wp2;go_ret;exact⟨⟨_,rfl,fb,rfl,HE.out.1⟩,HE.out.2⟩
 | ok q=>
  obtain⟨d,k1⟩:=q;obtain⟨rfl,hq,hfr⟩:=hT;have HE:=zz (aN hq hfr);clear hq hfr HD;go_wp2;go_ret;exact⟨rfl,HE.out.1,HE.out.2⟩
theorem Mg(pc b br:Nat)(va:Value)(L:List Px.Node)(lim:Lim)(k:Cu)(F:Nat->Prop)(w:World)(h:CuAt w b va L lim k F)(hf:Fits L k)(hd:k.left.length<=95)(hr:∀a∈L,E5.right a=true)(hl:0<=lim.r/\lim.r<=4096)(hx:RecP br zeroR F w)(hv:∀q,va.ownBlock=some q->q≠br)(c1:w.cell? ⟨pc,0,none⟩=some (.pointer (some ⟨b,0,none⟩))):
  Calls Tryz.prog 105 #[.pointer (some ⟨pc,0,none⟩),.pointer (some ⟨br,0,none⟩)] w (RunsE w b va L lim F (fun q=>q=br) (RecP br) (password L lim k)):=by
 have HD:=zz (Hy b br va L lim k F w h hf hd hr hl hx hv);obtain⟨R,hR⟩:∃R,R=password L lim k:=⟨_,rfl⟩
 rw [<-hR]at HD ⊢;clear hR h hf hd hr hl hx hv;go_enter Tryz.func105,Tryz.ntmps105;go_wp2_with fail;refine HD.out.mono ?_;intro e w1 hT;cases R with
 | error n=>
  obtain⟨⟨v,rfl,fb,rfl,hb⟩,hs⟩:=hT;have HE:=zz (aN hb hs);clear hb hs HD;go_wp2;go_ret;exact⟨⟨_,rfl,fb,rfl,HE.out.1⟩,HE.out.2⟩
 | ok q=>
  obtain⟨d,k1⟩:=q;obtain⟨rfl,hq,hfr⟩:=hT;have HE:=zz (aN hq hfr);clear hq hfr HD;go_wp2;go_ret;exact⟨rfl,HE.out.1,HE.out.2⟩
theorem JZ(n:Nat)(ccm:Bool)(w:World):Calls Tryz.prog 110 #[.int .i64 (n:Nat),.bool ccm] w fun e w'=>e= .returned (.bool (Cm.tagged n ccm))/\w=w':=by
 cases ccm with
 | false=>
  by_cases h1:13<=n
  ·have h1z:(13:Int)<=(n:Int):=by omega
   by_cases h2:n<=16
   ·have h2z:(n:Int)<=16:=by omega
    have HT:=zz (show Cm.tagged n false=true by unfold Cm.tagged; simp [h1,h2]);clear h1 h2;go_enter Tryz.func110,Tryz.ntmps110;go_wp2;go_ret;rw [HT.out];exact⟨rfl,rfl⟩
   ·have h2z:¬(n:Int)<=16:=by omega
    have HT:=zz (show Cm.tagged n false=false by unfold Cm.tagged; simp [h2]);clear h1 h2;go_enter Tryz.func110,Tryz.ntmps110;go_wp2;go_ret;rw [HT.out];exact⟨rfl,rfl⟩
  ·have h1z:¬(13:Int)<=(n:Int):=by omega
   have HT:=zz (show Cm.tagged n false=false by unfold Cm.tagged; simp [h1]);clear h1;go_enter Tryz.func110,Tryz.ntmps110;go_wp2;go_ret;rw [HT.out];exact⟨rfl,rfl⟩
 | true=>
  by_cases h1:4<=n
  ·by_cases h2:n<=16
   ·have h3:n=4\/n=5\/n=6\/n=7\/n=8\/n=9\/n=10\/n=11\/n=12\/n=13\/n=14\/n=15\/n=16:=by omega
    clear h1 h2;rcases h3 with rfl | rfl | rfl | rfl | rfl | rfl | rfl | rfl | rfl | rfl | rfl | rfl | rfl
    all_goals
     go_enter Tryz.func110,Tryz.ntmps110;go_wp2;go_ret;exact⟨rfl,rfl⟩
   ·have h1z:(4:Int)<=(n:Int):=by omega
    have h2z:¬(n:Int)<=16:=by omega
    have HT:=zz (show Cm.tagged n true=false by unfold Cm.tagged; simp [h2]);clear h1 h2;go_enter Tryz.func110,Tryz.ntmps110;go_wp2;go_ret;rw [HT.out];exact⟨rfl,rfl⟩
  ·have h1z:¬(4:Int)<=(n:Int):=by omega
   have HT:=zz (show Cm.tagged n true=false by unfold Cm.tagged; simp [h1]);clear h1;go_enter Tryz.func110,Tryz.ntmps110;go_wp2;go_ret;rw [HT.out];exact⟨rfl,rfl⟩
theorem B1(w:World):Calls Tryz.prog 41 #[] w fun e w'=>e= .returned (.agg #[.int .i64 1,.int .i64 2,.int .i64 3,.int .i64 201,.int .i64 202,.int .i64 203])/\Same w w':=by
 go_enter Tryz.func41,Tryz.ntmps41;go_wp2;refine bodyPost_ret (v:= .agg #[.int .i64 1,.int .i64 2,.int .i64 3,.int .i64 201,.int .i64 202,.int .i64 203]) (by simp [results,Tryz.results41,go_sem, *]) rfl ⟨rfl,?_⟩;exact fA (fR _ w) _
def envFoot(be:Nat)(vto:Value)(q:Nat):Prop:=q=be\/vto.ownBlock=some q
structure EnvW (w:World) (F:Nat->Prop) (be:Nat) (x:Co.Env) (vto:Value):Prop where
 eb:EnvB w be x vto
 own:Owns w 78 9 cRec vto x.to
 nf:∀q,envFoot be vto q->¬F q
 ap:Apart vto.ownBlock (some be)
section
variable {w w' : World} {F G : Nat -> Prop} {be : Nat} {x : Co.Env} {vto : Value}
theorem EnvW.lt(h:EnvW w F be x vto):∀q,envFoot be vto q->q<w.heap.size:=by
 rintro q (rfl | hq)
 ·exact Blk.lt h.eb
 ·exact h.own.lt hq
theorem EnvW.keep(h:EnvW w F be x vto)(hf:Fr F w w')(hs:Fresh w F G):EnvW w' G be x vto:=by
 refine⟨Blk.fr h.eb hf (h.nf be (.inl rfl)),h.own.fr hf fun q e=>h.nf q (.inr e),fun q hq e=>?_,h.ap⟩;rcases hs q e with y | y
 ·exact h.nf q hq y
 ·have:=h.lt q hq;omega
theorem EnvW.set{x':Co.Env}(h:EnvW w F be x vto)(i:Nat)(v:Value)(he:(envC x vto).setIfInBounds i v=envC x' vto)(ht:x'.to=x.to):EnvW (w.setCell ⟨be,i,none⟩ v) F be x' vto:=by
 have q:=Blk.set h.eb i v;rw [he]at q;refine⟨q,?_,h.nf,h.ap⟩;rw [ht];exact h.own.setCell (p:=⟨be,i,none⟩) h.ap.ne v
theorem EnvW.push {w1 w2:World} {r:Co.Rec} {g cap:Nat} {o:Obj} (h:EnvW w F be x vto) (hF:∀q,F q->q<w.heap.size) (hown:w1.ownsRow 0 78 9 (.slice (some ⟨g,0,none⟩) (x.to.length+1) cap) (x.to.length+1) (x.to.flatMap cRec++cRec r)) (hg:((w.alloc o).drew).grownBy w1 vto.ownBlock) (hat:vto.ownBlock=some g\/w.heap.size<=g)
  (hw:w2=w1.setCell ⟨be,2,none⟩ (.slice (some ⟨g,0,none⟩) (x.to.length+1) cap)):
  EnvW w2 F be {x with «to» :=x.to++ [r]} (.slice (some ⟨g,0,none⟩) (x.to.length+1) cap)/\Fr (envFoot be vto) w w2/\Fresh w (envFoot be vto) (envFoot be (.slice (some ⟨g,0,none⟩) (x.to.length+1) cap)):=by
 have hg2:=BF hg;have hbl:be<w.heap.size:=h.lt be (.inl rfl);have hbg:¬be=g:=by
  rcases hat with e | e
  ·intro h2;exact h.ap g e (by rw [h2])
  ·omega
 have hf2:Fr (envFoot be vto) w w2:=by
  rw [hw];exact(Fr.grown (fR _ w) hg2 fun q e=> .inl (.inr e)).setCell (.inl (.inl rfl)) _
 have hb1:Blk w1 be (envC x vto) 27:=(hg2.block be hbl fun e=>h.ap be e.symm rfl).trans h.eb;refine⟨⟨?_,?_,?_,?_⟩,hf2,?_⟩
 ·rw [hw];exact hb1.set 2 (.slice (some ⟨g,0,none⟩) (x.to.length+1) cap)
 ·rw [hw];exact(Bb (l:=x.to) (c:=cRec) (a:=r) (w:=w1) (T:=78) (sz:=9) (g:=g) (cap:=cap) hown).setCell (p:=⟨be,2,none⟩) (fun e=>hbg (by simp only [Value.ownBlock,Option.some.injEq]at e; exact e.symm)) _
 ·rintro q (rfl | hq) e
  ·exact h.nf q (.inl rfl) e
  ·simp only [Value.ownBlock,Option.some.injEq]at hq;subst hq;rcases hat with e2 | e2
   ·exact h.nf g (.inr e2) e
   ·have:=hF g e;omega
 ·intro q hq e;simp only [Value.ownBlock,Option.some.injEq]at hq e;exact hbg (e.trans hq.symm)
 ·rintro q (rfl | hq)
  ·exact .inl (.inl rfl)
  ·simp only [Value.ownBlock,Option.some.injEq]at hq;subst hq;rcases hat with e2 | e2
   ·exact .inl (.inr e2)
   ·exact .inr e2
end
end Go.Proofs.YtpfhollohodcjaaGreatDoor
