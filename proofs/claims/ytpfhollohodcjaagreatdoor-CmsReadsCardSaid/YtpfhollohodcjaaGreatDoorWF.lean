import Derived.Test.YtpfhollohodcjaaGreatDoorWE
set_option maxRecDepth 100000
set_option maxHeartbeats 16000000
namespace Go.Px.Cm
open E5 Co
end Go.Px.Cm
namespace Go.Proofs.YtpfhollohodcjaaGreatDoor
open Go.RowKit Go.Px Go.Px.Co Go.Px.Cm
theorem RW.limr{w:World}{b:Nat}{va:Value}{L:List Px.Node}{lim:Lim}{s:RS}{x:XV}{F:Nat->Prop}(h:RW w b va L lim s x F):w.cell? ⟨b,7,none⟩=some (.int .i64 lim.r):=by
 obtain⟨vl,vto,_,_,hs⟩:=h;cases s with
 | run c=>
  have h':CuRep 71 (rwRest 0 lim x vto) w b va L c vl:=hs;exact h'.blk.cell 7 rfl
 | bad e=>
  obtain⟨_,⟨a,hb⟩,_⟩:=hs;exact hb.cell 7 rfl
theorem IQ(b:Nat)(va:Value)(L:List Px.Node)(lim:Lim)(s:RS)(x:XV)(F:Nat->Prop)(n:Nat)(w:World)(h:RW w b va L lim s x F)(hf:FitR L n s)(hr:∀a∈L,E5.right a=true)(hlen:∀a∈L,a.body.length<=140737488355327):
  Calls Tryz.prog 123 #[.pointer (some ⟨b,0,none⟩)] w fun e w'=>e= .returned (.int .i64 ((rRounds L lim s).1:Nat))/\RW w' b va L lim (rRounds L lim s).2 x F/\Fr F w w':=by
 have HLF:=zz (Az b va L lim s x F 2 n (by decide) w h hf);have HRR:Hid (rRounds L lim s=if isBad (rLeaf L 2 s).2 then(0,(rLeaf L 2 s).2)
  else(numC (rLeaf L 2 s).1 0,rMust (decide ((numC (rLeaf L 2 s).1 0:Int)<=lim.r)) 10 (rMust (decide (((rLeaf L 2 s).1.getD 0 0).toNat<128) && ((rLeaf L 2 s).1 !=[0])) 9 (rLeaf L 2 s).2))):=zz rfl
 have hq:∀q,q=rLeaf L 2 s->∀c,q.2= .run c->q.1≠ []/\q.1.length<=140737488355327:=by
  rintro q rfl c hc;cases s with
  | bad e=>cases hc
  | run c0=>
   replace hc:(match Cm.take L 2 c0 with | .ok (b,c')=>(b,RS.run c')| .error e=>([],RS.bad e)).2= .run c:=hc;show(match Cm.take L 2 c0 with | .ok (b,c')=>(b,RS.run c')| .error e=>([],RS.bad e)).1≠ []/\(match Cm.take L 2 c0 with | .ok (b,c')=>(b,RS.run c')| .error e=>([],RS.bad e)).1.length<=_;cases hk:Cm.take L 2 c0 with
   | error e=>rw [hk]at hc; cases hc
   | ok q=>
    obtain⟨u,c'⟩:=q;have hne:u≠ []:=by
     obtain⟨_,ts,n,r,⟨_,hb⟩,_⟩:=AI hr (t:=2) (by decide) (by decide) c0 u c' hk hf.1;intro e;rw [e]at hb
     revert hb
     decide
    obtain⟨a,_,_,_,h2,_,_,h4,_⟩:=By hk (by decide);exact⟨hne,by show u.length<=_; rw [h4]; exact hlen a h2⟩
 obtain⟨q,hqq⟩:∃q,q=rLeaf L 2 s:=⟨_,rfl⟩
 have hq2:=hq q hqq;rw [<-hqq]at HLF HRR;obtain⟨v,y⟩:=q;simp only at HLF HRR hq2;have HQ:=zz hq2;clear h hf hr hlen hq hqq hq2;go_enter Tryz.func123,Tryz.ntmps123;go_wp2_with fail;refine HLF.out.mono ?_;rintro e w1 ⟨rfl,hrw,hfr⟩;have HW:=zz (aN hrw hfr);clear HLF;cases y with
 | bad en=>
  obtain⟨vl,vto,_,ht,hs⟩:=hrw;obtain⟨c3,_,_⟩:=hs.err;replace c3:w1.cell? ⟨b,3,none⟩=some (.int .i64 en):=c3;have hez:(en !=0)=true:=by rw [bne_iff_ne]; exact hs.1
  have HI:Hid (rRounds L lim s=(0,.bad en)):=zz (HRR.out.trans (if_pos rfl));clear ht hs hfr HRR;go_wp2;go_ret;rw [HI.out];exact⟨rfl,HW.out.1,HW.out.2⟩
 | run c=>
  have HI:Hid (rRounds L lim s=(numC v 0,rMust (decide ((numC v 0:Int)<=lim.r)) 10 (rMust (decide ((v.getD 0 0).toNat<128) && (v !=[0])) 9 (.run c)))):=zz (HRR.out.trans (if_neg (fun e=>by cases e)));obtain⟨hv,hvl⟩:=HQ.out c rfl;obtain⟨vl,vto,_,ht,hs⟩:=hrw;obtain⟨c3,_,_⟩:=hs.err;replace c3:w1.cell? ⟨b,3,none⟩=some (.int .i64 0):=c3;clear ht hs hfr HRR HQ;obtain⟨z,hz⟩:∃z,z=(v.getD 0 0).toNat:=⟨_,rfl⟩
  have hix:∀W:World,(Instr.index 9 (S v) (.int .i64 0)).run Tryz.prog W= .ok (.int .u8 (z:Nat)) W:=fun W=>by
   rw [hz];exact AK v 0 (List.length_pos_iff.2 hv) W
  rw [<-hz]at HI;have HV:=zz hv;clear hz hv;go_upto_region 4 with fail
  go_cut [] (fun wx=>RW wx b va L lim (rMust (decide (z<128) && (v !=[0])) 9 (.run c)) x F/\Fr F w wx)
  case first=>
   by_cases h1:z<128
   ·have h1z:decide ((z:Int)<128)=true:=dt (by omega);have hh:(decide (z<128) && (v !=[0]))=(v !=[0]):=by rw [dt h1,Bool.true_and]
    have HH:=zz hh;have HC:=zz (Ae b va L lim (.run c) x F (v !=[0]) 9 (by decide) w1 HW.out.1);clear h1 hh;go_wp2_with fail;refine HC.out.mono ?_;rintro e wz ⟨rfl,hst,hfr⟩;have HZ:=zz (aN hst (HW.out.2.trans hfr fun _ _ y=>y));clear hst hfr HC;go_wp2_with fail;go_meet
    rw [HH.out];exact HZ.out
   ·have h1z:decide ((z:Int)<128)=false:=df (by omega);have hh:(decide (z<128) && (v !=[0]))=false:=by rw [df h1,Bool.false_and]
    have HH:=zz hh;have HC:=zz (Ae b va L lim (.run c) x F false 9 (by decide) w1 HW.out.1);clear h1 hh;go_wp2_with fail;refine HC.out.mono ?_;rintro e wz ⟨rfl,hst,hfr⟩;have HZ:=zz (aN hst (HW.out.2.trans hfr fun _ _ y=>y));clear hst hfr HC;go_wp2_with fail;go_meet
    rw [HH.out];exact HZ.out
  case rest=>
   clear c3 hix;obtain⟨s1,hs1⟩:∃s1,s1=rMust (decide (z<128) && (v !=[0])) 9 (.run c):=⟨_,rfl⟩
   rw [<-hs1]at hcut HI;have HX:=zz hcut;clear hcut hs1;go_wp2_with fail;go_loopw [4,5] (fun nn ii wr=>∃k m:Nat,k<=v.length/\ii= .int .i64 (k:Nat)/\nn= .int .i64 (m:Nat)/\wc=wr/\Hid (numC (v.drop k) m=numC v 0)/\m<=300000000) (fun _ ii _=>v.length - (intOf ii).toNat)
   case atStart=>exact⟨0,0,Nat.zero_le _,rfl,rfl,rfl,zz rfl,by omega⟩
   case round=>
    obtain⟨k,m,hk,rfl,rfl,rfl,hnum,hm⟩:=hrel;by_cases hlt:k<v.length
    ·have hltz:(k:Int)<(v.length:Int):=by omega
     obtain⟨d,hd⟩:∃d,d=v.getD k 0:=⟨_,rfl⟩
     have hix:∀W:World,(Instr.index 9 (S v) (.int .i64 (k:Int))).run Tryz.prog W= .ok (.int .u8 (d.toNat:Nat)) W:=fun W=>by
      rw [hd];exact AK v k hlt W
     have hnx:numC (v.drop k) m=numC (v.drop (k+1)) (if m<=1048576 then m*256+d.toNat else m):=by
      rw [List.drop_eq_getElem_cons hlt,numC,hd];simp [List.getD,hlt]
     have hd2:=d.toNat_lt;obtain⟨dn,hdn⟩:∃dn,dn=d.toNat:=⟨_,rfl⟩
     rw [<-hdn]at hix hnx hd2;have HLT:=zz (aN hlt hd);clear hd hdn hk hlt;by_cases h1:m<=1048576
     ·rw [if_pos h1]at hnx;have HNX:=zz (hnx.symm.trans hnum.out);have h1z:decide ((m:Int)<=1048576)=true:=dt (by omega);have hw1:IntKind.i64.wrap ((dn:Nat):Int)=(dn:Int):=IntWalk.i64_in _ ⟨by omega,by omega⟩;have hk5:(k:Int)+1<=140737488355328:=by omega
      have hm2:(m:Int)<=1048576:=by omega
      have hdz:(dn:Int)<=255:=by omega
      clear hnx h1 hnum hm;go_wp2;refine⟨⟨k+1,m*256+dn,HLT.out.1,rfl,?_,trivial,HNX,by omega⟩,?_⟩
      ·rw [Int.natCast_add,Int.natCast_mul];rfl
      ·show v.length - (((k:Nat):Int)+1).toNat<v.length - ((k:Nat):Int).toNat;have:=HLT.out.1;omega
     ·rw [if_neg h1]at hnx;have HNX:=zz (hnx.symm.trans hnum.out);have h1z:decide ((m:Int)<=1048576)=false:=df (by omega);have hk5:(k:Int)+1<=140737488355328:=by omega
      clear hnx h1 hnum;go_wp2;refine⟨⟨k+1,m,HLT.out.1,rfl,rfl,trivial,HNX,hm⟩,?_⟩;show v.length - (((k:Nat):Int)+1).toNat<v.length - ((k:Nat):Int).toNat;have:=HLT.out.1;omega
    ·have hltz:¬(k:Int)<(v.length:Int):=by omega
     have hmn:m=numC v 0:=by
      rw [<-hnum.out,List.drop_of_length_le (by omega)];rfl
     have c7:=HX.out.1.limr;have HC:=zz (Ae b va L lim s1 x F (decide ((m:Int)<=lim.r)) 10 (by decide) wc HX.out.1);rw [<-hmn]at HI;clear hmn hlt hk hnum;go_wp2_with fail;refine HC.out.mono ?_;rintro e wz ⟨rfl,hst,hfr⟩;have HZ:=zz (aN hst (HX.out.2.trans hfr fun _ _ y=>y));clear hst hfr HC;go_wp2;go_ret;rw [HI.out];exact⟨rfl,HZ.out.1,HZ.out.2⟩
theorem IR{L:List Px.Node}{lim:Lim}{n:Nat}{s:RS}(hr:∀a∈L,E5.right a=true)(h:FitR L n s):FitR L n (rRounds L lim s).2:=by
 have h2:=AE hr (t:=2) (by decide) (by decide) h;unfold rRounds
 split
 ·exact h2
 ·exact Ac _ _ (Ac _ _ h2)
theorem GO(b:Nat)(va:Value)(L:List Px.Node)(lim:Lim)(s:RS)(x:XV)(F:Nat->Prop)(n:Nat)(w:World)(h:RW w b va L lim s x F)(hf:FitR L n s)(hn:1<=n/\n<=90)(hr:∀a∈L,E5.right a=true)(hlen:∀a∈L,a.body.length<=140737488355327):
  Calls Tryz.prog 81 #[.pointer (some ⟨b,0,none⟩)] w fun e w'=>e= .returned (.agg (cRec (rPassword L lim s).1).toArray)/\StepR w b va L lim F (rPassword L lim s).2 x w':=by
 obtain⟨w1,hw1⟩:∃w1,w1=(w.alloc (.cells (cRec zeroR).toArray 78)).alloc (.cells (cRec ⟨3,0,0,[],[],[],0,[],[]⟩).toArray 78):=⟨_,rfl⟩
 have HX:=zz (Jp h hf ⟨3,0,0,[],[],[],0,[],[]⟩ hw1);have HW1:=zz hw1;have HN:=zz hn;have HRT:=zz hr;have HLN:=zz hlen;have HIN:=zz (fun(W:World) (e:W=w1)=>(show Calls Tryz.prog 31 #[.pointer (some ⟨b,0,none⟩),.int .u8 ((0xa3:UInt8).toNat:Nat)] W (fun e w'=>e= .returned (.tuple #[])/\StepR w1 b va L lim F (rIn L (0xa3:UInt8).toNat s) x w')from by rw [e]; exact AU b va L lim s x F 0xa3 n (by decide) (by decide) w1 HX.out.lin.rw_ HX.out.lin.fit (by omega) hr));clear h hf hn hr hw1 hlen;go_enter Tryz.func81,Tryz.ntmps81;go_wp2_with fail;refine(HIN.out _ HW1.out.symm).mono ?_;rintro e w2 ⟨rfl,hst⟩;obtain⟨F1,hsea⟩:=HX.out.into hst (AV HRT.out (by decide) (by decide) HX.out.lin.fit);rw [show((0xa3:UInt8).toNat)=163 from rfl]at hsea;obtain⟨s1,hs1⟩:∃s1,s1=rIn L 163 s:=⟨_,rfl⟩
 rw [<-hs1]at hsea;have E1:=zz hs1;replace HX:=zz hsea;obtain⟨bo,hbo⟩:∃bo,bo=w.heap.size:=⟨_,rfl⟩
 obtain⟨br,hbr⟩:∃br,br=w.heap.size+1:=⟨_,rfl⟩
 rw [<-hbr,<-hbo]at HX ⊢;clear hst hsea hs1 HIN hbo hbr;have HC:=zz (Az b va L lim s1 x _ 2 (n+1) (by decide) w2 HX.out.lin.rw_ HX.out.lin.fit);go_wp2_with fail;refine HC.out.mono ?_;rintro e w3 ⟨rfl,hst,hfr⟩;have hsea:=HX.out.step hst (AE HRT.out (t:=0x2) (by decide) (by decide) HX.out.lin.fit) hfr;obtain⟨q,hq⟩:∃q,q=rLeaf L 2 s1:=⟨_,rfl⟩
 rw [<-hq]at hsea ⊢;obtain⟨v2,s2⟩:=q;simp only at hsea ⊢;have E2:=zz hq;replace HX:=zz hsea;clear hst hfr hsea hq HC;have HC:=zz (Ae b va L lim s2 x _ (v2==[0]) 11 (by decide) w3 HX.out.lin.rw_);go_wp2_with fail;refine HC.out.mono ?_;rintro e w4 ⟨rfl,hst,hfr⟩;have hsea:=HX.out.step hst (Ac _ _ HX.out.lin.fit) hfr;obtain⟨s3,hs3⟩:∃s3,s3=rMust (v2==[0]) 11 s2:=⟨_,rfl⟩
 rw [<-hs3]at hsea;have E3:=zz hs3;replace HX:=zz hsea;clear hst hfr hsea hs3 HC;have HC:=zz (AU b va L lim s3 x _ 0xa0 (n+1) (by decide) (by decide) w4 HX.out.lin.rw_ HX.out.lin.fit (by have:=HN.out; omega) HRT.out);go_wp2_with fail;refine HC.out.mono ?_;rintro e w5 ⟨rfl,hst⟩;obtain⟨F4,hsea⟩:=HX.out.into hst (AV HRT.out (by decide) (by decide) HX.out.lin.fit);rw [show((0xa0:UInt8).toNat)=160 from rfl]at hsea;obtain⟨s4,hs4⟩:∃s4,s4=rIn L 160 s3:=⟨_,rfl⟩
 rw [<-hs4]at hsea;have E4:=zz hs4;replace HX:=zz hsea;clear hst hsea hs4 HC;have HC:=zz (Az b va L lim s4 x _ 6 (n+2) (by decide) w5 HX.out.lin.rw_ HX.out.lin.fit);go_wp2_with fail;refine HC.out.mono ?_;rintro e w6 ⟨rfl,hst,hfr⟩;have hsea:=HX.out.step hst (AE HRT.out (t:=0x6) (by decide) (by decide) HX.out.lin.fit) hfr;obtain⟨q,hq⟩:∃q,q=rLeaf L 6 s4:=⟨_,rfl⟩
 rw [<-hq]at hsea ⊢;obtain⟨v5,s5⟩:=q;simp only at hsea ⊢;have E5:=zz hq;replace HX:=zz hsea;clear hst hfr hsea hq HC;have HC:=zz (Ae b va L lim s5 x _ (v5==[42,134,72,134,247,13,1,5,12]) 11 (by decide) w6 HX.out.lin.rw_);go_wp2_with fail;refine HC.out.mono ?_;rintro e w7 ⟨rfl,hst,hfr⟩;have hsea:=HX.out.step hst (Ac _ _ HX.out.lin.fit) hfr;obtain⟨s6,hs6⟩:∃s6,s6=rMust (v5==[42,134,72,134,247,13,1,5,12]) 11 s5:=⟨_,rfl⟩
 rw [<-hs6]at hsea;have E6:=zz hs6;replace HX:=zz hsea;clear hst hfr hsea hs6 HC;have HC:=zz (AU b va L lim s6 x _ 0x30 (n+2) (by decide) (by decide) w7 HX.out.lin.rw_ HX.out.lin.fit (by have:=HN.out; omega) HRT.out);go_wp2_with fail;refine HC.out.mono ?_;rintro e w8 ⟨rfl,hst⟩;obtain⟨F7,hsea⟩:=HX.out.into hst (AV HRT.out (by decide) (by decide) HX.out.lin.fit);rw [show((0x30:UInt8).toNat)=48 from rfl]at hsea;obtain⟨s7,hs7⟩:∃s7,s7=rIn L 48 s6:=⟨_,rfl⟩
 rw [<-hs7]at hsea;have E7:=zz hs7;replace HX:=zz hsea;clear hst hsea hs7 HC;have HC:=zz (Az b va L lim s7 x _ 4 (n+3) (by decide) w8 HX.out.lin.rw_ HX.out.lin.fit);go_wp2_with fail;refine HC.out.mono ?_;rintro e w9 ⟨rfl,hst,hfr⟩;have hsea:=HX.out.step hst (AE HRT.out (t:=0x4) (by decide) (by decide) HX.out.lin.fit) hfr;obtain⟨q,hq⟩:∃q,q=rLeaf L 4 s7:=⟨_,rfl⟩
 rw [<-hq]at hsea ⊢;obtain⟨sa,s8⟩:=q;simp only at hsea ⊢;have E8:=zz hq;replace HX:=zz hsea;clear hst hfr hsea hq HC;have hbl:=HX.out.rb.lt;have k5:w9.cell? ⟨br,5,none⟩=some (S []):=HX.out.rb.cell 5 rfl;have f5:=HX.out.rb.free 5;replace HX:=zz (HX.out.set (r':=⟨3,0,0,[],[],sa,0,[],[]⟩) 5 (S sa) (by simp [cRec]));obtain⟨wb,hwb⟩:∃wb,wb=w9.setCell ⟨br,5,none⟩ (S sa):=⟨_,rfl⟩
 rw [<-hwb]at HX;have HWB:=zz hwb;clear hwb;go_upto_region 10 with fail
 rw [<-HWB.out];go_cut [] (fun wx=>SeaW w F b va L lim x bo br (n+3) (rMust (tSalt sa) 9 s8) ⟨3,0,0,[],[],sa,0,[],[]⟩ F7 wx)
 case first=>
  have hblc:=HX.out.rb.lt;have kk5:wb.cell? ⟨br,5,none⟩=some (S sa):=HX.out.rb.cell 5 rfl;by_cases h1:8<=sa.length
  ·by_cases h2:sa.length<=1000
   ·
    have ht:(tSalt sa)=true:=by unfold tSalt; simp only [h1,h2,decide_true,Bool.and_self]
    have h1z:decide ((8:Int)<=(sa.length:Int))=true:=dt (by omega);have h2z:decide ((sa.length:Int)<=1000)=true:=dt (by omega);have HTT:=zz ht;have HC:=zz (Ae b va L lim s8 x _ true 9 (by decide) _ HX.out.lin.rw_);clear ht h1 h2;go_wp2_with fail;refine HC.out.mono ?_;rintro e wz ⟨rfl,hst,hfr⟩;have HZ:=zz (HX.out.step hst (Ac _ _ HX.out.lin.fit) hfr);clear hst hfr HC;go_wp2_with fail;go_meet
    rw [HTT.out];exact HZ.out
   ·
    have ht:(tSalt sa)=false:=by unfold tSalt; simp only [h2,decide_false,Bool.and_false]
    have h1z:decide ((8:Int)<=(sa.length:Int))=true:=dt (by omega);have h2z:decide ((sa.length:Int)<=1000)=false:=df (by omega);have HTT:=zz ht;have HC:=zz (Ae b va L lim s8 x _ false 9 (by decide) _ HX.out.lin.rw_);clear ht h1 h2;go_wp2_with fail;refine HC.out.mono ?_;rintro e wz ⟨rfl,hst,hfr⟩;have HZ:=zz (HX.out.step hst (Ac _ _ HX.out.lin.fit) hfr);clear hst hfr HC;go_wp2_with fail;go_meet
    rw [HTT.out];exact HZ.out
  ·
   have ht:(tSalt sa)=false:=by unfold tSalt; simp only [h1,decide_false,Bool.false_and]
   have h1z:decide ((8:Int)<=(sa.length:Int))=false:=df (by omega);have HTT:=zz ht;have HC:=zz (Ae b va L lim s8 x _ false 9 (by decide) _ HX.out.lin.rw_);clear ht h1;go_wp2_with fail;refine HC.out.mono ?_;rintro e wz ⟨rfl,hst,hfr⟩;have HZ:=zz (HX.out.step hst (Ac _ _ HX.out.lin.fit) hfr);clear hst hfr HC;go_wp2_with fail;go_meet
   rw [HTT.out];exact HZ.out
 case rest=>
  obtain⟨s9,hs9⟩:∃s9,s9=rMust (tSalt sa) 9 s8:=⟨_,rfl⟩
  rw [<-hs9]at hcut;have E9:=zz hs9;replace HX:=zz hcut;clear hs9 hcut HWB;have HC:=zz (IQ b va L lim s9 x _ (n+3) wc HX.out.lin.rw_ HX.out.lin.fit HRT.out HLN.out);go_wp2_with fail;refine HC.out.mono ?_;rintro e w11 ⟨rfl,hst,hfr⟩;have hsea:=HX.out.step hst (IR HRT.out HX.out.lin.fit) hfr;obtain⟨q,hq⟩:∃q,q=rRounds L lim s9:=⟨_,rfl⟩
  rw [<-hq]at hsea ⊢;obtain⟨rn,s10⟩:=q;simp only at hsea ⊢;have E10:=zz hq;replace HX:=zz hsea;clear hst hfr hsea hq HC;have hbl:=HX.out.rb.lt;have k6:w11.cell? ⟨br,6,none⟩=some (.int .i64 0):=HX.out.rb.cell 6 rfl;have f6:=HX.out.rb.free 6;replace HX:=zz (HX.out.set (r':=⟨3,0,0,[],[],sa,(rn:Nat),[],[]⟩) 6 (.int .i64 (rn:Nat)) (by simp [cRec]));obtain⟨wb,hwb⟩:∃wb,wb=w11.setCell ⟨br,6,none⟩ (.int .i64 (rn:Nat)):=⟨_,rfl⟩
  rw [<-hwb]at HX;have HWB:=zz hwb;clear hwb;go_upto_region 12 with fail
  rw [<-HWB.out];go_cut [] (fun wx=>SeaW w F b va L lim x bo br (n+3) (rMust (isBad s10 || (!rNone L s10 && !rIs L 2 s10)) 11 s10) ⟨3,0,0,[],[],sa,(rn:Nat),[],[]⟩ F7 wx)
  case first=>
   cases s10 with
   | bad en=>
    obtain⟨vl,vto,_,ht,hs⟩:=HX.out.lin.rw_;obtain⟨c3,_,_⟩:=hs.err;replace c3:wb.cell? ⟨b,3,none⟩=some (.int .i64 en):=c3;have hez:(en !=0)=true:=by rw [bne_iff_ne]; exact hs.1
    have HC:=zz (Ae b va L lim (.bad en) x _ true 11 (by decide) _ HX.out.lin.rw_);have HTT:=zz (show(isBad (.bad en)|| (!rNone L (.bad en) && !rIs L 2 (.bad en)))=true from rfl);clear ht hs;go_wp2_with fail;refine HC.out.mono ?_;rintro e wz ⟨rfl,hst,hfr⟩;have HZ:=zz (HX.out.step hst (Ac _ _ HX.out.lin.fit) hfr);clear hst hfr HC;go_wp2_with fail;go_meet
    rw [HTT.out];exact HZ.out
   | run c=>
    have HLF:=zz (A2 b va L lim c x _ wb HX.out.lin.rw_);have HIS:=zz (fun W (hW:Same wb W)=>Cx b va L lim (.run c) x _ 2 _ (by decide) W (HX.out.lin.rw_.same hW) HX.out.lin.fit);obtain⟨vl,vto,_,ht,hs⟩:=HX.out.lin.rw_;obtain⟨c3,_,_⟩:=hs.err;replace c3:wb.cell? ⟨b,3,none⟩=some (.int .i64 0):=c3;have HPZ:=zz (BN HX.out.lin.fit.1);obtain⟨m,hm⟩:∃m,m=c.left.headD 0:=⟨_,rfl⟩
    rw [<-hm]at HLF HPZ;clear ht hs hm;go_wp2_with fail;refine HLF.out.mono ?_;rintro e wy ⟨rfl,kk,rfl⟩;clear HLF;by_cases h0:m=0
    ·subst h0;have HC:=zz (Ae b va L lim (.run c) x _ false 11 (by decide) (wb.drewN kk) (HX.out.lin.rw_.same ((fR _ wb).drewN kk)));have HTT:=zz (show(isBad (.run c)|| (!rNone L (.run c) && !rIs L 2 (.run c)))=false from by
      rw [show rNone L (.run c)=true from by show(peek L c==0)=true; rw [HPZ.out.2 rfl]; rfl];rfl)
     go_wp2_with fail;refine HC.out.mono ?_;rintro e wz ⟨rfl,hst,hfr⟩;have HZ:=zz ((HX.out.same ((fR _ wb).drewN kk)).step hst (Ac _ _ HX.out.lin.fit) hfr);clear hst hfr HC;go_wp2_with fail;go_meet
     rw [HTT.out];exact HZ.out
    ·have h0z:decide ((0:Int)<(m:Int))=true:=dt (by omega);have h0y:(0:Int)<(m:Int):=by omega
     have hrn:rNone L (.run c)=false:=bn (fun e=>h0 (HPZ.out.1 e));have HRN:=zz hrn;clear h0 hrn;go_wp2_with fail;refine(HIS.out _ ((fR _ wb).drewN kk)).mono ?_;rintro e wx ⟨rfl,hsx⟩;have HSX:=zz (((fR _ wb).drewN kk).trans hsx fun _ _ y=>y);obtain⟨p,hp⟩:∃p,p=rIs L 2 (.run c):=⟨_,rfl⟩
     rw [<-hp];have HC:=zz (Ae b va L lim (.run c) x _ (!p) 11 (by decide) wx (HX.out.lin.rw_.same HSX.out));have HTT:=zz (show(isBad (.run c)|| (!rNone L (.run c) && !rIs L 2 (.run c)))= !p from by
      rw [HRN.out,<-hp];cases p<;>rfl)
     clear hp hsx;go_wp2_with fail;refine HC.out.mono ?_;rintro e wz ⟨rfl,hst,hfr⟩;have HZ:=zz ((HX.out.same HSX.out).step hst (Ac _ _ HX.out.lin.fit) hfr);clear hst hfr HC;go_wp2_with fail;go_meet
     rw [HTT.out];exact HZ.out
  case rest=>
   obtain⟨s11,hs11⟩:∃s11,s11=rMust (isBad s10 || (!rNone L s10 && !rIs L 2 s10)) 11 s10:=⟨_,rfl⟩
   rw [<-hs11]at hcut;have E11:=zz hs11;replace HX:=zz hcut;clear hs11 hcut HWB;have HC:=zz (AU b va L lim s11 x _ 0x30 (n+3) (by decide) (by decide) wc HX.out.lin.rw_ HX.out.lin.fit (by have:=HN.out; omega) HRT.out);go_wp2_with fail;refine HC.out.mono ?_;rintro e w13 ⟨rfl,hst⟩;obtain⟨F12,hsea⟩:=HX.out.into hst (AV HRT.out (by decide) (by decide) HX.out.lin.fit);rw [show((0x30:UInt8).toNat)=48 from rfl]at hsea;obtain⟨s12,hs12⟩:∃s12,s12=rIn L 48 s11:=⟨_,rfl⟩
   rw [<-hs12]at hsea;have E12:=zz hs12;replace HX:=zz hsea;clear hst hsea hs12 HC;have HC:=zz (DJ b va L lim s12 x _ digestT [9,10,11] (n+4) w13 HX.out.lin.rw_ HX.out.lin.fit (by decide) (by decide));go_wp2_with fail;refine HC.out.mono ?_;rintro e w14 ⟨rfl,hst,hfr⟩;have hsea:=HX.out.step hst (DK HRT.out _ HX.out.lin.fit) hfr;rw [show tblOf digestT [9,10,11]=hashT from rfl]at hsea ⊢;obtain⟨q,hq⟩:∃q,q=rOne L hashT s12:=⟨_,rfl⟩
   have hltj:q.1<=10:=by rw [hq]; exact FK L _ _ (by decide)
   rw [<-hq]at hsea ⊢;obtain⟨j,s13⟩:=q;simp only at hsea hltj ⊢;have E13:=zz hq;replace HX:=zz hsea;clear hst hfr hsea hq HC;have hbl:=HX.out.rb.lt;have k2:w14.cell? ⟨br,2,none⟩=some (.int .i64 0):=HX.out.rb.cell 2 rfl;have f2:=HX.out.rb.free 2;replace HX:=zz (HX.out.set (r':=⟨3,0,256+128*j,[],[],sa,(rn:Nat),[],[]⟩) 2 (.int .i64 (256+128*(j:Int))) (by simp [cRec]));have HC:=zz (Az b va L lim s13 x _ 5 (n+4) (by decide) (w14.setCell ⟨br,2,none⟩ (.int .i64 (256+128*(j:Int)))) HX.out.lin.rw_ HX.out.lin.fit);go_wp2_with fail;refine HC.out.mono ?_;rintro e w15 ⟨rfl,hst,hfr⟩;have hsea:=HX.out.step hst (AE HRT.out (t:=0x5) (by decide) (by decide) HX.out.lin.fit) hfr;obtain⟨q,hq⟩:∃q,q=rLeaf L 5 s13:=⟨_,rfl⟩
   rw [<-hq]at hsea ⊢;obtain⟨v14,s14⟩:=q;simp only at hsea ⊢;have E14:=zz hq;replace HX:=zz hsea;clear hst hfr hsea hq HC;have HC:=zz (AC b va L lim s14 x _ (n+4) w15 HX.out.lin.rw_ HX.out.lin.fit (by have:=HN.out; omega));go_wp2_with fail;refine HC.out.mono ?_;rintro e w16 ⟨rfl,hst,hfr⟩;have hsea:=HX.out.step hst (AH (n:=n+3) (by have:=HN.out; omega) HX.out.lin.fit) hfr;obtain⟨s15,hs15⟩:∃s15,s15=rOut s14:=⟨_,rfl⟩
   rw [<-hs15]at hsea;have E15:=zz hs15;replace HX:=zz hsea;clear hst hfr hsea hs15 HC;have HC:=zz (AC b va L lim s15 x _ (n+3) w16 HX.out.lin.rw_ HX.out.lin.fit (by have:=HN.out; omega));go_wp2_with fail;refine HC.out.mono ?_;rintro e w17 ⟨rfl,hst,hfr⟩;have hsea:=HX.out.step hst (AH (n:=n+2) (by have:=HN.out; omega) HX.out.lin.fit) hfr;obtain⟨s16,hs16⟩:∃s16,s16=rOut s15:=⟨_,rfl⟩
   rw [<-hs16]at hsea;have E16:=zz hs16;replace HX:=zz hsea;clear hst hfr hsea hs16 HC;have HC:=zz (AC b va L lim s16 x _ (n+2) w17 HX.out.lin.rw_ HX.out.lin.fit (by have:=HN.out; omega));go_wp2_with fail;refine HC.out.mono ?_;rintro e w18 ⟨rfl,hst,hfr⟩;have hsea:=HX.out.step hst (AH (n:=n+1) (by have:=HN.out; omega) HX.out.lin.fit) hfr;obtain⟨s17,hs17⟩:∃s17,s17=rOut s16:=⟨_,rfl⟩
   rw [<-hs17]at hsea;have E17:=zz hs17;replace HX:=zz hsea;clear hst hfr hsea hs17 HC;have HC:=zz (AU b va L lim s17 x _ 0x30 (n+1) (by decide) (by decide) w18 HX.out.lin.rw_ HX.out.lin.fit (by have:=HN.out; omega) HRT.out);go_wp2_with fail;refine HC.out.mono ?_;rintro e w19 ⟨rfl,hst⟩;obtain⟨F18,hsea⟩:=HX.out.into hst (AV HRT.out (by decide) (by decide) HX.out.lin.fit);rw [show((0x30:UInt8).toNat)=48 from rfl]at hsea;obtain⟨s18,hs18⟩:∃s18,s18=rIn L 48 s17:=⟨_,rfl⟩
   rw [<-hs18]at hsea;have E18:=zz hs18;replace HX:=zz hsea;clear hst hsea hs18 HC;have HC:=zz (Az b va L lim s18 x _ 6 (n+2) (by decide) w19 HX.out.lin.rw_ HX.out.lin.fit);go_wp2_with fail;refine HC.out.mono ?_;rintro e w20 ⟨rfl,hst,hfr⟩;have hsea:=HX.out.step hst (AE HRT.out (t:=0x6) (by decide) (by decide) HX.out.lin.fit) hfr;obtain⟨q,hq⟩:∃q,q=rLeaf L 6 s18:=⟨_,rfl⟩
   rw [<-hq]at hsea ⊢;obtain⟨v19,s19⟩:=q;simp only at hsea ⊢;have E19:=zz hq;replace HX:=zz hsea;clear hst hfr hsea hq HC;have HC:=zz (Ae b va L lim s19 x _ (v19==[42,134,72,134,247,13,1,9,16,3,9]) 11 (by decide) w20 HX.out.lin.rw_);go_wp2_with fail;refine HC.out.mono ?_;rintro e w21 ⟨rfl,hst,hfr⟩;have hsea:=HX.out.step hst (Ac _ _ HX.out.lin.fit) hfr;obtain⟨s20,hs20⟩:∃s20,s20=rMust (v19==[42,134,72,134,247,13,1,9,16,3,9]) 11 s19:=⟨_,rfl⟩
   rw [<-hs20]at hsea;have E20:=zz hs20;replace HX:=zz hsea;clear hst hfr hsea hs20 HC;have HC:=zz (AU b va L lim s20 x _ 0x30 (n+2) (by decide) (by decide) w21 HX.out.lin.rw_ HX.out.lin.fit (by have:=HN.out; omega) HRT.out);go_wp2_with fail;refine HC.out.mono ?_;rintro e w22 ⟨rfl,hst⟩;obtain⟨F21,hsea⟩:=HX.out.into hst (AV HRT.out (by decide) (by decide) HX.out.lin.fit);rw [show((0x30:UInt8).toNat)=48 from rfl]at hsea;obtain⟨s21,hs21⟩:∃s21,s21=rIn L 48 s20:=⟨_,rfl⟩
   rw [<-hs21]at hsea;have E21:=zz hs21;replace HX:=zz hsea;clear hst hsea hs21 HC;have HC:=zz (DJ b va L lim s21 x _ cipherT [2,22,42] (n+3) w22 HX.out.lin.rw_ HX.out.lin.fit (by decide) (by decide));go_wp2_with fail;refine HC.out.mono ?_;rintro e w23 ⟨rfl,hst,hfr⟩;have hsea:=HX.out.step hst (DK HRT.out _ HX.out.lin.fit) hfr;rw [show tblOf cipherT [2,22,42]=lockTs from rfl]at hsea ⊢;obtain⟨q,hq⟩:∃q,q=rOne L lockTs s21:=⟨_,rfl⟩
   have hlti:q.1<=10:=by rw [hq]; exact FK L _ _ (by decide)
   rw [<-hq]at hsea ⊢;obtain⟨i,s22⟩:=q;simp only at hsea hlti ⊢;have E22:=zz hq;replace HX:=zz hsea;clear hst hfr hsea hq HC;have hbl:=HX.out.rb.lt;have k1:w23.cell? ⟨br,1,none⟩=some (.int .i64 0):=HX.out.rb.cell 1 rfl;have f1:=HX.out.rb.free 1;replace HX:=zz (HX.out.set (r':=⟨3,16+8*i,256+128*j,[],[],sa,(rn:Nat),[],[]⟩) 1 (.int .i64 (16+8*(i:Int))) (by simp [cRec]));have HC:=zz (Az b va L lim s22 x _ 4 (n+3) (by decide) (w23.setCell ⟨br,1,none⟩ (.int .i64 (16+8*(i:Int)))) HX.out.lin.rw_ HX.out.lin.fit);go_wp2_with fail;refine HC.out.mono ?_;rintro e w24 ⟨rfl,hst,hfr⟩;have hsea:=HX.out.step hst (AE HRT.out (t:=0x4) (by decide) (by decide) HX.out.lin.fit) hfr;obtain⟨q,hq⟩:∃q,q=rLeaf L 4 s22:=⟨_,rfl⟩
   rw [<-hq]at hsea ⊢;obtain⟨iv,s23⟩:=q;simp only at hsea ⊢;have E23:=zz hq;replace HX:=zz hsea;clear hst hfr hsea hq HC;have hbl:=HX.out.rb.lt;have k7:w24.cell? ⟨br,7,none⟩=some (S []):=HX.out.rb.cell 7 rfl;have f7:=HX.out.rb.free 7;replace HX:=zz (HX.out.set (r':=⟨3,16+8*i,256+128*j,[],[],sa,(rn:Nat),iv,[]⟩) 7 (S iv) (by simp [cRec]));have HC:=zz (Ae b va L lim s23 x _ (((iv.length:Nat):Int)==16) 9 (by decide) (w24.setCell ⟨br,7,none⟩ (S iv)) HX.out.lin.rw_);go_wp2_with fail;refine HC.out.mono ?_;rintro e w25 ⟨rfl,hst,hfr⟩;have hsea:=HX.out.step hst (Ac _ _ HX.out.lin.fit) hfr;obtain⟨s24,hs24⟩:∃s24,s24=rMust (((iv.length:Nat):Int)==16) 9 s23:=⟨_,rfl⟩
   rw [<-hs24]at hsea;have E24:=zz hs24;replace HX:=zz hsea;clear hst hfr hsea hs24 HC;have HC:=zz (AC b va L lim s24 x _ (n+3) w25 HX.out.lin.rw_ HX.out.lin.fit (by have:=HN.out; omega));go_wp2_with fail;refine HC.out.mono ?_;rintro e w26 ⟨rfl,hst,hfr⟩;have hsea:=HX.out.step hst (AH (n:=n+2) (by have:=HN.out; omega) HX.out.lin.fit) hfr;obtain⟨s25,hs25⟩:∃s25,s25=rOut s24:=⟨_,rfl⟩
   rw [<-hs25]at hsea;have E25:=zz hs25;replace HX:=zz hsea;clear hst hfr hsea hs25 HC;have HC:=zz (AC b va L lim s25 x _ (n+2) w26 HX.out.lin.rw_ HX.out.lin.fit (by have:=HN.out; omega));go_wp2_with fail;refine HC.out.mono ?_;rintro e w27 ⟨rfl,hst,hfr⟩;have hsea:=HX.out.step hst (AH (n:=n+1) (by have:=HN.out; omega) HX.out.lin.fit) hfr;obtain⟨s26,hs26⟩:∃s26,s26=rOut s25:=⟨_,rfl⟩
   rw [<-hs26]at hsea;have E26:=zz hs26;replace HX:=zz hsea;clear hst hfr hsea hs26 HC;have HC:=zz (Az b va L lim s26 x _ 4 (n+1) (by decide) w27 HX.out.lin.rw_ HX.out.lin.fit);go_wp2_with fail;refine HC.out.mono ?_;rintro e w28 ⟨rfl,hst,hfr⟩;have hsea:=HX.out.step hst (AE HRT.out (t:=0x4) (by decide) (by decide) HX.out.lin.fit) hfr;obtain⟨q,hq⟩:∃q,q=rLeaf L 4 s26:=⟨_,rfl⟩
   rw [<-hq]at hsea ⊢;obtain⟨ky,s27⟩:=q;simp only at hsea ⊢;have E27:=zz hq;replace HX:=zz hsea;clear hst hfr hsea hq HC;have hbl:=HX.out.rb.lt;have k4:w28.cell? ⟨br,4,none⟩=some (S []):=HX.out.rb.cell 4 rfl;have f4:=HX.out.rb.free 4;replace HX:=zz (HX.out.set (r':=⟨3,16+8*i,256+128*j,[],ky,sa,(rn:Nat),iv,[]⟩) 4 (S ky) (by simp [cRec]));obtain⟨wb,hwb⟩:∃wb,wb=w28.setCell ⟨br,4,none⟩ (S ky):=⟨_,rfl⟩
   rw [<-hwb]at HX;have HWB:=zz hwb;clear hwb;go_upto_region 29 with fail
   rw [<-HWB.out];go_cut [] (fun wx=>SeaW w F b va L lim x bo br (n+1) (rMust (tPass ky) 9 s27) ⟨3,16+8*i,256+128*j,[],ky,sa,(rn:Nat),iv,[]⟩ F21 wx)
   case first=>
    have hblc:=HX.out.rb.lt;have kk4:wb.cell? ⟨br,4,none⟩=some (S ky):=HX.out.rb.cell 4 rfl;obtain⟨m,hm⟩:∃m,m=ky.length:=⟨_,rfl⟩
    have hmz:((ky.length:Nat):Int)=(m:Int):=by rw [hm]
    have HMM:=zz hm;by_cases h0:m % 16=0
    ·by_cases h1:32<=m
     ·by_cases h2:m<=272
      ·
       have ht:(tPass ky)=true:=by unfold tPass; rw [<-hm]; simp only [h0,h1,h2,decide_true,Bool.and_self,beq_self_eq_true]
       have h0z:((m:Int).tmod 16==0)=true:=by rw [Int.tmod_eq_emod_of_nonneg (by omega),beq_iff_eq]; omega
       have h0y:((m:Int) % 16==0)=true:=by rw [beq_iff_eq]; omega
       have h1z:decide ((32:Int)<=(m:Int))=true:=dt (by omega);have h2z:decide ((m:Int)<=272)=true:=dt (by omega);have HTT:=zz ht;have HC:=zz (Ae b va L lim s27 x _ true 9 (by decide) _ HX.out.lin.rw_);clear ht h0 h1 h2 hm;go_wp2_with fail;refine HC.out.mono ?_;rintro e wz ⟨rfl,hst,hfr⟩;have HZ:=zz (HX.out.step hst (Ac _ _ HX.out.lin.fit) hfr);clear hst hfr HC;go_wp2_with fail;go_meet
       rw [HTT.out];exact HZ.out
      ·
       have ht:(tPass ky)=false:=by unfold tPass; rw [<-hm]; simp only [h2,decide_false,Bool.and_false]
       have h0z:((m:Int).tmod 16==0)=true:=by rw [Int.tmod_eq_emod_of_nonneg (by omega),beq_iff_eq]; omega
       have h0y:((m:Int) % 16==0)=true:=by rw [beq_iff_eq]; omega
       have h1z:decide ((32:Int)<=(m:Int))=true:=dt (by omega);have h2z:decide ((m:Int)<=272)=false:=df (by omega);have HTT:=zz ht;have HC:=zz (Ae b va L lim s27 x _ false 9 (by decide) _ HX.out.lin.rw_);clear ht h0 h1 h2 hm;go_wp2_with fail;refine HC.out.mono ?_;rintro e wz ⟨rfl,hst,hfr⟩;have HZ:=zz (HX.out.step hst (Ac _ _ HX.out.lin.fit) hfr);clear hst hfr HC;go_wp2_with fail;go_meet
       rw [HTT.out];exact HZ.out
     ·
      have ht:(tPass ky)=false:=by unfold tPass; rw [<-hm]; simp only [h1,decide_false,Bool.and_false,Bool.false_and]
      have h0z:((m:Int).tmod 16==0)=true:=by rw [Int.tmod_eq_emod_of_nonneg (by omega),beq_iff_eq]; omega
      have h0y:((m:Int) % 16==0)=true:=by rw [beq_iff_eq]; omega
      have h1z:decide ((32:Int)<=(m:Int))=false:=df (by omega);have HTT:=zz ht;have HC:=zz (Ae b va L lim s27 x _ false 9 (by decide) _ HX.out.lin.rw_);clear ht h0 h1 hm;go_wp2_with fail;refine HC.out.mono ?_;rintro e wz ⟨rfl,hst,hfr⟩;have HZ:=zz (HX.out.step hst (Ac _ _ HX.out.lin.fit) hfr);clear hst hfr HC;go_wp2_with fail;go_meet
      rw [HTT.out];exact HZ.out
    ·
     have ht:(tPass ky)=false:=by unfold tPass; rw [<-hm,bn h0]; rfl
     have h0z:((m:Int).tmod 16==0)=false:=by rw [Int.tmod_eq_emod_of_nonneg (by omega),beq_eq_false_iff_ne]; omega
     have h0y:((m:Int) % 16==0)=false:=by rw [beq_eq_false_iff_ne]; omega
     have HTT:=zz ht;have HC:=zz (Ae b va L lim s27 x _ false 9 (by decide) _ HX.out.lin.rw_);clear ht h0 hm;go_wp2_with fail;refine HC.out.mono ?_;rintro e wz ⟨rfl,hst,hfr⟩;have HZ:=zz (HX.out.step hst (Ac _ _ HX.out.lin.fit) hfr);clear hst hfr HC;go_wp2_with fail;go_meet
     rw [HTT.out];exact HZ.out
   case rest=>
    obtain⟨s28,hs28⟩:∃s28,s28=rMust (tPass ky) 9 s27:=⟨_,rfl⟩
    rw [<-hs28]at hcut;have E28:=zz hs28;replace HX:=zz hcut;clear hs28 hcut HWB;have HC:=zz (AC b va L lim s28 x _ (n+1) wc HX.out.lin.rw_ HX.out.lin.fit (by have:=HN.out; omega));go_wp2_with fail;refine HC.out.mono ?_;rintro e w30 ⟨rfl,hst,hfr⟩;have hsea:=HX.out.step hst (AH (n:=n) (by have:=HN.out; omega) HX.out.lin.fit) hfr;obtain⟨s29,hs29⟩:∃s29,s29=rOut s28:=⟨_,rfl⟩
    rw [<-hs29]at hsea;have E29:=zz hs29;replace HX:=zz hsea;clear hst hfr hsea hs29 HC;have hbl:=HX.out.rb.lt;have k0:w30.cell? ⟨br,0,none⟩=some (.int .i64 3):=HX.out.rb.cell 0 rfl;have f0:=HX.out.rb.free 0;have k1:w30.cell? ⟨br,1,none⟩=some (.int .i64 (16+8*(i:Int))):=HX.out.rb.cell 1 rfl;have f1:=HX.out.rb.free 1;have k2:w30.cell? ⟨br,2,none⟩=some (.int .i64 (256+128*(j:Int))):=HX.out.rb.cell 2 rfl;have f2:=HX.out.rb.free 2;have k3:w30.cell? ⟨br,3,none⟩=some (S []):=HX.out.rb.cell 3 rfl;have f3:=HX.out.rb.free 3;have k4:w30.cell? ⟨br,4,none⟩=some (S ky):=HX.out.rb.cell 4 rfl;have f4:=HX.out.rb.free 4;have k5:w30.cell? ⟨br,5,none⟩=some (S sa):=HX.out.rb.cell 5 rfl;have f5:=HX.out.rb.free 5;have k6:w30.cell? ⟨br,6,none⟩=some (.int .i64 (rn:Nat)):=HX.out.rb.cell 6 rfl;have f6:=HX.out.rb.free 6;have k7:w30.cell? ⟨br,7,none⟩=some (S iv):=HX.out.rb.cell 7 rfl;have f7:=HX.out.rb.free 7;have k8:w30.cell? ⟨br,8,none⟩=some (S []):=HX.out.rb.cell 8 rfl;have f8:=HX.out.rb.free 8;obtain⟨c0,c1,c2,c3,c4,c5,c6,c7,c8,d0,d1,d2,d3,d4,d5,d6,d7,d8⟩:=AT (show Blk w30 bo #[.int .i64 0,.int .i64 0,.int .i64 0,S [],S [],S [],.int .i64 0,S [],S []] 78 from HX.out.ob);have hbo:=HX.out.ob.lt;have hne:=HX.out.lo.2.2;have hne2:¬br=bo:=fun e=>hne e.symm
    go_wp2_with fail;refine bodyPost_ret (v:= .agg #[.int .i64 3,.int .i64 (16+8*(i:Int)),.int .i64 (256+128*(j:Int)),S [],S ky,S sa,.int .i64 (rn:Nat),S iv,S []]) (by simp [results,Tryz.results81,go_sem, *]) rfl ?_;have hv:rVer L [0] s1=s3:=by
     unfold rVer;rw [<-E2.out];exact E3.out.symm
    have ht1:rTyp L derivT s4=s6:=by
     unfold rTyp;rw [<-E5.out];exact E6.out.symm
    have ho1:rOcts L tSalt s7=(sa,s9):=by
     unfold rOcts;rw [<-E8.out];exact Prod.ext rfl E9.out.symm
    have hh:rHash L s12=(j,s14):=by
     unfold rHash;rw [<-E13.out];show(j,(rLeaf L 5 s13).2)=_;rw [<-E14.out]
    have hd3:rD3 L sa rn s11=((sa,rn,j),s15):=by
     unfold rD3;rw [<-E12.out,hh];exact Prod.ext rfl E15.out.symm
    have hd2:rD2 L lim sa s9=((sa,rn,j),s15):=by
     unfold rD2;rw [<-E10.out];show rD3 L sa rn (rMust (isBad s10 || (!rNone L s10 && !rIs L 2 s10)) 11 s10)=_;rw [<-E11.out,hd3]
    have hd1:rD1 L lim s7=((sa,rn,j),s15):=by
     unfold rD1;rw [ho1];exact hd2
    have hdv:rDeriv L lim s4=((sa,rn,j),s16):=by
     unfold rDeriv;rw [ht1,<-E7.out,hd1];exact Prod.ext rfl E16.out.symm
    have ht2:rTyp L lockT s18=s20:=by
     unfold rTyp;rw [<-E19.out];exact E20.out.symm
    have hiv:tIv iv=(((iv.length:Nat):Int)==16):=by
     unfold tIv;by_cases e:iv.length=16
     ·rw [e]; rfl
     ·rw [bn e,bn (by omega)]
    have ho2:rOcts L tIv s22=(iv,s24):=by
     unfold rOcts;rw [<-E23.out];refine Prod.ext rfl ?_;show rMust (tIv iv) 9 s23=s24;rw [hiv];exact E24.out.symm
    have hl1:rL1 L s21=((i,iv),s24):=by
     unfold rL1;rw [<-E22.out];show rL2 L i s22=_;unfold rL2;rw [ho2]
    have hlk:rLock L s18=((i,iv),s25):=by
     unfold rLock;rw [ht2,<-E21.out,hl1];exact Prod.ext rfl E25.out.symm
    have ho3:rOcts L tPass s26=(ky,s28):=by
     unfold rOcts;rw [<-E27.out];exact Prod.ext rfl E28.out.symm
    have hp3:rP3 L (sa,rn,j) (i,iv) s26=(⟨3,16+8*i,256+128*j,[],ky,sa,(rn:Nat),iv,[]⟩,s28):=by
     unfold rP3;rw [ho3]
    have hp2:rP2 L (sa,rn,j) s17=(⟨3,16+8*i,256+128*j,[],ky,sa,(rn:Nat),iv,[]⟩,s28):=by
     unfold rP2;rw [<-E18.out,hlk];show rP3 L (sa,rn,j) (i,iv) (rOut s25)=_;rw [<-E26.out,hp3]
    have hp1:rP1 L lim s3=(⟨3,16+8*i,256+128*j,[],ky,sa,(rn:Nat),iv,[]⟩,s28):=by
     unfold rP1;rw [<-E4.out,hdv];show rP2 L (sa,rn,j) (rOut s16)=_;rw [<-E17.out,hp2]
    have hS:rPassword L lim s=(⟨3,16+8*i,256+128*j,[],ky,sa,(rn:Nat),iv,[]⟩,s29):=by
     unfold rPassword;rw [show rIn L 0xa3 s=s1 from E1.out.symm,hv,hp1];exact Prod.ext rfl E29.out.symm
    rw [hS];refine⟨rfl,HX.out.done ?_⟩
    repeat' first
     | refine fC (F:=fun q=>q=bo) ?_ (.inl rfl) _
     | exact fR _ _
end Go.Proofs.YtpfhollohodcjaaGreatDoor
