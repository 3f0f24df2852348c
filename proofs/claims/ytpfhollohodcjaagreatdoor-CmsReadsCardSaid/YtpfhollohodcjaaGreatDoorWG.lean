import Derived.Test.YtpfhollohodcjaaGreatDoorWE
set_option maxRecDepth 100000
set_option maxHeartbeats 8000000
namespace Go.Proofs.YtpfhollohodcjaaGreatDoor
open Go.RowKit Go.Px Go.Px.Co Go.Px.Cm
theorem IS(b:Nat)(va:Value)(L:List Px.Node)(lim:Lim)(s:RS)(x:XV)(F:Nat->Prop)(n:Nat)(w:World)(h:RW w b va L lim s x F)(hf:FitR L n s)(hn:1<=n/\n<=90)(hr:∀a∈L,E5.right a=true):
  Calls Tryz.prog 80 #[.pointer (some ⟨b,0,none⟩)] w fun e w'=>e= .returned (.agg (cRec (rSealed L s).1).toArray)/\StepR w b va L lim F (rSealed L s).2 x w':=by
 obtain⟨w1,hw1⟩:∃w1,w1=(w.alloc (.cells (cRec zeroR).toArray 78)).alloc (.cells (cRec ⟨2,0,0,[],[],[],0,[],[]⟩).toArray 78):=⟨_,rfl⟩
 have HX:=zz (Jp h hf ⟨2,0,0,[],[],[],0,[],[]⟩ hw1);have HW1:=zz hw1;have HN:=zz hn;have HRT:=zz hr;have HIN:=zz (fun(W:World) (e:W=w1)=>(show Calls Tryz.prog 31 #[.pointer (some ⟨b,0,none⟩),.int .u8 ((0xa2:UInt8).toNat:Nat)] W (fun e w'=>e= .returned (.tuple #[])/\StepR w1 b va L lim F (rIn L (0xa2:UInt8).toNat s) x w')from by rw [e]; exact AU b va L lim s x F 0xa2 n (by decide) (by decide) w1 HX.out.lin.rw_ HX.out.lin.fit (by omega) hr));clear h hf hn hr hw1;go_enter Tryz.func80,Tryz.ntmps80;go_wp2_with fail;refine(HIN.out _ HW1.out.symm).mono ?_;rintro e w2 ⟨rfl,hst⟩;obtain⟨F1,hsea⟩:=HX.out.into hst (AV HRT.out (by decide) (by decide) HX.out.lin.fit);rw [show((0xa2:UInt8).toNat)=162 from rfl]at hsea;obtain⟨s1,hs1⟩:∃s1,s1=rIn L 162 s:=⟨_,rfl⟩
 rw [<-hs1]at hsea;have E1:=zz hs1;replace HX:=zz hsea;obtain⟨bo,hbo⟩:∃bo,bo=w.heap.size:=⟨_,rfl⟩
 obtain⟨br,hbr⟩:∃br,br=w.heap.size+1:=⟨_,rfl⟩
 rw [<-hbr,<-hbo]at HX ⊢;clear hst hsea hs1 HIN hbo hbr;have HC:=zz (Az b va L lim s1 x _ 2 (n+1) (by decide) w2 HX.out.lin.rw_ HX.out.lin.fit);go_wp2_with fail;refine HC.out.mono ?_;rintro e w3 ⟨rfl,hst,hfr⟩;have hsea:=HX.out.step hst (AE HRT.out (t:=0x2) (by decide) (by decide) HX.out.lin.fit) hfr;obtain⟨q,hq⟩:∃q,q=rLeaf L 2 s1:=⟨_,rfl⟩
 rw [<-hq]at hsea ⊢;obtain⟨v2,s2⟩:=q;simp only at hsea ⊢;have E2:=zz hq;replace HX:=zz hsea;clear hst hfr hsea hq HC;have HC:=zz (Ae b va L lim s2 x _ (v2==[4]) 11 (by decide) w3 HX.out.lin.rw_);go_wp2_with fail;refine HC.out.mono ?_;rintro e w4 ⟨rfl,hst,hfr⟩;have hsea:=HX.out.step hst (Ac _ _ HX.out.lin.fit) hfr;obtain⟨s3,hs3⟩:∃s3,s3=rMust (v2==[4]) 11 s2:=⟨_,rfl⟩
 rw [<-hs3]at hsea;have E3:=zz hs3;replace HX:=zz hsea;clear hst hfr hsea hs3 HC;have HC:=zz (AU b va L lim s3 x _ 0x30 (n+1) (by decide) (by decide) w4 HX.out.lin.rw_ HX.out.lin.fit (by have:=HN.out; omega) HRT.out);go_wp2_with fail;refine HC.out.mono ?_;rintro e w5 ⟨rfl,hst⟩;obtain⟨F4,hsea⟩:=HX.out.into hst (AV HRT.out (by decide) (by decide) HX.out.lin.fit);rw [show((0x30:UInt8).toNat)=48 from rfl]at hsea;obtain⟨s4,hs4⟩:∃s4,s4=rIn L 48 s3:=⟨_,rfl⟩
 rw [<-hs4]at hsea;have E4:=zz hs4;replace HX:=zz hsea;clear hst hsea hs4 HC;have HC:=zz (Az b va L lim s4 x _ 4 (n+2) (by decide) w5 HX.out.lin.rw_ HX.out.lin.fit);go_wp2_with fail;refine HC.out.mono ?_;rintro e w6 ⟨rfl,hst,hfr⟩;have hsea:=HX.out.step hst (AE HRT.out (t:=0x4) (by decide) (by decide) HX.out.lin.fit) hfr;obtain⟨q,hq⟩:∃q,q=rLeaf L 4 s4:=⟨_,rfl⟩
 rw [<-hq]at hsea ⊢;obtain⟨nm,s5⟩:=q;simp only at hsea ⊢;have E5:=zz hq;replace HX:=zz hsea;clear hst hfr hsea hq HC;have hbl:=HX.out.rb.lt;have k3:w6.cell? ⟨br,3,none⟩=some (S []):=HX.out.rb.cell 3 rfl;have f3:=HX.out.rb.free 3;replace HX:=zz (HX.out.set (r':=⟨2,0,0,nm,[],[],0,[],[]⟩) 3 (S nm) (by simp [cRec]));obtain⟨wb,hwb⟩:∃wb,wb=w6.setCell ⟨br,3,none⟩ (S nm):=⟨_,rfl⟩
 rw [<-hwb]at HX;have HWB:=zz hwb;clear hwb;go_upto_region 7 with fail
 rw [<-HWB.out];go_cut [] (fun wx=>SeaW w F b va L lim x bo br (n+2) (rMust (tName nm) 9 s5) ⟨2,0,0,nm,[],[],0,[],[]⟩ F4 wx)
 case first=>
  have hbl7:=HX.out.rb.lt;have kk3:wb.cell? ⟨br,3,none⟩=some (S nm):=HX.out.rb.cell 3 rfl;by_cases h1:1<=nm.length
  ·by_cases h2:nm.length<=128
   ·
    have ht:(tName nm)=true:=by unfold tName; simp only [h1,h2,decide_true,Bool.and_self]
    have h1z:decide ((1:Int)<=(nm.length:Int))=true:=dt (by omega);have h2z:decide ((nm.length:Int)<=128)=true:=dt (by omega);have HTT:=zz ht;have HC:=zz (Ae b va L lim s5 x _ true 9 (by decide) _ HX.out.lin.rw_);clear ht h1 h2;go_wp2_with fail;refine HC.out.mono ?_;rintro e wz ⟨rfl,hst,hfr⟩;have HZ:=zz (HX.out.step hst (Ac _ _ HX.out.lin.fit) hfr);clear hst hfr HC;go_wp2_with fail;go_meet
    rw [HTT.out];exact HZ.out
   ·
    have ht:(tName nm)=false:=by unfold tName; simp only [h2,decide_false,Bool.and_false]
    have h1z:decide ((1:Int)<=(nm.length:Int))=true:=dt (by omega);have h2z:decide ((nm.length:Int)<=128)=false:=df (by omega);have HTT:=zz ht;have HC:=zz (Ae b va L lim s5 x _ false 9 (by decide) _ HX.out.lin.rw_);clear ht h1 h2;go_wp2_with fail;refine HC.out.mono ?_;rintro e wz ⟨rfl,hst,hfr⟩;have HZ:=zz (HX.out.step hst (Ac _ _ HX.out.lin.fit) hfr);clear hst hfr HC;go_wp2_with fail;go_meet
    rw [HTT.out];exact HZ.out
  ·
   have ht:(tName nm)=false:=by unfold tName; simp only [h1,decide_false,Bool.false_and]
   have h1z:decide ((1:Int)<=(nm.length:Int))=false:=df (by omega);have HTT:=zz ht;have HC:=zz (Ae b va L lim s5 x _ false 9 (by decide) _ HX.out.lin.rw_);clear ht h1;go_wp2_with fail;refine HC.out.mono ?_;rintro e wz ⟨rfl,hst,hfr⟩;have HZ:=zz (HX.out.step hst (Ac _ _ HX.out.lin.fit) hfr);clear hst hfr HC;go_wp2_with fail;go_meet
   rw [HTT.out];exact HZ.out
 case rest=>
  obtain⟨s6,hs6⟩:∃s6,s6=rMust (tName nm) 9 s5:=⟨_,rfl⟩
  rw [<-hs6]at hcut;have E6:=zz hs6;replace HX:=zz hcut;clear hs6 hcut HWB;obtain⟨wb,hwb⟩:∃wb,wb=wc:=⟨_,rfl⟩
  rw [<-hwb]at HX;have HWB:=zz hwb;clear hwb;go_upto_region 8 with fail
  rw [<-HWB.out];go_cut [] (fun wx=>SeaW w F b va L lim x bo br (n+2) (rMust (rNone L s6) 11 s6) ⟨2,0,0,nm,[],[],0,[],[]⟩ F4 wx)
  case first=>
   cases s6 with
   | bad en=>
    obtain⟨vl,vto,_,ht,hs⟩:=HX.out.lin.rw_;obtain⟨c3,_,_⟩:=hs.err;replace c3:wb.cell? ⟨b,3,none⟩=some (.int .i64 en):=c3;have hez:(en !=0)=true:=by rw [bne_iff_ne]; exact hs.1
    have HC:=zz (Ae b va L lim (.bad en) x _ true 11 (by decide) _ HX.out.lin.rw_);clear ht hs;go_wp2_with fail;refine HC.out.mono ?_;rintro e wz ⟨rfl,hst,hfr⟩;have HZ:=zz (HX.out.step hst (Ac _ _ HX.out.lin.fit) hfr);clear hst hfr HC;go_wp2_with fail;go_meet
    exact HZ.out
   | run c=>
    have HLF:=zz (A2 b va L lim c x _ wb HX.out.lin.rw_);obtain⟨vl,vto,_,ht,hs⟩:=HX.out.lin.rw_;obtain⟨c3,_,_⟩:=hs.err;replace c3:wb.cell? ⟨b,3,none⟩=some (.int .i64 0):=c3;have HPZ:=zz (BN HX.out.lin.fit.1);obtain⟨m,hm⟩:∃m,m=c.left.headD 0:=⟨_,rfl⟩
    rw [<-hm]at HLF HPZ;clear ht hs hm;go_wp2_with fail;refine HLF.out.mono ?_;rintro e wy ⟨rfl,kk,rfl⟩;clear HLF;by_cases h0:m=0
    ·subst h0;have HC:=zz (Ae b va L lim (.run c) x _ true 11 (by decide) (wb.drewN kk) (HX.out.lin.rw_.same ((fR _ wb).drewN kk)));have HTT:=zz (show rNone L (.run c)=true from by show(peek L c==0)=true; rw [HPZ.out.2 rfl]; rfl);go_wp2_with fail;refine HC.out.mono ?_;rintro e wz ⟨rfl,hst,hfr⟩;have HZ:=zz ((HX.out.same ((fR _ wb).drewN kk)).step hst (Ac _ _ HX.out.lin.fit) hfr);clear hst hfr HC;go_wp2_with fail;go_meet
     rw [HTT.out];exact HZ.out
    ·have h0z:(((m:Nat):Int)==0)=false:=bn (by omega);have HC:=zz (Ae b va L lim (.run c) x _ false 11 (by decide) (wb.drewN kk) (HX.out.lin.rw_.same ((fR _ wb).drewN kk)));have HTT:=zz (show rNone L (.run c)=false from bn (fun e=>h0 (HPZ.out.1 e)));clear h0;go_wp2_with fail;refine HC.out.mono ?_;rintro e wz ⟨rfl,hst,hfr⟩;have HZ:=zz ((HX.out.same ((fR _ wb).drewN kk)).step hst (Ac _ _ HX.out.lin.fit) hfr);clear hst hfr HC;go_wp2_with fail;go_meet
     rw [HTT.out];exact HZ.out
  case rest=>
   obtain⟨s7,hs7⟩:∃s7,s7=rMust (rNone L s6) 11 s6:=⟨_,rfl⟩
   rw [<-hs7]at hcut;have E7:=zz hs7;replace HX:=zz hcut;clear hs7 hcut HWB;have HC:=zz (AC b va L lim s7 x _ (n+2) wc HX.out.lin.rw_ HX.out.lin.fit (by have:=HN.out; omega));go_wp2_with fail;refine HC.out.mono ?_;rintro e w9 ⟨rfl,hst,hfr⟩;have hsea:=HX.out.step hst (AH (n:=n+1) (by have:=HN.out; omega) HX.out.lin.fit) hfr;obtain⟨s8,hs8⟩:∃s8,s8=rOut s7:=⟨_,rfl⟩
   rw [<-hs8]at hsea;have E8:=zz hs8;replace HX:=zz hsea;clear hst hfr hsea hs8 HC;have HC:=zz (AU b va L lim s8 x _ 0x30 (n+1) (by decide) (by decide) w9 HX.out.lin.rw_ HX.out.lin.fit (by have:=HN.out; omega) HRT.out);go_wp2_with fail;refine HC.out.mono ?_;rintro e w10 ⟨rfl,hst⟩;obtain⟨F9,hsea⟩:=HX.out.into hst (AV HRT.out (by decide) (by decide) HX.out.lin.fit);rw [show((0x30:UInt8).toNat)=48 from rfl]at hsea;obtain⟨s9,hs9⟩:∃s9,s9=rIn L 48 s8:=⟨_,rfl⟩
   rw [<-hs9]at hsea;have E9:=zz hs9;replace HX:=zz hsea;clear hst hsea hs9 HC;have HC:=zz (DJ b va L lim s9 x _ cipherT [5,25,45] (n+2) w10 HX.out.lin.rw_ HX.out.lin.fit (by decide) (by decide));go_wp2_with fail;refine HC.out.mono ?_;rintro e w11 ⟨rfl,hst,hfr⟩;have hsea:=HX.out.step hst (DK HRT.out _ HX.out.lin.fit) hfr;rw [show tblOf cipherT [5,25,45]=wrapT from rfl]at hsea ⊢;obtain⟨q,hq⟩:∃q,q=rOne L wrapT s9:=⟨_,rfl⟩
   have hlti:q.1<=10:=by rw [hq]; exact FK L _ _ (by decide)
   rw [<-hq]at hsea ⊢;obtain⟨i,s10⟩:=q;simp only at hsea hlti ⊢;have E10:=zz hq;replace HX:=zz hsea;clear hst hfr hsea hq HC;have hbl:=HX.out.rb.lt;have k1:w11.cell? ⟨br,1,none⟩=some (.int .i64 0):=HX.out.rb.cell 1 rfl;have f1:=HX.out.rb.free 1;replace HX:=zz (HX.out.set (r':=⟨2,16+8*i,0,nm,[],[],0,[],[]⟩) 1 (.int .i64 (16+8*(i:Int))) (by simp [cRec]));have HC:=zz (AC b va L lim s10 x _ (n+2) (w11.setCell ⟨br,1,none⟩ (.int .i64 (16+8*(i:Int)))) HX.out.lin.rw_ HX.out.lin.fit (by have:=HN.out; omega));go_wp2_with fail;refine HC.out.mono ?_;rintro e w12 ⟨rfl,hst,hfr⟩;have hsea:=HX.out.step hst (AH (n:=n+1) (by have:=HN.out; omega) HX.out.lin.fit) hfr;obtain⟨s11,hs11⟩:∃s11,s11=rOut s10:=⟨_,rfl⟩
   rw [<-hs11]at hsea;have E11:=zz hs11;replace HX:=zz hsea;clear hst hfr hsea hs11 HC;have HC:=zz (Az b va L lim s11 x _ 4 (n+1) (by decide) w12 HX.out.lin.rw_ HX.out.lin.fit);go_wp2_with fail;refine HC.out.mono ?_;rintro e w13 ⟨rfl,hst,hfr⟩;have hsea:=HX.out.step hst (AE HRT.out (t:=0x4) (by decide) (by decide) HX.out.lin.fit) hfr;obtain⟨q,hq⟩:∃q,q=rLeaf L 4 s11:=⟨_,rfl⟩
   rw [<-hq]at hsea ⊢;obtain⟨ky,s12⟩:=q;simp only at hsea ⊢;have E12:=zz hq;replace HX:=zz hsea;clear hst hfr hsea hq HC;have hbl:=HX.out.rb.lt;have k4:w13.cell? ⟨br,4,none⟩=some (S []):=HX.out.rb.cell 4 rfl;have f4:=HX.out.rb.free 4;replace HX:=zz (HX.out.set (r':=⟨2,16+8*i,0,nm,ky,[],0,[],[]⟩) 4 (S ky) (by simp [cRec]));obtain⟨wb,hwb⟩:∃wb,wb=w13.setCell ⟨br,4,none⟩ (S ky):=⟨_,rfl⟩
   rw [<-hwb]at HX;have HWB:=zz hwb;clear hwb;go_upto_region 14 with fail
   rw [<-HWB.out];go_cut [] (fun wx=>SeaW w F b va L lim x bo br (n+1) (rMust (tWrap ky) 9 s12) ⟨2,16+8*i,0,nm,ky,[],0,[],[]⟩ F9 wx)
   case first=>
    have hbl14:=HX.out.rb.lt;have kk4:wb.cell? ⟨br,4,none⟩=some (S ky):=HX.out.rb.cell 4 rfl;obtain⟨m,hm⟩:∃m,m=ky.length:=⟨_,rfl⟩
    have hmz:((ky.length:Nat):Int)=(m:Int):=by rw [hm]
    have HMM:=zz hm;by_cases h0:m % 8=0
    ·by_cases h1:24<=m
     ·by_cases h2:m<=1032
      ·
       have ht:(tWrap ky)=true:=by unfold tWrap; rw [<-hm]; simp only [h0,h1,h2,decide_true,Bool.and_self,beq_self_eq_true]
       have h0z:((m:Int).tmod 8==0)=true:=by rw [Int.tmod_eq_emod_of_nonneg (by omega),beq_iff_eq]; omega
       have h0y:((m:Int) % 8==0)=true:=by rw [beq_iff_eq]; omega
       have h1z:decide ((24:Int)<=(m:Int))=true:=dt (by omega);have h2z:decide ((m:Int)<=1032)=true:=dt (by omega);have HTT:=zz ht;have HC:=zz (Ae b va L lim s12 x _ true 9 (by decide) _ HX.out.lin.rw_);clear ht h0 h1 h2 hm;go_wp2_with fail;refine HC.out.mono ?_;rintro e wz ⟨rfl,hst,hfr⟩;have HZ:=zz (HX.out.step hst (Ac _ _ HX.out.lin.fit) hfr);clear hst hfr HC;go_wp2_with fail;go_meet
       rw [HTT.out];exact HZ.out
      ·
       have ht:(tWrap ky)=false:=by unfold tWrap; rw [<-hm]; simp only [h2,decide_false,Bool.and_false]
       have h0z:((m:Int).tmod 8==0)=true:=by rw [Int.tmod_eq_emod_of_nonneg (by omega),beq_iff_eq]; omega
       have h0y:((m:Int) % 8==0)=true:=by rw [beq_iff_eq]; omega
       have h1z:decide ((24:Int)<=(m:Int))=true:=dt (by omega);have h2z:decide ((m:Int)<=1032)=false:=df (by omega);have HTT:=zz ht;have HC:=zz (Ae b va L lim s12 x _ false 9 (by decide) _ HX.out.lin.rw_);clear ht h0 h1 h2 hm;go_wp2_with fail;refine HC.out.mono ?_;rintro e wz ⟨rfl,hst,hfr⟩;have HZ:=zz (HX.out.step hst (Ac _ _ HX.out.lin.fit) hfr);clear hst hfr HC;go_wp2_with fail;go_meet
       rw [HTT.out];exact HZ.out
     ·
      have ht:(tWrap ky)=false:=by unfold tWrap; rw [<-hm]; simp only [h1,decide_false,Bool.and_false,Bool.false_and]
      have h0z:((m:Int).tmod 8==0)=true:=by rw [Int.tmod_eq_emod_of_nonneg (by omega),beq_iff_eq]; omega
      have h0y:((m:Int) % 8==0)=true:=by rw [beq_iff_eq]; omega
      have h1z:decide ((24:Int)<=(m:Int))=false:=df (by omega);have HTT:=zz ht;have HC:=zz (Ae b va L lim s12 x _ false 9 (by decide) _ HX.out.lin.rw_);clear ht h0 h1 hm;go_wp2_with fail;refine HC.out.mono ?_;rintro e wz ⟨rfl,hst,hfr⟩;have HZ:=zz (HX.out.step hst (Ac _ _ HX.out.lin.fit) hfr);clear hst hfr HC;go_wp2_with fail;go_meet
      rw [HTT.out];exact HZ.out
    ·
     have ht:(tWrap ky)=false:=by unfold tWrap; rw [<-hm,bn h0]; rfl
     have h0z:((m:Int).tmod 8==0)=false:=by rw [Int.tmod_eq_emod_of_nonneg (by omega),beq_eq_false_iff_ne]; omega
     have h0y:((m:Int) % 8==0)=false:=by rw [beq_eq_false_iff_ne]; omega
     have HTT:=zz ht;have HC:=zz (Ae b va L lim s12 x _ false 9 (by decide) _ HX.out.lin.rw_);clear ht h0 hm;go_wp2_with fail;refine HC.out.mono ?_;rintro e wz ⟨rfl,hst,hfr⟩;have HZ:=zz (HX.out.step hst (Ac _ _ HX.out.lin.fit) hfr);clear hst hfr HC;go_wp2_with fail;go_meet
     rw [HTT.out];exact HZ.out
   case rest=>
    obtain⟨s13,hs13⟩:∃s13,s13=rMust (tWrap ky) 9 s12:=⟨_,rfl⟩
    rw [<-hs13]at hcut;have E13:=zz hs13;replace HX:=zz hcut;clear hs13 hcut HWB;have HC:=zz (AC b va L lim s13 x _ (n+1) wc HX.out.lin.rw_ HX.out.lin.fit (by have:=HN.out; omega));go_wp2_with fail;refine HC.out.mono ?_;rintro e w15 ⟨rfl,hst,hfr⟩;have hsea:=HX.out.step hst (AH (n:=n) (by have:=HN.out; omega) HX.out.lin.fit) hfr;obtain⟨s14,hs14⟩:∃s14,s14=rOut s13:=⟨_,rfl⟩
    rw [<-hs14]at hsea;have E14:=zz hs14;replace HX:=zz hsea;clear hst hfr hsea hs14 HC;have hbl:=HX.out.rb.lt;have k0:w15.cell? ⟨br,0,none⟩=some (.int .i64 2):=HX.out.rb.cell 0 rfl;have f0:=HX.out.rb.free 0;have k1:w15.cell? ⟨br,1,none⟩=some (.int .i64 (16+8*(i:Int))):=HX.out.rb.cell 1 rfl;have f1:=HX.out.rb.free 1;have k2:w15.cell? ⟨br,2,none⟩=some (.int .i64 0):=HX.out.rb.cell 2 rfl;have f2:=HX.out.rb.free 2;have k3:w15.cell? ⟨br,3,none⟩=some (S nm):=HX.out.rb.cell 3 rfl;have f3:=HX.out.rb.free 3;have k4:w15.cell? ⟨br,4,none⟩=some (S ky):=HX.out.rb.cell 4 rfl;have f4:=HX.out.rb.free 4;have k5:w15.cell? ⟨br,5,none⟩=some (S []):=HX.out.rb.cell 5 rfl;have f5:=HX.out.rb.free 5;have k6:w15.cell? ⟨br,6,none⟩=some (.int .i64 0):=HX.out.rb.cell 6 rfl;have f6:=HX.out.rb.free 6;have k7:w15.cell? ⟨br,7,none⟩=some (S []):=HX.out.rb.cell 7 rfl;have f7:=HX.out.rb.free 7;have k8:w15.cell? ⟨br,8,none⟩=some (S []):=HX.out.rb.cell 8 rfl;have f8:=HX.out.rb.free 8;obtain⟨c0,c1,c2,c3,c4,c5,c6,c7,c8,d0,d1,d2,d3,d4,d5,d6,d7,d8⟩:=AT (show Blk w15 bo #[.int .i64 0,.int .i64 0,.int .i64 0,S [],S [],S [],.int .i64 0,S [],S []] 78 from HX.out.ob);have hbo:=HX.out.ob.lt;have hne:=HX.out.lo.2.2;have hne2:¬br=bo:=fun e=>hne e.symm
    go_wp2_with fail;refine bodyPost_ret (v:= .agg #[.int .i64 2,.int .i64 (16+8*(i:Int)),.int .i64 0,S nm,S ky,S [],.int .i64 0,S [],S []]) (by simp [results,Tryz.results80,go_sem, *]) rfl ?_;have hv:rVer L [4] s1=s3:=by
     unfold rVer;rw [<-E2.out];exact E3.out.symm
    have h5:rOcts L tName s4=(nm,s6):=by
     unfold rOcts;rw [<-E5.out];exact Prod.ext rfl E6.out.symm
    have h7:rName L s4=(nm,s7):=by
     unfold rName;rw [h5];exact Prod.ext rfl E7.out.symm
    have h13:rOcts L tWrap s11=(ky,s13):=by
     unfold rOcts;rw [<-E12.out];exact Prod.ext rfl E13.out.symm
    have hW2:rW2 L nm s8=rW3 L nm i s11:=by
     unfold rW2;rw [<-E9.out,<-E10.out];show rW3 L nm i (rOut s10)=_;rw [<-E11.out]
    have hW1:rW1 L s3=rW2 L nm s8:=by
     unfold rW1;rw [<-E4.out,h7];show rW2 L nm (rOut s7)=_;rw [<-E8.out]
    have hW3:rW3 L nm i s11=(⟨2,16+8*i,0,nm,ky,[],0,[],[]⟩,s13):=by
     unfold rW3;rw [h13]
    have hS:rSealed L s=(⟨2,16+8*i,0,nm,ky,[],0,[],[]⟩,s14):=by
     unfold rSealed;rw [show rIn L 0xa2 s=s1 from E1.out.symm,hv,hW1,hW2,hW3];exact Prod.ext rfl E14.out.symm
    rw [hS];refine⟨rfl,HX.out.done ?_⟩
    repeat' first
     | refine fC (F:=fun q=>q=bo) ?_ (.inl rfl) _
     | exact fR _ _
end Go.Proofs.YtpfhollohodcjaaGreatDoor
