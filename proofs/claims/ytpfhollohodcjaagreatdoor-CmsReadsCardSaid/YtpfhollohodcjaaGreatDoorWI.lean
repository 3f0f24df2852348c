import Derived.Test.YtpfhollohodcjaaGreatDoorWH
set_option maxRecDepth 100000
set_option maxHeartbeats 16000000
set_option linter.unusedSimpArgs false
namespace Go.Proofs.YtpfhollohodcjaaGreatDoor
open Go.RowKit Go.Px Go.Px.Co Go.Px.Cm
theorem Lin.setX{w0 w:World}{F0 F:Nat->Prop}{b:Nat}{va:Value}{L:List Px.Node}{lim:Lim}{x:XV}{n:Nat}{s:RS}{y:Co.Env}(h:Lin w0 F0 b va L lim x n s F w)(i:Nat)(v:Value)(hi:i<9)(he:(envC x.1 x.2).setIfInBounds i v=envC y x.2)(ht:y.to=x.1.to):Lin w0 F0 b va L lim (y,x.2) n s F (w.setCell ⟨b,8+i,none⟩ v):=
 have q:=h.rw_.setX i v hi he ht
 ⟨q.1,h.fit,h.fs,h.fr.step h.fs q.2⟩
theorem Nv(L:List Px.Node)(s:RS):(rOne L sixT s).1<=5:=by
 unfold rOne;cases h:sixT.findIdx? (fun t=>t==(rLeaf L 6 s).1)with
 | none=>exact Nat.zero_le _
 | some i=>
  obtain⟨hl,_⟩:=List.findIdx?_eq_some_iff_getElem.1 h;exact Nat.le_of_lt_succ hl
theorem Mq{L:List Px.Node}{s:RS}{n:Nat}(hr:∀a∈L,E5.right a=true)(hf:FitR L n s)(h:rIs L 2 s=true):∃z r,(rLeaf L 2 s).1=z::r:=by
 cases s with
 | bad e=>cases h
 | run c=>
  have hp:peek L c=2:=by simpa [rIs] using h
  have hq:rLeaf L 2 (.run c)=((L.getD c.at_ nz).body,.run ⟨c.at_+1,E5.dec c.left⟩):=by
   show(match Cm.take L 2 c with | .ok (b,c')=>(b,RS.run c')| .error e=>([],RS.bad e))=_;unfold Cm.take;rw [if_pos hp]
  rw [hq];unfold peek at hp;cases hk:c.left with
  | nil=>rw [hk]at hp; cases hp
  | cons m r=>cases m with
   | zero=>rw [hk]at hp; cases hp
   | succ m=>
    rw [hk]at hp;replace hp:(L.getD c.at_ nz).tag.toNat=2:=hp;have hlt:=fits_lt hf.1 hk;have hm:L.getD c.at_ nz∈L:=by
     rw [List.getD_eq_getElem?_getD,List.getElem?_eq_getElem hlt];exact List.getElem_mem hlt
    have hR:=hr _ hm;obtain⟨a,ha⟩:∃a,a=L.getD c.at_ nz:=⟨_,rfl⟩
    rw [<-ha]at hR hp ⊢;cases hb:a.body with
    | cons z r=>exact⟨z,r,rfl⟩
    | nil=>
     exfalso;unfold E5.right at hR;rw [hp,hb]at hR;simp only [show R5.inner 2=false from rfl,show R5.body 2 []=false from rfl]at hR;cases hl:E5.leaf a<;>simp [hl]at hR
def tTextc(ccm:Bool)(iv s:Bytes):Bool:=decide (s.length<=70000) && (!ccm || iv.length !=13 || decide (s.length<65536))
theorem Lb(i:Nat)(h:i<=5):∀W:World,(Instr.index 83 (.agg #[.int .i64 1,.int .i64 2,.int .i64 3,.int .i64 201,.int .i64 202,.int .i64 203]) (.int .i64 (i:Nat))).run Tryz.prog W= .ok (.int .i64 (algsL.getD i 0)) W:=by
 match i,h with
 | 0,_=>intro W; rfl
 | 1,_=>intro W; rfl
 | 2,_=>intro W; rfl
 | 3,_=>intro W; rfl
 | 4,_=>intro W; rfl
 | 5,_=>intro W; rfl
theorem H8(b:Nat)(va:Value)(L:List Px.Node)(lim:Lim)(s:RS)(x:XV)(F:Nat->Prop)(n:Nat)(w:World)(h:RW w b va L lim s x F)(hf:FitR L n s)(hn:1<=n/\n<=90)(hr:∀a∈L,E5.right a=true):
  Calls Tryz.prog 36 #[.pointer (some ⟨b,0,none⟩)] w fun e w'=>e= .returned (.int .i64 ((rContent L s).1.1.2.2:Nat))/\StepR w b va L lim F (rContent L s).2 ({x.1 with alg:=algsL.getD (rContent L s).1.1.1 0,iv:=(rContent L s).1.1.2.1,cipher:=(rContent L s).1.2},x.2) w':=by
 have HX:=zz (show Lin w F b va L lim x n s F w from⟨h,hf,Fresh.refl _ _,fR _ _⟩);have HN:=zz hn;have HRT:=zz hr;clear h hf hn hr;go_enter Tryz.func36,Tryz.ntmps36;have HC:=zz (AU b va L lim s x _ 0x30 (n) (by decide) (by decide) w HX.out.rw_ HX.out.fit (by have:=HN.out; omega) HRT.out);go_wp2_with fail;refine HC.out.mono ?_;rintro e w2 ⟨rfl,hst⟩;obtain⟨F1,hsea,_,_⟩:=HX.out.into hst (AV HRT.out (by decide) (by decide) HX.out.fit);rw [show((0x30:UInt8).toNat)=48 from rfl]at hsea;obtain⟨s1,hs1⟩:∃s1,s1=rIn L 48 s:=⟨_,rfl⟩
 rw [<-hs1]at hsea;have E1:=zz hs1;replace HX:=zz hsea;clear hst hsea hs1 HC;have HC:=zz (Az b va L lim s1 x _ 6 (n+1) (by decide) w2 HX.out.rw_ HX.out.fit);go_wp2_with fail;refine HC.out.mono ?_;rintro e w3 ⟨rfl,hst,hfr⟩;have hsea:=HX.out.step hst (AE HRT.out (t:=0x6) (by decide) (by decide) HX.out.fit) hfr;obtain⟨q,hq⟩:∃q,q=rLeaf L 6 s1:=⟨_,rfl⟩
 rw [<-hq]at hsea ⊢;obtain⟨v2,s2⟩:=q;simp only at hsea ⊢;have E2:=zz hq;replace HX:=zz hsea;clear hst hfr hsea hq HC;have HC:=zz (Ae b va L lim s2 x _ (v2==[42,134,72,134,247,13,1,7,1]) 11 (by decide) w3 HX.out.rw_);go_wp2_with fail;refine HC.out.mono ?_;rintro e w4 ⟨rfl,hst,hfr⟩;have hsea:=HX.out.step hst (Ac _ _ HX.out.fit) hfr;obtain⟨s3,hs3⟩:∃s3,s3=rMust (v2==[42,134,72,134,247,13,1,7,1]) 11 s2:=⟨_,rfl⟩
 rw [<-hs3]at hsea;have E3:=zz hs3;replace HX:=zz hsea;clear hst hfr hsea hs3 HC;have HC:=zz (AU b va L lim s3 x _ 0x30 (n+1) (by decide) (by decide) w4 HX.out.rw_ HX.out.fit (by have:=HN.out; omega) HRT.out);go_wp2_with fail;refine HC.out.mono ?_;rintro e w5 ⟨rfl,hst⟩;obtain⟨F4,hsea,_,_⟩:=HX.out.into hst (AV HRT.out (by decide) (by decide) HX.out.fit);rw [show((0x30:UInt8).toNat)=48 from rfl]at hsea;obtain⟨s4,hs4⟩:∃s4,s4=rIn L 48 s3:=⟨_,rfl⟩
 rw [<-hs4]at hsea;have E4:=zz hs4;replace HX:=zz hsea;clear hst hsea hs4 HC;have HC:=zz (DJ b va L lim s4 x _ cipherT [6,26,46,7,27,47] (n+2) w5 HX.out.rw_ HX.out.fit (by decide) (by decide));go_wp2_with fail;refine HC.out.mono ?_;rintro e w6 ⟨rfl,hst,hfr⟩;have hsea:=HX.out.step hst (DK HRT.out _ HX.out.fit) hfr;rw [show tblOf cipherT [6,26,46,7,27,47]=sixT from rfl]at hsea ⊢;obtain⟨q,hq⟩:∃q,q=rOne L sixT s4:=⟨_,rfl⟩
 have hlti:q.1<=10:=by rw [hq]; exact FK L _ _ (by decide)
 rw [<-hq]at hsea ⊢;obtain⟨i,s5⟩:=q;simp only at hsea hlti ⊢;have E5:=zz hq;replace HX:=zz hsea;clear hst hfr hsea hq HC;have hi6:i<=5:=by
  have e:=E5.out;have h6:=Nv L s4;rw [<-e]at h6;exact h6
 obtain⟨ccm,hccm⟩:∃ccm,ccm=decide (2<i):=⟨_,rfl⟩
 have hcz:decide ((2:Int)<(i:Int))=ccm:=by
  rw [hccm];by_cases h2:2<i
  ·rw [dt h2,dt (by omega)]
  ·rw [df h2,df (by omega)]
 have hcy:decide (2<i)=ccm:=hccm.symm;have HCC:=zz hccm;clear hccm;have hix:=Lb i hi6;obtain⟨al,hal⟩:∃al,al=algsL.getD i 0:=⟨_,rfl⟩
 rw [<-hal]at hix;have HAL:=zz hal;clear hal;have kx:=HX.out.rw_.cellX 1 (v:= .int .i64 x.1.alg) rfl;obtain⟨k1,f1⟩:=kx;replace k1:w6.cell? ⟨b,9,none⟩=some (.int .i64 x.1.alg):=k1;replace f1:w6.frozen? ⟨b,9,none⟩=false:=f1;have bx:=World.block_lt_of_cell? _ _ k1;simp only at bx;replace HX:=zz (HX.out.setX (y:= {x.1 with alg:=al}) 1 (.int .i64 al) (by decide) rfl rfl);have HC:=zz (AU b va L lim s5 ({x.1 with alg:=al},x.2) _ 0x30 (n+2) (by decide) (by decide) (w6.setCell ⟨b,9,none⟩ (.int .i64 al)) HX.out.rw_ HX.out.fit (by have:=HN.out; omega) HRT.out);go_wp2_with fail;refine HC.out.mono ?_;rintro e w7 ⟨rfl,hst⟩;obtain⟨F6,hsea,_,_⟩:=HX.out.into hst (AV HRT.out (by decide) (by decide) HX.out.fit);rw [show((0x30:UInt8).toNat)=48 from rfl]at hsea;obtain⟨s6,hs6⟩:∃s6,s6=rIn L 48 s5:=⟨_,rfl⟩
 rw [<-hs6]at hsea;have E6:=zz hs6;replace HX:=zz hsea;clear hst hsea hs6 HC;clear hix k1 f1 bx;have HC:=zz (Az b va L lim s6 ({x.1 with alg:=al},x.2) _ 4 (n+3) (by decide) w7 HX.out.rw_ HX.out.fit);go_wp2_with fail;refine HC.out.mono ?_;rintro e w8 ⟨rfl,hst,hfr⟩;have hsea:=HX.out.step hst (AE HRT.out (t:=0x4) (by decide) (by decide) HX.out.fit) hfr;obtain⟨q,hq⟩:∃q,q=rLeaf L 4 s6:=⟨_,rfl⟩
 rw [<-hq]at hsea ⊢;obtain⟨iv,s7⟩:=q;simp only at hsea ⊢;have E7:=zz hq;replace HX:=zz hsea;clear hst hfr hsea hq HC;have kx:=HX.out.rw_.cellX 6 (v:=S x.1.iv) rfl;obtain⟨k6,f6⟩:=kx;replace k6:w8.cell? ⟨b,14,none⟩=some (S x.1.iv):=k6;replace f6:w8.frozen? ⟨b,14,none⟩=false:=f6;have bx:=World.block_lt_of_cell? _ _ k6;simp only at bx;replace HX:=zz (HX.out.setX (y:= {x.1 with alg:=al,iv:=iv}) 6 (S iv) (by decide) rfl rfl);obtain⟨wb,hwb⟩:∃wb,wb=w8.setCell ⟨b,14,none⟩ (S iv):=⟨_,rfl⟩
 rw [<-hwb]at HX;have HWB:=zz hwb;clear hwb;go_upto_region 12 with fail
 rw [<-HWB.out];go_cut [] (fun wx=>Lin w F b va L lim ({x.1 with alg:=al,iv:=iv},x.2) (n+3) (rMust (tIvc ccm iv) 9 s7) F6 wx)
 case first=>as_aux_lemma=>
  cases ccm with
  | false=>
   by_cases h1:1<=iv.length
   ·by_cases h2:iv.length<=1024
    ·
     have ht:(tIvc false iv)=true:=by simp [tIvc,h1,h2]
     have h1z:decide ((1:Int)<=(iv.length:Int))=true:=dt (by omega);have h2z:decide ((iv.length:Int)<=1024)=true:=dt (by omega);have HTT:=zz ht;have HC:=zz (Ae b va L lim s7 ({x.1 with alg:=al,iv:=iv},x.2) _ true 9 (by decide) _ HX.out.rw_);clear ht h1 h2;go_wp2_with fail;refine HC.out.mono ?_;rintro e wz ⟨rfl,hst,hfr⟩;have HZ:=zz (HX.out.step hst (Ac _ _ HX.out.fit) hfr);clear hst hfr HC;go_wp2_with fail;go_meet
     rw [HTT.out];exact HZ.out
    ·
     have ht:(tIvc false iv)=false:=by simp [tIvc,h2]
     have h1z:decide ((1:Int)<=(iv.length:Int))=true:=dt (by omega);have h2z:decide ((iv.length:Int)<=1024)=false:=df (by omega);have HTT:=zz ht;have HC:=zz (Ae b va L lim s7 ({x.1 with alg:=al,iv:=iv},x.2) _ false 9 (by decide) _ HX.out.rw_);clear ht h1 h2;go_wp2_with fail;refine HC.out.mono ?_;rintro e wz ⟨rfl,hst,hfr⟩;have HZ:=zz (HX.out.step hst (Ac _ _ HX.out.fit) hfr);clear hst hfr HC;go_wp2_with fail;go_meet
     rw [HTT.out];exact HZ.out
   ·
    have ht:(tIvc false iv)=false:=by simp [tIvc,h1]
    have h1z:decide ((1:Int)<=(iv.length:Int))=false:=df (by omega);have HTT:=zz ht;have HC:=zz (Ae b va L lim s7 ({x.1 with alg:=al,iv:=iv},x.2) _ false 9 (by decide) _ HX.out.rw_);clear ht h1;go_wp2_with fail;refine HC.out.mono ?_;rintro e wz ⟨rfl,hst,hfr⟩;have HZ:=zz (HX.out.step hst (Ac _ _ HX.out.fit) hfr);clear hst hfr HC;go_wp2_with fail;go_meet
    rw [HTT.out];exact HZ.out
  | true=>
   by_cases h1:7<=iv.length
   ·by_cases h2:iv.length<=13
    ·
     have ht:(tIvc true iv)=true:=by simp [tIvc,h1,h2]
     have h1z:decide ((7:Int)<=(iv.length:Int))=true:=dt (by omega);have h2z:decide ((iv.length:Int)<=13)=true:=dt (by omega);have HTT:=zz ht;have HC:=zz (Ae b va L lim s7 ({x.1 with alg:=al,iv:=iv},x.2) _ true 9 (by decide) _ HX.out.rw_);clear ht h1 h2;go_wp2_with fail;refine HC.out.mono ?_;rintro e wz ⟨rfl,hst,hfr⟩;have HZ:=zz (HX.out.step hst (Ac _ _ HX.out.fit) hfr);clear hst hfr HC;go_wp2_with fail;go_meet
     rw [HTT.out];exact HZ.out
    ·
     have ht:(tIvc true iv)=false:=by simp [tIvc,h2]
     have h1z:decide ((7:Int)<=(iv.length:Int))=true:=dt (by omega);have h2z:decide ((iv.length:Int)<=13)=false:=df (by omega);have HTT:=zz ht;have HC:=zz (Ae b va L lim s7 ({x.1 with alg:=al,iv:=iv},x.2) _ false 9 (by decide) _ HX.out.rw_);clear ht h1 h2;go_wp2_with fail;refine HC.out.mono ?_;rintro e wz ⟨rfl,hst,hfr⟩;have HZ:=zz (HX.out.step hst (Ac _ _ HX.out.fit) hfr);clear hst hfr HC;go_wp2_with fail;go_meet
     rw [HTT.out];exact HZ.out
   ·
    have ht:(tIvc true iv)=false:=by simp [tIvc,h1]
    have h1z:decide ((7:Int)<=(iv.length:Int))=false:=df (by omega);have HTT:=zz ht;have HC:=zz (Ae b va L lim s7 ({x.1 with alg:=al,iv:=iv},x.2) _ false 9 (by decide) _ HX.out.rw_);clear ht h1;go_wp2_with fail;refine HC.out.mono ?_;rintro e wz ⟨rfl,hst,hfr⟩;have HZ:=zz (HX.out.step hst (Ac _ _ HX.out.fit) hfr);clear hst hfr HC;go_wp2_with fail;go_meet
    rw [HTT.out];exact HZ.out
 case rest=>
  obtain⟨s8,hs8⟩:∃s8,s8=rMust (tIvc ccm iv) 9 s7:=⟨_,rfl⟩
  rw [<-hs8]at hcut;have E8:=zz hs8;replace HX:=zz hcut;clear hs8 hcut HWB;have HIS:=zz (Cx b va L lim s8 ({x.1 with alg:=al,iv:=iv},x.2) _ 2 (n+3) (by decide) wc HX.out.rw_ HX.out.fit);go_wp2_with fail;refine HIS.out.mono ?_;rintro e wd ⟨rfl,hsd⟩;have hseq:=HX.out.same hsd;obtain⟨p,hp⟩:∃p,p=rIs L 2 s8:=⟨_,rfl⟩
  rw [<-hp];replace HX:=zz hseq;have HPP:=zz hp;clear hp hsd hseq HIS;go_upto_if 67 with fail
  go_cut [3] (fun t3 wx=>∃(sz:Nat) (s9:RS),t3= .int .i64 (sz:Nat)/\Lin w F b va L lim ({x.1 with alg:=al,iv:=iv},x.2) (n+3) s9 F6 wx/\rPar2 L ccm iv s8=((iv,sz),s9))
  case first=>as_aux_lemma=>
   cases p with
   | false=>
    go_wp2_with fail;go_meet
    refine⟨12,s8,rfl,HX.out,?_⟩;unfold rPar2;rw [<-HPP.out];rfl
   | true=>
    obtain⟨z,zr,hz⟩:=Mq HRT.out HX.out.fit HPP.out.symm;have hc:=Az b va L lim s8 ({x.1 with alg:=al,iv:=iv},x.2) _ 2 (n+3) (by decide) wd HX.out.rw_ HX.out.fit;rw [hz]at hc;have HC:=zz hc;have HZZ:=zz hz;clear hc hz;go_wp2_with fail;refine HC.out.mono ?_;rintro e we ⟨rfl,hst,hfr⟩;have HY:=zz (HX.out.step hst (AE HRT.out (t:=0x2) (by decide) (by decide) HX.out.fit) hfr);clear hst hfr HC;have hzi:∀W:World,(Instr.index 9 (S (z::zr)) (.int .i64 0)).run Tryz.prog W= .ok (.int .u8 ((z.toNat:Nat):Int)) W:=fun W=>by rfl
    have hwr:wrap64 ((z.toNat:Nat):Int)=((z.toNat:Nat):Int):=by
     have:=z.toNat_lt;unfold wrap64;omega
    go_upto_region 16 with fail
    cases zr with
    | nil=>
     cases ccm with
     | false=>
      by_cases h1:13<=z.toNat
      ·have h1z:decide ((13:Int)<=(z.toNat:Int))=true:=dt (by omega);by_cases h2:z.toNat<=16
       ·have h2z:decide ((z.toNat:Int)<=16)=true:=dt (by omega);have ht:((z:: []).length==1 && tagged z.toNat false)=true:=by simp [tagged,h1,h2]
        have HTT:=zz ht;have HC:=zz (Ae b va L lim _ ({x.1 with alg:=al,iv:=iv},x.2) _ true 9 (by decide) _ HY.out.rw_);clear ht h1 h2;go_wp2_with fail;refine HC.out.mono ?_;rintro e wz ⟨rfl,hst,hfr⟩;have HZ:=zz (HY.out.step hst (Ac _ _ HY.out.fit) hfr);clear hst hfr HC;go_wp2_with fail;go_meet
        refine⟨z.toNat,_,rfl,HZ.out,?_⟩;unfold rPar2;rw [<-HPP.out,if_pos rfl];unfold rSize;rw [HZZ.out];show((iv,z.toNat),rMust ((z:: []).length==1 && tagged z.toNat false) 9 (rLeaf L 2 s8).2)=_;rw [HTT.out]
       ·have h2z:decide ((z.toNat:Int)<=16)=false:=df (by omega);have ht:((z:: []).length==1 && tagged z.toNat false)=false:=by simp [tagged,h2]
        have HTT:=zz ht;have HC:=zz (Ae b va L lim _ ({x.1 with alg:=al,iv:=iv},x.2) _ false 9 (by decide) _ HY.out.rw_);clear ht h1 h2;go_wp2_with fail;refine HC.out.mono ?_;rintro e wz ⟨rfl,hst,hfr⟩;have HZ:=zz (HY.out.step hst (Ac _ _ HY.out.fit) hfr);clear hst hfr HC;go_wp2_with fail;go_meet
        refine⟨z.toNat,_,rfl,HZ.out,?_⟩;unfold rPar2;rw [<-HPP.out,if_pos rfl];unfold rSize;rw [HZZ.out];show((iv,z.toNat),rMust ((z:: []).length==1 && tagged z.toNat false) 9 (rLeaf L 2 s8).2)=_;rw [HTT.out]
      ·have h1z:decide ((13:Int)<=(z.toNat:Int))=false:=df (by omega);have ht:((z:: []).length==1 && tagged z.toNat false)=false:=by simp [tagged,h1]
       have HTT:=zz ht;have HC:=zz (Ae b va L lim _ ({x.1 with alg:=al,iv:=iv},x.2) _ false 9 (by decide) _ HY.out.rw_);clear ht h1;go_wp2_with fail;refine HC.out.mono ?_;rintro e wz ⟨rfl,hst,hfr⟩;have HZ:=zz (HY.out.step hst (Ac _ _ HY.out.fit) hfr);clear hst hfr HC;go_wp2_with fail;go_meet
       refine⟨z.toNat,_,rfl,HZ.out,?_⟩;unfold rPar2;rw [<-HPP.out,if_pos rfl];unfold rSize;rw [HZZ.out];show((iv,z.toNat),rMust ((z:: []).length==1 && tagged z.toNat false) 9 (rLeaf L 2 s8).2)=_;rw [HTT.out]
     | true=>
      by_cases h1:4<=z.toNat
      ·have h1z:decide ((4:Int)<=(z.toNat:Int))=true:=dt (by omega);by_cases h2:z.toNat<=16
       ·have h2z:decide ((z.toNat:Int)<=16)=true:=dt (by omega);by_cases h3:z.toNat % 2=0
        ·have h3z:((z.toNat:Int).tmod 2==0)=true:=by rw [Int.tmod_eq_emod_of_nonneg (by omega),beq_iff_eq]; omega
         have h3y:((z.toNat:Int) % 2==0)=true:=by rw [beq_iff_eq]; omega
         by_cases h4:z.toNat=12
         ·have h4z:((z.toNat:Int) !=12)=false:=by rw [h4]; rfl
          have ht:((z:: []).length==1 && tagged z.toNat true)=false:=by simp [tagged,h4]
          have HTT:=zz ht;have HC:=zz (Ae b va L lim _ ({x.1 with alg:=al,iv:=iv},x.2) _ false 9 (by decide) _ HY.out.rw_);clear ht h1 h2 h3 h4;go_wp2_with fail;refine HC.out.mono ?_;rintro e wz ⟨rfl,hst,hfr⟩;have HZ:=zz (HY.out.step hst (Ac _ _ HY.out.fit) hfr);clear hst hfr HC;go_wp2_with fail;go_meet
          refine⟨z.toNat,_,rfl,HZ.out,?_⟩;unfold rPar2;rw [<-HPP.out,if_pos rfl];unfold rSize;rw [HZZ.out];show((iv,z.toNat),rMust ((z:: []).length==1 && tagged z.toNat true) 9 (rLeaf L 2 s8).2)=_;rw [HTT.out]
         ·have h4z:((z.toNat:Int) !=12)=true:=by rw [bne_iff_ne]; omega
          have ht:((z:: []).length==1 && tagged z.toNat true)=true:=by simp [tagged,h1,h2,h3,h4]
          have HTT:=zz ht;have HC:=zz (Ae b va L lim _ ({x.1 with alg:=al,iv:=iv},x.2) _ true 9 (by decide) _ HY.out.rw_);clear ht h1 h2 h3 h4;go_wp2_with fail;refine HC.out.mono ?_;rintro e wz ⟨rfl,hst,hfr⟩;have HZ:=zz (HY.out.step hst (Ac _ _ HY.out.fit) hfr);clear hst hfr HC;go_wp2_with fail;go_meet
          refine⟨z.toNat,_,rfl,HZ.out,?_⟩;unfold rPar2;rw [<-HPP.out,if_pos rfl];unfold rSize;rw [HZZ.out];show((iv,z.toNat),rMust ((z:: []).length==1 && tagged z.toNat true) 9 (rLeaf L 2 s8).2)=_;rw [HTT.out]
        ·have h3z:((z.toNat:Int).tmod 2==0)=false:=by rw [Int.tmod_eq_emod_of_nonneg (by omega),beq_eq_false_iff_ne]; omega
         have h3y:((z.toNat:Int) % 2==0)=false:=by rw [beq_eq_false_iff_ne]; omega
         have ht:((z:: []).length==1 && tagged z.toNat true)=false:=by simp [tagged,h3]
         have HTT:=zz ht;have HC:=zz (Ae b va L lim _ ({x.1 with alg:=al,iv:=iv},x.2) _ false 9 (by decide) _ HY.out.rw_);clear ht h1 h2 h3;go_wp2_with fail;refine HC.out.mono ?_;rintro e wz ⟨rfl,hst,hfr⟩;have HZ:=zz (HY.out.step hst (Ac _ _ HY.out.fit) hfr);clear hst hfr HC;go_wp2_with fail;go_meet
         refine⟨z.toNat,_,rfl,HZ.out,?_⟩;unfold rPar2;rw [<-HPP.out,if_pos rfl];unfold rSize;rw [HZZ.out];show((iv,z.toNat),rMust ((z:: []).length==1 && tagged z.toNat true) 9 (rLeaf L 2 s8).2)=_;rw [HTT.out]
       ·have h2z:decide ((z.toNat:Int)<=16)=false:=df (by omega);have ht:((z:: []).length==1 && tagged z.toNat true)=false:=by simp [tagged,h2]
        have HTT:=zz ht;have HC:=zz (Ae b va L lim _ ({x.1 with alg:=al,iv:=iv},x.2) _ false 9 (by decide) _ HY.out.rw_);clear ht h1 h2;go_wp2_with fail;refine HC.out.mono ?_;rintro e wz ⟨rfl,hst,hfr⟩;have HZ:=zz (HY.out.step hst (Ac _ _ HY.out.fit) hfr);clear hst hfr HC;go_wp2_with fail;go_meet
        refine⟨z.toNat,_,rfl,HZ.out,?_⟩;unfold rPar2;rw [<-HPP.out,if_pos rfl];unfold rSize;rw [HZZ.out];show((iv,z.toNat),rMust ((z:: []).length==1 && tagged z.toNat true) 9 (rLeaf L 2 s8).2)=_;rw [HTT.out]
      ·have h1z:decide ((4:Int)<=(z.toNat:Int))=false:=df (by omega);have ht:((z:: []).length==1 && tagged z.toNat true)=false:=by simp [tagged,h1]
       have HTT:=zz ht;have HC:=zz (Ae b va L lim _ ({x.1 with alg:=al,iv:=iv},x.2) _ false 9 (by decide) _ HY.out.rw_);clear ht h1;go_wp2_with fail;refine HC.out.mono ?_;rintro e wz ⟨rfl,hst,hfr⟩;have HZ:=zz (HY.out.step hst (Ac _ _ HY.out.fit) hfr);clear hst hfr HC;go_wp2_with fail;go_meet
       refine⟨z.toNat,_,rfl,HZ.out,?_⟩;unfold rPar2;rw [<-HPP.out,if_pos rfl];unfold rSize;rw [HZZ.out];show((iv,z.toNat),rMust ((z:: []).length==1 && tagged z.toNat true) 9 (rLeaf L 2 s8).2)=_;rw [HTT.out]
    | cons y ys=>
     have h1z:((ys.length:Int)+1+1==1)=false:=bn (by omega);have h1y:(((y::ys).length:Int)+1==1)=false:=bn (by simp; omega);have ht:((z::(y::ys)).length==1 && tagged z.toNat ccm)=false:=by simp
     have HTT:=zz ht;have HC:=zz (Ae b va L lim _ ({x.1 with alg:=al,iv:=iv},x.2) _ false 9 (by decide) _ HY.out.rw_);clear ht;go_wp2_with fail;refine HC.out.mono ?_;rintro e wz ⟨rfl,hst,hfr⟩;have HZ:=zz (HY.out.step hst (Ac _ _ HY.out.fit) hfr);clear hst hfr HC;go_wp2_with fail;go_meet
     refine⟨z.toNat,_,rfl,HZ.out,?_⟩;unfold rPar2;rw [<-HPP.out,if_pos rfl];unfold rSize;rw [HZZ.out];show((iv,z.toNat),rMust ((z::(y::ys)).length==1 && tagged z.toNat ccm) 9 (rLeaf L 2 s8).2)=_;rw [HTT.out]
  case rest=>
   obtain⟨sz,s9,rfl,hx,hpar⟩:=hcut;replace HX:=zz hx;have HPAR:=zz hpar;clear hx hpar HPP;have HC:=zz (AC b va L lim s9 ({x.1 with alg:=al,iv:=iv},x.2) _ (n+3) wc HX.out.rw_ HX.out.fit (by have:=HN.out; omega));go_wp2_with fail;refine HC.out.mono ?_;rintro e w11 ⟨rfl,hst,hfr⟩;have hsea:=HX.out.step hst (AH (n:=n+2) (by have:=HN.out; omega) HX.out.fit) hfr;obtain⟨s10,hs10⟩:∃s10,s10=rOut s9:=⟨_,rfl⟩
   rw [<-hs10]at hsea;have E10:=zz hs10;replace HX:=zz hsea;clear hst hfr hsea hs10 HC;have HC:=zz (AC b va L lim s10 ({x.1 with alg:=al,iv:=iv},x.2) _ (n+2) w11 HX.out.rw_ HX.out.fit (by have:=HN.out; omega));go_wp2_with fail;refine HC.out.mono ?_;rintro e w12 ⟨rfl,hst,hfr⟩;have hsea:=HX.out.step hst (AH (n:=n+1) (by have:=HN.out; omega) HX.out.fit) hfr;obtain⟨s11,hs11⟩:∃s11,s11=rOut s10:=⟨_,rfl⟩
   rw [<-hs11]at hsea;have E11:=zz hs11;replace HX:=zz hsea;clear hst hfr hsea hs11 HC;obtain⟨wb,hwb⟩:∃wb,wb=w12:=⟨_,rfl⟩
   rw [<-hwb]at HX;have HWB:=zz hwb;clear hwb;go_upto_region 19 with fail
   rw [<-HWB.out];go_cut [] (fun wx=>Lin w F b va L lim ({x.1 with alg:=al,iv:=iv},x.2) (n+1) (rMust (isBad s11 || !rNone L s11) 11 s11) F6 wx)
   case first=>as_aux_lemma=>
    cases s11 with
    | bad en=>
     obtain⟨vl,vto,_,ht,hs⟩:=HX.out.rw_;obtain⟨c3,_,_⟩:=hs.err;replace c3:wb.cell? ⟨b,3,none⟩=some (.int .i64 en):=c3;have hez:(en !=0)=true:=by rw [bne_iff_ne]; exact hs.1
     have HC:=zz (Ae b va L lim (.bad en) ({x.1 with alg:=al,iv:=iv},x.2) _ true 11 (by decide) _ HX.out.rw_);have HTT:=zz (show(isBad (.bad en)|| !rNone L (.bad en))=true from rfl);clear ht hs;go_wp2_with fail;refine HC.out.mono ?_;rintro e wz ⟨rfl,hst,hfr⟩;have HZ:=zz (HX.out.step hst (Ac _ _ HX.out.fit) hfr);clear hst hfr HC;go_wp2_with fail;go_meet
     rw [HTT.out];exact HZ.out
    | run c=>
     have HLF:=zz (A2 b va L lim c ({x.1 with alg:=al,iv:=iv},x.2) _ wb HX.out.rw_);obtain⟨vl,vto,_,ht,hs⟩:=HX.out.rw_;obtain⟨c3,_,_⟩:=hs.err;replace c3:wb.cell? ⟨b,3,none⟩=some (.int .i64 0):=c3;have HPZ:=zz (BN HX.out.fit.1);obtain⟨m,hm⟩:∃m,m=c.left.headD 0:=⟨_,rfl⟩
     rw [<-hm]at HLF HPZ;clear ht hs hm;go_wp2_with fail;refine HLF.out.mono ?_;rintro e wy ⟨rfl,kk,rfl⟩;clear HLF;by_cases h0:m=0
     ·subst h0;have HC:=zz (Ae b va L lim (.run c) ({x.1 with alg:=al,iv:=iv},x.2) _ false 11 (by decide) (wb.drewN kk) (HX.out.rw_.same ((fR _ wb).drewN kk)));have HTT:=zz (show(isBad (.run c)|| !rNone L (.run c))=false from by
       rw [show rNone L (.run c)=true from by show(peek L c==0)=true; rw [HPZ.out.2 rfl]; rfl];rfl)
      go_wp2_with fail;refine HC.out.mono ?_;rintro e wz ⟨rfl,hst,hfr⟩;have HZ:=zz ((HX.out.same ((fR _ wb).drewN kk)).step hst (Ac _ _ HX.out.fit) hfr);clear hst hfr HC;go_wp2_with fail;go_meet
      rw [HTT.out];exact HZ.out
     ·have h0z:decide ((0:Int)<(m:Int))=true:=dt (by omega);have h0y:(0:Int)<(m:Int):=by omega
      have h0x:decide (0<m)=true:=dt (by omega);have HC:=zz (Ae b va L lim (.run c) ({x.1 with alg:=al,iv:=iv},x.2) _ true 11 (by decide) (wb.drewN kk) (HX.out.rw_.same ((fR _ wb).drewN kk)));have HTT:=zz (show(isBad (.run c)|| !rNone L (.run c))=true from by
       rw [show rNone L (.run c)=false from bn (fun e=>h0 (HPZ.out.1 e))];rfl)
      clear h0;go_wp2_with fail;refine HC.out.mono ?_;rintro e wz ⟨rfl,hst,hfr⟩;have HZ:=zz ((HX.out.same ((fR _ wb).drewN kk)).step hst (Ac _ _ HX.out.fit) hfr);clear hst hfr HC;go_wp2_with fail;go_meet
      rw [HTT.out];exact HZ.out
   case rest=>
    obtain⟨s12,hs12⟩:∃s12,s12=rMust (isBad s11 || !rNone L s11) 11 s11:=⟨_,rfl⟩
    rw [<-hs12]at hcut;have E12:=zz hs12;replace HX:=zz hcut;clear hs12 hcut HWB;have HC:=zz (Az b va L lim s12 ({x.1 with alg:=al,iv:=iv},x.2) _ 128 (n+1) (by decide) wc HX.out.rw_ HX.out.fit);go_wp2_with fail;refine HC.out.mono ?_;rintro e w14 ⟨rfl,hst,hfr⟩;have hsea:=HX.out.step hst (AE HRT.out (t:=0x80) (by decide) (by decide) HX.out.fit) hfr;obtain⟨q,hq⟩:∃q,q=rLeaf L 128 s12:=⟨_,rfl⟩
    rw [<-hq]at hsea ⊢;obtain⟨ci,s13⟩:=q;simp only at hsea ⊢;have E13:=zz hq;replace HX:=zz hsea;clear hst hfr hsea hq HC;have kx:=HX.out.rw_.cellX 7 (v:=S x.1.cipher) rfl;obtain⟨k7,f7⟩:=kx;replace k7:w14.cell? ⟨b,15,none⟩=some (S x.1.cipher):=k7;replace f7:w14.frozen? ⟨b,15,none⟩=false:=f7;have bx:=World.block_lt_of_cell? _ _ k7;simp only at bx;replace HX:=zz (HX.out.setX (y:= {x.1 with alg:=al,iv:=iv,cipher:=ci}) 7 (S ci) (by decide) rfl rfl);obtain⟨wb,hwb⟩:∃wb,wb=w14.setCell ⟨b,15,none⟩ (S ci):=⟨_,rfl⟩
    rw [<-hwb]at HX;have HWB:=zz hwb;clear hwb;go_upto_region 21 with fail
    rw [<-HWB.out];go_cut [] (fun wx=>Lin w F b va L lim ({x.1 with alg:=al,iv:=iv,cipher:=ci},x.2) (n+1) (rMust (tTextc ccm iv ci) 10 s13) F6 wx)
    case first=>as_aux_lemma=>
     have kc:=HX.out.rw_.cellX 7 (v:=S ci) rfl;obtain⟨kc,fc⟩:=kc;replace kc:wb.cell? ⟨b,15,none⟩=some (S ci):=kc;have bxc:=World.block_lt_of_cell? _ _ kc;simp only at bxc;cases ccm with
     | false=>
      by_cases h1:ci.length<=70000
      ·
       have ht:(tTextc false iv ci)=true:=by simp [tTextc,h1]
       have h1z:decide ((ci.length:Int)<=70000)=true:=dt (by omega);have HTT:=zz ht;have HC:=zz (Ae b va L lim s13 ({x.1 with alg:=al,iv:=iv,cipher:=ci},x.2) _ true 10 (by decide) _ HX.out.rw_);clear ht h1;go_wp2_with fail;refine HC.out.mono ?_;rintro e wz ⟨rfl,hst,hfr⟩;have HZ:=zz (HX.out.step hst (Ac _ _ HX.out.fit) hfr);clear hst hfr HC;go_wp2_with fail;go_meet
       rw [HTT.out];exact HZ.out
      ·
       have ht:(tTextc false iv ci)=false:=by simp [tTextc,h1]
       have h1z:decide ((ci.length:Int)<=70000)=false:=df (by omega);have HTT:=zz ht;have HC:=zz (Ae b va L lim s13 ({x.1 with alg:=al,iv:=iv,cipher:=ci},x.2) _ false 10 (by decide) _ HX.out.rw_);clear ht h1;go_wp2_with fail;refine HC.out.mono ?_;rintro e wz ⟨rfl,hst,hfr⟩;have HZ:=zz (HX.out.step hst (Ac _ _ HX.out.fit) hfr);clear hst hfr HC;go_wp2_with fail;go_meet
       rw [HTT.out];exact HZ.out
     | true=>
      by_cases h1:ci.length<=70000
      ·by_cases h2:iv.length=13
       ·by_cases h3:ci.length<65536
        ·
         have ht:(tTextc true iv ci)=true:=by simp [tTextc,h1,h2,h3]
         have h1z:decide ((ci.length:Int)<=70000)=true:=dt (by omega);have h2z:((iv.length:Int) !=13)=false:=by rw [h2]; rfl
         have h3z:decide ((ci.length:Int)<65536)=true:=dt (by omega);have HTT:=zz ht;have HC:=zz (Ae b va L lim s13 ({x.1 with alg:=al,iv:=iv,cipher:=ci},x.2) _ true 10 (by decide) _ HX.out.rw_);clear ht h1 h2 h3;go_wp2_with fail;refine HC.out.mono ?_;rintro e wz ⟨rfl,hst,hfr⟩;have HZ:=zz (HX.out.step hst (Ac _ _ HX.out.fit) hfr);clear hst hfr HC;go_wp2_with fail;go_meet
         rw [HTT.out];exact HZ.out
        ·
         have ht:(tTextc true iv ci)=false:=by simp [tTextc,h2,h3]
         have h1z:decide ((ci.length:Int)<=70000)=true:=dt (by omega);have h2z:((iv.length:Int) !=13)=false:=by rw [h2]; rfl
         have h3z:decide ((ci.length:Int)<65536)=false:=df (by omega);have HTT:=zz ht;have HC:=zz (Ae b va L lim s13 ({x.1 with alg:=al,iv:=iv,cipher:=ci},x.2) _ false 10 (by decide) _ HX.out.rw_);clear ht h1 h2 h3;go_wp2_with fail;refine HC.out.mono ?_;rintro e wz ⟨rfl,hst,hfr⟩;have HZ:=zz (HX.out.step hst (Ac _ _ HX.out.fit) hfr);clear hst hfr HC;go_wp2_with fail;go_meet
         rw [HTT.out];exact HZ.out
       ·
        have ht:(tTextc true iv ci)=true:=by simp [tTextc,h1,h2]
        have h1z:decide ((ci.length:Int)<=70000)=true:=dt (by omega);have h2z:((iv.length:Int) !=13)=true:=by rw [bne_iff_ne]; omega
        have HTT:=zz ht;have HC:=zz (Ae b va L lim s13 ({x.1 with alg:=al,iv:=iv,cipher:=ci},x.2) _ true 10 (by decide) _ HX.out.rw_);clear ht h1 h2;go_wp2_with fail;refine HC.out.mono ?_;rintro e wz ⟨rfl,hst,hfr⟩;have HZ:=zz (HX.out.step hst (Ac _ _ HX.out.fit) hfr);clear hst hfr HC;go_wp2_with fail;go_meet
        rw [HTT.out];exact HZ.out
      ·
       have ht:(tTextc true iv ci)=false:=by simp [tTextc,h1]
       have h1z:decide ((ci.length:Int)<=70000)=false:=df (by omega);have HTT:=zz ht;have HC:=zz (Ae b va L lim s13 ({x.1 with alg:=al,iv:=iv,cipher:=ci},x.2) _ false 10 (by decide) _ HX.out.rw_);clear ht h1;go_wp2_with fail;refine HC.out.mono ?_;rintro e wz ⟨rfl,hst,hfr⟩;have HZ:=zz (HX.out.step hst (Ac _ _ HX.out.fit) hfr);clear hst hfr HC;go_wp2_with fail;go_meet
       rw [HTT.out];exact HZ.out
    case rest=>
     obtain⟨s14,hs14⟩:∃s14,s14=rMust (tTextc ccm iv ci) 10 s13:=⟨_,rfl⟩
     rw [<-hs14]at hcut;have E14:=zz hs14;replace HX:=zz hcut;clear hs14 hcut HWB;have HC:=zz (AC b va L lim s14 ({x.1 with alg:=al,iv:=iv,cipher:=ci},x.2) _ (n+1) wc HX.out.rw_ HX.out.fit (by have:=HN.out; omega));go_wp2_with fail;refine HC.out.mono ?_;rintro e w16 ⟨rfl,hst,hfr⟩;have hsea:=HX.out.step hst (AH (n:=n) (by have:=HN.out; omega) HX.out.fit) hfr;obtain⟨s15,hs15⟩:∃s15,s15=rOut s14:=⟨_,rfl⟩
     rw [<-hs15]at hsea;have E15:=zz hs15;replace HX:=zz hsea;clear hst hfr hsea hs15 HC;go_wp2_with fail;go_ret;have ht1:rTyp L dataT s1=s3:=by
      unfold rTyp;rw [<-E2.out];exact E3.out.symm
     have hpar:rParams L ccm s6=((iv,sz),s9):=by
      unfold rParams;have ho:rOcts L (tIvc ccm) s6=(iv,s8):=by
       unfold rOcts;rw [<-E7.out];exact Prod.ext rfl E8.out.symm
      rw [ho];exact HPAR.out
     have hc2:rCiph2 L i s5=((i,iv,sz),s10):=by
      unfold rCiph2;rw [<-E6.out,<-HCC.out,hpar];exact Prod.ext rfl E10.out.symm
     have hc:rCiph L s4=((i,iv,sz),s10):=by
      unfold rCiph;rw [<-E5.out];exact hc2
     have hk2:rCont2 L (i,iv,sz) s12=(((i,iv,sz),ci),s14):=by
      unfold rCont2;rw [<-E13.out];refine Prod.ext rfl ?_;show rMust (tText i iv ci) 10 s13=s14;unfold tText;rw [<-HCC.out];exact E14.out.symm
     have hk1:rCont1 L s3=(((i,iv,sz),ci),s14):=by
      unfold rCont1;rw [<-E4.out,hc];show rCont2 L (i,iv,sz) (rSome L (rOut s10))=_;rw [<-E11.out];unfold rSome;rw [<-E12.out];exact hk2
     have hS:rContent L s=(((i,iv,sz),ci),s15):=by
      unfold rContent;rw [show rIn L 0x30 s=s1 from E1.out.symm,ht1,hk1];exact Prod.ext rfl E15.out.symm
     rw [hS];refine⟨rfl,?_⟩;show StepR w b va L lim F s15 ({x.1 with alg:=algsL.getD i 0,iv:=iv,cipher:=ci},x.2) _;rw [<-HAL.out];exact⟨_,HX.out.rw_,HX.out.fs,HX.out.fr⟩
end Go.Proofs.YtpfhollohodcjaaGreatDoor
