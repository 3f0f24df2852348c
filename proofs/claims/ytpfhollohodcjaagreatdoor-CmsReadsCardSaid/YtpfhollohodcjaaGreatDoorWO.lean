import Derived.Test.YtpfhollohodcjaaGreatDoorWN
set_option maxRecDepth 100000
set_option maxHeartbeats 16000000
set_option linter.unusedSimpArgs false
namespace Go.Px.Cm
open E5 Co
theorem AgF.fit{α:Type}{L:List Node}{f:RS->α×RS}{p:P α}{n:Nat}{s:RS}(h:AgF L f p)(hf:Go.Proofs.YtpfhollohodcjaaGreatDoor.FitR L n s):Go.Proofs.YtpfhollohodcjaaGreatDoor.FitR L n (f s).2:=by
 cases s with
 | bad e=>
  rw [show(f (.bad e)).2= .bad e from h.bad e]
  trivial
 | run c=>
  have h1:=h.run c hf.1;cases hp:p c with
  | error e=>
   rw [hp]at h1;rw [show(f (.run c)).2= .bad e from h1]
   trivial
  | ok q=>
   obtain⟨v,c'⟩:=q;rw [hp]at h1;rw [show f (.run c)=(v,.run c')from h1];obtain⟨k1,ts,n2,r,_,k2,k3,_⟩:=h.eats c v c' hp hf.1;refine⟨k1,?_⟩;have:=hf.2;rw [k2]at this;rw [k3];simpa using this
end Go.Px.Cm
namespace Go.Proofs.YtpfhollohodcjaaGreatDoor
open Go.RowKit Go.Px Go.Px.Co Go.Px.Cm
theorem Lin.goX{w0 w w':World}{F0 F:Nat->Prop}{b:Nat}{va:Value}{L:List Px.Node}{lim:Lim}{x y:XV}{n m:Nat}{s s':RS}(h:Lin w0 F0 b va L lim x n s F w)(h1:StepR w b va L lim F s' y w')(h2:FitR L m s'):∃F',Lin w0 F0 b va L lim y m s' F' w':=by
 obtain⟨F',k1,k2,k3⟩:=h1;exact⟨F',k1,h2,fun q hq=>(k2 q hq).elim (h.fs q) (fun y=> .inr (Nat.le_trans h.fr.size y)),h.fr.step h.fs k3⟩
theorem IW {w1 w5:World} {va:Value} {L:List Px.Node} {lim:Lim} {vl:Value} (hvl:vl= .slice (some ⟨w1.heap.size,0,none⟩) 1 1) (ho:Owns w1 90 3 cNode va L) (hw:L.length<=4096/\Wf L) (hfi:Fits L ⟨0,[1]⟩)
  (e:w5=(w1.alloc (.cells #[.int .i64 1] 3)).alloc (.cells (cuCells va vl 0 (rwRest 0 lim (env0,.slice none 0 0) (.slice none 0 0))) 71)):
  Same w1 w5/\(∀q,rwFoot (w1.heap.size+1) vl (.slice none 0 0) q->w1.heap.size<=q)/\Lin w5 (rwFoot (w1.heap.size+1) vl (.slice none 0 0)) (w1.heap.size+1) va L lim (env0,.slice none 0 0) 1 (.run ⟨0,[1]⟩) (rwFoot (w1.heap.size+1) vl (.slice none 0 0)) w5:=by
 subst hvl;obtain⟨wa,hwa⟩:∃wa,wa=w1.alloc (.cells #[.int .i64 1] 3):=⟨_,rfl⟩
 rw [<-hwa]at e;have za:wa.heap.size=w1.heap.size+1:=by rw [hwa]; simp
 have s1:Same w1 wa:=by rw [hwa]; exact fA (fR _ _) _
 have s2:Same wa w5:=by rw [e]; exact fA (fR _ _) _
 have b1:Blk w5 w1.heap.size #[.int .i64 1] 3:=(show Blk wa _ _ _ by rw [hwa]; exact Af w1 _ _).fr s2 (fun y=>y);have b2:Blk w5 (w1.heap.size+1) (cuCells va (.slice (some ⟨w1.heap.size,0,none⟩) 1 1) 0 (rwRest 0 lim (env0,.slice none 0 0) (.slice none 0 0))) 71:=by rw [e,<-za]; exact Af wa _ _
 have hs:Same w1 w5:=s1.trans s2;have hva:∀q,va.ownBlock=some q->q<w1.heap.size:=fun q hq=>ho.lt hq
 refine⟨hs,?_,⟨⟨_,.slice none 0 0,rfl,⟨A4 _ _ _ _,nofun,nofun,(fun _ _ y=>by cases y),rfl⟩,?_⟩,⟨hfi,rfl⟩,Fresh.refl _ _,fR _ _⟩⟩
 ·rintro q ((y | y)| y)
  ·omega
  ·have e1:w1.heap.size=q:=Option.some.inj y;omega
  ·cases y
 ·refine⟨b2,⟨by simp [cNum],.inr ⟨w1.heap.size,1,#[.int .i64 1],rfl,Nat.zero_le _,b1,by simp,by decide,rfl,rfl⟩⟩,fun q hq hq2=>?_,Lies.same (Owns.lies ho AF) hs,fun q hq hq2=>?_,fun q hq hq2=>?_,by simp,hw,fun q hq=>Nat.lt_of_lt_of_le (hva q hq) hs.size⟩
  ·have e1:w1.heap.size=q:=Option.some.inj hq;have e2:w1.heap.size+1=q:=Option.some.inj hq2;omega
  ·have e1:=hva q hq;have e2:w1.heap.size+1=q:=Option.some.inj hq2;omega
  ·have e1:=hva q hq;have e2:w1.heap.size=q:=Option.some.inj hq2;omega
theorem IX(s:Bytes)(lim:Lim)(w:World)(hs:s.length<=140737488355327):
  Calls Tryz.prog 11 #[S s,limV lim] w (GivesE w (Cm.read s lim)):=by
 have HD:=zz (show ∀W,Same w W->Calls Tryz.prog 30 #[S s,limV lim] W (Gives W (R5.decode s lim))from fun W _=>GJ s lim hs W);clear hs;have HR:=zz (show Cm.read s lim=if(R5.decode s lim).2.2≠0 then(Co.zero,(R5.decode s lim).2.2)else readL (R5.decode s lim).1 lim from rfl);have HDD:=zz (fun h:(R5.decode s lim).2.2=0=>Ee h);unfold limV at HD ⊢;go_enter Tryz.func11,Tryz.ntmps11;go_wp2_with fail;refine(HD.out _ (fA (fA (fR _ w) _) _)).mono ?_;rintro e w1 ⟨vo,rfl,ho,hs,hfo⟩;obtain⟨vaa,vac,rfl,_⟩:=ho.len;have b3:Blk w1 w.heap.size #[.int .i64 lim.d,.int .i64 lim.i,.int .i64 lim.b,.int .i64 lim.r] 23:=Blk.fr (Blk.alloc (Af w _ _) _) hs (fun x=>x);have b4:Blk w1 (w.heap.size+1) #[.int .i64 0,.int .i64 0,.slice none 0 0,S [],S [],S [],S [],S [],S []] 27:=by
  have z:=Af (w.alloc (.cells #[.int .i64 lim.d,.int .i64 lim.i,.int .i64 lim.b,.int .i64 lim.r] 23)) #[.int .i64 0,.int .i64 0,.slice none 0 0,S [],S [],S [],S [],S [],S []] 27;have e:(w.alloc (.cells #[.int .i64 lim.d,.int .i64 lim.i,.int .i64 lim.b,.int .i64 lim.r] 23)).heap.size=w.heap.size+1:=by simp
  rw [e]at z;exact Blk.fr z hs (fun x=>x)
 have HS:=zz (show Same w w1 from fT (fA (fA (fR _ w) _) _) hs (fun _ _ x=>x));obtain⟨d,hd⟩:∃d,d=R5.decode s lim:=⟨_,rfl⟩
 rw [<-hd]at HR HDD ho ⊢;have HO:=zz (aN ho hfo);have HB4:=zz b4;have h4l:=b4.lt;have h3l:=b3.lt;have l0:w1.cell? ⟨w.heap.size,0,none⟩=some (.int .i64 lim.d):=b3.cell 0 rfl;have l1:w1.cell? ⟨w.heap.size,1,none⟩=some (.int .i64 lim.i):=b3.cell 1 rfl;have l2:w1.cell? ⟨w.heap.size,2,none⟩=some (.int .i64 lim.b):=b3.cell 2 rfl;have l3:w1.cell? ⟨w.heap.size,3,none⟩=some (.int .i64 lim.r):=b3.cell 3 rfl;clear hd hs ho hfo HD b3 b4;obtain⟨L,pl,er⟩:=d;simp only at HR HDD HO ⊢;by_cases he:er=0
 ·subst he;obtain⟨hr,hfi,hl,hlen,hwf⟩:=HDD.out rfl;obtain⟨vl,hvl⟩:∃vl,vl=Value.slice (some ⟨w1.heap.size,0,none⟩) 1 1:=⟨_,rfl⟩
  obtain⟨va,hva⟩:∃va,va=Value.slice vaa L.length vac:=⟨_,rfl⟩
  rw [<-hva]at HO;go_upto_region 6 with fail
  obtain⟨wS,hw5⟩:∃wS,wS=(w1.alloc (.cells #[.int .i64 1] 3)).alloc (.cells #[.slice vaa L.length vac,.int .i64 0,.slice (some ⟨w1.heap.size,0,none⟩) 1 1,.int .i64 0,.int .i64 lim.d,.int .i64 lim.i,.int .i64 lim.b,.int .i64 lim.r,.int .i64 1,.int .i64 0,.slice none 0 0,S [],S [],S [],S [],S [],S []] 71):=⟨_,rfl⟩
  rw [<-hw5];obtain⟨hs5,hfl,hlin⟩:=IW (lim:=lim) hvl HO.out.1 ⟨hlen,hwf⟩ hfi (show wS=_ from by rw [hw5,hva,hvl]; rfl);obtain⟨b,hbb⟩:∃b,b=w1.heap.size+1:=⟨_,rfl⟩
  rw [<-hbb]at hlin hfl ⊢;obtain⟨F,hF⟩:∃F,F=rwFoot b vl (.slice none 0 0):=⟨_,rfl⟩
  rw [<-hF]at hlin hfl;obtain⟨n,hn⟩:∃n,n=1:=⟨_,rfl⟩
  have HX:=zz (show Lin wS F b va L lim (env0,.slice none 0 0) n (.run ⟨0,[1]⟩) F wS from by rw [hn]; exact hlin);have HN:=zz (show 1<=n/\n<=70 from by omega);have HRT:=zz hr;have HLN:=zz (show ∀a∈L,a.body.length<=140737488355327 from fun a ha=>(hwf a ha).2.2);have HLR:=zz hl.2;have HRB:=zz (show Blk wS (w.heap.size+1) #[.int .i64 0,.int .i64 0,.slice none 0 0,S [],S [],S [],S [],S [],S []] 27 from HB4.out.fr hs5 (fun y=>y));have HNF:=zz (show ¬F (w.heap.size+1)from fun e=>by have:=hfl _ e; omega);have HF5:=zz (aN hfl (aN hs5 h4l));have HFI:=zz (aN hfi hn);have HFB:=zz (show F b from by rw [hF]; exact .inl (.inl rfl));have HFW:=zz (show ∀q,F q->q<w1.heap.size->False from fun q e h=>by have:=hfl q e; omega);have HR2:=zz (show Cm.read s lim=readL L lim from by rw [HR.out,if_neg (fun e=>e rfl)]);clear hr hfi hl hlen hwf hvl hva hw5 hs5 hfl hlin hbb hF hn l0 l1 l2 l3 h4l h3l HR HDD;have HC:=zz (AU b va L lim (.run ⟨0,[1]⟩) (env0,.slice none 0 0) _ 0x30 (n) (by decide) (by decide) wS HX.out.rw_ HX.out.fit (by have:=HN.out; omega) HRT.out);go_wp2_with fail;refine HC.out.mono ?_;rintro e w2 ⟨rfl,hst⟩;obtain⟨F1,hsea,_,_⟩:=HX.out.into hst (AV HRT.out (by decide) (by decide) HX.out.fit);rw [show((0x30:UInt8).toNat)=48 from rfl]at hsea;obtain⟨s1,hs1⟩:∃s1,s1=rIn L 48 (.run ⟨0,[1]⟩):=⟨_,rfl⟩
  rw [<-hs1]at hsea;have E1:=zz hs1;replace HX:=zz hsea;clear hst hsea hs1 HC;have HC:=zz (Az b va L lim s1 (env0,.slice none 0 0) _ 6 (n+1) (by decide) w2 HX.out.rw_ HX.out.fit);go_wp2_with fail;refine HC.out.mono ?_;rintro e w3 ⟨rfl,hst,hfr⟩;have hsea:=HX.out.step hst (AE HRT.out (t:=0x6) (by decide) (by decide) HX.out.fit) hfr;obtain⟨q,hq⟩:∃q,q=rLeaf L 6 s1:=⟨_,rfl⟩
  rw [<-hq]at hsea ⊢;obtain⟨v2,s2⟩:=q;simp only at hsea ⊢;have E2:=zz hq;replace HX:=zz hsea;clear hst hfr hsea hq HC;have HC:=zz (Ae b va L lim s2 (env0,.slice none 0 0) _ (v2==[42,134,72,134,247,13,1,9,16,1,23]) 11 (by decide) w3 HX.out.rw_);go_wp2_with fail;refine HC.out.mono ?_;rintro e w4 ⟨rfl,hst,hfr⟩;have hsea:=HX.out.step hst (Ac _ _ HX.out.fit) hfr;obtain⟨s3,hs3⟩:∃s3,s3=rMust (v2==[42,134,72,134,247,13,1,9,16,1,23]) 11 s2:=⟨_,rfl⟩
  rw [<-hs3]at hsea;have E3:=zz hs3;replace HX:=zz hsea;clear hst hfr hsea hs3 HC;have HC:=zz (AU b va L lim s3 (env0,.slice none 0 0) _ 0xa0 (n+1) (by decide) (by decide) w4 HX.out.rw_ HX.out.fit (by have:=HN.out; omega) HRT.out);go_wp2_with fail;refine HC.out.mono ?_;rintro e w5 ⟨rfl,hst⟩;obtain⟨F4,hsea,_,_⟩:=HX.out.into hst (AV HRT.out (by decide) (by decide) HX.out.fit);rw [show((0xa0:UInt8).toNat)=160 from rfl]at hsea;obtain⟨s4,hs4⟩:∃s4,s4=rIn L 160 s3:=⟨_,rfl⟩
  rw [<-hs4]at hsea;have E4:=zz hs4;replace HX:=zz hsea;clear hst hsea hs4 HC;have HC:=zz (AU b va L lim s4 (env0,.slice none 0 0) _ 0x30 (n+2) (by decide) (by decide) w5 HX.out.rw_ HX.out.fit (by have:=HN.out; omega) HRT.out);go_wp2_with fail;refine HC.out.mono ?_;rintro e w6 ⟨rfl,hst⟩;obtain⟨F5,hsea,_,_⟩:=HX.out.into hst (AV HRT.out (by decide) (by decide) HX.out.fit);rw [show((0x30:UInt8).toNat)=48 from rfl]at hsea;obtain⟨s5,hs5⟩:∃s5,s5=rIn L 48 s4:=⟨_,rfl⟩
  rw [<-hs5]at hsea;have E5:=zz hs5;replace HX:=zz hsea;clear hst hsea hs5 HC;have HC:=zz (Az b va L lim s5 (env0,.slice none 0 0) _ 2 (n+3) (by decide) w6 HX.out.rw_ HX.out.fit);go_wp2_with fail;refine HC.out.mono ?_;rintro e w7 ⟨rfl,hst,hfr⟩;have hsea:=HX.out.step hst (AE HRT.out (t:=0x2) (by decide) (by decide) HX.out.fit) hfr;obtain⟨q,hq⟩:∃q,q=rLeaf L 2 s5:=⟨_,rfl⟩
  rw [<-hq]at hsea ⊢;obtain⟨v6,s6⟩:=q;simp only at hsea ⊢;have E6:=zz hq;replace HX:=zz hsea;clear hst hfr hsea hq HC;have HC:=zz (Ae b va L lim s6 (env0,.slice none 0 0) _ (v6==[0]) 11 (by decide) w7 HX.out.rw_);go_wp2_with fail;refine HC.out.mono ?_;rintro e w8 ⟨rfl,hst,hfr⟩;have hsea:=HX.out.step hst (Ac _ _ HX.out.fit) hfr;obtain⟨s7,hs7⟩:∃s7,s7=rMust (v6==[0]) 11 s6:=⟨_,rfl⟩
  rw [<-hs7]at hsea;have E7:=zz hs7;replace HX:=zz hsea;clear hst hfr hsea hs7 HC;have HIS:=zz (Cx b va L lim s7 (env0,.slice none 0 0) _ 160 (n+3) (by decide) w8 HX.out.rw_ HX.out.fit);go_wp2_with fail;refine HIS.out.mono ?_;rintro e wn7 ⟨rfl,hsd⟩;have hseq:=HX.out.same hsd;obtain⟨p8,hp⟩:∃p,p=rIs L 160 s7:=⟨_,rfl⟩
  rw [<-hp];replace HX:=zz hseq;have Hp8:=zz hp;clear hp hsd hseq HIS;have HC:=zz (Ae b va L lim s7 (env0,.slice none 0 0) _ (!p8) 11 (by decide) wn7 HX.out.rw_);go_wp2_with fail;refine HC.out.mono ?_;rintro e w9 ⟨rfl,hst,hfr⟩;have hsea:=HX.out.step hst (Ac _ _ HX.out.fit) hfr;obtain⟨s8,hs8⟩:∃s8,s8=rMust (!p8) 11 s7:=⟨_,rfl⟩
  rw [<-hs8]at hsea;have E8:=zz hs8;replace HX:=zz hsea;clear hst hfr hsea hs8 HC;have HC:=zz (IU b va L lim s8 (env0,.slice none 0 0) _ (n+3) w9 HX.out.rw_ HX.out.fit (by have:=HN.out; omega) HRT.out HLN.out HLR.out rfl);go_wp2_with fail;refine HC.out.mono ?_;rintro e w10 ⟨rfl,vt,hst⟩;have hfit:FitR L (n+3) (rOut (rRecips L lim (rIn L 49 s8)).2):=AgF.fit ((Gs HRT.out HLR.out).inn HRT.out (t:=0x31) (by decide) (by decide)) HX.out.fit;obtain⟨F9,hsea⟩:=HX.out.goX hst hfit;obtain⟨q,hq⟩:∃q,q=rRecips L lim (rIn L 49 s8):=⟨_,rfl⟩
  rw [<-hq]at hsea;obtain⟨rs,sr⟩:=q;obtain⟨s9,hs9⟩:∃s9,s9=rOut sr:=⟨_,rfl⟩
  replace hsea:Lin wS F b va L lim ({env0 with «to» :=rs},vt) (n+3) (rOut sr) F9 w10:=hsea;rw [<-hs9]at hsea;have ER:=zz hq;have E9:=zz hs9;replace HX:=zz hsea;clear hst hfit hsea hq hs9 HC;have HC:=zz (H8 b va L lim s9 ({env0 with «to» :=rs},vt) _ (n+3) w10 HX.out.rw_ HX.out.fit (by have:=HN.out; omega) HRT.out);go_wp2_with fail;refine HC.out.mono ?_;rintro e w11 ⟨rfl,hst⟩;have hfit:FitR L (n+3) (rContent L s9).2:=AgF.fit (FB HRT.out) HX.out.fit;obtain⟨F10,hsea⟩:=HX.out.goX hst hfit;obtain⟨q,hq⟩:∃q,q=rContent L s9:=⟨_,rfl⟩
  rw [<-hq]at hsea ⊢;obtain⟨⟨⟨i,iv,sz⟩,ci⟩,s10⟩:=q;replace hsea:Lin wS F b va L lim ({env0 with «to» :=rs,alg:=algsL.getD i 0,iv:=iv,cipher:=ci},vt) (n+3) s10 F10 w11:=hsea;simp only;have E10:=zz hq;replace HX:=zz hsea;clear hst hfit hsea hq HC;have HC:=zz (IV b va L lim s10 ({env0 with «to» :=rs,alg:=algsL.getD i 0,iv:=iv,cipher:=ci},vt) _ (n+3) w11 HX.out.rw_ HX.out.fit (by have:=HN.out; omega) HRT.out rfl);go_wp2_with fail;refine HC.out.mono ?_;rintro e w12 ⟨rfl,hst⟩;have hfit:FitR L (n+3) (rBeside L s10).2:=AgF.fit (Gt HRT.out) HX.out.fit;obtain⟨F11,hsea⟩:=HX.out.goX hst hfit;obtain⟨q,hq⟩:∃q,q=rBeside L s10:=⟨_,rfl⟩
  rw [<-hq]at hsea;obtain⟨hd,s11⟩:=q;replace hsea:Lin wS F b va L lim ({env0 with «to» :=rs,alg:=algsL.getD i 0,iv:=iv,cipher:=ci,header:=hd},vt) (n+3) s11 F11 w12:=hsea;have E11:=zz hq;replace HX:=zz hsea;clear hst hfit hsea hq HC;have HC:=zz (Az b va L lim s11 ({env0 with «to» :=rs,alg:=algsL.getD i 0,iv:=iv,cipher:=ci,header:=hd},vt) _ 4 (n+3) (by decide) w12 HX.out.rw_ HX.out.fit);go_wp2_with fail;refine HC.out.mono ?_;rintro e w13 ⟨rfl,hst,hfr⟩;have hsea:=HX.out.step hst (AE HRT.out (t:=0x4) (by decide) (by decide) HX.out.fit) hfr;obtain⟨q,hq⟩:∃q,q=rLeaf L 4 s11:=⟨_,rfl⟩
  rw [<-hq]at hsea ⊢;obtain⟨tg,s12⟩:=q;simp only at hsea ⊢;have E12:=zz hq;replace HX:=zz hsea;clear hst hfr hsea hq HC;have kx:=HX.out.rw_.cellX 8 (v:=S []) rfl;obtain⟨k8,f8⟩:=kx;replace k8:w13.cell? ⟨b,16,none⟩=some (S []):=k8;replace f8:w13.frozen? ⟨b,16,none⟩=false:=f8;have bx:=World.block_lt_of_cell? _ _ k8;simp only at bx;replace HX:=zz (HX.out.setX (y:= {env0 with «to» :=rs,alg:=algsL.getD i 0,iv:=iv,cipher:=ci,header:=hd,tag:=tg}) 8 (S tg) (by decide) rfl rfl);have HC:=zz (Ae b va L lim s12 ({env0 with «to» :=rs,alg:=algsL.getD i 0,iv:=iv,cipher:=ci,header:=hd,tag:=tg},vt) _ (((tg.length:Nat):Int)==((sz:Nat):Int)) 9 (by decide) (w13.setCell ⟨b,16,none⟩ (S tg)) HX.out.rw_);go_wp2_with fail;refine HC.out.mono ?_;rintro e w14 ⟨rfl,hst,hfr⟩;have hsea:=HX.out.step hst (Ac _ _ HX.out.fit) hfr;obtain⟨s13,hs13⟩:∃s13,s13=rMust (((tg.length:Nat):Int)==((sz:Nat):Int)) 9 s12:=⟨_,rfl⟩
  rw [<-hs13]at hsea;have E13:=zz hs13;replace HX:=zz hsea;clear hst hfr hsea hs13 HC;clear k8 f8 bx;have HIS:=zz (Cx b va L lim s13 ({env0 with «to» :=rs,alg:=algsL.getD i 0,iv:=iv,cipher:=ci,header:=hd,tag:=tg},vt) _ 162 (n+3) (by decide) w14 HX.out.rw_ HX.out.fit);go_wp2_with fail;refine HIS.out.mono ?_;rintro e wn13 ⟨rfl,hsd⟩;have hseq:=HX.out.same hsd;obtain⟨p14,hp⟩:∃p,p=rIs L 162 s13:=⟨_,rfl⟩
  rw [<-hp];replace HX:=zz hseq;have Hp14:=zz hp;clear hp hsd hseq HIS;have HC:=zz (Ae b va L lim s13 ({env0 with «to» :=rs,alg:=algsL.getD i 0,iv:=iv,cipher:=ci,header:=hd,tag:=tg},vt) _ (!p14) 11 (by decide) wn13 HX.out.rw_);go_wp2_with fail;refine HC.out.mono ?_;rintro e w15 ⟨rfl,hst,hfr⟩;have hsea:=HX.out.step hst (Ac _ _ HX.out.fit) hfr;obtain⟨s14,hs14⟩:∃s14,s14=rMust (!p14) 11 s13:=⟨_,rfl⟩
  rw [<-hs14]at hsea;have E14:=zz hs14;replace HX:=zz hsea;clear hst hfr hsea hs14 HC;have HC:=zz (AC b va L lim s14 ({env0 with «to» :=rs,alg:=algsL.getD i 0,iv:=iv,cipher:=ci,header:=hd,tag:=tg},vt) _ (n+3) w15 HX.out.rw_ HX.out.fit (by have:=HN.out; omega));go_wp2_with fail;refine HC.out.mono ?_;rintro e w16 ⟨rfl,hst,hfr⟩;have hsea:=HX.out.step hst (AH (n:=n+2) (by have:=HN.out; omega) HX.out.fit) hfr;obtain⟨s15,hs15⟩:∃s15,s15=rOut s14:=⟨_,rfl⟩
  rw [<-hs15]at hsea;have E15:=zz hs15;replace HX:=zz hsea;clear hst hfr hsea hs15 HC;have HC:=zz (AC b va L lim s15 ({env0 with «to» :=rs,alg:=algsL.getD i 0,iv:=iv,cipher:=ci,header:=hd,tag:=tg},vt) _ (n+2) w16 HX.out.rw_ HX.out.fit (by have:=HN.out; omega));go_wp2_with fail;refine HC.out.mono ?_;rintro e w17 ⟨rfl,hst,hfr⟩;have hsea:=HX.out.step hst (AH (n:=n+1) (by have:=HN.out; omega) HX.out.fit) hfr;obtain⟨s16,hs16⟩:∃s16,s16=rOut s15:=⟨_,rfl⟩
  rw [<-hs16]at hsea;have E16:=zz hs16;replace HX:=zz hsea;clear hst hfr hsea hs16 HC;have HC:=zz (AC b va L lim s16 ({env0 with «to» :=rs,alg:=algsL.getD i 0,iv:=iv,cipher:=ci,header:=hd,tag:=tg},vt) _ (n+1) w17 HX.out.rw_ HX.out.fit (by have:=HN.out; omega));go_wp2_with fail;refine HC.out.mono ?_;rintro e w18 ⟨rfl,hst,hfr⟩;have hsea:=HX.out.step hst (AH (n:=n) (by have:=HN.out; omega) HX.out.fit) hfr;obtain⟨s17,hs17⟩:∃s17,s17=rOut s16:=⟨_,rfl⟩
  rw [<-hs17]at hsea;have E17:=zz hs17;replace HX:=zz hsea;clear hst hfr hsea hs17 HC;have hlk:(((tg.length:Nat):Int)==((sz:Nat):Int))=(tg.length==sz):=by
   by_cases e:tg.length=sz
   ·rw [e]; simp
   ·rw [bn e,bn (by omega)]
  have h1:rTyp L sealedT s1=s3:=by
   unfold rTyp;rw [<-E2.out];exact E3.out.symm
  have h2:rVer L [0] s5=s7:=by
   unfold rVer;rw [<-E6.out];exact E7.out.symm
  have h5:rB5 L rs ((i,iv,sz),ci) hd s11=(envOf rs ((i,iv,sz),ci) hd tg,s14):=by
   unfold rB5;have ho:rOcts L (fun b=>b.length==sz) s11=(tg,s13):=by
    unfold rOcts;rw [<-E12.out];refine Prod.ext rfl ?_;show rMust (tg.length==sz) 9 s12=s13;rw [<-hlk];exact E13.out.symm
   show(envOf rs ((i,iv,sz),ci) hd (rOcts L (fun b=>b.length==sz) s11).1,rMust (!rIs L 0xa2 (rOcts L (fun b=>b.length==sz) s11).2) 11 (rOcts L (fun b=>b.length==sz) s11).2)=_;rw [ho];refine Prod.ext rfl ?_;show rMust (!rIs L 162 s13) 11 s13=s14;rw [<-Hp14.out];exact E14.out.symm
  have h4:rB4 L rs ((i,iv,sz),ci) s10=(envOf rs ((i,iv,sz),ci) hd tg,s14):=by
   unfold rB4;rw [<-E11.out];exact h5
  have h3:rB3 L rs s9=(envOf rs ((i,iv,sz),ci) hd tg,s14):=by
   unfold rB3;rw [<-E10.out];exact h4
  have h2b:rB2 L lim s8=(envOf rs ((i,iv,sz),ci) hd tg,s14):=by
   unfold rB2;rw [show rRecips L lim (rIn L 0x31 s8)=(rs,sr)from ER.out.symm];show rB3 L rs (rOut sr)=_;rw [<-E9.out];exact h3
  have h1b:rB1 L lim s5=(envOf rs ((i,iv,sz),ci) hd tg,s14):=by
   unfold rB1;rw [h2];show rB2 L lim (rMust (!rIs L 160 s7) 11 s7)=_;rw [<-Hp8.out,<-E8.out];exact h2b
  have hb:rBody L lim s4=(envOf rs ((i,iv,sz),ci) hd tg,s15):=by
   unfold rBody;rw [show rIn L 0x30 s4=s5 from E5.out.symm,h1b];exact Prod.ext rfl E15.out.symm
  have hw:rWhole L lim (.run ⟨0,[1]⟩)=(envOf rs ((i,iv,sz),ci) hd tg,s17):=by
   unfold rWhole;rw [show rIn L 0x30 (.run ⟨0,[1]⟩)=s1 from E1.out.symm,h1,show rIn L 0xa0 s3=s4 from E4.out.symm,hb];refine Prod.ext rfl ?_;show rOut (rOut s15)=s17;rw [<-E16.out];exact E17.out.symm
  have HEND:=zz hw;clear hlk h1 h2 h5 h4 h3 h2b h1b hb hw;obtain⟨c3,f3,hbl3⟩:=HX.out.rw_.errCell;obtain⟨r0,r1,r2,r3,r4,r5,r6,r7,r8,d0,d1,d2,d3,d4,d5,d6,d7,d8⟩:=AT (show Blk w18 (w.heap.size+1) #[.int .i64 0,.int .i64 0,.slice none 0 0,S [],S [],S [],S [],S [],S []] 27 from HRB.out.fr HX.out.fr HNF.out);have hbl0:=Blk.lt (show Blk w18 (w.heap.size+1) #[.int .i64 0,.int .i64 0,.slice none 0 0,S [],S [],S [],S [],S [],S []] 27 from HRB.out.fr HX.out.fr HNF.out);have hne:¬b=w.heap.size+1:=fun e=>HNF.out (by rw [<-e]; exact HFB.out)
  have hne2:¬w.heap.size+1=b:=fun e=>hne e.symm
  have HSM:=zz (show Same w w18 from by
   have h1:=HF5.out.2.1;have h2:=HX.out.fr;have h3:=HS.out;exact sT h3 ⟨h2.os.trans h1.os,h2.tape.trans h1.tape,h2.output.trans h1.output,Nat.le_trans h1.size h2.size,fun q hq _=>(h2.block q (Nat.lt_of_lt_of_le hq h1.size) (fun e=>HFW.out q e hq)).trans (h1.block q hq (fun y=>y))⟩)
  cases s17 with
  | bad en=>
   have hen:en≠0:=by
    obtain⟨vl,vto,_,_,hn,_⟩:=HX.out.rw_;exact hn
   have henz:(errOf (.bad en) !=0)=true:=by rw [bne_iff_ne]; exact hen
   have HZ:=zz (show Cm.read s lim=(Co.zero,en)from by
    rw [HR2.out,<-Ji HRT.out HLR.out HFI.out.1];unfold rReadL;rw [HEND.out])
   clear hen;go_wp2_with fail;go_region
   all_goals
    go_wp2;refine bodyPost_ret (v:= .tuple #[.agg #[.int .i64 0,.int .i64 0,.slice none 0 0,S [],S [],S [],S [],S [],S []],.int .i64 en]) (by simp [results,Tryz.results11,go_sem,errOf, *]) rfl (CS HZ.out ?_);refine fD ?_
    repeat' first
     | refine fC ?_ (.inr (by dsimp only; omega)) _
     | exact HSM.out
  | run c17=>
   have henz:(errOf (.run c17) !=0)=false:=rfl;have HZ:=zz (show Cm.read s lim=(envOf rs ((i,iv,sz),ci) hd tg,0)from by
    rw [HR2.out,<-Ji HRT.out HLR.out HFI.out.1];unfold rReadL;rw [HEND.out])
   obtain⟨vl,vto,hF,hta,_⟩:=HX.out.rw_;have hve:vto=vt:=hta.eq;subst hve;obtain⟨vta,vtc,hvt,_⟩:=hta.own.len;have HVT:=zz (aN hta.own (aN hvt (show ∀q,vto.ownBlock=some q->w1.heap.size<=q/\q<w18.heap.size from fun q hq=>by
    refine⟨?_,hta.own.lt hq⟩;rcases HX.out.fs q (by rw [hF]; exact .inr hq)with e | e
    ·exact HF5.out.1 q e
    ·exact Nat.le_trans HF5.out.2.1.size e)))
   obtain⟨e0,_⟩:=HX.out.rw_.cellX 0 (v:= .int .i64 1) rfl;obtain⟨e1,_⟩:=HX.out.rw_.cellX 1 (v:= .int .i64 (algsL.getD i 0)) rfl;obtain⟨e2,_⟩:=HX.out.rw_.cellX 2 (v:=vto) rfl;obtain⟨e3,_⟩:=HX.out.rw_.cellX 3 (v:=S hd) rfl;obtain⟨e4,_⟩:=HX.out.rw_.cellX 4 (v:=S []) rfl;obtain⟨e5,_⟩:=HX.out.rw_.cellX 5 (v:=S []) rfl;obtain⟨e6,_⟩:=HX.out.rw_.cellX 6 (v:=S iv) rfl;obtain⟨e7,_⟩:=HX.out.rw_.cellX 7 (v:=S ci) rfl;obtain⟨e8,_⟩:=HX.out.rw_.cellX 8 (v:=S tg) rfl;rw [hvt]at e2;replace e0:w18.cell? ⟨b,8,none⟩=some (.int .i64 1):=e0;replace e1:w18.cell? ⟨b,9,none⟩=some (.int .i64 (algsL.getD i 0)):=e1;replace e2:w18.cell? ⟨b,10,none⟩=some (.slice vta rs.length vtc):=e2;replace e3:w18.cell? ⟨b,11,none⟩=some (S hd):=e3;replace e4:w18.cell? ⟨b,12,none⟩=some (S []):=e4;replace e5:w18.cell? ⟨b,13,none⟩=some (S []):=e5;replace e6:w18.cell? ⟨b,14,none⟩=some (S iv):=e6;replace e7:w18.cell? ⟨b,15,none⟩=some (S ci):=e7;replace e8:w18.cell? ⟨b,16,none⟩=some (S tg):=e8;obtain⟨al,hal⟩:∃al,al=algsL.getD i 0:=⟨_,rfl⟩
   rw [<-hal]at e1;have HAL:=zz hal;clear hF hta hvt hal;go_wp2;refine bodyPost_ret (v:= .tuple #[.agg #[.int .i64 1,.int .i64 al,.slice vta rs.length vtc,S hd,S [],S [],S iv,S ci,S tg],.int .i64 0]) (by simp [results,Tryz.results11,go_sem, *]) rfl ?_;rw [HZ.out];refine⟨.slice vta rs.length vtc,?_,?_,?_,fun g hg=>?_,vta,vtc,rfl⟩
   ·rw [HAL.out];rfl
   ·have ho:=HVT.out.1;rw [HVT.out.2.1]at ho;refine Owns.fr ho (F:=fun j=>j=w.heap.size+1) ?_ (fun k e y=>?_)
    ·repeat' first
      | refine fC (F:=fun j=>j=w.heap.size+1) ?_ (.inl rfl) _
      | exact fR _ _
    ·have:=(HVT.out.2.2 k (by rw [HVT.out.2.1]; exact e)).1;have:=HF5.out.2.2;omega
   ·repeat' first
     | refine fC ?_ (.inr (by dsimp only; omega)) _
     | exact HSM.out
   ·have:=(HVT.out.2.2 g (by rw [HVT.out.2.1]; exact hg)).1;have:=HS.out.size;omega
 ·have hez:(er !=0)=true:=by rw [bne_iff_ne]; exact he
  have HR2:Hid (Cm.read s lim=(Co.zero,er)):=zz (by rw [HR.out,if_pos he]);obtain⟨c0,c1,c2,c3,c4,c5,c6,c7,c8,d0,d1,d2,d3,d4,d5,d6,d7,d8⟩:=AT HB4.out;clear HR HDD he;go_wp2;refine bodyPost_ret (v:= .tuple #[.agg #[.int .i64 0,.int .i64 0,.slice none 0 0,S [],S [],S [],S [],S [],S []],.int .i64 er]) (by simp [results,Tryz.results11,go_sem, *]) rfl (CS HR2.out ?_)
  repeat' first
   | refine fC ?_ (.inr (by dsimp only; omega)) _
   | exact HS.out
end Go.Proofs.YtpfhollohodcjaaGreatDoor
