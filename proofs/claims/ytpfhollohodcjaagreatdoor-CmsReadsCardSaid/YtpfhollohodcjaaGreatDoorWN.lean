import Derived.Test.YtpfhollohodcjaaGreatDoorWI
import Derived.Test.YtpfhollohodcjaaGreatDoorWJ
import Derived.Test.YtpfhollohodcjaaGreatDoorWJ
import Derived.Test.YtpfhollohodcjaaGreatDoorWM
set_option maxRecDepth 100000
set_option maxHeartbeats 16000000
set_option linter.unusedSimpArgs false
namespace Go.Px.Cm
open E5 Co
theorem Ka{L:List Node}{s:RS}(h:rIs L 161 s=false):rBeside L s=([],s):=by
 cases s with
 | bad e=>rfl
 | run c=>
  have h2:(peek L c==161)=false:=h;exact if_neg (beq_eq_false_iff_ne.1 h2)
theorem Lj{L:List Node}{c l1:Cu}{k:Nat}(hp:peek L c=161)(hk:k=(L.getD c.at_ nz).kids.toNat)(hl:l1=⟨c.at_+1,k::dec c.left⟩):rBeside L (.run c)=rHead L c.at_ (rOut (rAttrN L k (rMust (decide (0<k)) 9 (.run l1)))):=by
 have hT:Cm.take L 161 c= .ok ((L.getD c.at_ nz).body,⟨c.at_+1,dec c.left⟩):=if_pos hp;have hi:rIn L 161 (.run c)= .run l1:=by
  rw [hl,hk];show(match Cm.take L 161 c with | .ok (_,c')=>RS.run ⟨c'.at_,(L.getD c.at_ nz).kids.toNat::c'.left⟩| .error e=>RS.bad e)=_;rw [hT]
 have hc:cntOf (.run l1)=k:=by
  rw [hl];rfl
 show(if peek L c=0xa1 then rHead L c.at_ (rOut (rAttrN L (cntOf (rIn L 0xa1 (.run c))) (rMust (decide (0<cntOf (rIn L 0xa1 (.run c)))) 9 (rIn L 0xa1 (.run c)))))else([],.run c))=_;rw [if_pos hp,show rIn L 0xa1 (.run c)= .run l1 from hi,hc]
theorem Mt{t:RS}{c':Cu}(e:rMust (isBad t || decide (0<cntOf t)) 9 t= .run c'):c'.left.headD 0=cntOf t:=by
 cases t with
 | bad e'=>cases e
 | run c=>
  by_cases h:0<cntOf (.run c)
  ·rw [dt h]at e;have e2:RS.run c= .run c':=e;cases e2;rfl
  ·rw [df h]at e;cases e
end Go.Px.Cm
namespace Go.Proofs.YtpfhollohodcjaaGreatDoor
open Go.RowKit Go.Px Go.Px.Co Go.Px.Cm
theorem Jt{x:XV}(h:x.1.header=[]):x=(({x.1 with header:=[]}:Co.Env),x.2):=by
 obtain⟨⟨a1,a2,a3,a4,a5,a6,a7,a8,a9⟩,v⟩:=x;simp only at h;subst h;rfl
theorem Lk{c:Cu}(h:c.left.headD 0=0):rOut (.run c)= .run ⟨c.at_,c.left.tail⟩:=by
 show(match c.left with | (_+1)::_=>RS.bad 9 | _=>RS.run ⟨c.at_,c.left.tail⟩)=_;cases hk:c.left with
 | nil=>rfl
 | cons a r=>
  rw [hk]at h;have h0:a=0:=h;subst h0;rfl
theorem Ll{α:Type}{w:World}{sz b off n cap:Nat}{c:α->List Value}{l:List α}(h:Lies w sz c (.slice (some ⟨b,off,none⟩) n cap) l)(hc:∀a,(c a).length=sz)(hs:0<sz):∀j u,(l.flatMap c)[j]?=some u->w.cell? ((⟨b,off,none⟩:Addr).add j)=some u:=fun j u hu=>by
 obtain⟨y,h2,h3⟩:=Fc hc hs _ j u hu;obtain⟨b',off',cap3,hv3,_,hcell⟩:=h.cell _ y h2;simp only [Value.slice.injEq,Option.some.injEq,Addr.mk.injEq,and_true]at hv3;obtain⟨⟨rfl,rfl⟩,_⟩:=hv3;have:=hcell _ u h3;have e:j / sz*sz+j % sz=j:=by rw [Nat.mul_comm]; exact Nat.div_add_mod j sz
 rw [e]at this;have hadd:(⟨b,off,none⟩:Addr).add j=⟨b,off+j,none⟩:=by unfold Addr.add; split<;>simp_all
 rw [hadd];exact this
theorem CuRep.dec{T:TypeId}{rs:List Value}{w:World}{b:Nat}{va:Value}{L:List Px.Node}{k:Cu}{n:Nat}{r:List Nat}{g cap:Nat}(h:CuRep T rs w b va L k (.slice (some ⟨g,0,none⟩) (r.length+1) cap))(hk:k.left=(n+1)::r):
  CuRep T rs (w.setCell ⟨g,r.length,none⟩ (.int .i64 (n:Nat))) b va L ⟨k.at_,n::r⟩ (.slice (some ⟨g,0,none⟩) (r.length+1) cap):=by
 have hgb:¬b=g:=fun e=>h.lb g rfl (by rw [e])
 have hva:∀q,va.ownBlock=some q->¬q=g:=fun q hq e=>h.al q hq (by rw [e]; rfl)
 refine⟨?_,?_,h.lb,?_,h.ab,h.al,by simp,h.wf,fun q e=>by simpa [World.setCell] using h.al2 q e⟩
 ·exact h.blk.other (p:=⟨g,r.length,none⟩) (.int .i64 (n:Nat)) hgb
 ·have h':=h.own;rw [hk,List.reverse_cons,<- @List.length_reverse _ r]at h';have q:=h'.setLast (b:=n) Bk 0 (.int .i64 (n:Nat)) rfl;rw [List.length_reverse,Nat.mul_one,Nat.add_zero]at q;rw [show(⟨k.at_,n::r⟩:Cu).left.reverse=r.reverse++ [n]from List.reverse_cons];exact q
 ·exact Lies.keepF (F:=fun q=>q=g) h.lies (A9 (w:=w) g r.length _) hva
theorem CuRep.move{T:TypeId}{rs:List Value}{w:World}{b:Nat}{va vl:Value}{L:List Px.Node}{k:Cu}(h:CuRep T rs w b va L k vl)(y:Nat):
  CuRep T rs (w.setCell ⟨b,1,none⟩ (.int .i64 ((y:Nat):Int))) b va L ⟨y,k.left⟩ vl:=by
 refine⟨?_,h.own.setCell (p:=⟨b,1,none⟩) h.lb.ne _,h.lb,?_,h.ab,h.al,h.ne,h.wf,fun q e=>by simpa [World.setCell] using h.al2 q e⟩
 ·have q:=h.blk.set 1 (.int .i64 ((y:Nat):Int));rw [show(cuCells va vl k.at_ rs).setIfInBounds 1 (.int .i64 ((y:Nat):Int))=cuCells va vl y rs by simp [cuCells]]at q;exact q
 ·exact Lies.keepF (F:=fun q=>q=b) h.lies (A9 (w:=w) b 1 _) (fun q hq e=>h.ab q hq (by rw [e]))
theorem IV(b:Nat)(va:Value)(L:List Px.Node)(lim:Lim)(s:RS)(x:XV)(F:Nat->Prop)(n:Nat)(w:World)(h:RW w b va L lim s x F)(hf:FitR L n s)(hn:1<=n/\n<=80)(hr:∀a∈L,E5.right a=true)(hx0:x.1.header=[]):
  Calls Tryz.prog 37 #[.pointer (some ⟨b,0,none⟩)] w fun e w'=>e= .returned (.tuple #[])/\StepR w b va L lim F (rBeside L s).2 ({x.1 with header:=(rBeside L s).1},x.2) w':=by
 cases hb:rIs L 161 s with
 | false=>
  have HB:=zz (Ka hb);have HIS:=zz (Cx b va L lim s x F 0xa1 n (by decide) w h hf);rw [hb]at HIS;have HE:=zz h;have HXE:=zz (Jt hx0);clear h hf hb hx0;go_enter Tryz.func37,Tryz.ntmps37;go_wp2_with fail;refine HIS.out.mono ?_;rintro e w1 ⟨rfl,hs⟩;have HS:=zz hs;clear hs HIS;go_wp2_with fail;refine bodyPost_ret (v:= .tuple #[]) (results_none rfl _ _ _) rfl ?_;rw [HB.out];refine⟨rfl,F,?_,Aa _ _,HS.out.fr F⟩;show RW w1 b va L lim s ({x.1 with header:=[]},x.2) F;rw [<-HXE.out];exact HE.out.same HS.out
 | true=>
  obtain⟨c,rfl,hp⟩:=Ga hb;have HIS:=zz (Cx b va L lim (.run c) x F 0xa1 n (by decide) w h hf);rw [hb]at HIS;have HXE:=zz (Jt hx0);have HX:=zz (show Lin w F b va L lim x n (.run c) F w from⟨h,hf,Fresh.refl _ _,fR _ _⟩);have HN:=zz hn;have HRT:=zz hr;have HP:=zz hp;have HFI:=zz hf.1;obtain⟨k,hk⟩:∃k,k=(L.getD c.at_ nz).kids.toNat:=⟨_,rfl⟩
  obtain⟨l1,hl1⟩:∃l1:Cu,l1=⟨c.at_+1,k::E5.dec c.left⟩:=⟨_,rfl⟩
  have HBS:=zz (Lj hp hk hl1);have HIN:=zz (fun c4=>Lc (c4:=c4) hr hf.1 hp hk);have HL1:=zz (aN hl1 (show rIn L 161 (.run c)= .run l1 by rw [hl1,hk]; exact MG hp));have HK:=zz hk;clear h hf hn hr hp hb hx0 hk hl1;go_enter Tryz.func37,Tryz.ntmps37;go_wp2_with fail;refine HIS.out.mono ?_;rintro e wi ⟨rfl,hsi⟩;replace HX:=zz (HX.out.same hsi);obtain⟨vl0,vto0,_,_,hs0⟩:=HX.out.rw_;have hrep0:CuRep 71 (rwRest 0 lim x vto0) wi b va L c vl0:=hs0;obtain⟨_,c1,_⟩:=hrep0.cells;obtain⟨a0,ha0⟩:∃a0,a0=c.at_:=⟨_,rfl⟩
  rw [<-ha0]at c1;have HA0:=zz ha0;clear hsi HIS hs0 hrep0 ha0;have HC:=zz (AU b va L lim (.run c) x _ 0xa1 (n) (by decide) (by decide) wi HX.out.rw_ HX.out.fit (by have:=HN.out; omega) HRT.out);go_wp2_with fail;refine HC.out.mono ?_;rintro e w2 ⟨rfl,hst⟩;obtain⟨F1,hsea,_,_⟩:=HX.out.into hst (AV HRT.out (by decide) (by decide) HX.out.fit);rw [show((0xa1:UInt8).toNat)=161 from rfl]at hsea;obtain⟨s1,hs1⟩:∃s1,s1=rIn L 161 (.run c):=⟨_,rfl⟩
  rw [<-hs1]at hsea;have E1:=zz hs1;replace HX:=zz hsea;clear hst hsea hs1 HC;clear c1;rw [HL1.out.2]at E1;have e1:=E1.out;subst e1;have HLF:=zz (A2 b va L lim l1 x _ w2 HX.out.rw_);rw [show l1.left.headD 0=k by rw [HL1.out.1]; rfl]at HLF;obtain⟨d,hd⟩:∃d,d=decide (0<k):=⟨_,rfl⟩
  have hdn:decide (0<k)=d:=hd.symm;have hdz:decide ((0:Int)<(k:Int))=d:=by
   rw [hd];by_cases h:0<k
   ·rw [dt h,dt (by omega)]
   ·rw [df h,df (by omega)]
  have HD:=zz hd;clear hd;go_wp2_with fail;refine HLF.out.mono ?_;rintro e wy ⟨rfl,kk,rfl⟩;clear HLF;have HC:=zz (Ae b va L lim (.run l1) x _ d 9 (by decide) (w2.drewN kk) (HX.out.rw_.same ((fR _ w2).drewN kk)));go_wp2_with fail;refine HC.out.mono ?_;rintro e w3 ⟨rfl,hst,hfr⟩;obtain⟨s2,hs2⟩:∃s2,s2=rMust d 9 (.run l1):=⟨_,rfl⟩
  have hsea:=(HX.out.same ((fR _ w2).drewN kk)).step hst (Ac _ _ HX.out.fit) hfr;rw [<-hs2]at hsea;replace HX:=zz hsea;have HCN:=zz (show ∀c',s2= .run c'->c'.left.headD 0=k from fun c' e=>by
   rw [hs2]at e;cases d with
   | true=>
    have e2:RS.run l1= .run c':=e;cases e2;rw [HL1.out.1];rfl
   | false=>cases e)
  have HBS2:=zz (show rBeside L (.run c)=rHead L c.at_ (rOut (rAttrN L k s2))from by rw [hs2,HD.out]; exact HBS.out);have HIN2:=zz (show ∀c4,rOut (rAttrN L k s2)= .run c4->inn L 0xa1 (attrP L) c= .ok ((),c4)from fun c4 e=>HIN.out c4 (by rw [<-HL1.out.1,<-HD.out,<-hs2]; exact e));clear hst hfr hsea hs2 HC hdn hdz;go_wp2_with fail;go_loopg [22] (k+1) (fun gk _ wr=>∃(m:Nat) (s':RS) (F':Nat->Prop),m<gk/\Lin w F b va L lim x (n+1) s' F' wr/\(∀c',s'= .run c'->c'.left.headD 0=m)/\rAttrN L k s2=rAttrN L m s')
  case atStart=>exact⟨k,s2,_,Nat.lt_succ_self _,HX.out,HCN.out,rfl⟩
  case round=>
   obtain⟨m,s',F',hgk,hlin,hcn,heq⟩:=hrel;clear HX;have HX:=zz hlin;have HGK:=zz hgk;have HEQ:=zz heq;obtain⟨c3,f3,hbl3⟩:=hlin.rw_.errCell;clear hlin hgk heq HCN;cases s' with
   | bad en=>
    have hen:en≠0:=by
     obtain⟨vl,vto,_,_,hn,_⟩:=HX.out.rw_;exact hn
    have hez:(errOf (.bad en)==0)=false:=bn hen;have henz:(en !=0)=true:=by rw [bne_iff_ne]; exact hen
    have HO:=zz (AC b va L lim (.bad en) x F' (n+1) wr HX.out.rw_ trivial (by have:=HN.out; omega));have HB:=zz (HBS2.out.trans (by rw [HEQ.out,Da]; rfl:_=(([]:Bytes),RS.bad en)));clear hcn hen;go_wp2_with fail;refine HO.out.mono ?_;rintro e w5 ⟨rfl,hst,hfr⟩;replace hst:RW w5 b va L lim (.bad en) x F':=hst;obtain⟨c5,_,_⟩:=hst.errCell;replace c5:w5.cell? ⟨b,3,none⟩=some (.int .i64 en):=c5;have HZ:=zz (HX.out.step (m:=n) hst trivial hfr);clear hst hfr HO c3 f3;go_wp2_with fail;refine bodyPost_ret (v:= .tuple #[]) (results_none rfl _ _ _) rfl ?_;rw [HB.out];refine⟨rfl,F',?_,HZ.out.fs,HZ.out.fr⟩;show RW w5 b va L lim (.bad en) ({x.1 with header:=[]},x.2) F';rw [<-HXE.out];exact HZ.out.rw_
   | run c'=>
    replace c3:wr.cell? ⟨b,3,none⟩=some (.int .i64 0):=c3;have hez:(errOf (.run c')==0)=true:=rfl;have hm:=hcn c' rfl;have HLF:=zz (A2 b va L lim c' x F' wr HX.out.rw_);rw [hm]at HLF;have HM:=zz hm;clear hcn hm;cases m with
    | zero=>
    have HC4:=zz (Lk HM.out);obtain⟨c4,hc4⟩:∃c4:Cu,c4=⟨c'.at_,c'.left.tail⟩:=⟨_,rfl⟩
    rw [<-hc4]at HC4;have HII:=zz (HIN2.out c4 (by rw [HEQ.out]; exact HC4.out));have HB:=zz (HBS2.out.trans (by rw [HEQ.out]; show rHead L c.at_ (rOut (.run c'))=rHead L c.at_ (.run c4); rw [HC4.out]:_=rHead L c.at_ (.run c4)));have HO:=zz (fun kk=>AC b va L lim (.run c') x F' (n+1) (wr.drewN kk) (HX.out.rw_.same ((fR _ wr).drewN kk)) HX.out.fit (by have:=HN.out; omega));have HFT:=zz (show FitR L n (.run c4)from by rw [<-HC4.out]; exact AH (by have:=HN.out; omega) HX.out.fit);clear hc4;go_wp2_with fail;refine HLF.out.mono ?_;rintro e wy ⟨rfl,kk,rfl⟩;clear HLF c3 f3 hbl3;go_wp2_with fail;refine(HO.out kk).mono ?_;rintro e w5 ⟨rfl,hst,hfr⟩;rw [HC4.out]at hst;obtain⟨c5,_,hb5⟩:=hst.errCell;replace c5:w5.cell? ⟨b,3,none⟩=some (.int .i64 0):=c5;have HY:=zz ((HX.out.same ((fR _ wr).drewN kk)).step hst HFT.out hfr);obtain⟨vl,vto,_,_,hrs⟩:=HY.out.rw_;have hrep:CuRep 71 (rwRest 0 lim x vto) w5 b va L c4 vl:=hrs;obtain⟨c0,c1,_⟩:=hrep.cells;obtain⟨hf2,ts,n3,r3,⟨us,_,rfl⟩,e1,e2,e3,e4⟩:=(CR HRT.out).inn HRT.out (t:=0xa1) (by decide) (by decide) c () c4 HII.out HFI.out;have hend:c.at_<c4.at_/\c4.at_<=L.length:=by
     have h1:=congrArg List.length e3;rw [List.length_append,List.length_drop,List.length_drop]at h1;have h2:1<=(([ofT (0xa1:UInt8) us]:List (List Px.Node)).flatten).length:=by simp [ofT]
     have h3:=fits_lt HFI.out (show c.left=(n3+ [ofT (0xa1:UInt8) us].length)::r3 from e1);omega
    clear hf2 e1 e2 e3 e4;have HWF:=zz hrep.wf;obtain⟨vb,off,cap,hva⟩:∃vb off cap,va= .slice (some ⟨vb,off,none⟩) L.length cap:=by
     obtain⟨vb,off,cap,h1,_⟩:=hrep.elem (show c.at_<L.length by omega);exact⟨vb,off,cap,h1⟩
    have hli:=hrep.lies;rw [hva]at c0 hli;have HVA:=zz hva;obtain⟨z,hz⟩:∃z,z=c4.at_:=⟨_,rfl⟩
    rw [<-hz]at c1 hend;rw [<-HA0.out]at hend;have HZ:=zz hz;have hcapl:L.length<=cap/\cap<=maxLen:=by
     obtain⟨_,cap',hcv,h1,h2⟩:=hli.slice;simp only [Value.slice.injEq,true_and]at hcv;rw [hcv.2];exact⟨h1,h2⟩
    obtain⟨hcap1,hcap2⟩:=hcapl;have hL46:=hrep.wf.1;obtain⟨ND,hND⟩:∃ND,ND=(L.take z).drop a0:=⟨_,rfl⟩
    have hNDl:ND.length=z - a0:=by rw [hND,List.length_drop,List.length_take]; omega
    have hsub:=Lies.sub hli (i:=a0) (j:=z) (cap2:=cap - a0) (by omega) hend.2 (by omega) (by omega);rw [<-hND]at hsub;have HND:=zz (aN hNDl (aN hND (fun W (hW:Same w5 W)=>Ll (Lies.same hsub hW) AF (by decide))));obtain⟨i0,hi0,hz0,hz1,hz2⟩:=info_parts Tryz.infoNode;unfold maxLen at hcap2;have haz:(a0:Int)<=(z:Int):=by omega
    have hzl:(z:Int)<=(cap:Int):=by omega
    have hca:¬cap=a0:=by omega
    have hza:z - a0<=4096:=by omega
    have hza0:0<z - a0:=by omega
    have HEN:=zz hend;clear hst hfr HO hrs hrep hva hli hz hcap1 hL46 hND hNDl hsub hend;go_upto_region 19 with fail
    obtain⟨SS,hSS⟩:∃SS:World->Prop,SS=(fun W:World=>W.cell? ⟨b,0,none⟩=some (.slice (some ⟨vb,off,none⟩) L.length cap)/\W.cell? ⟨b,1,none⟩=some (.int .i64 (z:Nat))):=⟨_,rfl⟩
    have hS0:SS w5.drew:=by rw [hSS]; exact⟨c0,c1⟩
    refine sR hS0 fun hHeld=>?_
    refine tQ 0 ?_ ?_ ?_;rotate_left
    ·intro w hw;rw [hSS]at hw;obtain⟨q1,q2⟩:=hw;go_simp;try (with_reducible rfl)
    simp only [Act.put,Z1,Z2,Z3];refine tQ 1 ?_ ?_ ?_;rotate_left
    ·intro w hw;rw [hSS]at hw;obtain⟨q1,q2⟩:=hw;go_simp;try (with_reducible rfl)
    simp only [Act.put,Z1,Z2,Z3];refine tQ 2 ?_ ?_ ?_;rotate_left
    ·intro w hw;rw [hSS]at hw;obtain⟨q1,q2⟩:=hw;go_simp;try (with_reducible rfl)
    simp only [Act.put,Z1,Z2,Z3];refine tQ 3 ?_ ?_ ?_;rotate_left
    ·intro w hw;rw [hSS]at hw;obtain⟨q1,q2⟩:=hw;go_simp;try (with_reducible rfl)
    simp only [Act.put,Z1,Z2,Z3];refine tQ 4 ?_ ?_ ?_;rotate_left
    ·intro w hw;rw [hSS]at hw;obtain⟨q1,q2⟩:=hw;go_simp;try (with_reducible rfl)
    simp only [Act.put,Z1,Z2,Z3];refine tQ 5 ?_ ?_ ?_;rotate_left
    ·intro w hw;rw [hSS]at hw;obtain⟨q1,q2⟩:=hw;go_simp;try (with_reducible rfl)
    simp only [Act.put,Z1,Z2,Z3];refine tQ 6 ?_ ?_ ?_;rotate_left
    ·intro w hw;rw [hSS]at hw;obtain⟨q1,q2⟩:=hw;go_simp;try (with_reducible rfl)
    simp only [Act.put,Z1,Z2,Z3];refine tQ 7 ?_ ?_ ?_;rotate_left
    ·intro w hw;rw [hSS]at hw;obtain⟨q1,q2⟩:=hw;go_simp;try (with_reducible rfl)
    simp only [Act.put,Z1,Z2,Z3];refine tQ 8 ?_ ?_ ?_;rotate_left
    ·intro w hw;rw [hSS]at hw;obtain⟨q1,q2⟩:=hw;go_simp;try (with_reducible rfl)
    simp only [Act.put,Z1,Z2,Z3];refine tQ 9 ?_ ?_ ?_;rotate_left
    ·intro w hw;rw [hSS]at hw;obtain⟨q1,q2⟩:=hw;go_simp;try (with_reducible rfl)
    simp only [Act.put,Z1,Z2,Z3];refine tQ 10 ?_ ?_ ?_;rotate_left
    ·intro w hw;rw [hSS]at hw;obtain⟨q1,q2⟩:=hw;go_simp;try (with_reducible rfl)
    simp only [Act.put,Z1,Z2,Z3];refine rD 11 rfl (fun K hK=>?_);refine step_append_lies _ (by rfl) _ _ _ (by rfl) 0 90 i0 _ 3 32 Tryz.underlying47 hi0 hz0 hz1 hz2 rfl (by omega) (.slice none 0 0) 0 [] (by rfl) (World.ownsRow_nil _ _ _ _)
     ⟨vb,off+a0*3,none⟩ (z - a0) (cap - a0) (ND.flatMap cNode) (by rfl) (by rw [Br AF,HND.out.1]) (HND.out.2.2 _ ((fR _ w5).drewN _)) (Fd ND)
     (by omega) (by unfold maxLen; omega) (by omega) (by simp) w5.heap.size (by simp) ?_
    intro gg cpg wg hown hgrow hat hlt;rw [Nat.zero_add,List.nil_append]at hown;have hsg:Same w5 wg:=Fr.grown ((fR _ w5).drewN _) hgrow (fun k e=>by cases e);have HG:=zz (aN hown (aN hsg (show w5.heap.size<=gg from by rcases hat with e | e; cases e; omega)));refine sO hK ?_ fun hHeld=>?_
    ·rw [hSS];exact⟨(hsg.cell (p:=⟨b,0,none⟩) hb5 (fun y=>y)).trans c0,(hsg.cell (p:=⟨b,1,none⟩) hb5 (fun y=>y)).trans c1⟩
    clear hK K hown hgrow hat;refine tQ 12 ?_ ?_ ?_;rotate_left
    ·intro w hw;rw [hSS]at hw;obtain⟨q1,q2⟩:=hw;go_simp;try (with_reducible rfl)
    simp only [Act.put,Z1,Z2,Z3];refine wpAnyH_done (by kernel_rfl) ?_ _;have hO:Owns wg 90 3 cNode (.slice (some ⟨gg,0,none⟩) (z - a0) cpg) ND:=by
     unfold Owns;rw [HND.out.1];exact HG.out.1
    obtain⟨n0,r0,hL'⟩:∃n0 r0,ND=n0::r0:=by
     cases h:ND with
     | nil=>have:=HND.out.1; rw [h]at this; simp only [List.length_nil]at this; omega
     | cons n0 r0=>exact⟨n0,r0,rfl⟩
    have hlz:z - a0=r0.length+1:=by have:=HND.out.1; rw [hL']at this; simpa using this.symm
    rw [hL',hlz]at hO;obtain⟨g1,cp1,he1,_,_,hcell,hfree⟩:=hO.at AF (j:=0) (a:=n0) rfl;simp only [Value.slice.injEq,Option.some.injEq,Addr.mk.injEq,and_true]at he1;have hg1:=he1.1;clear he1;subst hg1;have x0:=hcell 0 _ rfl;rw [Nat.zero_mul,Nat.zero_add]at x0;have xf:=hfree 0;have htag:=Owns.tag hO 0x31;have hmem:∀y∈n0::r0,y∈L:=fun y hy=>by rw [<-hL',HND.out.2.1]at hy; exact List.mem_of_mem_take (List.mem_of_mem_drop hy)
    have hwf:∀y∈(⟨0x31,n0.kids,n0.body⟩:Px.Node)::r0,-9223372036854775808<=y.kids/\y.kids<=9223372036854775807/\y.body.length<=140737488355327:=fun y hy=>by
     rcases List.mem_cons.1 hy with rfl | hy
     ·exact HWF.out.2 n0 (hmem n0 (List.mem_cons_self ..))
     ·exact HWF.out.2 y (hmem y (List.mem_cons_of_mem _ hy))
    have HDE:=zz (GP _ (⟨0x31,n0.kids,n0.body⟩::r0) _ (Owns.lies htag AF) hwf);rw [<-hlz]at HDE;have HSET:=zz (show setOf ((L.take c4.at_).drop c.at_)=⟨0x31,n0.kids,n0.body⟩::r0 from by
     rw [<-HZ.out,<-HA0.out,<-HND.out.2.1,hL'];rfl)
    have hgl:gg<wg.heap.size:=World.block_lt_of_cell? _ _ x0;have HLW:=zz ((HY.out.same HG.out.2.1).apart (q:=gg) (Nat.le_trans (by have:=HY.out.fr.size; exact this) HG.out.2.2) (fun e=>by have:=HY.out.rw_.lt _ e; have:=HG.out.2.2; omega) (fun q hq e=>by have:=(HY.out.rw_.vaLt q hq).1; have:=HG.out.2.2; omega) 0 (.int .u8 ((0x31:UInt8).toNat:Nat)));clear hO hL' hlz hcell hfree htag hmem hwf c0 c1 c5;go_wp2_with fail;refine HDE.out.mono ?_;rintro e w6 ⟨⟨ds,dn⟩,hEnc,rfl,hs6⟩;have HY6:=zz (HLW.out.same hs6);have henc:encOf (setOf ((L.take c4.at_).drop c.at_))=(ds,dn):=by
     rw [HSET.out];exact BZ hEnc
    have HB2:=zz (HB.out.trans (show rHead L c.at_ (.run c4)=(ds,rMust (decide (ds.length<=70000)) 10 (rMust (dn==0) 9 (.run c4)))from by
     show((encOf (setOf ((L.take c4.at_).drop c.at_))).1,rMust (decide ((encOf (setOf ((L.take c4.at_).drop c.at_))).1.length<=70000)) 10 (rMust ((encOf (setOf ((L.take c4.at_).drop c.at_))).2==0) 9 (.run c4)))=_;rw [henc]))
    clear hEnc hs6 henc HDE x0 xf HLW;obtain⟨p1,hp1⟩:∃p1,(dn==0)=p1:=⟨_,rfl⟩
    have HP1:=zz hp1;have HC:=zz (Ae b va L lim (.run c4) x _ p1 9 (by decide) w6 HY6.out.rw_);go_wp2_with fail;refine HC.out.mono ?_;rintro e w7 ⟨rfl,hst,hfr⟩;have HY7:=zz (HY6.out.step hst (Ac _ _ HY6.out.fit) hfr);clear hst hfr HC hp1;obtain⟨p2,hp2⟩:∃p2,decide (ds.length<=70000)=p2:=⟨_,rfl⟩
    have hp2z:decide ((ds.length:Int)<=70000)=p2:=by
     rw [<-hp2];by_cases h:ds.length<=70000
     ·rw [dt h,dt (by omega)]
     ·rw [df h,df (by omega)]
    have HP2:=zz hp2;have HC:=zz (Ae b va L lim _ x _ p2 10 (by decide) w7 HY7.out.rw_);go_wp2_with fail;refine HC.out.mono ?_;rintro e w8 ⟨rfl,hst,hfr⟩;have HY8:=zz (HY7.out.step hst (Ac _ _ HY7.out.fit) hfr);have kx:=HY8.out.rw_.cellX 3 (v:=S x.1.header) rfl;obtain⟨k3,f3⟩:=kx;replace k3:w8.cell? ⟨b,11,none⟩=some (S x.1.header):=k3;replace f3:w8.frozen? ⟨b,11,none⟩=false:=f3;have bx:=World.block_lt_of_cell? _ _ k3;simp only at bx;clear hst hfr HC hp2 hp2z;go_wp2;go_end0
    have hq:=HY8.out.setX (y:= {x.1 with header:=ds}) 3 (S ds) (by decide) rfl rfl;rw [HB2.out];refine⟨rfl,F',?_,hq.fs,hq.fr⟩;show RW _ b va L lim (rMust (decide (ds.length<=70000)) 10 (rMust (dn==0) 9 (.run c4))) ({x.1 with header:=ds},x.2) F';rw [HP1.out,HP2.out];exact hq.rw_
    | succ m=>
     have hmz:(0:Int)<((m:Int)+1):=by omega
     have HAT:=zz (J8 HRT.out HX.out.fit.1 HM.out);obtain⟨g',hg'⟩:∃g',gk=g'+1:=⟨gk - 1,by have:=HGK.out; omega⟩
     subst hg';go_wp2_with fail;refine HLF.out.mono ?_;rintro e wy ⟨rfl,kk1,rfl⟩;clear HLF;replace HX:=zz (HX.out.same ((fR _ wr).drewN kk1));have HC:=zz (AU b va L lim (.run c') x _ 0x30 (n+1) (by decide) (by decide) ((wr.drewN kk1)) HX.out.rw_ HX.out.fit (by have:=HN.out; omega) HRT.out);go_wp2_with fail;refine HC.out.mono ?_;rintro e w12 ⟨rfl,hst⟩;obtain⟨F11,hsea,_,_⟩:=HX.out.into hst (AV HRT.out (by decide) (by decide) HX.out.fit);rw [show((0x30:UInt8).toNat)=48 from rfl]at hsea;obtain⟨s11,hs11⟩:∃s11,s11=rIn L 48 (.run c'):=⟨_,rfl⟩
     rw [<-hs11]at hsea;have E11:=zz hs11;replace HX:=zz hsea;clear hst hsea hs11 HC;clear c3 f3 hbl3;have HC:=zz (Az b va L lim s11 x _ 6 (n+2) (by decide) w12 HX.out.rw_ HX.out.fit);go_wp2_with fail;refine HC.out.mono ?_;rintro e w13 ⟨rfl,hst,hfr⟩;have hsea:=HX.out.step hst (AE HRT.out (t:=0x6) (by decide) (by decide) HX.out.fit) hfr;obtain⟨q,hq⟩:∃q,q=rLeaf L 6 s11:=⟨_,rfl⟩
     rw [<-hq]at hsea ⊢;obtain⟨v12,s12⟩:=q;simp only at hsea ⊢;have E12:=zz hq;replace HX:=zz hsea;clear hst hfr hsea hq HC;have HC:=zz (AU b va L lim s12 x _ 0x31 (n+2) (by decide) (by decide) w13 HX.out.rw_ HX.out.fit (by have:=HN.out; omega) HRT.out);go_wp2_with fail;refine HC.out.mono ?_;rintro e w14 ⟨rfl,hst⟩;obtain⟨F13,hsea,_,_⟩:=HX.out.into hst (AV HRT.out (by decide) (by decide) HX.out.fit);rw [show((0x31:UInt8).toNat)=49 from rfl]at hsea;obtain⟨s13,hs13⟩:∃s13,s13=rIn L 49 s12:=⟨_,rfl⟩
     rw [<-hs13]at hsea;have E13:=zz hs13;replace HX:=zz hsea;clear hst hsea hs13 HC;obtain⟨c3,f3,hbl3⟩:=HX.out.rw_.errCell;obtain⟨s14,hs14⟩:∃s14,s14=rMust (isBad s13 || decide (0<cntOf s13)) 9 s13:=⟨_,rfl⟩
     have HVS:=zz (show rVals L s13=valsN L (cntOf s13) s14 from by rw [hs14]; exact J7 L s13);have HC14:=zz (show ∀c',s14= .run c'->c'.left.headD 0=cntOf s13 from fun c' e=>by rw [hs14]at e; exact Mt e);have HS14:=zz hs14;clear hs14;go_upto_if 42 with fail
     go_cut [] (fun wx=>Lin w F b va L lim x (n+3) s14 F13 wx)
     case first=>as_aux_lemma=>
      cases s13 with
      | bad en=>
       have hen:en≠0:=by
        obtain⟨vl,vto,_,_,hn,_⟩:=HX.out.rw_;exact hn
       have hez2:(errOf (.bad en)==0)=false:=bn hen;clear hen;go_wp2_with fail;go_meet
       rw [HS14.out];exact HX.out
      | run c13=>
       replace c3:w14.cell? ⟨b,3,none⟩=some (.int .i64 0):=c3;have HLF:=zz (A2 b va L lim c13 x _ w14 HX.out.rw_);obtain⟨k3,hk3⟩:∃k3,k3=c13.left.headD 0:=⟨_,rfl⟩
       rw [<-hk3]at HLF;obtain⟨d3,hd3⟩:∃d3,d3=decide (0<k3):=⟨_,rfl⟩
       have hdn:decide (0<k3)=d3:=hd3.symm;have hdz:decide ((0:Int)<(k3:Int))=d3:=by
        rw [hd3];by_cases h:0<k3
        ·rw [dt h,dt (by omega)]
        ·rw [df h,df (by omega)]
       have HD3:=zz (show s14=rMust d3 9 (.run c13)from by rw [HS14.out,hd3,hk3]; rfl);clear hd3 hk3;go_wp2_with fail;refine HLF.out.mono ?_;rintro e wy ⟨rfl,kk,rfl⟩;clear HLF;have HC:=zz (Ae b va L lim (.run c13) x _ d3 9 (by decide) (w14.drewN kk) (HX.out.rw_.same ((fR _ w14).drewN kk)));go_wp2_with fail;refine HC.out.mono ?_;rintro e wz ⟨rfl,hst,hfr⟩;have HZ:=zz ((HX.out.same ((fR _ w14).drewN kk)).step hst (Ac _ _ HX.out.fit) hfr);clear hst hfr HC hdn hdz;go_wp2_with fail;go_meet
       rw [HD3.out];exact HZ.out
     case rest=>
      replace HX:=zz hcut;clear hcut c3 f3 hbl3;go_wp2_with fail;go_loopg [48] (cntOf s13+1) (fun g2 _ wr=>∃(m2:Nat) (s15:RS),m2<g2/\Lin w F b va L lim x (n+3) s15 F13 wr/\(∀c',s15= .run c'->c'.left.headD 0=m2)/\rVals L s13=valsN L m2 s15)
      case atStart=>exact⟨_,s14,Nat.lt_succ_self _,HX.out,HC14.out,HVS.out⟩
      case round=>
       obtain⟨m2,s15,hg2,hlin,hcn,heq2⟩:=hrel;clear HX;have HX:=zz hlin;have HG2:=zz hg2;obtain⟨c3,f3,hbl3⟩:=hlin.rw_.errCell;clear hlin hg2;cases s15 with
       | bad en=>
        have hen:en≠0:=by
         obtain⟨vl,vto,_,_,hn,_⟩:=HX.out.rw_;exact hn
        have hez2:(errOf (.bad en)==0)=false:=bn hen;have HV:=zz (show rVals L s13= .bad en from heq2);clear hcn hen heq2;have HC:=zz (AC b va L lim (.bad en) x _ (n+3) wr HX.out.rw_ HX.out.fit (by have:=HN.out; omega));go_wp2_with fail;refine HC.out.mono ?_;rintro e w17 ⟨rfl,hst,hfr⟩;have hsea:=HX.out.step hst (AH (n:=n+2) (by have:=HN.out; omega) HX.out.fit) hfr;obtain⟨s16,hs16⟩:∃s16,s16=rOut (.bad en):=⟨_,rfl⟩
        rw [<-hs16]at hsea;have E16:=zz hs16;replace HX:=zz hsea;clear hst hfr hsea hs16 HC;have HC:=zz (AC b va L lim s16 x _ (n+2) w17 HX.out.rw_ HX.out.fit (by have:=HN.out; omega));go_wp2_with fail;refine HC.out.mono ?_;rintro e w18 ⟨rfl,hst,hfr⟩;have hsea:=HX.out.step hst (AH (n:=n+1) (by have:=HN.out; omega) HX.out.fit) hfr;obtain⟨s17,hs17⟩:∃s17,s17=rOut s16:=⟨_,rfl⟩
        rw [<-hs17]at hsea;have E17:=zz hs17;replace HX:=zz hsea;clear hst hfr hsea hs17 HC;go_wp2;go_roundg g'
        case measure=>omega
        case rel=>
         have hra:rAttr L (.run c')=s17:=by
          unfold rAttr;show rOut (rOut (rVals L (rIn L 49 (rLeaf L 6 (rIn L 48 (.run c'))).2)))=s17;rw [<-E11.out,<-E12.out];show rOut (rOut (rVals L (rIn L 49 s12)))=s17;rw [<-E13.out,HV.out,<-E16.out];exact E17.out.symm
         have hn0:=HAT.out.1;refine⟨m,s17,F13,by have:=HGK.out; omega,HX.out,fun c'' e=>HAT.out.2 c'' (by rw [hra]; exact e),?_⟩;rw [HEQ.out];show(if rNone L (.run c')=true then RS.run c' else rAttrN L m (rAttr L (.run c')))=_;rw [hn0,if_neg (by decide),hra]
       | run c15=>
        replace c3:wr.cell? ⟨b,3,none⟩=some (.int .i64 0):=c3;have hez2:(errOf (.run c15)==0)=true:=rfl;have hm:=hcn c15 rfl;have HLF:=zz (A2 b va L lim c15 x _ wr HX.out.rw_);rw [hm]at HLF;cases m2 with
        | zero=>
         have HV:=zz (show rVals L s13= .run c15 from heq2);clear hcn hm heq2;go_wp2_with fail;refine HLF.out.mono ?_;rintro e wy ⟨rfl,kk,rfl⟩;clear HLF;replace HX:=zz (HX.out.same ((fR _ wr).drewN kk));have HC:=zz (AC b va L lim (.run c15) x _ (n+3) ((wr.drewN kk)) HX.out.rw_ HX.out.fit (by have:=HN.out; omega));go_wp2_with fail;refine HC.out.mono ?_;rintro e w17 ⟨rfl,hst,hfr⟩;have hsea:=HX.out.step hst (AH (n:=n+2) (by have:=HN.out; omega) HX.out.fit) hfr;obtain⟨s16,hs16⟩:∃s16,s16=rOut (.run c15):=⟨_,rfl⟩
         rw [<-hs16]at hsea;have E16:=zz hs16;replace HX:=zz hsea;clear hst hfr hsea hs16 HC;have HC:=zz (AC b va L lim s16 x _ (n+2) w17 HX.out.rw_ HX.out.fit (by have:=HN.out; omega));go_wp2_with fail;refine HC.out.mono ?_;rintro e w18 ⟨rfl,hst,hfr⟩;have hsea:=HX.out.step hst (AH (n:=n+1) (by have:=HN.out; omega) HX.out.fit) hfr;obtain⟨s17,hs17⟩:∃s17,s17=rOut s16:=⟨_,rfl⟩
         rw [<-hs17]at hsea;have E17:=zz hs17;replace HX:=zz hsea;clear hst hfr hsea hs17 HC;go_wp2;go_roundg g'
         case measure=>omega
         case rel=>
          have hra:rAttr L (.run c')=s17:=by
           unfold rAttr;show rOut (rOut (rVals L (rIn L 49 (rLeaf L 6 (rIn L 48 (.run c'))).2)))=s17;rw [<-E11.out,<-E12.out];show rOut (rOut (rVals L (rIn L 49 s12)))=s17;rw [<-E13.out,HV.out,<-E16.out];exact E17.out.symm
          have hn0:=HAT.out.1;refine⟨m,s17,F13,by have:=HGK.out; omega,HX.out,fun c'' e=>HAT.out.2 c'' (by rw [hra]; exact e),?_⟩;rw [HEQ.out];show(if rNone L (.run c')=true then RS.run c' else rAttrN L m (rAttr L (.run c')))=_;rw [hn0,if_neg (by decide),hra]
        | succ m2=>
         obtain⟨r,hkl⟩:∃r,c15.left=(m2+1)::r:=by
          cases hk:c15.left with
          | nil=>exact absurd hk HX.out.fit.1.1
          | cons a r=>rw [hk]at hm; exact⟨r,by rw [show a=m2+1 from hm]⟩
         have hmz2:(0:Int)<((m2:Int)+1):=by omega
         have HV:=zz heq2;have HKL:=zz hkl;obtain⟨g3,hg3⟩:∃g3,gk=g3+1:=⟨gk - 1,by have:=HG2.out; omega⟩
         subst hg3;clear hcn hm heq2;go_wp2_with fail;refine HLF.out.mono ?_;rintro e wy ⟨rfl,kk,rfl⟩;clear HLF;replace HX:=zz (HX.out.same ((fR _ wr).drewN kk));obtain⟨wq,hwq⟩:∃wq,wq=wr.drewN kk:=⟨_,rfl⟩
         rw [<-hwq]at HX;have HWQ:=zz hwq;clear hwq c3 f3 hbl3;obtain⟨vl,vto,hF,hta,hrs⟩:=HX.out.rw_;have hrep:CuRep 71 (rwRest 0 lim x vto) wq b va L c15 vl:=hrs;obtain⟨c0,c1,c2⟩:=hrep.cells;obtain⟨m0,r0,g,cap,hk0,rfl,hc1,hc2,t0,tf,hg⟩:=hrep.top;rw [hkl]at hk0;obtain⟨hk1,hk2⟩:=List.cons.inj hk0;subst hk1 hk2;have hlt:=fits_lt HX.out.fit.1 hkl;obtain⟨vb,off,cap2,hva,hvb,_,_,_⟩:=hrep.elem hlt;have hgb:¬b=g:=fun e=>hrep.lb g rfl (by rw [e])
         have hgb2:¬g=b:=fun e=>hgb e.symm
         have hbl:=hrep.lt;have hnl:=Cw HX.out.fit.1 hkl;have hL:=hrep.wf.1;have hnw:(m2:Int)+1<=5000:=by omega
         have hrl5:r.length<=5000:=by have:=HX.out.fit.2; rw [hkl]at this; have:=HN.out; simp at*; omega
         have HLF2:=zz (fun k=>(A2 b va L lim c15 x _ (wq.drewN k) (HX.out.rw_.same (Fr.drewN (fR _ wq) _))));rw [show c15.left.headD 0=m2+1 by rw [hkl]; rfl]at HLF2;have hd15:=hrep.dec hkl;have HDC:=zz (aN hd15 (aN hta (aN hF (aN hrep.lb hrep.ab))));obtain⟨hat,hny,mb,hbeh⟩:=N3 HX.out.fit.1 hkl;have HFS:=zz (GB HX.out.fit.1 hkl);have hLI:=hrep.lies;have hWF:=hrep.wf.2;unfold maxLen at hc2;have hrl:((r.length:Nat):Int)<(r.length:Int)+1:=by omega
         have hw1:IntKind.i64.wrap ((r.length:Nat):Int)=(r.length:Int):=IntWalk.i64_in _ ⟨by omega,by omega⟩;have hw2:IntKind.i64.wrap ((m2:Nat):Int)=(m2:Int):=IntWalk.i64_in _ ⟨by omega,by omega⟩;obtain⟨a15,ha15⟩:∃a15,a15=c15.at_:=⟨_,rfl⟩
         obtain⟨y15,hy15⟩:∃y15,y15=nx L c15.at_:=⟨_,rfl⟩
         have HNY:=zz hny;have HAB:=zz (aN ha15 hy15);have hatn:=hat;rw [<-ha15]at c1 hbeh hatn;have HBE:=zz (aN hatn hbeh);rw [hva]at c0;have HVA:=zz hva;clear hkl hk0 hF hta hrs hrep hd15 hva hvb hlt hnl hL hat hny hbeh hLI hWF ha15 hy15 hatn;go_wp2_with fail;rw [<-HWQ.out];obtain⟨SS,hSS⟩:∃SS:World->Prop,SS=(fun W:World=>W.cell? ⟨b,2,none⟩=some (.slice (some ⟨g,0,none⟩) (r.length+1) cap)):=⟨_,rfl⟩
         have hS0:SS wq.drew:=by rw [hSS]; exact c2
         refine sR hS0 fun hHeld=>?_
         refine tQ 0 ?_ ?_ ?_;rotate_left
         ·intro w hw;rw [hSS]at hw;have q1:=hw;go_simp;try (with_reducible rfl)
         simp only [Act.put,Z1,Z2,Z3];refine tQ 1 ?_ ?_ ?_;rotate_left
         ·intro w hw;rw [hSS]at hw;have q1:=hw;go_simp;try (with_reducible rfl)
         simp only [Act.put,Z1,Z2,Z3];refine tQ 2 ?_ ?_ ?_;rotate_left
         ·intro w hw;rw [hSS]at hw;have q1:=hw;go_simp;try (with_reducible rfl)
         simp only [Act.put,Z1,Z2,Z3];refine tQ 3 ?_ ?_ ?_;rotate_left
         ·intro w hw;rw [hSS]at hw;have q1:=hw;go_simp;try (with_reducible rfl)
         simp only [Act.put,Z1,Z2,Z3];refine tQ 4 ?_ ?_ ?_;rotate_left
         ·intro w hw;rw [hSS]at hw;have q1:=hw;go_simp;try (with_reducible rfl)
         simp only [Act.put,Z1,Z2,Z3];refine tQ 5 ?_ ?_ ?_;rotate_left
         ·intro w hw;rw [hSS]at hw;have q1:=hw;go_simp;try (with_reducible rfl)
         simp only [Act.put,Z1,Z2,Z3];refine tQ 6 ?_ ?_ ?_;rotate_left
         ·intro w hw;rw [hSS]at hw;have q1:=hw;go_simp;try (with_reducible rfl)
         simp only [Act.put,Z1,Z2,Z3];refine tQ 7 ?_ ?_ ?_;rotate_left
         ·intro w hw;rw [hSS]at hw;have q1:=hw;go_simp;try (with_reducible rfl)
         simp only [Act.put,Z1,Z2,Z3];refine tQ 8 ?_ ?_ ?_;rotate_left
         ·intro w hw;rw [hSS]at hw;have q1:=hw;go_simp;try (with_reducible rfl)
         simp only [Act.put,Z1,Z2,Z3];refine tQ 9 ?_ ?_ ?_;rotate_left
         ·intro w hw;rw [hSS]at hw;have q1:=hw;go_simp;try (with_reducible rfl)
         simp only [Act.put,Z1,Z2,Z3];refine tQ 10 ?_ ?_ ?_;rotate_left
         ·intro w hw;rw [hSS]at hw;have q1:=hw;go_simp;try (with_reducible rfl)
         simp only [Act.put,Z1,Z2,Z3];refine rD 11 rfl (fun K hK=>?_);go_simp;refine(HLF2.out 1).mono ?_;rintro e wa ⟨rfl,kk2,rfl⟩;refine sO hK ?_ fun hHeld=>?_
         ·rw [hSS];exact c2
         clear hK K;refine tQ 12 ?_ ?_ ?_;rotate_left
         ·intro w hw;rw [hSS]at hw;have q1:=hw;go_simp;try (with_reducible rfl)
         simp only [Act.put,Z1,Z2,Z3];refine tQ 13 ?_ ?_ ?_;rotate_left
         ·intro w hw;rw [hSS]at hw;have q1:=hw;go_simp;try (with_reducible rfl)
         simp only [Act.put,Z1,Z2,Z3];refine rD 14 rfl (fun K hK=>?_);go_simp;refine sO hK ?_ fun hHeld=>?_
         ·rw [hSS];exact((A9 (w:=(wq.drewN 1).drewN kk2) g r.length (.int .i64 (m2:Nat))).cell (p:=⟨b,2,none⟩) hbl (fun e=>hgb e)).trans c2
         clear hK K;refine wpAnyH_done (by kernel_rfl) ?_ _;go_wp2_with fail;obtain⟨wt,hwt⟩:∃wt,wt=(wq.drewN (1+kk2)).setCell ⟨g,r.length,none⟩ (.int .i64 (m2:Nat)):=⟨_,rfl⟩
         rw [<-hwt];have hst:Same (wq.setCell ⟨g,r.length,none⟩ (.int .i64 (m2:Nat))) wt:=by rw [hwt]; exact⟨rfl,rfl,rfl,Nat.le_refl _,fun _ _ _=>rfl⟩
         have hdt:=CuRep.same HDC.out.1 hst;have HST:=zz hst;have HDT:=zz hdt;obtain⟨d0,d1,_⟩:=hdt.cells;have df1:=hdt.free 1;have hbt:=hdt.lt;rw [HVA.out]at d0;replace d1:wt.cell? ⟨b,1,none⟩=some (.int .i64 (c15.at_:Nat)):=d1;rw [<-HAB.out.1]at d1;have HBH:=zz (fun W (hW:Same wt W)=>(show Calls Tryz.prog 83 #[.slice (some ⟨vb,off,none⟩) L.length cap2,.int .i64 (a15:Nat)] W (fun e w'=>e= .returned (.tuple #[.int .i64 (y15:Nat),.int .i64 (mb:Nat)])/\Same W w')from by
          have q:=H9 va L a15 HBE.out.1 W (Lies.same HDT.out.lies hW) HDT.out.wf.1 (fun a ha=>⟨(HDT.out.wf.2 a ha).1,(HDT.out.wf.2 a ha).2.1⟩);rw [HBE.out.2,HVA.out]at q;rw [HAB.out.2,<-HAB.out.1];exact q))
         clear hwt hst hdt c0 c1 c2 t0 tf;obtain⟨SS,hSS⟩:∃SS:World->Prop,SS=(fun W:World=>W.cell? ⟨b,0,none⟩=some (.slice (some ⟨vb,off,none⟩) L.length cap2)/\W.cell? ⟨b,1,none⟩=some (.int .i64 (a15:Nat))):=⟨_,rfl⟩
         have hS0:SS wt.drew:=by rw [hSS]; exact⟨d0,d1⟩
         refine sR hS0 fun hHeld=>?_
         refine tQ 0 ?_ ?_ ?_;rotate_left
         ·intro w hw;rw [hSS]at hw;obtain⟨q1,q2⟩:=hw;go_simp;try (with_reducible rfl)
         simp only [Act.put,Z1,Z2,Z3];refine tQ 1 ?_ ?_ ?_;rotate_left
         ·intro w hw;rw [hSS]at hw;obtain⟨q1,q2⟩:=hw;go_simp;try (with_reducible rfl)
         simp only [Act.put,Z1,Z2,Z3];refine tQ 2 ?_ ?_ ?_;rotate_left
         ·intro w hw;rw [hSS]at hw;obtain⟨q1,q2⟩:=hw;go_simp;try (with_reducible rfl)
         simp only [Act.put,Z1,Z2,Z3];refine tQ 3 ?_ ?_ ?_;rotate_left
         ·intro w hw;rw [hSS]at hw;obtain⟨q1,q2⟩:=hw;go_simp;try (with_reducible rfl)
         simp only [Act.put,Z1,Z2,Z3];refine tQ 4 ?_ ?_ ?_;rotate_left
         ·intro w hw;rw [hSS]at hw;obtain⟨q1,q2⟩:=hw;go_simp;try (with_reducible rfl)
         simp only [Act.put,Z1,Z2,Z3];refine tQ 5 ?_ ?_ ?_;rotate_left
         ·intro w hw;rw [hSS]at hw;obtain⟨q1,q2⟩:=hw;go_simp;try (with_reducible rfl)
         simp only [Act.put,Z1,Z2,Z3];refine tQ 6 ?_ ?_ ?_;rotate_left
         ·intro w hw;rw [hSS]at hw;obtain⟨q1,q2⟩:=hw;go_simp;try (with_reducible rfl)
         simp only [Act.put,Z1,Z2,Z3];refine tQ 7 ?_ ?_ ?_;rotate_left
         ·intro w hw;rw [hSS]at hw;obtain⟨q1,q2⟩:=hw;go_simp;try (with_reducible rfl)
         simp only [Act.put,Z1,Z2,Z3];refine rD 8 rfl (fun K hK=>?_);go_simp;refine(HBH.out _ ((fR _ wt).drewN _)).mono ?_;rintro e wa ⟨rfl,hsa⟩;have HSA:=zz hsa;refine sO hK ?_ fun hHeld=>?_
         ·rw [hSS];exact⟨(hsa.cell (p:=⟨b,0,none⟩) hbt (fun y=>y)).trans d0,(hsa.cell (p:=⟨b,1,none⟩) hbt (fun y=>y)).trans d1⟩
         have e1:=(hsa.cell (p:=⟨b,1,none⟩) hbt (fun y=>y)).trans d1;have f1:=(hsa.frozen (p:=⟨b,1,none⟩) hbt (fun y=>y)).trans df1;have hba:b<wa.heap.size:=Nat.lt_of_lt_of_le hbt hsa.size;clear hK K hsa;refine tQ 9 ?_ ?_ ?_;rotate_left
         ·intro w hw;rw [hSS]at hw;obtain⟨q1,q2⟩:=hw;go_simp;try (with_reducible rfl)
         simp only [Act.put,Z1,Z2,Z3];refine tQ 10 ?_ ?_ ?_;rotate_left
         ·intro w hw;rw [hSS]at hw;obtain⟨q1,q2⟩:=hw;go_simp;try (with_reducible rfl)
         simp only [Act.put,Z1,Z2,Z3];refine tQ 11 ?_ ?_ ?_;rotate_left
         ·intro w hw;rw [hSS]at hw;obtain⟨q1,q2⟩:=hw;go_simp;try (with_reducible rfl)
         simp only [Act.put,Z1,Z2,Z3];refine tQ 12 ?_ ?_ ?_;rotate_left
         ·intro w hw;rw [hSS]at hw;obtain⟨q1,q2⟩:=hw;go_simp;try (with_reducible rfl)
         simp only [Act.put,Z1,Z2,Z3];refine tQ 13 ?_ ?_ ?_;rotate_left
         ·intro w hw;rw [hSS]at hw;obtain⟨q1,q2⟩:=hw;go_simp;try (with_reducible rfl)
         simp only [Act.put,Z1,Z2,Z3];refine wpAnyH_done (by kernel_rfl) ?_ _;go_wp2;go_roundg g3
         case measure=>omega
         case rel=>
          have hsa:Same wt wa:=sT ((fR _ wt).drewN _) HSA.out;have hd2:=(CuRep.same HDT.out hsa).move y15;have hF:=HDC.out.2.2.1;have hfr2:Fr (rwFoot b (.slice (some ⟨g,0,none⟩) (r.length+1) cap) vto) wq (wa.setCell ⟨b,1,none⟩ (.int .i64 ((y15:Nat):Int))):=fC (fT (fT (fC (fR _ wq) (p:=⟨g,r.length,none⟩) (.inl (.inl (.inr rfl))) _) (HST.out.fr _) fun _ _ y=>y) (hsa.fr _) fun _ _ y=>y) (p:=⟨b,1,none⟩) (.inl (.inl (.inl rfl))) _;have hfr3:Fr (fun q=>q=g\/q=b) wq (wa.setCell ⟨b,1,none⟩ (.int .i64 ((y15:Nat):Int))):=fC (fT (fT (fC (fR _ wq) (p:=⟨g,r.length,none⟩) (.inl (.inl rfl)) _) (HST.out.fr _) fun _ _ y=>y) (hsa.fr _) fun _ _ y=>y) (p:=⟨b,1,none⟩) (.inl (.inr rfl)) _;have hta2:=HDC.out.2.1.fr hfr3 (fun q hq e=>e.elim (fun e=>HDC.out.2.1.tl q hq (by rw [e]; rfl)) (fun e=>HDC.out.2.1.tb q hq (by rw [e])));refine⟨m2,.run ⟨y15,m2::r⟩,by have:=HG2.out; omega,⟨⟨_,vto,hF,hta2,hd2⟩,?_,HX.out.fs,HX.out.fr.step HX.out.fs (by rw [hF]; exact hfr2)⟩,fun c' e=>by cases e; rfl,?_⟩
          ·refine⟨?_,?_⟩
           ·rw [HAB.out.2];exact HFS.out
           ·have:=HX.out.fit.2;rw [HKL.out]at this;exact this
          ·rw [HV.out];show RS.run (anyC L (m2+1) c15)=RS.run (anyC L m2 ⟨y15,m2::r⟩);rw [Nw HKL.out,HAB.out.2]
end Go.Proofs.YtpfhollohodcjaaGreatDoor
