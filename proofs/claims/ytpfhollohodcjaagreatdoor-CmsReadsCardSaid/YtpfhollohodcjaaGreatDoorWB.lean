import Derived.Test.YtpfhollohodcjaaGreatDoorVU
import Derived.Laws.EntriesVeiled
import Derived.IntWalk
import Derived.BigRegion
import Derived.BigQuiet
import Derived.Test.YtpfhollohodcjaaGreatDoorWA
set_option maxRecDepth 100000
set_option maxHeartbeats 8000000
namespace Go.Proofs.YtpfhollohodcjaaGreatDoor
open Go.RowKit Go.Px Go.Px.Co Go.Px.Cm
theorem Tryz.infoRec:(Tryz.prog.info? 78).map (fun i=>(i.zero,i.size,i.bytes))=some (some (.agg (cRec zeroR).toArray),9,112):=by kernel_rfl
def ahead(done:List Co.Rec)(r:Except Int (List Co.Rec×Cu)):Except Int (List Co.Rec×Cu):=match r with
 | .ok (rs,c)=> .ok (done++rs,c)
 | .error e=> .error e
theorem K4(r:Except Int (List Co.Rec×Cu)):ahead [] r=r:=by
 cases r<;>rfl
theorem FH{L:List Px.Node}{lim:Lim}{m:Nat}{k k1:Cu}{x:Co.Rec}{done:List Co.Rec}(h:recip L lim k= .ok (x,k1)):ahead done (recipN L lim (m+1) k)=ahead (done++ [x]) (recipN L lim m k1):=by
 show ahead done (bnd (recip L lim) (fun r=>bnd (recipN L lim m) fun rs=>ret (r::rs)) k)=_;rw [Ao h];cases e:recipN L lim m k1 with
 | error n=>
  rw [An e];rfl
 | ok q=>
  obtain⟨rs,c⟩:=q;rw [Ao e];simp [ahead,ret]
theorem B6{L:List Px.Node}{lim:Lim}{m:Nat}{k:Cu}{n:Int}{done:List Co.Rec}(h:recip L lim k= .error n):ahead done (recipN L lim (m+1) k)= .error n:=by
 show ahead done (bnd (recip L lim) (fun r=>bnd (recipN L lim m) fun rs=>ret (r::rs)) k)=_;rw [An h];rfl
theorem B7{F F' E:Nat->Prop}{w wr w1 w2:World}{br:Nat}(h:Fr (fun q=>F q\/E q) w wr)(hs:Fresh w F F')(h1:Same wr w1)(hb:w.heap.size<=br)(k:Fr (fun q=>F' q\/q=br) w1 w2):Fr (fun q=>F q\/E q) w w2:=fT h ((h1.fr _).trans k fun _ _ x=>x) fun q hq x=>by
 rcases x with x | x
 ·rcases hs q x with y | y
  ·exact .inl y
  ·omega
 ·omega
theorem J1(b be:Nat)(va vto:Value)(L:List Px.Node)(lim:Lim)(k:Cu)(F:Nat->Prop)(x:Co.Env)(w:World)(h:CuAt w b va L lim k F)(hf:Fits L k)(hd:k.left.length<=90)(hr:∀a∈L,E5.right a=true)(hl:0<=lim.r/\lim.r<=4096)(hx:EnvW w F be x vto)(hx0:x.to=[])(hv:∀q,va.ownBlock=some q->¬envFoot be vto q):
  Calls Tryz.prog 67 #[.pointer (some ⟨b,0,none⟩),.pointer (some ⟨be,0,none⟩)] w (RunsE w b va L lim F (envFoot be vto) (fun rs F' w'=>∃vto',EnvW w' F' be {x with «to» :=rs} vto'/\Fresh w (envFoot be vto) (envFoot be vto')) (recips L lim k)):=by
 obtain⟨R,hR⟩:∃R,R=recips L lim k:=⟨_,rfl⟩
 rw [<-hR];have HR:=zz hR;have H:=zz (aN h (aN hf (aN hd (aN hr (aN hl (aN hx (aN hx0 hv)))))));obtain⟨vl,hrep,hFF⟩:=h;obtain⟨n,r,g,cap,hk,rfl,hc1,hc2,t0,tf,hg⟩:=hrep.top;obtain⟨c0,c1,c2⟩:=hrep.cells;have hbl:=hrep.lt;have hnl:=Cw hf hk;have hL:=hrep.wf.1;unfold maxLen at hc2;have hne:¬w.heap.size=b:=by omega
 have hgw:¬w.heap.size=g:=by omega
 have HK:=zz hk;clear hR hf hd hr hl hx hx0 hv hrep hFF hk;by_cases h0:n=0
 ·subst h0;have HI:=zz (HR.out.trans (show recips L lim k= .error 9 by unfold recips; rw [HK.out]; rfl));clear HR;go_enter Tryz.func67,Tryz.ntmps67;go_wp2_with fail;go_quiet (fail)
  go_wp2_with fail;refine(Al 9 _).mono ?_;rintro e w1 ⟨v,rfl,he,hs⟩;have HE:=zz (aN he (sT ((fR (fun _=>False) w).alloc _ |>.drewN _) hs));clear he hs;go_wp2;go_ret;rw [HI.out];exact⟨⟨v,rfl,HE.out.1⟩,HE.out.2.fr _⟩
 ·have hz0:(((n:Nat):Int)==0)=false:=bn (by omega);by_cases h8:8<n
  ·have HI:=zz (HR.out.trans (show recips L lim k= .error 10 by unfold recips; rw [HK.out]; show(if n=0 then _ else if 8<n then _ else _)=_; rw [if_neg h0,if_pos h8]));have h8z:(8:Int)<((n:Nat):Int):=by omega
   clear HR h0 h8;go_enter Tryz.func67,Tryz.ntmps67;go_wp2_with fail;go_quiet (fail)
   go_wp2_with fail;refine(Al 10 _).mono ?_;rintro e w1 ⟨v,rfl,he,hs⟩;have HE:=zz (aN he (sT ((fR (fun _=>False) w).alloc _ |>.drewN _) hs));clear he hs;go_wp2;go_ret;rw [HI.out];exact⟨⟨v,rfl,HE.out.1⟩,HE.out.2.fr _⟩
  ·have HI:=zz (HR.out.trans (show recips L lim k=recipN L lim n k by unfold recips; rw [HK.out]; show(if n=0 then _ else if 8<n then _ else _)=_; rw [if_neg h0,if_neg h8]; rfl));have h8z:¬(8:Int)<((n:Nat):Int):=by omega
   clear HR;go_enter Tryz.func67,Tryz.ntmps67;go_wp2_with fail;go_quiet (fail)
   go_wp2_with fail;obtain⟨w0,hw0⟩:∃w0,w0=((w.alloc (.cells #[.pointer (some ⟨b,0,none⟩)] 50)).drewN nq):=⟨_,rfl⟩
   obtain⟨pc,hpc⟩:∃pc,pc=w.heap.size:=⟨_,rfl⟩
   rw [<-hw0,<-hpc];go_loopw [28] (fun i wr=>∃m done k' F' vto',done.length+m=n/\i= .int .i64 (done.length:Nat)/\CuAt wr b va L lim k' F'/\Fits L k'/\k'.left.length=k.left.length/\EnvW wr F' be {x with «to» :=done} vto'/\wr.cell? ⟨pc,0,none⟩=some (.pointer (some ⟨b,0,none⟩))/\¬F' pc/\¬envFoot be vto' pc/\Fr (fun q=>F q\/envFoot be vto q) w wr/\Fresh w F F'/\Fresh w (envFoot be vto) (envFoot be vto')/\R=ahead done (recipN L lim m k')) (fun i _=>n - (intOf i).toNat)
   case atStart=>
    have hs:Same w w0:=by rw [hw0]; exact(fR (fun _=>False) w).alloc _ |>.drewN _
    have hbk:w0.cell? ⟨pc,0,none⟩=some (.pointer (some ⟨b,0,none⟩)):=by
     rw [hw0,hpc];exact(Af w #[.pointer (some ⟨b,0,none⟩)] 50).cell 0 rfl
    have hxe:({x with «to» :=[]}:Co.Env)=x:=by
     have:=H.out.2.2.2.2.2.2.1;cases x;simp only at this;rw [this]
    refine⟨n,[],k,F,vto,by simp,rfl,H.out.1.same hs,H.out.2.1,rfl,?_,hbk,fun e=>?_,fun e=>?_,hs.fr _,Aa _ _,Aa _ _,by rw [K4]; exact HI.out⟩
    ·rw [hxe];exact H.out.2.2.2.2.2.1.keep (hs.fr F) (Aa _ _)
    ·have:=H.out.1.lt _ e; omega
    ·have:=H.out.2.2.2.2.2.1.lt _ e; omega
   case round=>
    obtain⟨m,done,k',F',vto',hdm,rfl,hcu,hfi,hlen,hev,hbk,hnf,hne2,hfr,hfs,hfs2,hRm⟩:=hrel;by_cases hlt:done.length<n
    ·have hltz:((done.length:Nat):Int)<((n:Nat):Int):=by omega
     obtain⟨m,rfl⟩:∃m',m=m'+1:=⟨m - 1,by omega⟩
     obtain⟨br,hbr⟩:∃br,br=wr.heap.size:=⟨_,rfl⟩
     obtain⟨wa,hwa⟩:∃wa,wa=wr.alloc (.cells (cRec zeroR).toArray 78):=⟨_,rfl⟩
     have hsA:Same wr wa:=by rw [hwa]; exact fA (fR _ wr) _
     have hblk:Blk wa br (cRec zeroR).toArray 78:=by rw [hwa,hbr]; exact Af wr _ _
     have hnbF:¬F' br:=fun x=>by have:=hcu.lt _ x; omega
     have hva':∀q,va.ownBlock=some q->q≠br:=fun q e=>by have:=hcu.va q e; omega
     have HA0:=zz (aN hbr (aN hwa (aN hnbF (aN hva' (aN hblk (show Same wr wa from hsA))))));have HTG:=zz (A6 b va L lim k' F' (wr.alloc (.cells (cRec zeroR).toArray 78)) (hcu.same (by rw [<-hwa]; exact hsA)) hfi);have HB:=zz (aN hdm (aN hcu (aN hfi (aN hlen (aN hev (aN hbk (aN hnf (aN hne2 (aN hfr (aN hfs (aN hfs2 hsA)))))))))));have HRM:=zz hRm;have hpcl:=World.block_lt_of_cell? _ _ hbk;simp only at hpcl;have HWA:=zz hwa;have HP0:=zz hpcl;clear hw0 hpc hbr hwa;clear hdm hcu hfi hlen hev hnf hne2 hfr hfs hfs2 hRm hsA hblk hnbF hva';go_wp2_with fail;refine HTG.out.mono ?_;rintro e w1 ⟨rfl,hs1⟩;replace hs1:Same wa w1:=by rw [HWA.out]; exact hs1
     rw [<-HA0.out.1];have hcell1:w1.cell? ⟨pc,0,none⟩=some (.pointer (some ⟨b,0,none⟩)):=((HA0.out.2.2.2.2.2.trans hs1).cell (p:=⟨pc,0,none⟩) hpcl (fun x=>x)).trans hbk;have HA:=zz (aN ((HB.out.2.1.same HB.out.2.2.2.2.2.2.2.2.2.2.2).same hs1) (aN HB.out.2.2.1 (aN HB.out.2.2.2.1 (aN (show RecP br zeroR F' w1 from⟨HA0.out.2.2.1,HA0.out.2.2.2.2.1.fr hs1 (fun x=>x)⟩) (aN HA0.out.2.2.2.1 (aN (show pc<w1.heap.size from World.block_lt_of_cell? _ _ hcell1) (aN HB.out.2.2.2.2.2.2.1 hcell1)))))));have HS1:=zz (HB.out.2.2.2.2.2.2.2.2.2.2.2.trans hs1);obtain⟨pk,hpk⟩:∃pk,pk=peek L k':=⟨_,rfl⟩
     rw [<-hpk];clear hs1 hbk hpcl HTG;have c1:=hcell1;clear hcell1;by_cases hp:pk=162
     ·subst hp;have hin:=Bd b va L lim k' F' (fun q=>q=br) 0xa2 (by decide) (by decide) 103 #[.pointer (some ⟨pc,0,none⟩),.pointer (some ⟨br,0,none⟩)] (wrapped L) (RecP br) w1 HA.out.1 HA.out.2.1 (by have:=HA.out.2.2.1; have:=H.out.2.2.1; omega) H.out.2.2.2.1 (fun _=>rfl)
       (Ay (D2 H.out.2.2.2.1 4096)) (fun v F w w' h hf=>⟨h.1,h.2.fr hf h.1⟩)
       (fun w2 F1 k2 h1 h2 h3 h4 h5=>Mf pc b br va L lim k2 F1 w2 h1 h2 (by have:=HA.out.2.2.1; have:=H.out.2.2.1; omega) H.out.2.2.2.1 ⟨fun x=>(h5 _ x).elim HA.out.2.2.2.1.1 (fun y=>absurd HA.out.2.2.2.1.2.lt (by omega)),HA.out.2.2.2.1.2.fr h4 HA.out.2.2.2.1.1⟩ HA.out.2.2.2.2.1 ((h4.cell (p:=⟨pc,0,none⟩) HA.out.2.2.2.2.2.1 HA.out.2.2.2.2.2.2.1).trans HA.out.2.2.2.2.2.2.2))
      rw [show((0xa2:UInt8).toNat)=162 from rfl]at hin;have HIN:=zz hin;have hrec:recip L lim k'=inn L 162 (wrapped L) k':=by
       unfold recip;rw [if_pos hpk.symm]
      have HRC:=zz hrec;clear hin hrec hpk;go_wp2_with fail;refine HIN.out.mono ?_;intro e w2 hT;rw [<-HRC.out]at hT;cases hk:recip L lim k' with
      | error en=>
       rw [hk]at hT;have HI2:=zz (HRM.out.trans (B6 hk));obtain⟨⟨v,rfl,fb,rfl,hb⟩,hs⟩:=hT;have HE:=zz (aN hb hs);clear hb hs hk HIN;go_wp2;go_ret;rw [HI2.out];exact⟨⟨_,rfl,fb,rfl,HE.out.1⟩,B7 HB.out.2.2.2.2.2.2.2.2.1 HB.out.2.2.2.2.2.2.2.2.2.1 HS1.out (by have:=HA0.out.1; have:=HB.out.2.2.2.2.2.2.2.2.1.size; omega) HE.out.2⟩
      | ok q=>
       obtain⟨rr,k1⟩:=q;rw [hk]at hT;have HI2:=zz (HRM.out.trans (FH hk));obtain⟨rfl,⟨F1,hcu2,hfs1,hrp⟩,hfr2⟩:=hT;have HL:=zz (Aq (BS H.out.2.2.2.1 H.out.2.2.2.2.1.2) hk HA.out.2.1);have HC:=zz (aN hcu2 (aN hfs1 (aN hrp hfr2)));have hew2:EnvW w2 F1 be {x with «to» :=done} vto':=by
        have h1:=HB.out.2.2.2.2.1.keep (HS1.out.fr F') (Aa _ F');have hnb:¬envFoot be vto' br:=fun e=>by have:=HB.out.2.2.2.2.1.lt br e; have:=HA0.out.1; omega
        have hbl:∀q,envFoot be vto' q->¬(F' q\/q=br):=fun q hq e=>e.elim (h1.nf q hq) (fun e2=>hnb (by rw [<-e2]; exact hq))
        exact⟨Blk.fr h1.eb HC.out.2.2.2 (hbl be (.inl rfl)),h1.own.fr HC.out.2.2.2 (fun q e=>hbl q (.inr e)),fun q hq e=>(HC.out.2.1 q e).elim (h1.nf q hq) (fun y=>by have:=h1.lt q hq; omega),h1.ap⟩
       have k2:=Blk.cell hew2.eb 2 rfl;have kf:=Blk.free hew2.eb 2;have hbe:=Blk.lt hew2.eb;have hbr2:=hrp.2.lt;have r0:w2.cell? ⟨br,0,none⟩=some (.int .i64 rr.way):=hrp.2.cell 0 rfl;have r1:w2.cell? ⟨br,1,none⟩=some (.int .i64 rr.size):=hrp.2.cell 1 rfl;have r2:w2.cell? ⟨br,2,none⟩=some (.int .i64 rr.kind):=hrp.2.cell 2 rfl;have r3:w2.cell? ⟨br,3,none⟩=some (S rr.name):=hrp.2.cell 3 rfl;have r4:w2.cell? ⟨br,4,none⟩=some (S rr.key):=hrp.2.cell 4 rfl;have r5:w2.cell? ⟨br,5,none⟩=some (S rr.salt):=hrp.2.cell 5 rfl;have r6:w2.cell? ⟨br,6,none⟩=some (.int .i64 rr.rounds):=hrp.2.cell 6 rfl;have r7:w2.cell? ⟨br,7,none⟩=some (S rr.iv):=hrp.2.cell 7 rfl;have r8:w2.cell? ⟨br,8,none⟩=some (S rr.loose):=hrp.2.cell 8 rfl;have c3:w2.cell? ⟨pc,0,none⟩=some (.pointer (some ⟨b,0,none⟩)):=(HC.out.2.2.2.cell (p:=⟨pc,0,none⟩) HA.out.2.2.2.2.2.1 (fun e=>e.elim HA.out.2.2.2.2.2.2.1 (fun e2=>by have:=HA0.out.1; have:=HP0.out; simp only at e2; omega))).trans HA.out.2.2.2.2.2.2.2;have hvl:=hew2.own.len;obtain⟨la,lc,hvl1,hlc1,hlc2,_⟩:=hvl;have HEW:=zz hew2;obtain⟨i0,hi0,hz0,hz1,hz2⟩:=info_parts Tryz.infoRec;unfold maxLen at hlc2;obtain⟨m9,hm9⟩:∃m9,m9=done.length:=⟨_,rfl⟩
       have hown:w2.ownsRow 0 78 9 vto' m9 (done.flatMap cRec):=by
        have:=hew2.own;unfold Owns at this;rw [hm9];exact this
       have HO:=zz hown;have hm8:m9<=7:=by have:=HB.out.1; omega
       have LB:=hew2.ap.ne;have HM9:=zz hm9;clear hcu2 hfs1 hrp hfr2 hk c1 hew2 HIN hown hvl1 hlc1 hlc2 hm9;go_upto_region 23 with fail
       go_region_law
        ((refine step_append_lies _ (by rfl) _ _ _ (by rfl) 0 78 i0 _ 9 112 Tryz.underlying25 hi0 hz0 hz1 hz2 rfl (by omega) vto' m9 (done.flatMap cRec) (by rfl) (World.ownsRow.alloc HO.out _)
           ⟨w2.heap.size,0,none⟩ 1 1 (cRec rr) (by rfl) (by rfl) (World.news_of_block (cs:=(cRec rr).toArray) (t:=78) (fr:=(0,0)) (heap_alloc_new w2 _)) (by simp [cRec,Value.oneCell'])
           (by omega) (by unfold maxLen; omega) (by omega) (by simp) (w2.heap.size+1) (by simp) ?_; intro gg cap w3 hown1 hgrow hat hlt; have k4:=AO hgrow k2 LB; have e4:=AP hgrow k2 kf LB))
       all_goals
        go_wp2_with fail;have hm:=HM9.out;subst hm;obtain⟨q1,q2,q3⟩:=HEW.out.push (fun q hq=>HC.out.1.lt q hq) hown1 hgrow (hat.imp id (fun e=>by omega)) rfl;have l3:=World.block_lt_of_cell? _ _ c3;simp only at l3;have hw2:=B7 HB.out.2.2.2.2.2.2.2.2.1 HB.out.2.2.2.2.2.2.2.2.2.1 HS1.out (by have:=HA0.out.1; have:=HB.out.2.2.2.2.2.2.2.2.1.size; omega) HC.out.2.2.2;have hsz:w.heap.size<=w1.heap.size:=Nat.le_trans HB.out.2.2.2.2.2.2.2.2.1.size HS1.out.size;refine⟨⟨m,done++ [rr],k1,F1,_,?_,?_,?_,HL.out.1,HL.out.2.trans HB.out.2.2.2.1,q1,?_,?_,?_,?_,?_,A0 hw2 HB.out.2.2.2.2.2.2.2.2.2.2.1 q3,HI2.out⟩,?_⟩
        ·rw [List.length_append,List.length_singleton];have:=HB.out.1;omega
        ·rw [List.length_append];rfl
        ·exact HC.out.1.fr q2 (fun q hq e=>HEW.out.nf q e hq) (fun q hq e=>(HB.out.2.2.2.2.2.2.2.2.2.2.1 q e).elim (H.out.2.2.2.2.2.2.2 q hq) (fun y=>by have:=H.out.1.va q hq; omega))
        ·exact(q2.cell (p:=⟨pc,0,none⟩) l3 HB.out.2.2.2.2.2.2.2.1).trans c3
        ·exact fun e=>(HC.out.2.1 pc e).elim HA.out.2.2.2.2.2.2.1 (fun y=>by have:=HA.out.2.2.2.2.2.1; omega)
        ·exact fun e=>(q3 pc e).elim HB.out.2.2.2.2.2.2.2.1 (fun y=>by omega)
        ·exact fT hw2 q2 fun q hq x=>(HB.out.2.2.2.2.2.2.2.2.2.2.1 q x).elim .inr (fun y=>by omega)
        ·exact fun q hq=>(HC.out.2.1 q hq).elim (HB.out.2.2.2.2.2.2.2.2.2.1 q) (fun y=> .inr (Nat.le_trans hsz y))
        ·show n - (((done.length:Nat):Int)+1).toNat<n - ((done.length:Nat):Int).toNat;have:=HB.out.1;omega
     ·by_cases hp2:pk=163
      ·subst hp2;have hin:=Bd b va L lim k' F' (fun q=>q=br) 0xa3 (by decide) (by decide) 105 #[.pointer (some ⟨pc,0,none⟩),.pointer (some ⟨br,0,none⟩)] (password L lim) (RecP br) w1 HA.out.1 HA.out.2.1 (by have:=HA.out.2.2.1; have:=H.out.2.2.1; omega) H.out.2.2.2.1 (fun _=>rfl)
        (Ay (DO H.out.2.2.2.1 H.out.2.2.2.2.1.2)) (fun v F w w' h hf=>⟨h.1,h.2.fr hf h.1⟩)
        (fun w2 F1 k2 h1 h2 h3 h4 h5=>Mg pc b br va L lim k2 F1 w2 h1 h2 (by have:=HA.out.2.2.1; have:=H.out.2.2.1; omega) H.out.2.2.2.1 H.out.2.2.2.2.1 ⟨fun x=>(h5 _ x).elim HA.out.2.2.2.1.1 (fun y=>absurd HA.out.2.2.2.1.2.lt (by omega)),HA.out.2.2.2.1.2.fr h4 HA.out.2.2.2.1.1⟩ HA.out.2.2.2.2.1 ((h4.cell (p:=⟨pc,0,none⟩) HA.out.2.2.2.2.2.1 HA.out.2.2.2.2.2.2.1).trans HA.out.2.2.2.2.2.2.2))
       rw [show((0xa3:UInt8).toNat)=163 from rfl]at hin;have HIN:=zz hin;have hrec:recip L lim k'=inn L 163 (password L lim) k':=by
        unfold recip;rw [if_neg (fun e=>hp (hpk.trans e)),if_pos hpk.symm]
       have HRC:=zz hrec;clear hp hin hrec hpk;go_wp2_with fail;refine HIN.out.mono ?_;intro e w2 hT;rw [<-HRC.out]at hT;cases hk:recip L lim k' with
       | error en=>
        rw [hk]at hT;have HI2:=zz (HRM.out.trans (B6 hk));obtain⟨⟨v,rfl,fb,rfl,hb⟩,hs⟩:=hT;have HE:=zz (aN hb hs);clear hb hs hk HIN;go_wp2;go_ret;rw [HI2.out];exact⟨⟨_,rfl,fb,rfl,HE.out.1⟩,B7 HB.out.2.2.2.2.2.2.2.2.1 HB.out.2.2.2.2.2.2.2.2.2.1 HS1.out (by have:=HA0.out.1; have:=HB.out.2.2.2.2.2.2.2.2.1.size; omega) HE.out.2⟩
       | ok q=>
        obtain⟨rr,k1⟩:=q;rw [hk]at hT;have HI2:=zz (HRM.out.trans (FH hk));obtain⟨rfl,⟨F1,hcu2,hfs1,hrp⟩,hfr2⟩:=hT;have HL:=zz (Aq (BS H.out.2.2.2.1 H.out.2.2.2.2.1.2) hk HA.out.2.1);have HC:=zz (aN hcu2 (aN hfs1 (aN hrp hfr2)));have hew2:EnvW w2 F1 be {x with «to» :=done} vto':=by
         have h1:=HB.out.2.2.2.2.1.keep (HS1.out.fr F') (Aa _ F');have hnb:¬envFoot be vto' br:=fun e=>by have:=HB.out.2.2.2.2.1.lt br e; have:=HA0.out.1; omega
         have hbl:∀q,envFoot be vto' q->¬(F' q\/q=br):=fun q hq e=>e.elim (h1.nf q hq) (fun e2=>hnb (by rw [<-e2]; exact hq))
         exact⟨Blk.fr h1.eb HC.out.2.2.2 (hbl be (.inl rfl)),h1.own.fr HC.out.2.2.2 (fun q e=>hbl q (.inr e)),fun q hq e=>(HC.out.2.1 q e).elim (h1.nf q hq) (fun y=>by have:=h1.lt q hq; omega),h1.ap⟩
        have k2:=Blk.cell hew2.eb 2 rfl;have kf:=Blk.free hew2.eb 2;have hbe:=Blk.lt hew2.eb;have hbr2:=hrp.2.lt;have r0:w2.cell? ⟨br,0,none⟩=some (.int .i64 rr.way):=hrp.2.cell 0 rfl;have r1:w2.cell? ⟨br,1,none⟩=some (.int .i64 rr.size):=hrp.2.cell 1 rfl;have r2:w2.cell? ⟨br,2,none⟩=some (.int .i64 rr.kind):=hrp.2.cell 2 rfl;have r3:w2.cell? ⟨br,3,none⟩=some (S rr.name):=hrp.2.cell 3 rfl;have r4:w2.cell? ⟨br,4,none⟩=some (S rr.key):=hrp.2.cell 4 rfl;have r5:w2.cell? ⟨br,5,none⟩=some (S rr.salt):=hrp.2.cell 5 rfl;have r6:w2.cell? ⟨br,6,none⟩=some (.int .i64 rr.rounds):=hrp.2.cell 6 rfl;have r7:w2.cell? ⟨br,7,none⟩=some (S rr.iv):=hrp.2.cell 7 rfl;have r8:w2.cell? ⟨br,8,none⟩=some (S rr.loose):=hrp.2.cell 8 rfl;have c3:w2.cell? ⟨pc,0,none⟩=some (.pointer (some ⟨b,0,none⟩)):=(HC.out.2.2.2.cell (p:=⟨pc,0,none⟩) HA.out.2.2.2.2.2.1 (fun e=>e.elim HA.out.2.2.2.2.2.2.1 (fun e2=>by have:=HA0.out.1; have:=HP0.out; simp only at e2; omega))).trans HA.out.2.2.2.2.2.2.2;have hvl:=hew2.own.len;obtain⟨la,lc,hvl1,hlc1,hlc2,_⟩:=hvl;have HEW:=zz hew2;obtain⟨i0,hi0,hz0,hz1,hz2⟩:=info_parts Tryz.infoRec;unfold maxLen at hlc2;obtain⟨m9,hm9⟩:∃m9,m9=done.length:=⟨_,rfl⟩
        have hown:w2.ownsRow 0 78 9 vto' m9 (done.flatMap cRec):=by
         have:=hew2.own;unfold Owns at this;rw [hm9];exact this
        have HO:=zz hown;have hm8:m9<=7:=by have:=HB.out.1; omega
        have LB:=hew2.ap.ne;have HM9:=zz hm9;clear hcu2 hfs1 hrp hfr2 hk c1 hew2 HIN hown hvl1 hlc1 hlc2 hm9;go_upto_region 23 with fail
        go_region_law
         ((refine step_append_lies _ (by rfl) _ _ _ (by rfl) 0 78 i0 _ 9 112 Tryz.underlying25 hi0 hz0 hz1 hz2 rfl (by omega) vto' m9 (done.flatMap cRec) (by rfl) (World.ownsRow.alloc HO.out _)
            ⟨w2.heap.size,0,none⟩ 1 1 (cRec rr) (by rfl) (by rfl) (World.news_of_block (cs:=(cRec rr).toArray) (t:=78) (fr:=(0,0)) (heap_alloc_new w2 _)) (by simp [cRec,Value.oneCell'])
            (by omega) (by unfold maxLen; omega) (by omega) (by simp) (w2.heap.size+1) (by simp) ?_; intro gg cap w3 hown1 hgrow hat hlt; have k4:=AO hgrow k2 LB; have e4:=AP hgrow k2 kf LB))
        all_goals
         go_wp2_with fail;have hm:=HM9.out;subst hm;obtain⟨q1,q2,q3⟩:=HEW.out.push (fun q hq=>HC.out.1.lt q hq) hown1 hgrow (hat.imp id (fun e=>by omega)) rfl;have l3:=World.block_lt_of_cell? _ _ c3;simp only at l3;have hw2:=B7 HB.out.2.2.2.2.2.2.2.2.1 HB.out.2.2.2.2.2.2.2.2.2.1 HS1.out (by have:=HA0.out.1; have:=HB.out.2.2.2.2.2.2.2.2.1.size; omega) HC.out.2.2.2;have hsz:w.heap.size<=w1.heap.size:=Nat.le_trans HB.out.2.2.2.2.2.2.2.2.1.size HS1.out.size;refine⟨⟨m,done++ [rr],k1,F1,_,?_,?_,?_,HL.out.1,HL.out.2.trans HB.out.2.2.2.1,q1,?_,?_,?_,?_,?_,A0 hw2 HB.out.2.2.2.2.2.2.2.2.2.2.1 q3,HI2.out⟩,?_⟩
         ·rw [List.length_append,List.length_singleton];have:=HB.out.1;omega
         ·rw [List.length_append];rfl
         ·exact HC.out.1.fr q2 (fun q hq e=>HEW.out.nf q e hq) (fun q hq e=>(HB.out.2.2.2.2.2.2.2.2.2.2.1 q e).elim (H.out.2.2.2.2.2.2.2 q hq) (fun y=>by have:=H.out.1.va q hq; omega))
         ·exact(q2.cell (p:=⟨pc,0,none⟩) l3 HB.out.2.2.2.2.2.2.2.1).trans c3
         ·exact fun e=>(HC.out.2.1 pc e).elim HA.out.2.2.2.2.2.2.1 (fun y=>by have:=HA.out.2.2.2.2.2.1; omega)
         ·exact fun e=>(q3 pc e).elim HB.out.2.2.2.2.2.2.2.1 (fun y=>by omega)
         ·exact fT hw2 q2 fun q hq x=>(HB.out.2.2.2.2.2.2.2.2.2.2.1 q x).elim .inr (fun y=>by omega)
         ·exact fun q hq=>(HC.out.2.1 q hq).elim (HB.out.2.2.2.2.2.2.2.2.2.1 q) (fun y=> .inr (Nat.le_trans hsz y))
         ·show n - (((done.length:Nat):Int)+1).toNat<n - ((done.length:Nat):Int).toNat;have:=HB.out.1;omega
      ·by_cases hp3:pk=48\/pk=161\/pk=164
       ·rcases hp3 with hp3 | hp3 | hp3
        ·have t162:(((pk:Nat):Int)==162)=false:=bn (by omega);have t163:(((pk:Nat):Int)==163)=false:=bn (by omega);have t48:(((pk:Nat):Int)==48)=true:=by rw [beq_iff_eq]; omega
         have hrec:recip L lim k'= .error 11:=by
          unfold recip;rw [if_neg (fun e=>hp (hpk.trans e)),if_neg (fun e=>hp2 (hpk.trans e)),if_pos (by rw [<-hpk]; omega)]
         have HI2:=zz (HRM.out.trans (B6 hrec));clear hrec hp hpk;go_wp2_with fail;refine(Al 11 _).mono ?_;rintro e w2 ⟨v,rfl,⟨fb,rfl,he⟩,hs⟩;have HE:=zz (aN he hs);clear he hs;go_wp2;go_ret;rw [HI2.out];exact⟨⟨_,rfl,fb,rfl,HE.out.1⟩,B7 HB.out.2.2.2.2.2.2.2.2.1 HB.out.2.2.2.2.2.2.2.2.2.1 HS1.out (by have:=HA0.out.1; have:=HB.out.2.2.2.2.2.2.2.2.1.size; omega) (HE.out.2.fr _)⟩
        ·have t162:(((pk:Nat):Int)==162)=false:=bn (by omega);have t163:(((pk:Nat):Int)==163)=false:=bn (by omega);have t48:(((pk:Nat):Int)==48)=false:=bn (by omega);have t161:(((pk:Nat):Int)==161)=true:=by rw [beq_iff_eq]; omega
         have hrec:recip L lim k'= .error 11:=by
          unfold recip;rw [if_neg (fun e=>hp (hpk.trans e)),if_neg (fun e=>hp2 (hpk.trans e)),if_pos (by rw [<-hpk]; omega)]
         have HI2:=zz (HRM.out.trans (B6 hrec));clear hrec hp hpk;go_wp2_with fail;refine(Al 11 _).mono ?_;rintro e w2 ⟨v,rfl,⟨fb,rfl,he⟩,hs⟩;have HE:=zz (aN he hs);clear he hs;go_wp2;go_ret;rw [HI2.out];exact⟨⟨_,rfl,fb,rfl,HE.out.1⟩,B7 HB.out.2.2.2.2.2.2.2.2.1 HB.out.2.2.2.2.2.2.2.2.2.1 HS1.out (by have:=HA0.out.1; have:=HB.out.2.2.2.2.2.2.2.2.1.size; omega) (HE.out.2.fr _)⟩
        ·have t162:(((pk:Nat):Int)==162)=false:=bn (by omega);have t163:(((pk:Nat):Int)==163)=false:=bn (by omega);have t48:(((pk:Nat):Int)==48)=false:=bn (by omega);have t161:(((pk:Nat):Int)==161)=false:=bn (by omega);have t164:(((pk:Nat):Int)==164)=true:=by rw [beq_iff_eq]; omega
         have hrec:recip L lim k'= .error 11:=by
          unfold recip;rw [if_neg (fun e=>hp (hpk.trans e)),if_neg (fun e=>hp2 (hpk.trans e)),if_pos (by rw [<-hpk]; omega)]
         have HI2:=zz (HRM.out.trans (B6 hrec));clear hrec hp hpk;go_wp2_with fail;refine(Al 11 _).mono ?_;rintro e w2 ⟨v,rfl,⟨fb,rfl,he⟩,hs⟩;have HE:=zz (aN he hs);clear he hs;go_wp2;go_ret;rw [HI2.out];exact⟨⟨_,rfl,fb,rfl,HE.out.1⟩,B7 HB.out.2.2.2.2.2.2.2.2.1 HB.out.2.2.2.2.2.2.2.2.2.1 HS1.out (by have:=HA0.out.1; have:=HB.out.2.2.2.2.2.2.2.2.1.size; omega) (HE.out.2.fr _)⟩
       ·have t162:(((pk:Nat):Int)==162)=false:=bn (by omega);have t163:(((pk:Nat):Int)==163)=false:=bn (by omega);have t48:(((pk:Nat):Int)==48)=false:=bn (by omega);have t161:(((pk:Nat):Int)==161)=false:=bn (by omega);have t164:(((pk:Nat):Int)==164)=false:=bn (by omega);have hrec:recip L lim k'= .error 9:=by
         unfold recip;rw [if_neg (fun e=>hp (hpk.trans e)),if_neg (fun e=>hp2 (hpk.trans e)),if_neg (by rw [<-hpk]; exact hp3)]
        have HI2:=zz (HRM.out.trans (B6 hrec));clear hrec hp hpk;go_wp2_with fail;refine(Al 9 _).mono ?_;rintro e w2 ⟨v,rfl,⟨fb,rfl,he⟩,hs⟩;have HE:=zz (aN he hs);clear he hs;go_wp2;go_ret;rw [HI2.out];exact⟨⟨_,rfl,fb,rfl,HE.out.1⟩,B7 HB.out.2.2.2.2.2.2.2.2.1 HB.out.2.2.2.2.2.2.2.2.2.1 HS1.out (by have:=HA0.out.1; have:=HB.out.2.2.2.2.2.2.2.2.1.size; omega) (HE.out.2.fr _)⟩
    ·have hltz:¬((done.length:Nat):Int)<((n:Nat):Int):=by omega
     have hm0:m=0:=by omega
     have HE:=zz (aN hcu (aN hev (aN hfr (aN hfs (aN hfs2 (show R= .ok (done,k') by rw [hRm,hm0]; simp [recipN,ahead,ret]))))));clear hcu hfi hlen hev hbk hnf hne2 hfr hfs hfs2 hRm hdm hlt hm0;go_wp2;go_ret;rw [HE.out.2.2.2.2.2];exact⟨rfl,⟨F',HE.out.1,HE.out.2.2.2.1,vto',HE.out.2.1,HE.out.2.2.2.2.1⟩,HE.out.2.2.1⟩
structure BodW (w:World) (F:Nat->Prop) (pc px b be:Nat) (x:Co.Env) (vto:Value):Prop where
 cc:w.cell? ⟨pc,0,none⟩=some (.pointer (some ⟨b,0,none⟩))
 cx:w.cell? ⟨px,0,none⟩=some (.pointer (some ⟨be,0,none⟩))
 ew:EnvW w F be x vto
 nf:∀q,q=pc\/q=px->¬(F q\/envFoot be vto q)
section
variable {w w' : World} {F F' : Nat -> Prop} {pc px b be : Nat} {x x' : Co.Env} {vto vto' : Value}
theorem BodW.lt(h:BodW w F pc px b be x vto):pc<w.heap.size/\px<w.heap.size:=
 ⟨World.block_lt_of_cell? _ _ h.cc,World.block_lt_of_cell? _ _ h.cx⟩
theorem BodW.next(h:BodW w F pc px b be x vto)(hf:Fr (fun q=>F q\/envFoot be vto q) w w')(hs:Fresh w F F')(he:EnvW w' F' be x' vto')(hv:Fresh w (envFoot be vto) (envFoot be vto')):BodW w' F' pc px b be x' vto':=by
 obtain⟨l1,l2⟩:=h.lt;refine⟨(hf.cell (p:=⟨pc,0,none⟩) l1 (h.nf pc (.inl rfl))).trans h.cc,(hf.cell (p:=⟨px,0,none⟩) l2 (h.nf px (.inr rfl))).trans h.cx,he,fun q hq e=>?_⟩;rcases e with e | e
 ·rcases hs q e with y | y
  ·exact h.nf q hq (.inl y)
  ·rcases hq with rfl | rfl<;>omega
 ·rcases hv q e with y | y
  ·exact h.nf q hq (.inr y)
  ·rcases hq with rfl | rfl<;>omega
theorem BodW.stable(h:BodW w F pc px b be x vto)(hf:Fr F w w'):BodW w' F pc px b be x vto:=h.next (Fr.mono hf fun _ y=> .inl y) (Aa _ _) (h.ew.keep hf (Aa _ _)) (Aa _ _)
theorem BodW.setE(h:BodW w F pc px b be x vto)(i:Nat)(v:Value)(he:(envC x vto).setIfInBounds i v=envC x' vto)(ht:x'.to=x.to):BodW (w.setCell ⟨be,i,none⟩ v) F pc px b be x' vto:=
 h.next (fC (F:=fun q=>F q\/envFoot be vto q) (fR _ w) (p:=⟨be,i,none⟩) (.inl (.inr (.inl rfl))) v) (Aa _ _) (h.ew.set i v he ht) (Aa _ _)
end
def MidE(set:Bytes->Co.Env)(w:World)(pc px b be:Nat)(va:Value)(L:List Px.Node)(lim:Lim)(F:Nat->Prop)(vto:Value)(R:Except Int (Bytes×Cu))(t:Value)(wx:World):Prop:=match R with
 | .ok (s,k1)=>t= .nilIface/\CuAt wx b va L lim k1 F/\BodW wx F pc px b be (set s) vto/\Fr (fun q=>F q\/envFoot be vto q) w wx
 | .error n=>ErrV wx t n/\Fr (fun q=>F q\/envFoot be vto q) w wx
theorem Jm {set:Bytes->Co.Env} {w w2:World} {pc px b be i:Nat} {va vto:Value} {L:List Px.Node} {lim:Lim} {F:Nat->Prop} {x:Co.Env} {R:Except Int (Bytes×Cu)} {e:Ending}
  (hset:∀s,(envC x vto).setIfInBounds i (S s)=envC (set s) vto/\(set s).to=x.to) (h:TkP S (S []) w b va L lim F R e w2) (hr:BodW w F pc px b be x vto) (hv:∀q,va.ownBlock=some q->q≠be):
  ∃s t,e= .returned (.tuple #[S s,t])/\Fr F w w2/\MidE set w pc px b be va L lim F vto R t (w2.setCell ⟨be,i,none⟩ (S s)):=by
 have hnb:¬F be:=hr.ew.nf be (.inl rfl);cases R with
 | ok q=>
  obtain⟨s,k1⟩:=q;obtain⟨e1,h1,h2⟩:=h;refine⟨s,.nilIface,e1,h2,rfl,?_,?_,?_⟩
  ·exact h1.setOut be i _ hnb hv
  ·exact(hr.stable h2).setE i (S s) (hset s).1 (hset s).2
  ·exact fC (Fr.mono h2 fun _ x=> .inl x) (p:=⟨be,i,none⟩) (.inl (.inr (.inl rfl))) _
 | error n=>
  obtain⟨⟨v,e1,h1⟩,h2⟩:=h;refine⟨[],v,e1,h2,?_,?_⟩
  ·exact h1.setB (Blk.fr hr.ew.eb h2 hnb) (by simp [envC])
  ·exact fC (Fr.mono h2 fun _ x=> .inl x) (p:=⟨be,i,none⟩) (.inl (.inr (.inl rfl))) _
theorem MidE.base{set:Bytes->Co.Env}{w w0 wx:World}{pc px b be:Nat}{va vto:Value}{L:List Px.Node}{lim:Lim}{F:Nat->Prop}{R:Except Int (Bytes×Cu)}{t:Value}(h:MidE set w0 pc px b be va L lim F vto R t wx)(hs:Same w w0):MidE set w pc px b be va L lim F vto R t wx:=by
 cases R with
 | ok q=>
  obtain⟨h1,h2,h3,h4⟩:=h;exact⟨h1,h2,h3,(hs.fr _).trans h4 fun _ _ x=>x⟩
 | error n=>
  obtain⟨h1,h2⟩:=h;exact⟨h1,(hs.fr _).trans h2 fun _ _ x=>x⟩
def RecsP(w:World)(be:Nat)(x:Co.Env)(vto:Value)(rs:List Co.Rec)(F':Nat->Prop)(w':World):Prop:=∃vto',EnvW w' F' be {x with «to» :=rs} vto'/\Fresh w (envFoot be vto) (envFoot be vto')
theorem J2(pc px b be:Nat)(va vto:Value)(L:List Px.Node)(lim:Lim)(k:Cu)(F:Nat->Prop)(x:Co.Env)(w:World)(h:CuAt w b va L lim k F)(hf:Fits L k)(hd:k.left.length<=90)(hr:∀a∈L,E5.right a=true)(hl:0<=lim.r/\lim.r<=4096)(hx:BodW w F pc px b be x vto)(hx0:x.to=[])(hv:∀q,va.ownBlock=some q->¬envFoot be vto q):
  Calls Tryz.prog 66 #[.pointer (some ⟨pc,0,none⟩),.pointer (some ⟨px,0,none⟩)] w (RunsE w b va L lim F (envFoot be vto) (RecsP w be x vto) (recips L lim k)):=by
 have HD:=zz (J1 b be va vto L lim k F x w h hf hd hr hl hx.ew hx0 hv);obtain⟨R,hR⟩:∃R,R=recips L lim k:=⟨_,rfl⟩
 rw [<-hR]at HD ⊢;have c1:=hx.cc;have c2:=hx.cx;clear hR h hf hd hr hl hx hx0 hv;go_enter Tryz.func66,Tryz.ntmps66;go_wp2_with fail;refine HD.out.mono ?_;intro e w1 hT;cases R with
 | error n=>
  obtain⟨⟨v,rfl,fb,rfl,hb⟩,hs⟩:=hT;have HE:=zz (aN hb hs);clear hb hs HD;go_wp2;go_ret;exact⟨⟨_,rfl,fb,rfl,HE.out.1⟩,HE.out.2⟩
 | ok q=>
  obtain⟨d,k1⟩:=q;obtain⟨rfl,hq,hfr⟩:=hT;have HE:=zz (aN hq hfr);clear hq hfr HD;go_wp2;go_ret;exact⟨rfl,HE.out.1,HE.out.2⟩
theorem RecsP.stable{w w1 w2:World}{be:Nat}{x:Co.Env}{vto:Value}{rs:List Co.Rec}{F:Nat->Prop}(h:RecsP w be x vto rs F w1)(hf:Fr F w1 w2):RecsP w be x vto rs F w2:=by
 obtain⟨v,h1,h2⟩:=h;exact⟨v,h1.keep hf (Aa _ _),h2⟩
theorem CX{F F1 E E1:Nat->Prop}{w w6 w7:World}(h:Fr (fun q=>F q\/E q) w w6)(hs:Fresh w F F1)(he:Fresh w E E1)(k:Fr (fun q=>F1 q\/E1 q) w6 w7):Fr (fun q=>F q\/E q) w w7:=fT h k fun q hq y=>by
 rcases y with y | y
 ·exact(hs q y).elim .inl (fun z=>by omega)
 ·exact(he q y).elim .inr (fun z=>by omega)
noncomputable def bodyD3 (L:List Px.Node) (rs:List Co.Rec) (a:(Nat×Bytes×Nat)×Bytes) (h:Bytes):P Co.Env:=bnd (octs L a.1.2.2 a.1.2.2 1) fun t=>bar (fun c=>peek L c==0xa2) 11 (ret (envOf rs a h t))
noncomputable def bodyC3 (L:List Px.Node) (rs:List Co.Rec) (a:(Nat×Bytes×Nat)×Bytes):P Co.Env:=bnd (beside L) fun h=>bodyD3 L rs a h
noncomputable def bodyB3 (L:List Px.Node) (lim:Lim):P Co.Env:=bnd (inn L 0x31 (recips L lim)) fun rs=>bnd (content L) fun a=>bodyC3 L rs a
def env0:Co.Env:=⟨1,0,[],[],[],[],[],[],[]⟩
def BodP(N be:Nat)(e:Co.Env)(F':Nat->Prop)(w':World):Prop:=∃vto',EnvW w' F' be e vto'/\∀q,vto'.ownBlock=some q->N<=q
theorem K5(N b be:Nat)(va vto:Value)(L:List Px.Node)(lim:Lim)(k:Cu)(F:Nat->Prop)(w:World)(h:CuAt w b va L lim k F)(hf:Fits L k)(hd:k.left.length<=50)(hr:∀a∈L,E5.right a=true)(hl:0<=lim.r/\lim.r<=4096)(hx:EnvW w F be env0 vto)(hv:∀q,va.ownBlock=some q->¬envFoot be vto q)(hT:Tabs w)(hF:∀q,q=1\/q=2->¬(F q\/envFoot be vto q))(hN:N<=w.heap.size/\∀q,vto.ownBlock=some q->N<=q):
  Calls Tryz.prog 28 #[.pointer (some ⟨b,0,none⟩),.pointer (some ⟨be,0,none⟩)] w (RunsE w b va L lim F (envFoot be vto) (BodP N be) (body L lim k)):=by
 obtain⟨R,hR⟩:∃R,R=body L lim k:=⟨_,rfl⟩
 rw [<-hR];have HR:=zz hR;obtain⟨w3,hw3⟩:∃w3,w3=(w.alloc (.cells #[.pointer (some ⟨b,0,none⟩)] 50)).alloc (.cells #[.pointer (some ⟨be,0,none⟩)] 60):=⟨_,rfl⟩
 have hs3:Same w w3:=by rw [hw3]; exact((fR _ _).alloc _).alloc _
 obtain⟨pc,hpc⟩:∃pc,pc=w.heap.size:=⟨_,rfl⟩
 obtain⟨px,hpx⟩:∃px,px=w.heap.size+1:=⟨_,rfl⟩
 have hbw:BodW w3 F pc px b be env0 vto:=by
  have b0:=(Af w #[.pointer (some ⟨b,0,none⟩)] 50).alloc (.cells #[.pointer (some ⟨be,0,none⟩)] 60);have b1:=Af (w.alloc (.cells #[.pointer (some ⟨b,0,none⟩)] 50)) #[.pointer (some ⟨be,0,none⟩)] 60;rw [show(w.alloc (.cells #[.pointer (some ⟨b,0,none⟩)] 50)).heap.size=w.heap.size+1 by simp]at b1;rw [<-hw3]at b0 b1;rw [<-hpc]at b0;rw [<-hpx]at b1;refine⟨b0.cell 0 rfl,b1.cell 0 rfl,hx.keep (hs3.fr F) (Aa _ _),fun q hq e=>?_⟩;rcases e with e | e
  ·have:=h.lt q e;omega
  ·have:=hx.lt q e;omega
 have HT:=zz (Dh b va L lim k F [0] w3 (h.same hs3) hf);have H:=zz (aN h (aN hf (aN hd (aN hr (aN hl (aN hx (aN hv (aN hT (aN hF (aN hs3 (aN (aN hpc hpx) hw3)))))))))));have HB3:=zz hbw;have HN:=zz hN;have c1:=hbw.cc;rw [hw3]at c1;rw [hpc]at c1;clear hN hR h hf hd hr hl hx hv hT hF hs3 hpc hpx hw3 hbw;go_enter Tryz.func28,Tryz.ntmps28;go_wp2_with fail;rw [<-H.out.2.2.2.2.2.2.2.2.2.2.2,<-H.out.2.2.2.2.2.2.2.2.2.2.1.2,<-H.out.2.2.2.2.2.2.2.2.2.2.1.1];refine HT.out.mono ?_;intro e w4 hT;clear c1 HT;cases hk:version L [0] k with
 | error n=>
  rw [hk]at hT;have HI:=zz (HR.out.trans (An hk));obtain⟨⟨v,rfl,fb2,rfl,hfb⟩,hs⟩:=hT;have HE:=zz (aN hfb ((H.out.2.2.2.2.2.2.2.2.2.1.fr F).trans hs fun _ _ y=>y));clear hs hfb hk;go_wp2;go_ret;rw [HI.out];exact⟨⟨_,rfl,fb2,rfl,HE.out.1⟩,Fr.mono HE.out.2 fun _ y=> .inl y⟩
 | ok q=>
  obtain⟨u,k1⟩:=q;rw [hk]at hT;obtain⟨rfl,hc,hs⟩:=hT;have HI:=zz (HR.out.trans (Ao hk));obtain⟨hf1,hl1⟩:=Aq (Bz H.out.2.2.2.1 [0]) hk H.out.2.1;have hb4:=HB3.out.stable hs;have HTG:=zz (A6 b va L lim k1 F w4 hc hf1);have HW4:=zz (aN hb4 (aN hc (aN ((H.out.2.2.2.2.2.2.2.2.2.1.fr F).trans hs fun _ _ y=>y) (aN hf1 hl1))));have c1:=hb4.cc;clear hb4 hc hs hf1 hl1 hk;go_wp2_with fail;refine HTG.out.mono ?_;rintro e w5 ⟨rfl,hs5⟩;have hb5:=HW4.out.1.stable (hs5.fr F);have HW5:=zz (aN hb5 (aN (HW4.out.2.1.same hs5) (HW4.out.2.2.1.trans (hs5.fr F) fun _ _ y=>y)));clear hs5 c1 HTG;by_cases hp:peek L k1=160
  ·have HI2:=zz (HI.out.trans (if_pos (show(peek L k1==0xa0)=true by rw [hp]; rfl)));have hpz:(((peek L k1:Nat):Int)==160)=true:=by rw [hp]; rfl
   clear hp hb5;go_wp2_with fail;refine(Al 11 _).mono ?_;rintro e w6 ⟨v,rfl,he,hs6⟩;have HE:=zz (aN he (HW5.out.2.2.trans (hs6.fr F) fun _ _ y=>y));clear he hs6;go_wp2;go_ret;rw [HI2.out];exact⟨⟨v,rfl,HE.out.1⟩,Fr.mono HE.out.2 fun _ y=> .inl y⟩
  ·have HI2:Hid (R=bodyB3 L lim k1):=zz (HI.out.trans (if_neg (show ¬(peek L k1==0xa0)=true by rw [beq_iff_eq]; exact hp)));have hpz:(((peek L k1:Nat):Int)==160)=false:=bn (by omega);obtain⟨pk,hpk⟩:∃pk,pk=peek L k1:=⟨_,rfl⟩
   rw [<-hpk]at hpz ⊢;have hin:=Bd b va L lim k1 F (envFoot be vto) 0x31 (by decide) (by decide) 66 #[.pointer (some ⟨pc,0,none⟩),.pointer (some ⟨px,0,none⟩)] (recips L lim) (RecsP w5 be env0 vto) w5 HW5.out.2.1 HW4.out.2.2.2.1 (by have:=HW4.out.2.2.2.2; have:=H.out.2.2.1; omega) H.out.2.2.2.1 (fun _=>rfl) (Ay (CE H.out.2.2.2.1 H.out.2.2.2.2.1.2)) (fun v F w w' h hf=>h.stable hf)
    (fun w6 F1 k2 h1 h2 h3 h4 h5=>(J2 pc px b be va vto L lim k2 F1 env0 w6 h1 h2 (by have:=HW4.out.2.2.2.2; have:=H.out.2.2.1; omega) H.out.2.2.2.1 H.out.2.2.2.2.1 (HW5.out.1.next (Fr.mono h4 fun _ y=> .inl y) h5 (HW5.out.1.ew.keep h4 h5) (Aa _ _)) rfl H.out.2.2.2.2.2.2.1).mono (fun e w' hq=>by
     cases hrr:recips L lim k2 with
     | error n=>rw [hrr]at hq; exact hq
     | ok z=>
      rw [hrr]at hq;obtain⟨q1,⟨F2,q2,q3,v2,q4,q5⟩,q6⟩:=hq;exact⟨q1,⟨F2,q2,q3,v2,q4,fun q hq=>(q5 q hq).imp id (fun y=>Nat.le_trans h4.size y)⟩,q6⟩))
   rw [show((0x31:UInt8).toNat)=49 from rfl]at hin;have HIN:=zz hin;have c1:=hb5.cc;clear hp hpk hin hb5;go_wp2_with fail;refine HIN.out.mono ?_;intro e w6 hT;clear c1 HIN;cases hk:inn L 49 (recips L lim) k1 with
   | error n=>
    rw [hk]at hT;have HI3:=zz (HI2.out.trans (An hk));obtain⟨⟨v,rfl,fb2,rfl,hfb⟩,hs⟩:=hT;have HE:=zz (aN hfb ((Fr.mono HW5.out.2.2 (fun _ y=>Or.inl y)).trans hs fun _ _ y=>y));clear hs hfb hk;go_wp2;go_ret;rw [HI3.out];exact⟨⟨_,rfl,fb2,rfl,HE.out.1⟩,HE.out.2⟩
   | ok q=>
    obtain⟨rs,k2⟩:=q;rw [hk]at hT;obtain⟨rfl,⟨F1,hc,hs1,v1,hev,hvf⟩,hs⟩:=hT;have HI3:=zz (HI2.out.trans (Ao hk));obtain⟨hf2,hl2⟩:=Aq ((CE H.out.2.2.2.1 H.out.2.2.2.2.1.2).inn H.out.2.2.2.1 (t:=0x31) (by decide) (by decide)) hk HW4.out.2.2.2.1;obtain⟨x1,hx1⟩:∃x1:Co.Env,x1= {env0 with «to» :=rs}:=⟨_,rfl⟩
    replace hev:EnvW w6 F1 be x1 v1:=by rw [hx1]; exact hev
    have hb6:=HW5.out.1.next hs hs1 hev hvf;have hsz5:w.heap.size<=w5.heap.size:=HW5.out.2.2.size;have hfs6:Fresh w F F1:=fun q hq=>(hs1 q hq).imp id (fun y=>Nat.le_trans hsz5 y)
    have hvf6:Fresh w (envFoot be vto) (envFoot be v1):=fun q hq=>(hvf q hq).imp id (fun y=>Nat.le_trans hsz5 y)
    have hva6:∀q,va.ownBlock=some q->¬envFoot be v1 q:=fun q hq e=>(hvf6 q e).elim (H.out.2.2.2.2.2.2.1 q hq) (fun y=>by have:=H.out.1.va q hq; omega)
    have hfr6:Fr (fun q=>F q\/envFoot be vto q) w w6:=(Fr.mono HW5.out.2.2 (fun _ y=>Or.inl y)).trans hs fun _ _ y=>y
    have HCT:=zz (IL b be va v1 L lim k2 F1 x1 w6 hc hf2 (by have:=HW4.out.2.2.2.2; have:=H.out.2.2.1; omega) H.out.2.2.2.1 hev hva6);have HW6:=zz (aN hb6 (aN hc (aN hfr6 (aN hf2 (aN (show k2.left.length<=50 by have:=HW4.out.2.2.2.2; have:=H.out.2.2.1; omega) (aN hfs6 (aN hvf6 (aN hva6 hx1))))))));have c1:=hb6.cc;have c2:=hb6.cx;clear hc hs1 hev hvf hs hf2 hl2 hx1 hb6 hsz5 hfs6 hvf6 hva6 hfr6 hk;go_wp2_with fail;refine HCT.out.mono ?_;intro e w7 hT;clear c1 c2 HCT;cases hk:content L k2 with
    | error n=>
     rw [hk]at hT;have HI4:=zz (HI3.out.trans (An hk));obtain⟨⟨m,v,rfl,fb2,rfl,hfb⟩,hs⟩:=hT;have HE:=zz (aN hfb (CX HW6.out.2.2.1 HW6.out.2.2.2.2.2.1 HW6.out.2.2.2.2.2.2.1 hs));clear hs hfb hk;go_wp2;go_ret;rw [HI4.out];exact⟨⟨_,rfl,fb2,rfl,HE.out.1⟩,HE.out.2⟩
    | ok q=>
     obtain⟨a,k3⟩:=q;rw [hk]at hT;obtain⟨rfl,⟨F2,hc,hs1,hev⟩,hs⟩:=hT;have HI4:Hid (R=bodyC3 L rs a k3):=zz (HI3.out.trans (Ao hk));obtain⟨hf3,hl3⟩:=Aq (C3 H.out.2.2.2.1) hk HW6.out.2.2.2.1;obtain⟨_,_,_,_,⟨hcok,_⟩,_⟩:=C3 H.out.2.2.2.1 k2 a k3 hk HW6.out.2.2.2.1;obtain⟨x2,hx2⟩:∃x2:Co.Env,x2= {x1 with alg:=algsL.getD a.1.1 0,iv:=a.1.2.1,cipher:=a.2}:=⟨_,rfl⟩
     replace hev:EnvW w7 F2 be x2 v1:=by rw [hx2]; exact hev
     obtain⟨sz,hsz⟩:∃sz,sz=a.1.2.2:=⟨_,rfl⟩
     have hsz16:sz<=5000:=by
      rw [hsz];rcases hcok.2.2.1 with e | e
      ·omega
      ·unfold Cm.tagged at e
       split at e
       ·simp only [Bool.and_eq_true,decide_eq_true_eq]at e;omega
       ·simp only [Bool.and_eq_true,decide_eq_true_eq]at e;omega
     have hb7:=HW6.out.1.next hs hs1 hev (Aa _ _);have hfs7:Fresh w F F2:=fun q hq=>(hs1 q hq).elim (HW6.out.2.2.2.2.2.1 q) (fun y=> .inr (Nat.le_trans HW6.out.2.2.1.size y))
     have hfr7:=CX HW6.out.2.2.1 HW6.out.2.2.2.2.2.1 HW6.out.2.2.2.2.2.2.1 hs;have HTG:=zz (A6 b va L lim k3 F2 w7 hc hf3);have HW7:=zz (aN hb7 (aN hc (aN hfr7 (aN hf3 (aN hfs7 (aN hx2 (aN hsz (show k3.left.length<=50 by have:=HW6.out.2.2.2.2.1; omega))))))));have HSZ:=zz hsz16;rw [<-hsz];have c1:=hb7.cc;clear hk hc hs1 hev hs hf3 hl3 hcok hx2 hsz hsz16 hb7 hfs7 hfr7;go_wp2_with fail;refine HTG.out.mono ?_;rintro e w8 ⟨rfl,hs8⟩;have HW8:=zz (aN (HW7.out.1.stable (hs8.fr F2)) (aN (HW7.out.2.1.same hs8) (HW7.out.2.2.1.trans (hs8.fr _) fun _ _ y=>y)));clear hs8 c1 HTG;have HVE:=zz (show ∀q,va.ownBlock=some q->q≠be from fun q hq e=>HW6.out.2.2.2.2.2.2.2.1 q hq (.inl e));obtain⟨vx,hvx⟩:∃vx,vx=v1:=⟨_,rfl⟩
     have HNV:=zz (show ∀q,vx.ownBlock=some q->N<=q from fun q hq=>by
      rw [hvx]at hq;rcases HW6.out.2.2.2.2.2.2.1 q (.inr hq)with (y | y)| y
      ·exact absurd hq (HW6.out.1.ew.ap.ne ∘ fun e=>by rw [e,y])
      ·exact HN.out.2 q y
      ·exact Nat.le_trans HN.out.1 y)
     by_cases hp:peek L k3=161
     ·have HI5:Hid (R=bnd (attrs L) (fun h=>bodyD3 L rs a h) k3):=zz (HI4.out.trans (by
       show bnd (beside L) _ k3=bnd (attrs L) _ k3;unfold bnd beside;rw [if_pos (show peek L k3=0xa1 from hp)]))
      have hpz:(((peek L k3:Nat):Int)==161)=true:=by rw [hp]; rfl
      have hT8:Tabs w8:=Tabs.frg H.out.2.2.2.2.2.2.2.1 HW8.out.2.2 (H.out.2.2.2.2.2.2.2.2.1 _ (.inl rfl)) (H.out.2.2.2.2.2.2.2.2.1 _ (.inr rfl));have hlo:∀q,q<w.heap.size->¬F q->¬F2 q:=fun q h1 h2 e=>(HW7.out.2.2.2.2.1 q e).elim h2 (fun y=>by omega)
      have l1:=World.block_lt_of_cell? _ _ (H.out.2.2.2.2.2.2.2.1.1 0 (by decide));have l2:=World.block_lt_of_cell? _ _ (H.out.2.2.2.2.2.2.2.1.2 0 (by decide)).1;have HAT:=zz (K3 b be va v1 L lim k3 F2 x2 w8 HW8.out.2.1 HW7.out.2.2.2.1 (by have:=HW7.out.2.2.2.2.2.2.2; omega) H.out.2.2.2.1 HW8.out.1.ew HW6.out.2.2.2.2.2.2.2.1 hp hT8 ⟨hlo _ l1 (fun e=>H.out.2.2.2.2.2.2.2.2.1 _ (.inl rfl) (.inl e)),hlo _ l2 (fun e=>H.out.2.2.2.2.2.2.2.2.1 _ (.inr rfl) (.inl e))⟩);have c1:=HW8.out.1.cc;have c2:=HW8.out.1.cx;clear hp hT8 hlo l1 l2;go_wp2_with fail;refine HAT.out.mono ?_;intro e w9 hT;clear c1 c2 HAT;cases hk:attrs L k3 with
      | error n=>
       rw [hk]at hT;have HI6:=zz (HI5.out.trans (An hk));obtain⟨⟨v,rfl,fb2,rfl,hfb⟩,hs⟩:=hT;have HE:=zz (aN hfb (CX HW8.out.2.2 HW7.out.2.2.2.2.1 HW6.out.2.2.2.2.2.2.1 hs));clear hs hfb hk;go_wp2;go_ret;rw [HI6.out];exact⟨⟨_,rfl,fb2,rfl,HE.out.1⟩,HE.out.2⟩
      | ok q=>
       obtain⟨hh,kx⟩:=q;rw [hk]at hT;obtain⟨rfl,⟨Fx,hc,hs1,hev⟩,hs⟩:=hT;obtain⟨xx,hxx⟩:∃xx:Co.Env,xx= {x2 with header:=hh}:=⟨_,rfl⟩
       replace hev:EnvW w9 Fx be xx v1:=by rw [hxx]; exact hev
       have HFX:=zz (Aq (Fv H.out.2.2.2.1) hk HW7.out.2.2.2.1).1;have HIX:Hid (R=bnd (octs L sz sz 1) (fun t=>bar (fun c=>peek L c==0xa2) 11 (ret (envOf rs a hh t))) kx):=zz (by rw [HW7.out.2.2.2.2.2.2.1]; exact HI5.out.trans (Ao hk));have HXX:=zz (show ∀t,({xx with tag:=t}:Co.Env)=envOf rs a hh t from fun t=>by rw [hxx,HW7.out.2.2.2.2.2.1,HW6.out.2.2.2.2.2.2.2.2]; rfl);have HBW:=zz (HW8.out.1.next hs hs1 hev (Aa _ _));have hfs9:Fresh w F Fx:=fun q hq=>(hs1 q hq).elim (HW7.out.2.2.2.2.1 q) (fun y=> .inr (Nat.le_trans HW8.out.2.2.size y))
       have HFS:=zz hfs9;have HCU:=zz hc;have HFW:=zz (show ∀W,Fr (fun q=>Fx q\/envFoot be vx q) w9 W->Fr (fun q=>F q\/envFoot be vto q) w W from fun W hq=>CX (CX HW8.out.2.2 HW7.out.2.2.2.2.1 HW6.out.2.2.2.2.2.2.1 hs) hfs9 HW6.out.2.2.2.2.2.2.1 (by rw [<-hvx]; exact hq));subst hvx;clear hk hc hs1 hev hs hxx hfs9;go_wp2_with fail;obtain⟨R1,hR1⟩:∃R1,R1=octs L sz sz 1 kx:=⟨_,rfl⟩
       have HR1:=zz hR1;have f1:=HBW.out.cx;have f2:=HBW.out.cc;clear hR1;go_upto_region 16 with fail
       go_cut [8] (fun t2 wx=>MidE (fun s=> {xx with tag:=s}) w9 pc px b be va L lim Fx vx R1 t2 wx)
       case first=>
        obtain⟨SS,hSS⟩:∃SS:World->Prop,SS=(fun W:World=>W.cell? ⟨px,0,none⟩=some (.pointer (some ⟨be,0,none⟩))/\W.cell? ⟨pc,0,none⟩=some (.pointer (some ⟨b,0,none⟩))):=⟨_,rfl⟩
        have hS0:SS w9.drew:=by rw [hSS]; exact⟨f1,f2⟩
        refine sR hS0 fun hHeld=>?_
        refine tQ 0 ?_ ?_ ?_;rotate_left
        ·intro w hw;rw [hSS]at hw;obtain⟨q1,q2⟩:=hw;go_simp;try (with_reducible rfl)
        simp only [Act.put,Z1,Z2,Z3];refine tQ 1 ?_ ?_ ?_;rotate_left
        ·intro w hw;rw [hSS]at hw;obtain⟨q1,q2⟩:=hw;go_simp;try (with_reducible rfl)
        simp only [Act.put,Z1,Z2,Z3];refine tQ 2 ?_ ?_ ?_;rotate_left
        ·intro w hw;rw [hSS]at hw;obtain⟨q1,q2⟩:=hw;go_simp;try (with_reducible rfl)
        simp only [Act.put,Z1,Z2,Z3];refine tQ 3 ?_ ?_ ?_;rotate_left
        ·intro w hw;rw [hSS]at hw;obtain⟨q1,q2⟩:=hw;go_simp;try (with_reducible rfl)
        simp only [Act.put,Z1,Z2,Z3];refine rD 4 rfl (fun K hK=>?_);go_simp;refine(A3 sz sz 1 _).mono ?_;rintro e wa ⟨rfl,hba,hbc,hbm,hsa⟩;have hro:=HBW.out.stable (fD (fR _ w9));have hrw:=hro.stable (hsa.fr Fx);refine sO hK ?_ fun hHeld=>?_
        ·rw [hSS];exact⟨hrw.cx,hrw.cc⟩
        clear hK K;refine rD 5 rfl (fun K hK=>?_);go_simp;have hcu:=(HCU.out.same (fD (sE w9))).same hsa;refine(BL b va L lim kx Fx _ sz sz 1 (by omega) ⟨HSZ.out,HSZ.out,by omega⟩ wa hcu HFX.out (Aw HCU.out.lt hba hbc hbm)).mono ?_;intro e wb hT;rw [<-HR1.out]at hT;obtain⟨s,t,rfl,hfb,hmid⟩:=Jm (i:=8) (set:=fun s=> {xx with tag:=s}) (fun s=>⟨by simp [envC],rfl⟩) hT hrw HVE.out;have hrx:=hrw.stable hfb;refine sO hK ?_ fun hHeld=>?_
        ·rw [hSS];exact⟨hrx.cx,hrx.cc⟩
        clear hK K;refine tQ 6 ?_ ?_ ?_;rotate_left
        ·intro w hw;rw [hSS]at hw;obtain⟨q1,q2⟩:=hw;go_simp;try (with_reducible rfl)
        simp only [Act.put,Z1,Z2,Z3];refine tQ 7 ?_ ?_ ?_;rotate_left
        ·intro w hw;rw [hSS]at hw;obtain⟨q1,q2⟩:=hw;go_simp;try (with_reducible rfl)
        simp only [Act.put,Z1,Z2,Z3];refine tQ 8 ?_ ?_ ?_;rotate_left
        ·intro w hw;rw [hSS]at hw;obtain⟨q1,q2⟩:=hw;go_simp;try (with_reducible rfl)
        simp only [Act.put,Z1,Z2,Z3];refine tQ 9 ?_ ?_ ?_;rotate_left
        ·intro w hw;rw [hSS]at hw;obtain⟨q1,q2⟩:=hw;go_simp;try (with_reducible rfl)
        simp only [Act.put,Z1,Z2,Z3];refine tQ 10 ?_ ?_ ?_;rotate_left
        ·intro w hw;rw [hSS]at hw;obtain⟨q1,q2⟩:=hw;go_simp;try (with_reducible rfl)
        simp only [Act.put,Z1,Z2,Z3];have fb:=Blk.free hrx.ew.eb 8;have k0:=Blk.cell hrx.ew.eb 8 rfl;refine rD 11 rfl (fun K hK=>?_);go_simp;refine sO hK ?_ fun hHeld=>?_
        ·rw [hSS];have hrx2:=hrx.setE (x':= {xx with tag:=s}) 8 (S s) (by simp [envC]) rfl;exact⟨hrx2.cx,hrx2.cc⟩
        clear hK K;refine tQ 12 ?_ ?_ ?_;rotate_left
        ·intro w hw;rw [hSS]at hw;obtain⟨q1,q2⟩:=hw;go_simp;try (with_reducible rfl)
        simp only [Act.put,Z1,Z2,Z3];refine wpAnyH_done (by kernel_rfl) ?_ _;go_wp2_with fail;go_meet
        exact hmid.base (sT (fD (fR _ w9)) hsa)
       case rest=>
        clear f1 f2;have hR1:=HR1.out;clear HR1;cases R1 with
        | error n=>
         have HI9:=zz (HIX.out.trans (An hR1.symm));obtain⟨⟨fb,rfl,hb⟩,hs⟩:=hcut;have HE:=zz (aN hb (HFW.out _ hs));clear hb hs hR1;go_wp2;go_ret;rw [HI9.out];exact⟨⟨_,rfl,fb,rfl,HE.out.1⟩,HE.out.2⟩
        | ok q=>
         obtain⟨s,k9⟩:=q;obtain⟨rfl,hc,hbw,hs⟩:=hcut;have HI9:=zz (HIX.out.trans (Ao hR1.symm));obtain⟨hf9,_⟩:=Aq (AR H.out.2.2.2.1 _ _ _) hR1.symm HFX.out;have HTG:=zz (A6 b va L lim k9 Fx _ hc hf9);have c9:=hbw.cc;have HE:=zz (aN hc (aN hbw (HFW.out _ hs)));clear hc hbw hs hR1 hf9;go_wp2_with fail;refine HTG.out.mono ?_;rintro e wz ⟨rfl,hsz⟩;have HSZ2:=zz hsz;clear hsz c9 HTG;by_cases hp9:peek L k9=162
         ·have HI10:=zz (HI9.out.trans (if_pos (show(peek L k9==0xa2)=true by rw [hp9]; rfl)));have hpz:(((peek L k9:Nat):Int)==162)=true:=by rw [hp9]; rfl
          clear hp9;go_wp2_with fail;refine(Al 11 _).mono ?_;rintro e wy ⟨v,rfl,he,hsy⟩;have HE2:=zz (aN he (HSZ2.out.trans hsy));clear he hsy;go_wp2;go_ret;rw [HI10.out];exact⟨⟨v,rfl,HE2.out.1⟩,HE.out.2.2.trans (HE2.out.2.fr _) fun _ _ y=>y⟩
         ·have HI10:=zz (HI9.out.trans (if_neg (show ¬(peek L k9==0xa2)=true by rw [beq_iff_eq]; exact hp9)));have hpz:(((peek L k9:Nat):Int)==162)=false:=bn (by omega);obtain⟨pk9,hpk9⟩:∃pk9,pk9=peek L k9:=⟨_,rfl⟩
          rw [<-hpk9]at hpz ⊢;clear hp9 hpk9;go_wp2;go_ret;rw [HI10.out];refine⟨rfl,⟨Fx,HE.out.1.same HSZ2.out,HFS.out,vx,?_,HNV.out⟩,HE.out.2.2.trans (HSZ2.out.fr _) fun _ _ y=>y⟩;have:=(HE.out.2.1.stable (HSZ2.out.fr Fx)).ew;rw [HXX.out]at this;exact this
     ·have HIX:Hid (R=bnd (octs L sz sz 1) (fun t=>bar (fun c=>peek L c==0xa2) 11 (ret (envOf rs a [] t))) k3):=zz (HI4.out.trans (by
       rw [HW7.out.2.2.2.2.2.2.1];show bnd (beside L) _ k3=_;refine Ao ?_;unfold beside;rw [if_neg (show ¬peek L k3=0xa1 from hp)]))
      have hpz:(((peek L k3:Nat):Int)==161)=false:=bn (by omega);obtain⟨pk3,hpk3⟩:∃pk3,pk3=peek L k3:=⟨_,rfl⟩
      rw [<-hpk3]at hpz ⊢;have HFX:=zz HW7.out.2.2.2.1;obtain⟨xx,hxx⟩:∃xx:Co.Env,xx=x2:=⟨_,rfl⟩
      have HXX:=zz (show ∀t,({xx with tag:=t}:Co.Env)=envOf rs a [] t from fun t=>by rw [hxx,HW7.out.2.2.2.2.2.1,HW6.out.2.2.2.2.2.2.2.2]; rfl);have HBW:=zz HW8.out.1;have HFS:=zz HW7.out.2.2.2.2.1;have HCU:=zz HW8.out.2.1;have HFW:=zz (show ∀W,Fr (fun q=>F2 q\/envFoot be vx q) w8 W->Fr (fun q=>F q\/envFoot be vto q) w W from fun W hq=>CX HW8.out.2.2 HW7.out.2.2.2.2.1 HW6.out.2.2.2.2.2.2.1 (by rw [<-hvx]; exact hq));subst hvx hxx;clear hp hpk3;go_wp2_with fail;obtain⟨R1,hR1⟩:∃R1,R1=octs L sz sz 1 k3:=⟨_,rfl⟩
      have HR1:=zz hR1;have f1:=HBW.out.cx;have f2:=HBW.out.cc;clear hR1;go_upto_region 16 with fail
      go_cut [8] (fun t2 wx=>MidE (fun s=> {xx with tag:=s}) w8 pc px b be va L lim F2 vx R1 t2 wx)
      case first=>
       obtain⟨SS,hSS⟩:∃SS:World->Prop,SS=(fun W:World=>W.cell? ⟨px,0,none⟩=some (.pointer (some ⟨be,0,none⟩))/\W.cell? ⟨pc,0,none⟩=some (.pointer (some ⟨b,0,none⟩))):=⟨_,rfl⟩
       have hS0:SS w8.drew:=by rw [hSS]; exact⟨f1,f2⟩
       refine sR hS0 fun hHeld=>?_
       refine tQ 0 ?_ ?_ ?_;rotate_left
       ·intro w hw;rw [hSS]at hw;obtain⟨q1,q2⟩:=hw;go_simp;try (with_reducible rfl)
       simp only [Act.put,Z1,Z2,Z3];refine tQ 1 ?_ ?_ ?_;rotate_left
       ·intro w hw;rw [hSS]at hw;obtain⟨q1,q2⟩:=hw;go_simp;try (with_reducible rfl)
       simp only [Act.put,Z1,Z2,Z3];refine tQ 2 ?_ ?_ ?_;rotate_left
       ·intro w hw;rw [hSS]at hw;obtain⟨q1,q2⟩:=hw;go_simp;try (with_reducible rfl)
       simp only [Act.put,Z1,Z2,Z3];refine tQ 3 ?_ ?_ ?_;rotate_left
       ·intro w hw;rw [hSS]at hw;obtain⟨q1,q2⟩:=hw;go_simp;try (with_reducible rfl)
       simp only [Act.put,Z1,Z2,Z3];refine rD 4 rfl (fun K hK=>?_);go_simp;refine(A3 sz sz 1 _).mono ?_;rintro e wa ⟨rfl,hba,hbc,hbm,hsa⟩;have hro:=HBW.out.stable (fD (fR _ w8));have hrw:=hro.stable (hsa.fr F2);refine sO hK ?_ fun hHeld=>?_
       ·rw [hSS];exact⟨hrw.cx,hrw.cc⟩
       clear hK K;refine rD 5 rfl (fun K hK=>?_);go_simp;have hcu:=(HCU.out.same (fD (sE w8))).same hsa;refine(BL b va L lim k3 F2 _ sz sz 1 (by omega) ⟨HSZ.out,HSZ.out,by omega⟩ wa hcu HFX.out (Aw HCU.out.lt hba hbc hbm)).mono ?_;intro e wb hT;rw [<-HR1.out]at hT;obtain⟨s,t,rfl,hfb,hmid⟩:=Jm (i:=8) (set:=fun s=> {xx with tag:=s}) (fun s=>⟨by simp [envC],rfl⟩) hT hrw HVE.out;have hrx:=hrw.stable hfb;refine sO hK ?_ fun hHeld=>?_
       ·rw [hSS];exact⟨hrx.cx,hrx.cc⟩
       clear hK K;refine tQ 6 ?_ ?_ ?_;rotate_left
       ·intro w hw;rw [hSS]at hw;obtain⟨q1,q2⟩:=hw;go_simp;try (with_reducible rfl)
       simp only [Act.put,Z1,Z2,Z3];refine tQ 7 ?_ ?_ ?_;rotate_left
       ·intro w hw;rw [hSS]at hw;obtain⟨q1,q2⟩:=hw;go_simp;try (with_reducible rfl)
       simp only [Act.put,Z1,Z2,Z3];refine tQ 8 ?_ ?_ ?_;rotate_left
       ·intro w hw;rw [hSS]at hw;obtain⟨q1,q2⟩:=hw;go_simp;try (with_reducible rfl)
       simp only [Act.put,Z1,Z2,Z3];refine tQ 9 ?_ ?_ ?_;rotate_left
       ·intro w hw;rw [hSS]at hw;obtain⟨q1,q2⟩:=hw;go_simp;try (with_reducible rfl)
       simp only [Act.put,Z1,Z2,Z3];refine tQ 10 ?_ ?_ ?_;rotate_left
       ·intro w hw;rw [hSS]at hw;obtain⟨q1,q2⟩:=hw;go_simp;try (with_reducible rfl)
       simp only [Act.put,Z1,Z2,Z3];have fb:=Blk.free hrx.ew.eb 8;have k0:=Blk.cell hrx.ew.eb 8 rfl;refine rD 11 rfl (fun K hK=>?_);go_simp;refine sO hK ?_ fun hHeld=>?_
       ·rw [hSS];have hrx2:=hrx.setE (x':= {xx with tag:=s}) 8 (S s) (by simp [envC]) rfl;exact⟨hrx2.cx,hrx2.cc⟩
       clear hK K;refine tQ 12 ?_ ?_ ?_;rotate_left
       ·intro w hw;rw [hSS]at hw;obtain⟨q1,q2⟩:=hw;go_simp;try (with_reducible rfl)
       simp only [Act.put,Z1,Z2,Z3];refine wpAnyH_done (by kernel_rfl) ?_ _;go_wp2_with fail;go_meet
       exact hmid.base (sT (fD (fR _ w8)) hsa)
      case rest=>
       clear f1 f2;have hR1:=HR1.out;clear HR1;cases R1 with
       | error n=>
        have HI9:=zz (HIX.out.trans (An hR1.symm));obtain⟨⟨fb,rfl,hb⟩,hs⟩:=hcut;have HE:=zz (aN hb (HFW.out _ hs));clear hb hs hR1;go_wp2;go_ret;rw [HI9.out];exact⟨⟨_,rfl,fb,rfl,HE.out.1⟩,HE.out.2⟩
       | ok q=>
        obtain⟨s,k9⟩:=q;obtain⟨rfl,hc,hbw,hs⟩:=hcut;have HI9:=zz (HIX.out.trans (Ao hR1.symm));obtain⟨hf9,_⟩:=Aq (AR H.out.2.2.2.1 _ _ _) hR1.symm HFX.out;have HTG:=zz (A6 b va L lim k9 F2 _ hc hf9);have c9:=hbw.cc;have HE:=zz (aN hc (aN hbw (HFW.out _ hs)));clear hc hbw hs hR1 hf9;go_wp2_with fail;refine HTG.out.mono ?_;rintro e wz ⟨rfl,hsz⟩;have HSZ2:=zz hsz;clear hsz c9 HTG;by_cases hp9:peek L k9=162
        ·have HI10:=zz (HI9.out.trans (if_pos (show(peek L k9==0xa2)=true by rw [hp9]; rfl)));have hpz:(((peek L k9:Nat):Int)==162)=true:=by rw [hp9]; rfl
         clear hp9;go_wp2_with fail;refine(Al 11 _).mono ?_;rintro e wy ⟨v,rfl,he,hsy⟩;have HE2:=zz (aN he (HSZ2.out.trans hsy));clear he hsy;go_wp2;go_ret;rw [HI10.out];exact⟨⟨v,rfl,HE2.out.1⟩,HE.out.2.2.trans (HE2.out.2.fr _) fun _ _ y=>y⟩
        ·have HI10:=zz (HI9.out.trans (if_neg (show ¬(peek L k9==0xa2)=true by rw [beq_iff_eq]; exact hp9)));have hpz:(((peek L k9:Nat):Int)==162)=false:=bn (by omega);obtain⟨pk9,hpk9⟩:∃pk9,pk9=peek L k9:=⟨_,rfl⟩
         rw [<-hpk9]at hpz ⊢;clear hp9 hpk9;go_wp2;go_ret;rw [HI10.out];refine⟨rfl,⟨F2,HE.out.1.same HSZ2.out,HFS.out,vx,?_,HNV.out⟩,HE.out.2.2.trans (HSZ2.out.fr _) fun _ _ y=>y⟩;have:=(HE.out.2.1.stable (HSZ2.out.fr F2)).ew;rw [HXX.out]at this;exact this
end Go.Proofs.YtpfhollohodcjaaGreatDoor
