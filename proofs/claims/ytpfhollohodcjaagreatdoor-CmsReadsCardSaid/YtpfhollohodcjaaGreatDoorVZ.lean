import Derived.Test.YtpfhollohodcjaaGreatDoorVY
import Derived.Test.YtpfhollohodcjaaGreatDoorVG
set_option maxRecDepth 100000
set_option maxHeartbeats 8000000
namespace Go.Px.E5
theorem FG{L:List Node}:∀ {f left p q:Nat},cnt L f left p=some q->left≠0->left+p<=L.length/\f≠0
 | 0,_,_,_,h,_=>by cases h
 | f+1,left,p,q,h,h0=>by
  rw [cnt,if_neg h0]at h;cases e:L[p]? with
  | none=>rw [e]at h; cases h
  | some a=>
   rw [e]at h;have hp:=(List.getElem?_eq_some_iff.1 e).1;by_cases h1:left+a.kids.toNat - 1=0
   ·exact⟨by omega,by omega⟩
   ·have:=(FG (f:=f) (left:=left+a.kids.toNat - 1) (p:=p+1) h h1).1;exact⟨by omega,by omega⟩
end Go.Px.E5
namespace Go.Proofs.YtpfhollohodcjaaGreatDoor
open Go.RowKit Go.Px Go.Px.Co Go.Px.Cm
theorem Nt{w:World}{va:Value}{L:List Px.Node}(h:Lies w 3 cNode va L){i:Nat}{a:Px.Node}(hi:L[i]?=some a):∃vb off cap,va= .slice (some ⟨vb,off,none⟩) L.length cap/\vb<w.heap.size/\w.cell? ⟨vb,off+i*3,none⟩=some (.int .u8 (a.tag.toNat:Nat))/\w.cell? ⟨vb,off+i*3+1,none⟩=some (.int .i64 a.kids):=by
 obtain⟨vb,off,cap,e1,e2,e3⟩:=h.cell i a hi;refine⟨vb,off,cap,e1,e2,?_,?_⟩
 ·have:=e3 0 _ rfl
  rwa [Nat.add_zero]at this
 ·have:=e3 1 _ rfl
  rwa [<-Nat.add_assoc]at this
theorem IM(va:Value)(L:List Px.Node)(p q f:Nat)(w:World)(h:Lies w 3 cNode va L)(hL:L.length<=4096)(hc:E5.cnt L f 1 p=some q):
  Calls Tryz.prog 144 #[va,.int .i64 (p:Nat)] w fun e w'=>e= .returned (.int .i64 (q:Nat))/\w=w':=by
 have HC:=zz hc;have H:=zz (aN h hL);obtain⟨hp1,_⟩:=E5.FG hc (by omega);have HP:=zz hp1;clear hc h hL hp1;go_enter Tryz.func144,Tryz.ntmps144;go_wp2_with fail;go_loopw [1,5] (fun pp ll wr=>∃(g left i:Nat),pp= .int .i64 (i:Nat)/\ll= .int .i64 (left:Nat)/\Hid (E5.cnt L g left i=some q)/\left<=5000/\i<=5000/\w=wr) (fun pp _ _=>5001 - (intOf pp).toNat)
 case atStart=>
  exact⟨f,1,p,rfl,rfl,HC,by omega,by have:=HP.out; have:=H.out.2; omega,rfl⟩
 case round=>
  obtain⟨g,left,i,rfl,rfl,hg,hl5,hi5,rfl⟩:=hrel;by_cases h0:left=0
  ·subst h0;have hq:i=q:=by
    have:=hg.out;cases g with
    | zero=>cases this
    | succ g=>
     rw [E5.cnt,if_pos rfl]at this;exact Option.some.inj this
   subst hq;clear hg hl5 hi5;go_wp2;go_ret;exact⟨rfl,rfl⟩
  ·obtain⟨hle,hg0⟩:=E5.FG hg.out h0;obtain⟨g,rfl⟩:∃g',g=g'+1:=⟨g - 1,by omega⟩
   have hi:i<L.length:=by omega
   have hle2:=H.out.2;obtain⟨vb,off,cap,rfl,hvb,x0,x1⟩:=Nt H.out.1 (List.getElem?_eq_getElem hi);obtain⟨a,ha⟩:∃a,a=L[i]:=⟨_,rfl⟩
   rw [<-ha]at x0 x1;have hn:E5.cnt L g (left+a.kids.toNat - 1) (i+1)=some q:=by
    have:=hg.out;rw [E5.cnt,if_neg h0,List.getElem?_eq_getElem hi,<-ha]at this;exact this
   have hk5:left+a.kids.toNat - 1<=5000:=by
    by_cases h1:left+a.kids.toNat - 1=0
    ·omega
    ·have:=(E5.FG hn h1).1;omega
   have HN:=zz hn;obtain⟨kk,hkk⟩:∃kk,kk=a.kids:=⟨_,rfl⟩
   rw [<-hkk]at x1 hk5;have HKK:=zz hkk;have hmx:max kk 0=(kk.toNat:Int):=by omega
   obtain⟨n,hnn⟩:∃n:Nat,n=kk.toNat:=⟨_,rfl⟩
   rw [<-hnn]at hmx hk5;have HNN:=zz hnn;have hltz:(i:Int)<(L.length:Int):=by omega
   have hlz:(0:Int)<(left:Int):=by omega
   clear hg hn hkk hnn ha hi hle h0 hg0;go_wp2;refine⟨⟨g,left+n - 1,i+1,rfl,?_,zz (by rw [HNN.out,HKK.out]; exact HN.out),hk5,by omega,trivial⟩,?_⟩
   ·rw [show((left+n - 1:Nat):Int)=(left:Int)+(n:Int) - 1 by omega]
   ·show 5001 - (((i:Nat):Int)+1).toNat<5001 - ((i:Nat):Int).toNat;omega
theorem CuRep.skip{T:TypeId}{rs:List Value}{w:World}{b:Nat}{va:Value}{L:List Px.Node}{k:Cu}{n:Nat}{r:List Nat}{g cap:Nat}(h:CuRep T rs w b va L k (.slice (some ⟨g,0,none⟩) (r.length+1) cap))(hk:k.left=(n+1)::r)(y:Nat):
  CuRep T rs ((w.setCell ⟨g,r.length,none⟩ (.int .i64 (n:Nat))).setCell ⟨b,1,none⟩ (.int .i64 ((y:Nat):Int))) b va L ⟨y,n::r⟩ (.slice (some ⟨g,0,none⟩) (r.length+1) cap):=by
 have hgb:¬b=g:=fun e=>h.lb g rfl (by rw [e])
 have hva:∀q,va.ownBlock=some q->¬(q=g\/q=b):=by
  rintro q hq (e | e)
  ·exact h.al q hq (by rw [e]; rfl)
  ·exact h.ab q hq (by rw [e])
 refine⟨?_,?_,h.lb,?_,h.ab,h.al,by simp,h.wf,fun q e=>by simpa [World.setCell] using h.al2 q e⟩
 ·have q:=(h.blk.other (p:=⟨g,r.length,none⟩) (.int .i64 (n:Nat)) hgb).set 1 (.int .i64 ((y:Nat):Int));rw [show(cuCells va (.slice (some ⟨g,0,none⟩) (r.length+1) cap) k.at_ rs).setIfInBounds 1 (.int .i64 ((y:Nat):Int))=cuCells va (.slice (some ⟨g,0,none⟩) (r.length+1) cap) y rs by simp [cuCells]]at q;exact q
 ·have h':=h.own;rw [hk,List.reverse_cons,<- @List.length_reverse _ r]at h';have q:=h'.setLast (b:=n) Bk 0 (.int .i64 (n:Nat)) rfl;rw [List.length_reverse,Nat.mul_one,Nat.add_zero]at q;rw [show(⟨y,n::r⟩:Cu).left.reverse=r.reverse++ [n]from List.reverse_cons];exact q.setCell (p:=⟨b,1,none⟩) h.lb.ne _
 ·exact Lies.keepF (F:=fun q=>q=g\/q=b) h.lies (((fR _ w).setCell (p:=⟨g,r.length,none⟩) (.inl (.inl rfl)) _).setCell (p:=⟨b,1,none⟩) (.inl (.inr rfl)) _) hva
theorem Mh(b:Nat)(va:Value)(L:List Px.Node)(lim:Lim)(k:Cu)(F:Nat->Prop)(n:Nat)(r:List Nat)(w:World)(h:CuAt w b va L lim k F)(hf:Fits L k)(hk:k.left=(n+1)::r):
  Calls Tryz.prog 114 #[.pointer (some ⟨b,0,none⟩)] w fun e w'=>e= .returned (.tuple #[])/\CuAt w' b va L lim ⟨nx L k.at_,n::r⟩ F/\Fr F w w':=by
 obtain⟨vl,hrep,rfl⟩:=h;have hst:=hf.2;rw [hk]at hst;obtain⟨x,y,o,q,hx1,hx2,_⟩:=B0 hst;have hnx:=GR hx2 hx1;have hcnt:=hx2.cnt hx1;rw [<-hnx]at hcnt;obtain⟨n1,r1,g,cap,hk1,rfl,hc1,hc2,t0,tf,hg⟩:=hrep.top;rw [hk]at hk1;simp only [List.cons.injEq]at hk1;obtain⟨rfl,rfl⟩:=hk1;obtain⟨c0,c1,c2⟩:=hrep.cells;have fb:=hrep.free 1;have hgb:¬b=g:=fun e=>hrep.lb g rfl (by rw [e])
 have hgb2:¬g=b:=fun e=>hgb e.symm
 have hbl:=hrep.lt;unfold maxLen at hc2;have hnl:=Cw hf hk;have hL:=hrep.wf.1;have hn5:(n:Int)+1<=5000:=by omega
 have hgF:cuFoot b (.slice (some ⟨g,0,none⟩) (r.length+1) cap) g:= .inr rfl;have hva:∀q,va.ownBlock=some q->¬cuFoot b (.slice (some ⟨g,0,none⟩) (r.length+1) cap) q:=fun q hq e=>e.elim (fun e=>hrep.ab q hq (by rw [e])) (fun e=>hrep.al q hq e)
 have HB:=zz (fun W (hW:Fr (cuFoot b (.slice (some ⟨g,0,none⟩) (r.length+1) cap)) w W)=>IM va L k.at_ (nx L k.at_) _ W (Lies.keepF hrep.lies hW hva) hL hcnt);have HF:=zz (show Fr (cuFoot b (.slice (some ⟨g,0,none⟩) (r.length+1) cap)) w (w.drew.setCell ⟨g,r.length,none⟩ (.int .i64 (n:Nat))).drew from((fD (fR _ w)).setCell (p:=⟨g,r.length,none⟩) (.inl hgF) _).drew);obtain⟨a,ha⟩:∃a,a=k.at_:=⟨_,rfl⟩
 obtain⟨z,hz⟩:∃z,z=nx L k.at_:=⟨_,rfl⟩
 have HSK:=zz (aN (hrep.skip hk z) hva);have HA:=zz (aN ha hz);rw [<-ha]at c1;rw [<-hz,<-ha]at HB;rw [<-hz];clear hrep hst hx1 hx2 hnx hcnt hf hk hnl hL hgF hva ha hz;go_enter Tryz.func114,Tryz.ntmps114;go_wp2_with fail;go_region
 go_wp2_with fail;go_region_with (go_at_call 144; refine(HB.out _ HF.out).mono ?_; rintro e wa ⟨rfl,rfl⟩)
 all_goals
  go_wp2;go_end0
  exact⟨rfl,⟨_,HSK.out.1.fr (F:=fun _=>False) (fD (fD (fR _ _))) (fun _ _=>id) (fun _ _=>id),rfl⟩,fD (fD (fC (fC (fR _ w) (p:=⟨g,r.length,none⟩) (.inl (.inr rfl)) _) (p:=⟨b,1,none⟩) (.inl (.inl rfl)) _))⟩
end Go.Proofs.YtpfhollohodcjaaGreatDoor
namespace Go.Px.Cm
open E5 Co
theorem GB{L:List Node}{k:Cu}{n:Nat}{r:List Nat}(hf:Fits L k)(hk:k.left=(n+1)::r):Fits L ⟨nx L k.at_,n::r⟩:=by
 have e:anyN L 1 k= .ok ((),⟨nx L k.at_,dec k.left⟩):=rfl;have h:=(D7 1 k () _ e hf ⟨n,r,hk⟩).1;rw [hk]at h;exact h
theorem BN{L:List Node}{k:Cu}(hf:Fits L k):peek L k=0↔k.left.headD 0=0:=by
 cases hk:k.left with
 | nil=>exact absurd hk hf.1
 | cons n r=>
  cases n with
  | zero=>
   unfold peek;rw [hk];simp
  | succ n=>
   have:=Cv hf hk;simp [this]
theorem J0{L:List Node}(hr:∀a∈L,right a=true):Eats L (attrQ L) (fun _ _=>True):=
 ((AI hr (t:=6) (by decide) (by decide)).bnd fun _=>eats_vals.inn hr (t:=0x31) (by decide) (by decide)).mono fun _ _ _=>trivial
end Go.Px.Cm
namespace Go.Proofs.YtpfhollohodcjaaGreatDoor
open Go.RowKit Go.Px Go.Px.Co Go.Px.Cm
theorem Mi(pc b:Nat)(va:Value)(L:List Px.Node)(lim:Lim)(k:Cu)(F:Nat->Prop)(w:World)(h:CuAt w b va L lim k F)(hf:Fits L k)(c1:w.cell? ⟨pc,0,none⟩=some (.pointer (some ⟨b,0,none⟩)))(np:¬F pc):
  Calls Tryz.prog 113 #[.pointer (some ⟨pc,0,none⟩)] w (RunsE w b va L lim F (fun _=>False) (fun _ _ _=>True) (valsP L k)):=by
 obtain⟨R,hR⟩:∃R,R=valsP L k:=⟨_,rfl⟩
 rw [<-hR];have HR:=zz hR;have HT:=zz (A6 b va L lim k F w h hf);have lp:=World.block_lt_of_cell? _ _ c1;simp only at lp;have H:=zz (aN h (aN hf (aN c1 (aN np lp))));clear hR h hf np;go_enter Tryz.func113,Tryz.ntmps113;go_wp2_with fail;refine HT.out.mono ?_;rintro e w1 ⟨rfl,hs1⟩;have HS1:=zz hs1;have c2:=(hs1.cell (p:=⟨pc,0,none⟩) lp (fun y=>y)).trans c1;clear hs1 HT c1 lp;by_cases hp:peek L k=0
 ·have HI:=zz (HR.out.trans (show valsP L k= .error 9 from if_pos (show(peek L k==0)=true by rw [hp]; rfl)));rw [hp];clear hp;go_wp2_with fail;refine(Al 9 _).mono ?_;rintro e w4 ⟨v,rfl,he,hs4⟩;have HE:=zz (aN he (HS1.out.trans hs4));clear he hs4;go_wp2;go_ret;rw [HI.out];exact⟨⟨v,rfl,HE.out.1⟩,HE.out.2.fr _⟩
 ·have HI:=zz (HR.out.trans (show valsP L k= .ok ((),anyC L (k.left.headD 0) k)from(if_neg (show ¬(peek L k==0)=true by rw [beq_iff_eq]; exact hp)).trans (Hp _ k)));have hpz:(((peek L k:Nat):Int)==0)=false:=bn (by omega);obtain⟨pk,hpk⟩:∃pk,pk=peek L k:=⟨_,rfl⟩
  rw [<-hpk]at hpz ⊢;clear hp hpk;go_wp2_with fail;go_loopg [6] (k.left.headD 0+1) (fun gk _ wr=>∃(m:Nat) (k':Cu),m<gk/\CuAt wr b va L lim k' F/\Fits L k'/\k'.left.headD 0=m/\R= .ok ((),anyC L m k')/\Fr F w wr)
  case atStart=>exact⟨_,k,Nat.lt_succ_self _,H.out.1.same HS1.out,H.out.2.1,rfl,HI.out,HS1.out.fr F⟩
  case round=>
   obtain⟨m,k',hgk,hcu,hfi,hm,hRm,hfr⟩:=hrel;have c1:=(hfr.cell (p:=⟨pc,0,none⟩) H.out.2.2.2.2 H.out.2.2.2.1).trans H.out.2.2.1;have HT:=zz (A6 b va L lim k' F wr hcu hfi);have HC:=zz (aN hgk (aN hcu (aN hfi (aN hm (aN hRm hfr)))));have l1:=World.block_lt_of_cell? _ _ c1;simp only at l1;clear hgk hcu hfi hm hRm hfr c2;go_wp2_with fail;refine HT.out.mono ?_;rintro e w2 ⟨rfl,hs2⟩;have HS2:=zz hs2;have c2:=(hs2.cell (p:=⟨pc,0,none⟩) l1 (fun y=>y)).trans c1;clear hs2 HT c1 l1;by_cases hp:peek L k'=0
   ·have hm0:m=0:=by rw [<-HC.out.2.2.2.1]; exact(BN HC.out.2.2.1).1 hp
    have HI2:=zz (show R= .ok ((),k') by rw [HC.out.2.2.2.2.1,hm0]; rfl);rw [hp];clear hp hm0;go_wp2;go_ret;rw [HI2.out];exact⟨rfl,⟨F,HC.out.2.1.same HS2.out,Aa _ _,trivial⟩,Fr.mono (HC.out.2.2.2.2.2.trans (HS2.out.fr F) fun _ _ y=>y) fun _ y=> .inl y⟩
   ·obtain⟨n,r,hk⟩:∃n r,k'.left=(n+1)::r:=by
     have h0:=fun e=>hp ((BN HC.out.2.2.1).2 e)
     cases hk:k'.left with
     | nil=>exact absurd hk HC.out.2.2.1.1
     | cons a r=>
      rw [hk]at h0;cases a with
      | zero=>exact absurd rfl h0
      | succ n=>exact⟨n,r,rfl⟩
    have hpz:(((peek L k':Nat):Int)==0)=false:=bn (by omega);obtain⟨pk',hpk'⟩:∃pk',pk'=peek L k':=⟨_,rfl⟩
    rw [<-hpk']at hpz ⊢;have HA:=zz (Mh b va L lim k' F n r w2 (HC.out.2.1.same HS2.out) HC.out.2.2.1 hk);have HK:=zz hk;clear hp hpk' hk;go_wp2_with fail;refine HA.out.mono ?_;rintro e w3 ⟨rfl,hcu3,hfr3⟩;have hm1:m=n+1:=by rw [<-HC.out.2.2.2.1,HK.out]; rfl
    have HE:=zz (aN hcu3 (aN (HC.out.2.2.2.2.2.trans ((HS2.out.fr F).trans hfr3 fun _ _ y=>y) fun _ _ y=>y) hm1));obtain⟨g',hg'⟩:∃g',gk=g'+1:=⟨gk - 1,by have:=HC.out.1; omega⟩
    subst hg';clear hcu3 hfr3 hm1 HA;go_wp2;go_roundg g'
    case measure=>omega
    case rel=>
     refine⟨n,_,by have:=HC.out.1; have:=HE.out.2.2; omega,HE.out.1,GB HC.out.2.2.1 HK.out,rfl,?_,HE.out.2.1⟩;rw [HC.out.2.2.2.2.1,HE.out.2.2];show Except.ok ((),anyC L n ⟨nx L k'.at_,E5.dec k'.left⟩)=_;rw [HK.out];rfl
theorem Mj(pc b:Nat)(va:Value)(L:List Px.Node)(lim:Lim)(k:Cu)(F:Nat->Prop)(w:World)(h:CuAt w b va L lim k F)(hf:Fits L k)(hd:k.left.length<=99)(hr:∀a∈L,E5.right a=true)(c1:w.cell? ⟨pc,0,none⟩=some (.pointer (some ⟨b,0,none⟩)))(np:¬F pc):
  Calls Tryz.prog 112 #[.pointer (some ⟨pc,0,none⟩)] w (RunsE w b va L lim F (fun _=>False) (fun _ _ _=>True) (attrQ L k)):=by
 obtain⟨R,hR⟩:∃R,R=attrQ L k:=⟨_,rfl⟩
 rw [<-hR];have HR:=zz hR;have HT:=zz (Bg b va L lim k F 6 (by decide) w h hf);have lp:=World.block_lt_of_cell? _ _ c1;simp only at lp;have H:=zz (aN h (aN hf (aN c1 (aN np (aN lp (aN hd hr))))));clear hR h hf np hd hr;go_enter Tryz.func112,Tryz.ntmps112;go_wp2_with fail;refine HT.out.mono ?_;intro e w1 hT;clear c1 lp;cases hk:Cm.take L 6 k with
 | error n=>
  rw [hk]at hT;have HI:=zz (HR.out.trans (An hk));obtain⟨⟨v,rfl,fb2,rfl,hfb⟩,hs⟩:=hT;have HE:=zz (aN hfb hs);clear hs hfb hk HT;go_wp2;go_ret;rw [HI.out];exact⟨⟨_,rfl,fb2,rfl,HE.out.1⟩,HE.out.2.fr _⟩
 | ok q=>
  obtain⟨u,k1⟩:=q;rw [hk]at hT;obtain⟨rfl,hc,hs⟩:=hT;have HI:=zz (HR.out.trans (Ao hk));obtain⟨hf1,hl1⟩:=Aq (AI H.out.2.2.2.2.2.2 (t:=6) (by decide) (by decide)) hk H.out.2.1;have c2:=(hs.cell (p:=⟨pc,0,none⟩) H.out.2.2.2.2.1 H.out.2.2.2.1).trans H.out.2.2.1;have l2:=World.block_lt_of_cell? _ _ c2;simp only at l2;have hin:=Bd b va L lim k1 F (fun _=>False) 0x31 (by decide) (by decide) 113 #[.pointer (some ⟨pc,0,none⟩)] (valsP L) (fun _ _ _=>True) w1 hc hf1 (by have:=H.out.2.2.2.2.2.1; omega) H.out.2.2.2.2.2.2 (fun _=>rfl) (eats_vals.mono fun _ _ _=>trivial) (fun _ _ _ _ _ _=>trivial)
   (fun w2 F1 k2 h1 h2 h3 h4 h5=>Mi pc b va L lim k2 F1 w2 h1 h2 ((h4.cell (p:=⟨pc,0,none⟩) l2 H.out.2.2.2.1).trans c2) (fun e=>(h5 _ e).elim H.out.2.2.2.1 (fun y=>by omega)))
  rw [show((0x31:UInt8).toNat)=49 from rfl]at hin;have HIN:=zz hin;have HS:=zz hs;clear hc hs hk hf1 hl1 HT hin l2;go_wp2_with fail;refine HIN.out.mono ?_;intro e w2 hT;clear c2;cases hk:inn L 49 (valsP L) k1 with
  | error n=>
   rw [hk]at hT;have HI2:=zz (HI.out.trans hk);obtain⟨⟨v,rfl,fb2,rfl,hfb⟩,hs⟩:=hT;have HE:=zz (aN hfb ((Fr.mono HS.out (fun _ y=>Or.inl y)).trans hs fun _ _ y=>y));clear hs hfb hk HIN;go_wp2;go_ret;rw [HI2.out];exact⟨⟨_,rfl,fb2,rfl,HE.out.1⟩,HE.out.2⟩
  | ok q=>
   obtain⟨v,k2⟩:=q;rw [hk]at hT;have HI2:=zz (HI.out.trans hk);obtain⟨rfl,⟨F1,hc,hs1,_⟩,hs⟩:=hT;have HE:=zz (aN hc (aN (show Fresh w F F1 from fun q hq=>(hs1 q hq).imp id (fun y=>Nat.le_trans HS.out.size y)) ((Fr.mono HS.out (fun _ y=>Or.inl y)).trans hs fun _ _ y=>y)));clear hc hs hs1 hk HIN;go_wp2;go_ret;rw [HI2.out];exact⟨rfl,⟨F1,HE.out.1,HE.out.2.1,trivial⟩,HE.out.2.2⟩
theorem Mk(pc b:Nat)(va:Value)(L:List Px.Node)(lim:Lim)(k:Cu)(F:Nat->Prop)(w:World)(h:CuAt w b va L lim k F)(hf:Fits L k)(hd:k.left.length<=98)(hr:∀a∈L,E5.right a=true)(c1:w.cell? ⟨pc,0,none⟩=some (.pointer (some ⟨b,0,none⟩)))(np:¬F pc):
  Calls Tryz.prog 111 #[.pointer (some ⟨pc,0,none⟩)] w (RunsE w b va L lim F (fun _=>False) (fun _ _ _=>True) (attrP L k)):=by
 obtain⟨R,hR⟩:∃R,R=attrP L k:=⟨_,rfl⟩
 rw [<-hR];have HR:=zz hR;have lp:=World.block_lt_of_cell? _ _ c1;simp only at lp;have H:=zz (aN h (aN hf (aN c1 (aN np (aN lp (aN hd hr))))));clear hR h hf np hd hr lp c1;go_enter Tryz.func111,Tryz.ntmps111;go_wp2_with fail;go_loopg [3] (k.left.headD 0+1) (fun gk _ wr=>∃(m:Nat) (k':Cu) (F':Nat->Prop),m<gk/\CuAt wr b va L lim k' F'/\Fits L k'/\k'.left.headD 0=m/\k'.left.length=k.left.length/\R=attrN L m k'/\Fresh w F F'/\Fr F w wr)
 case atStart=>exact⟨_,k,F,Nat.lt_succ_self _,H.out.1,H.out.2.1,rfl,rfl,HR.out,Aa _ _,fR _ _⟩
 case round=>
  obtain⟨m,k',F',hgk,hcu,hfi,hm,hlen,hRm,hfs,hfr⟩:=hrel;have c1:=(hfr.cell (p:=⟨pc,0,none⟩) H.out.2.2.2.2.1 H.out.2.2.2.1).trans H.out.2.2.1;have nf:¬F' pc:=fun e=>(hfs _ e).elim H.out.2.2.2.1 (fun y=>by have:=H.out.2.2.2.2.1; omega)
  have HT:=zz (A6 b va L lim k' F' wr hcu hfi);have HC:=zz (aN hgk (aN hcu (aN hfi (aN hm (aN hlen (aN hRm (aN hfs (aN hfr nf))))))));have l1:=World.block_lt_of_cell? _ _ c1;simp only at l1;clear hgk hcu hfi hm hRm hfr hlen hfs nf;go_wp2_with fail;refine HT.out.mono ?_;rintro e w2 ⟨rfl,hs2⟩;have c2:=(hs2.cell (p:=⟨pc,0,none⟩) l1 (fun y=>y)).trans c1;have HS2:=zz (aN hs2 c2);have l2:=World.block_lt_of_cell? _ _ c2;simp only at l2;clear hs2 HT c1 l1;by_cases hp:peek L k'=0
  ·have hm0:m=0:=by rw [<-HC.out.2.2.2.1]; exact(BN HC.out.2.2.1).1 hp
   have HI2:=zz (show R= .ok ((),k') by rw [HC.out.2.2.2.2.2.1,hm0]; rfl);rw [hp];clear hp hm0;go_wp2;go_ret;rw [HI2.out];exact⟨rfl,⟨F',HC.out.2.1.same HS2.out.1,HC.out.2.2.2.2.2.2.1,trivial⟩,Fr.mono (HC.out.2.2.2.2.2.2.2.1.trans (HS2.out.1.fr F) fun _ _ y=>y) fun _ y=> .inl y⟩
  ·obtain⟨n,r,hk⟩:∃n r,k'.left=(n+1)::r:=by
    have h0:=fun e=>hp ((BN HC.out.2.2.1).2 e)
    cases hk:k'.left with
    | nil=>exact absurd hk HC.out.2.2.1.1
    | cons a r=>
     rw [hk]at h0;cases a with
     | zero=>exact absurd rfl h0
     | succ n=>exact⟨n,r,rfl⟩
   have hpz:(((peek L k':Nat):Int)==0)=false:=bn (by omega);obtain⟨pk',hpk'⟩:∃pk',pk'=peek L k':=⟨_,rfl⟩
   rw [<-hpk']at hpz ⊢;have hin:=Bd b va L lim k' F' (fun _=>False) 0x30 (by decide) (by decide) 112 #[.pointer (some ⟨pc,0,none⟩)] (attrQ L) (fun _ _ _=>True) w2 (HC.out.2.1.same HS2.out.1) HC.out.2.2.1 (by have:=H.out.2.2.2.2.2.1; have:=HC.out.2.2.2.2.1; omega) H.out.2.2.2.2.2.2 (fun _=>rfl) (J0 H.out.2.2.2.2.2.2) (fun _ _ _ _ _ _=>trivial)
    (fun w3 F1 k2 h1 h2 h3 h4 h5=>Mj pc b va L lim k2 F1 w3 h1 h2 (by have:=H.out.2.2.2.2.2.1; have:=HC.out.2.2.2.2.1; omega) H.out.2.2.2.2.2.2 ((h4.cell (p:=⟨pc,0,none⟩) l2 HC.out.2.2.2.2.2.2.2.2).trans HS2.out.2) (fun e=>(h5 _ e).elim HC.out.2.2.2.2.2.2.2.2 (fun y=>by omega)))
   rw [show((0x30:UInt8).toNat)=48 from rfl]at hin;have HIN:=zz hin;have hm1:m=n+1:=by rw [<-HC.out.2.2.2.1,hk]; rfl
   have HK:=zz (aN hk (show R=bnd (inn L 48 (attrQ L)) (fun _=>attrN L n) k' by rw [HC.out.2.2.2.2.2.1,hm1]; rfl));have HM:=zz hm1;clear hp hpk' hk hin l2 hm1;go_wp2_with fail;refine HIN.out.mono ?_;intro e w3 hT;clear c2;have hfr2:Fr (fun q=>F' q\/False) w2 w3->Fr F w w3:=fun y=>fT (HC.out.2.2.2.2.2.2.2.1.trans (HS2.out.1.fr F) fun _ _ y=>y) y fun q hq y=>(y.elim (fun y=>HC.out.2.2.2.2.2.2.1 q y) (fun y=>y.elim)).elim id (fun z=>by omega)
   cases hk:inn L 48 (attrQ L) k' with
   | error n=>
    rw [hk]at hT;have HI2:=zz (HK.out.2.trans (An hk));obtain⟨⟨v,rfl,fb2,rfl,hfb⟩,hs⟩:=hT;have HE:=zz (aN hfb (hfr2 hs));clear hs hfb hk HIN hfr2;go_wp2;go_ret;rw [HI2.out];exact⟨⟨_,rfl,fb2,rfl,HE.out.1⟩,Fr.mono HE.out.2 fun _ y=> .inl y⟩
   | ok q=>
    obtain⟨v,k2⟩:=q;rw [hk]at hT;have HI2:=zz (HK.out.2.trans (Ao hk));obtain⟨rfl,⟨F1,hc,hs1,_⟩,hs⟩:=hT;obtain⟨hf2,ts,n3,r3,⟨t,vs,_,rfl⟩,e1,e2,_⟩:=C8 H.out.2.2.2.2.2.2 _ _ _ hk HC.out.2.2.1;rw [HK.out.1]at e1;simp only [List.length_cons,List.length_nil,Nat.zero_add,List.cons.injEq,Nat.add_right_cancel_iff]at e1;have HE:=zz (aN hc (aN (show Fresh w F F1 from fun q hq=>(hs1 q hq).elim (HC.out.2.2.2.2.2.2.1 q) (fun y=> .inr (Nat.le_trans (Nat.le_trans HC.out.2.2.2.2.2.2.2.1.size HS2.out.1.size) y))) (aN (hfr2 hs) (aN hf2 (show k2.left=n::r by rw [e2,e1.1,e1.2])))));obtain⟨g',hg'⟩:∃g',gk=g'+1:=⟨gk - 1,by have:=HC.out.1; omega⟩
    subst hg';clear hc hs hs1 hk HIN hfr2 hf2 e1 e2;go_wp2;go_roundg g'
    case measure=>omega
    case rel=>
     refine⟨n,k2,F1,by have:=HC.out.1; have:=HM.out; omega,HE.out.1,HE.out.2.2.2.1,by rw [HE.out.2.2.2.2]; rfl,?_,HI2.out,HE.out.2.1,HE.out.2.2.1⟩;rw [<-HC.out.2.2.2.2.1,HE.out.2.2.2.2,HK.out.1];rfl
end Go.Proofs.YtpfhollohodcjaaGreatDoor
