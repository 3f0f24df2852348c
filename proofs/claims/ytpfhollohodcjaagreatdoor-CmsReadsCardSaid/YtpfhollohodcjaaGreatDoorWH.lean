import Derived.Test.YtpfhollohodcjaaGreatDoorWF
import Derived.Test.YtpfhollohodcjaaGreatDoorWG
import Derived.Test.YtpfhollohodcjaaGreatDoorWB
set_option maxRecDepth 100000
set_option maxHeartbeats 16000000
namespace Go.Proofs.YtpfhollohodcjaaGreatDoor
open Go.RowKit Go.Px Go.Px.Co Go.Px.Cm
section
variable {w w' : World} {b : Nat} {va vl vto vto' : Value} {L : List Px.Node} {lim : Lim} {s : RS} {x x' : XV} {F G : Nat -> Prop}
theorem RWs.blk(h:RWs w b va L lim x vl vto s):∃a,Blk w b (cuCells va vl a (rwRest (errOf s) lim x vto)) 71:=by
 cases s with
 | run c=>exact⟨c.at_,CuRep.blk h⟩
 | bad e=>exact h.2.1
theorem RWs.other (h:RWs w b va L lim x vl vto s) (hb:∀a,Blk w b (cuCells va vl a (rwRest (errOf s) lim x vto)) 71->Blk w' b (cuCells va vl a (rwRest (errOf s) lim x' vto')) 71) (hf:Fr G w w')
  (h1:∀q,vl.ownBlock=some q->¬G q) (h2:∀q,va.ownBlock=some q->¬G q):RWs w' b va L lim x' vl vto' s:=by
 cases s with
 | run c=>
  have h':CuRep 71 (rwRest 0 lim x vto) w b va L c vl:=h;exact⟨hb _ h'.blk,h'.own.fr hf h1,h'.lb,Lies.keepF h'.lies hf h2,h'.ab,h'.al,h'.ne,h'.wf,fun q hq=>Nat.lt_of_lt_of_le (h'.al2 q hq) hf.size⟩
 | bad e=>
  obtain⟨h0,⟨a,hb0⟩,k1,k2,k3⟩:=h;exact⟨h0,⟨a,hb a hb0⟩,fun q hq=>Nat.lt_of_lt_of_le (k1 q hq) hf.size,fun q hq=>Nat.lt_of_lt_of_le (k2 q hq) hf.size,k3⟩
theorem RW.cellX(h:RW w b va L lim s x F)(i:Nat){v:Value}(hv:(envC x.1 x.2)[i]?=some v):w.cell? ⟨b,8+i,none⟩=some v/\w.frozen? ⟨b,8+i,none⟩=false:=by
 obtain⟨vl,vto,_,ht,hs⟩:=h;obtain⟨a,hb⟩:=hs.blk;have e:=ht.eq;subst e;refine⟨hb.cell (8+i) ?_,hb.free _⟩;have hi:i<9:=by
  have:=(Array.getElem?_eq_some_iff.1 hv).1;simpa [envC] using this
 match i,hi with
 | 0,_=>exact hv
 | 1,_=>exact hv
 | 2,_=>exact hv
 | 3,_=>exact hv
 | 4,_=>exact hv
 | 5,_=>exact hv
 | 6,_=>exact hv
 | 7,_=>exact hv
 | 8,_=>exact hv
theorem H7(va vl:Value)(a:Nat)(e:Int)(lim:Lim)(x x':XV)(vto vto':Value)(i:Nat)(v:Value)(hi:i<9)(he:(envC x.1 vto).setIfInBounds i v=envC x'.1 vto'):(cuCells va vl a (rwRest e lim x vto)).setIfInBounds (8+i) v=cuCells va vl a (rwRest e lim x' vto'):=by
 have h1:cuCells va vl a (rwRest e lim x' vto')=(va:: .int .i64 (a:Nat)::vl:: .int .i64 e::(limL lim++((envC x.1 vto).setIfInBounds i v).toList)).toArray:=by
  rw [he];rfl
 rw [h1]
 match i,hi with
 | 0,_=>simp [cuCells,rwRest,limL,envC]
 | 1,_=>simp [cuCells,rwRest,limL,envC]
 | 2,_=>simp [cuCells,rwRest,limL,envC]
 | 3,_=>simp [cuCells,rwRest,limL,envC]
 | 4,_=>simp [cuCells,rwRest,limL,envC]
 | 5,_=>simp [cuCells,rwRest,limL,envC]
 | 6,_=>simp [cuCells,rwRest,limL,envC]
 | 7,_=>simp [cuCells,rwRest,limL,envC]
 | 8,_=>simp [cuCells,rwRest,limL,envC]
theorem RW.setX{y:Co.Env}(h:RW w b va L lim s x F)(i:Nat)(v:Value)(hi:i<9)(he:(envC x.1 x.2).setIfInBounds i v=envC y x.2)(ht:y.to=x.1.to):RW (w.setCell ⟨b,8+i,none⟩ v) b va L lim s (y,x.2) F/\Fr F w (w.setCell ⟨b,8+i,none⟩ v):=by
 refine⟨?_,fC (fR _ w) (p:=⟨b,8+i,none⟩) (.inl h.foot) _⟩;obtain⟨vl,vto,hF,hta,hs⟩:=h;have e:=hta.eq;subst e;have hlt:=hs.lt;have hf:=A9 (w:=w) b (8+i) v;refine⟨vl,x.2,hF,⟨?_,hta.tb,hta.tl,hta.tv,rfl⟩,hs.other (fun a hb=>?_) hf (fun q hq e=>hlt.2.2.1 q hq (by rw [e])) (fun q hq e=>hlt.2.2.2.1 q hq (by rw [e]))⟩
 ·show Owns _ _ 9 cRec x.2 y.to;rw [ht];exact hta.own.fr hf fun q hq e=>hta.tb q hq (by rw [e])
 ·have q:=hb.set (8+i) v;rw [H7 va vl a (errOf s) lim x (y,x.2) x.2 x.2 i v hi he]at q;exact q
theorem RW.pushTo {w1 w2:World} {r:Co.Rec} {g cap:Nat} {o:Obj} (h:RW w b va L lim s x F) (hown:w1.ownsRow 0 78 9 (.slice (some ⟨g,0,none⟩) (x.1.to.length+1) cap) (x.1.to.length+1) (x.1.to.flatMap cRec++cRec r)) (hg:((w.alloc o).drew).grownBy w1 x.2.ownBlock) (hat:x.2.ownBlock=some g\/w.heap.size<=g)
  (hw:w2=w1.setCell ⟨b,10,none⟩ (.slice (some ⟨g,0,none⟩) (x.1.to.length+1) cap)):
  StepR w b va L lim F s ({x.1 with «to» :=x.1.to++ [r]},.slice (some ⟨g,0,none⟩) (x.1.to.length+1) cap) w2:=by
 have hfoot:=h.foot;obtain⟨vl,vto,rfl,hta,hs⟩:=h;have e:=hta.eq;subst e;have hlt:=hs.lt;have hg2:=BF hg;have hbl:b<w.heap.size:=hlt.1 b (.inl rfl);have hbg:¬b=g:=by
  rcases hat with e | e
  ·intro h2;exact hta.tb g e (by rw [h2])
  ·omega
 have hf2:Fr (fun q=>q=b\/x.2.ownBlock=some q) w w2:=by
  rw [hw];exact(Fr.grown (fR _ w) hg2 fun q e=> .inl (.inr e)).setCell (p:=⟨b,10,none⟩) (.inl (.inl rfl)) _
 refine⟨rwFoot b vl (.slice (some ⟨g,0,none⟩) (x.1.to.length+1) cap),⟨vl,_,rfl,⟨?_,fun q hq e=>?_,fun q hq e=>?_,fun q hq e=>?_,rfl⟩,hs.other (fun a hb=>?_) hf2 (fun q hq e=>?_) (fun q hq e=>?_)⟩,fun q hq=>?_,Fr.mono hf2 fun q y=>y.elim (fun y=> .inl (.inl y)) .inr⟩
 ·rw [hw];exact(Bb (l:=x.1.to) (c:=cRec) (a:=r) (w:=w1) (T:=78) (sz:=9) (g:=g) (cap:=cap) hown).setCell (p:=⟨b,10,none⟩) (fun e=>hbg (Option.some.inj e).symm) _
 ·have e2:g=q:=Option.some.inj hq;have e3:b=q:=Option.some.inj e;omega
 ·have e2:g=q:=Option.some.inj hq;subst e2;rcases hat with e3 | e3
  ·exact hta.tl g e3 e
  ·have:=hlt.1 g (.inr e);omega
 ·have e2:g=q:=Option.some.inj e;subst e2;rcases hat with e3 | e3
  ·exact hta.tv g hq e3
  ·have:=hlt.2.1 g hq;omega
 ·rw [hw];have hb1:Blk w1 b (cuCells va vl a (rwRest (errOf s) lim x x.2)) 71:=(hg2.block b hbl fun e=>hta.tb b e.symm rfl).trans hb;have q:=hb1.set (8+2) (.slice (some ⟨g,0,none⟩) (x.1.to.length+1) cap);rw [H7 va vl a (errOf s) lim x ({x.1 with «to» :=x.1.to++ [r]},.slice (some ⟨g,0,none⟩) (x.1.to.length+1) cap) x.2 (.slice (some ⟨g,0,none⟩) (x.1.to.length+1) cap) 2 _ (by decide) (by simp [envC])]at q;exact q
 ·rcases e with e | e
  ·exact hlt.2.2.1 q hq (by rw [e])
  ·exact hta.tl q e hq
 ·rcases e with e | e
  ·exact hlt.2.2.2.1 q hq (by rw [e])
  ·exact hta.tv q hq e
 ·rcases hq with hq | hq
  ·exact .inl (.inl hq)
  ·have e2:g=q:=Option.some.inj hq;subst e2;exact hat.imp (fun e=> .inr e) id
end
end Go.Proofs.YtpfhollohodcjaaGreatDoor
set_option linter.unusedSimpArgs false
namespace Go.Proofs.YtpfhollohodcjaaGreatDoor
open Go.RowKit Go.Px Go.Px.Co Go.Px.Cm
theorem IT{L:List Px.Node}{lim:Lim}{n m:Nat}{c:Cu}(hr:∀a∈L,E5.right a=true)(hl:lim.r<=4096)(hf:FitR L n (.run c))(hc:c.left.headD 0=m+1):FitR L n (rRecip L lim (.run c)).2/\cntOf (rRecip L lim (.run c)).2<=m/\(∀c',(rRecip L lim (.run c)).2= .run c'->c'.left.headD 0=m):=by
 have h:=Ho hr hl c hf.1;cases hp:recip L lim c with
 | error e=>
  rw [hp]at h;have h:(rRecip L lim (.run c)).2= .bad e:=h;rw [h];exact⟨trivial,Nat.zero_le _,fun c' e=>by cases e⟩
 | ok q=>
  obtain⟨r,c'⟩:=q;rw [hp]at h;have h:rRecip L lim (.run c)=(some r,.run c'):=h;obtain⟨hf2,hl2⟩:=Aq (BS hr hl) hp hf.1;obtain⟨_,ts,k,rest,⟨_,rfl⟩,e1,e2,_⟩:=BS hr hl c r c' hp hf.1;have hm:k=m:=by
   rw [e1]at hc;simp at hc;exact hc
  rw [h];refine⟨⟨hf2,hl2.trans hf.2⟩,?_,fun c2 e=>?_⟩
  ·show c'.left.headD 0<=m;rw [e2,hm];exact Nat.le_refl _
  ·cases e;rw [e2,hm];rfl
theorem RW.errCell{w:World}{b:Nat}{va:Value}{L:List Px.Node}{lim:Lim}{s:RS}{x:XV}{F:Nat->Prop}(h:RW w b va L lim s x F):w.cell? ⟨b,3,none⟩=some (.int .i64 (errOf s))/\w.frozen? ⟨b,3,none⟩=false/\b<w.heap.size:=by
 obtain⟨vl,vto,_,_,hs⟩:=h;exact hs.err
theorem Mp(b:Nat)(e:Int)(w:World)(c3:w.cell? ⟨b,3,none⟩=some (.int .i64 0))(f3:w.frozen? ⟨b,3,none⟩=false):
  Calls Tryz.prog 33 #[.pointer (some ⟨b,0,none⟩),.bool false,.int .i64 e] w fun r w'=>r= .returned (.tuple #[])/\w'=w.setCell ⟨b,3,none⟩ (.int .i64 e):=by
 have HF:=zz (GC b e w c3 f3);clear c3 f3;go_enter Tryz.func33,Tryz.ntmps33;go_wp2_with fail;refine HF.out.mono ?_;rintro r w1 ⟨rfl,rfl⟩;clear HF;go_wp2;go_end0
 exact⟨rfl,rfl⟩
theorem Dd(b:Nat)(e:Int)(w:World):Calls Tryz.prog 33 #[.pointer (some ⟨b,0,none⟩),.bool true,.int .i64 e] w fun r w'=>r= .returned (.tuple #[])/\w=w':=by
 go_enter Tryz.func33,Tryz.ntmps33;go_wp2;go_end0
 exact⟨rfl,rfl⟩
theorem La(b g cap r n:Nat)(w:World)(c2:w.cell? ⟨b,2,none⟩=some (.slice (some ⟨g,0,none⟩) (r+1) cap))(t0:w.cell? ⟨g,r,none⟩=some (.int .i64 (n:Nat)))(hr:r<=5000):
  Calls Tryz.prog 79 #[.pointer (some ⟨b,0,none⟩)] w fun e w'=>e= .returned (.int .i64 (n:Nat))/\∃m,w'=w.drewN m:=by
 have hr2:(r:Int)<=5000:=by omega
 go_enter Tryz.func79,Tryz.ntmps79;go_wp2_with fail;go_quiet (fail)
 go_wp2;go_ret;exact⟨rfl,_,rfl⟩
theorem IU(b:Nat)(va:Value)(L:List Px.Node)(lim:Lim)(s:RS)(x:XV)(F:Nat->Prop)(n:Nat)(w:World)(h:RW w b va L lim s x F)(hf:FitR L n s)(hn:1<=n/\n<=80)(hr:∀a∈L,E5.right a=true)(hlen:∀a∈L,a.body.length<=140737488355327)(hl:lim.r<=4096)(hx0:x.1.to=[]):
  Calls Tryz.prog 35 #[.pointer (some ⟨b,0,none⟩)] w fun e w'=>e= .returned (.tuple #[])/\∃vt,StepR w b va L lim F (rOut (rRecips L lim (rIn L 49 s)).2) ({x.1 with «to» :=(rRecips L lim (rIn L 49 s)).1},vt) w':=by
 have hin:=AU b va L lim s x F 0x31 n (by decide) (by decide) w h hf (by omega) hr;have hfi:=AV hr (t:=0x31) (by decide) (by decide) hf;rw [show((0x31:UInt8).toNat)=49 from rfl]at hin hfi;obtain⟨s1,hs1⟩:∃s1,s1=rIn L 49 s:=⟨_,rfl⟩
 rw [<-hs1]at hin hfi ⊢;have hxe:x=(({x.1 with «to» :=[]}:Co.Env),x.2):=by
  obtain⟨⟨a1,a2,a3,a4,a5,a6,a7,a8,a9⟩,v⟩:=x;simp only at hx0;subst hx0;rfl
 have HIN:=zz hin;have H:=zz (aN hfi (aN hn (aN hr (aN hlen (aN hl hxe)))));clear h hf hn hr hlen hl hin hfi hs1 hxe;go_enter Tryz.func35,Tryz.ntmps35;go_wp2_with fail;refine HIN.out.mono ?_;rintro e w1 ⟨rfl,F1,hrw,hfs,hfr⟩;have HW1:=zz (aN hrw (aN hfs hfr));clear hrw hfs hfr HIN;obtain⟨c3,f3,hbl⟩:=HW1.out.1.errCell;go_upto_if 8 with fail
 go_cut [] (fun wx=>∃(mm:Nat) (s':RS),mm<=8/\RW wx b va L lim s' x F1/\FitR L (n+1) s'/\(∀c,s'= .run c->c.left.headD 0=mm)/\Fr F w wx/\rRecips L lim s1=rLoop L lim mm [] s')
 case first=>
  cases s1 with
  | bad en=>
   have hen:en≠0:=by
    obtain⟨vl,vto,_,_,hn,_⟩:=HW1.out.1;exact hn
   have hez:(errOf (.bad en)==0)=false:=bn hen;go_wp2_with fail;go_meet
   exact⟨0,.bad en,by omega,HW1.out.1,trivial,(fun c e=>by cases e),HW1.out.2.2,rfl⟩
  | run c=>
   replace c3:w1.cell? ⟨b,3,none⟩=some (.int .i64 0):=c3;have hez:(errOf (.run c)==0)=true:=rfl;obtain⟨m,hm⟩:∃m,m=c.left.headD 0:=⟨_,rfl⟩
   have HLF:=zz (fun W (hW:Same w1 W)=>A2 b va L lim c x F1 W (HW1.out.1.same hW));have HRR:Hid (rRecips L lim (.run c)=rLoop L lim m [] (rMust (decide (m<=8)) 10 (rMust (decide (0<m)) 9 (.run c)))):=zz (by rw [hm]; rfl);rw [<-hm]at HLF;by_cases h0:m=0
   ·subst h0;obtain⟨vl,vto,hF,hta,hrs⟩:=HW1.out.1;have hrep:CuRep 71 (rwRest 0 lim x vto) w1 b va L c vl:=hrs;obtain⟨_,_,c2⟩:=hrep.cells;obtain⟨n0,r,g,cap,hk,rfl,_,_,t0,_,hg⟩:=hrep.top;have hn0:n0=0:=by rw [hk]at hm; exact hm.symm
    subst hn0;have hgb:¬g=b:=fun e=>hrep.lb g rfl (by rw [e])
    have hr1:r.length<=5000:=by have:=H.out.1.2; rw [hk]at this; have:=H.out.2.1; simp at*; omega
    have HHM:=zz hm;have hbk9:=hrep.blk.set 3 (.int .i64 9);have c29:(w1.setCell ⟨b,3,none⟩ (.int .i64 9)).cell? ⟨b,2,none⟩=some (.slice (some ⟨g,0,none⟩) (r.length+1) cap):=hbk9.cell 2 rfl;have C29:=zz c29;clear hbk9 c29;clear hF hta hrs hrep hk hm;go_wp2_with fail;refine(HLF.out w1 (sE _)).mono ?_;rintro e w2 ⟨rfl,kk,rfl⟩;go_wp2_with fail;refine(Mp b 9 (w1.drewN kk) c3 f3).mono ?_;rintro e w3 ⟨rfl,rfl⟩;have c2':((w1.drewN kk).setCell ⟨b,3,none⟩ (.int .i64 9)).cell? ⟨b,2,none⟩=some (.slice (some ⟨g,0,none⟩) (r.length+1) cap):=C29.out;have t0':((w1.drewN kk).setCell ⟨b,3,none⟩ (.int .i64 9)).cell? ⟨g,r.length,none⟩=some (.int .i64 ((0:Nat):Int)):=((A9 (w:=w1.drewN kk) b 3 (.int .i64 9)).cell (p:=⟨g,r.length,none⟩) hg hgb).trans t0;go_wp2_with fail;refine(La b g cap r.length 0 _ c2' t0' hr1).mono ?_;rintro e w4 ⟨rfl,k2,rfl⟩;go_wp2_with fail;refine(Dd b 10 _).mono ?_;rintro e w5 ⟨rfl,rfl⟩;have hset:=(RW.setErr (e:=9) (by decide) HW1.out.1)
    go_wp2_with fail;go_meet
    refine⟨0,.bad 9,by omega,hset.same ⟨rfl,rfl,rfl,Nat.le_refl _,fun _ _ _=>rfl⟩,trivial,(fun c e=>by cases e),?_,HRR.out⟩;exact(HW1.out.2.2.step HW1.out.2.1 ((((fR _ w1).drewN kk).setCell (p:=⟨b,3,none⟩) (.inl HW1.out.1.foot) _).drewN _))
   ·have h0z:(0:Int)<(m:Int):=by omega
    have h0y:decide (0<m)=true:=dt (by omega);by_cases h8:m<=8
    ·have h8z:decide ((m:Int)<=8)=true:=dt (by omega);have h8n:decide (m<=8)=true:=dt h8;have HRR2:=zz (HRR.out.trans (by rw [dt h8,dt (show 0<m by omega)]; rfl:_=rLoop L lim m [] (.run c)));have HHM:=zz (aN hm h8);clear h0 h8 hm h0z;go_wp2_with fail;refine(HLF.out w1 (sE _)).mono ?_;rintro e w2 ⟨rfl,kk,rfl⟩;go_wp2_with fail;refine(Dd b 9 _).mono ?_;rintro e w3 ⟨rfl,rfl⟩;go_wp2_with fail;refine(HLF.out (w1.drewN kk) ((fR _ w1).drewN kk)).mono ?_;rintro e w4 ⟨rfl,k2,rfl⟩;go_wp2_with fail;refine(Dd b 10 _).mono ?_;rintro e w5 ⟨rfl,rfl⟩;go_wp2_with fail;go_meet
     exact⟨m,.run c,HHM.out.2,HW1.out.1.same ⟨rfl,rfl,rfl,Nat.le_refl _,fun _ _ _=>rfl⟩,H.out.1,(fun c' e=>by cases e; exact HHM.out.1.symm),HW1.out.2.2.trans (Fr.drewN (fR _ w1) _) fun _ _ y=>y,HRR2.out⟩
    ·have h8z:decide ((m:Int)<=8)=false:=df (by omega);have h8n:decide (m<=8)=false:=df h8;have HRR2:=zz (HRR.out.trans (by rw [df h8,dt (show 0<m by omega)]; exact(Ct lim 10 m []).trans rfl:_=rLoop L lim 0 [] (.bad 10)));clear h0 h8 hm h0z;go_wp2_with fail;refine(HLF.out w1 (sE _)).mono ?_;rintro e w2 ⟨rfl,kk,rfl⟩;go_wp2_with fail;refine(Dd b 9 _).mono ?_;rintro e w3 ⟨rfl,rfl⟩;go_wp2_with fail;refine(HLF.out (w1.drewN kk) ((fR _ w1).drewN kk)).mono ?_;rintro e w4 ⟨rfl,k2,rfl⟩;go_wp2_with fail;refine(Ae b va L lim (.run c) x F1 false 10 (by decide) (w1.drewN (kk+k2)) (HW1.out.1.same ⟨rfl,rfl,rfl,Nat.le_refl _,fun _ _ _=>rfl⟩)).mono ?_;rintro e w5 ⟨rfl,hst,hfr⟩;go_wp2_with fail;go_meet
     exact⟨0,.bad 10,by omega,hst,trivial,(fun c e=>by cases e),HW1.out.2.2.step HW1.out.2.1 ((Fr.drewN (fR _ w1) _).trans hfr fun _ _ y=>y),HRR2.out⟩
 case rest=>
  obtain⟨mm,s',hmm,hrw,hfi,hcn,hfr,heq⟩:=hcut;have HC:=zz (aN hmm (aN hrw (aN hfi (aN hcn (aN hfr heq)))));clear hmm hrw hfi hcn hfr heq;go_wp2_with fail;go_loopg [22] (mm+1) (fun gk _ wr=>∃(mm:Nat) (acc:List Co.Rec) (s':RS) (vt:Value) (F':Nat->Prop),mm<gk/\acc.length+mm<=8/\RW wr b va L lim s' ({x.1 with «to» :=acc},vt) F'/\FitR L (n+1) s'/\(∀c,s'= .run c->c.left.headD 0=mm)/\Fresh w F F'/\Fr F w wr/\rRecips L lim s1=rLoop L lim mm acc s')
  case atStart=>exact⟨mm,[],s',x.2,F1,Nat.lt_succ_self _,by have:=HC.out.1; simpa using this,by rw [<-H.out.2.2.2.2.2]; exact HC.out.2.1,HC.out.2.2.1,HC.out.2.2.2.1,HW1.out.2.1,HC.out.2.2.2.2.1,HC.out.2.2.2.2.2⟩
  case round=>
   obtain⟨mm,acc,s',vt,F',hgk,hac,hrw,hfi,hcn,hfs,hfr,heq⟩:=hrel;obtain⟨c3,f3,hbl⟩:=hrw.errCell;cases s' with
   | bad en=>
    have hen:en≠0:=by
     obtain⟨vl,vto,_,_,hn,_⟩:=hrw;exact hn
    have hez:(errOf (.bad en)==0)=false:=bn hen;have HE:=zz (aN hrw (aN hfs (aN hfr (heq.trans (Ct lim en mm acc)))));have HO:=zz (AC b va L lim (.bad en) _ F' (n+1) wr hrw trivial (by have:=H.out.2.1; omega));clear hrw hfi hcn hfs hfr heq hgk hac hen;go_wp2_with fail;refine HO.out.mono ?_;rintro e w5 ⟨rfl,hst,hfr⟩;have HZ:=zz (aN hst hfr);clear hst hfr HO;go_wp2;go_end0
    rw [HE.out.2.2.2];exact⟨rfl,vt,F',HZ.out.1,HE.out.2.1,HE.out.2.2.1.step HE.out.2.1 HZ.out.2⟩
   | run c=>
    replace c3:wr.cell? ⟨b,3,none⟩=some (.int .i64 0):=c3;have hez:(errOf (.run c)==0)=true:=rfl;have hm:=hcn c rfl;have HLF:=zz (A2 b va L lim c _ F' wr hrw);rw [hm]at HLF;have HC2:=zz (aN hgk (aN hac (aN hrw (aN hfi (aN hm (aN hfs (aN hfr heq)))))));clear hgk hac hrw hfi hcn hfs hfr heq hm;cases mm with
    | zero=>
     have HO:=zz (fun kk=>AC b va L lim (.run c) _ F' (n+1) (wr.drewN kk) (HC2.out.2.2.1.same ((fR _ wr).drewN kk)) HC2.out.2.2.2.1 (by have:=H.out.2.1; omega));go_wp2_with fail;refine HLF.out.mono ?_;rintro e wy ⟨rfl,kk,rfl⟩;clear HLF;go_wp2_with fail;refine(HO.out kk).mono ?_;rintro e w5 ⟨rfl,hst,hfr⟩;have HZ:=zz (aN hst hfr);clear hst hfr HO;go_wp2;go_end0
     rw [HC2.out.2.2.2.2.2.2.2];exact⟨rfl,vt,F',HZ.out.1,HC2.out.2.2.2.2.2.1,HC2.out.2.2.2.2.2.2.1.step HC2.out.2.2.2.2.2.1 (((fR _ wr).drewN kk).trans HZ.out.2 fun _ _ y=>y)⟩
    | succ m=>
     have hmz:(0:Int)<((m:Int)+1):=by omega
     obtain⟨r,hk⟩:∃r,c.left=(m+1)::r:=by
      have h5:=HC2.out.2.2.2.2.1;cases hk:c.left with
      | nil=>rw [hk]at h5; cases h5
      | cons a r=>rw [hk]at h5; exact⟨r,by rw [show a=m+1 from h5]⟩
     have hlt:=fits_lt HC2.out.2.2.2.1.1 hk;have hpos:=Cv HC2.out.2.2.2.1.1 hk;obtain⟨vl,vto,_,hta,hrs⟩:=HC2.out.2.2.1;have hrep:CuRep 71 (rwRest 0 lim _ vto) wr b va L c vl:=hrs;obtain⟨c0,c1,_⟩:=hrep.cells;obtain⟨vb,off,cap2,hva,hvb,x0,_,_⟩:=hrep.elem hlt;have hpk:peek L c=(L.getD c.at_ nz).tag.toNat:=by
      unfold peek;rw [hk]
     rw [<-hpk]at x0;rw [hva]at c0;obtain⟨pk,hpk2⟩:∃pk,pk=peek L c:=⟨_,rfl⟩
     rw [<-hpk2]at x0;obtain⟨a,ha⟩:∃a,a=c.at_:=⟨_,rfl⟩
     rw [<-ha]at x0 c1 hlt;have hltz:(a:Int)<(L.length:Int):=by omega
     obtain⟨ha1,ha2,ha3⟩:=IT H.out.2.2.1 H.out.2.2.2.2.1 HC2.out.2.2.2.1 HC2.out.2.2.2.2.1;have HAF:=zz (aN ha1 ha3);have hrn:rNone L (.run c)=false:=bn hpos;have HLP:=zz (show rRecips L lim s1=rLoop L lim m (acc++(rRecip L lim (.run c)).1.toList) (rRecip L lim (.run c)).2 from HC2.out.2.2.2.2.2.2.2.trans (if_neg (by rw [hrn]; decide)));have HPK:=zz hpk2;obtain⟨g',hg'⟩:∃g',gk=g'+1:=⟨gk - 1,by have:=HC2.out.1; omega⟩
     subst hg';clear hk hpos hta hrs hrep hpk hpk2 hva ha hlt ha1 ha2 ha3 hrn;go_wp2_with fail;refine HLF.out.mono ?_;rintro e wy ⟨rfl,kk,rfl⟩;clear HLF;go_wp2_with fail;go_quiet (fail)
     obtain⟨wy,hwy⟩:∃wy,wy=(wr.drewN kk).drewN nq:=⟨_,rfl⟩
     rw [<-hwy];have hsy:Same wr wy:=by rw [hwy]; exact((fR _ wr).drewN kk).drewN nq
     have HSY:=zz hsy;have k10:=(HC2.out.2.2.1.same hsy).cellX 2 rfl;obtain⟨k10,_⟩:=k10;replace k10:wy.cell? ⟨b,10,none⟩=some vt:=k10;have hby:=World.block_lt_of_cell? _ _ k10;simp only at hby;obtain⟨c3y,f3y,_⟩:=(HC2.out.2.2.1.same hsy).errCell;replace c3y:wy.cell? ⟨b,3,none⟩=some (.int .i64 0):=c3y;clear hwy hsy c0 c1 x0 c3 f3 hbl hvb;obtain⟨i0,hi0,hz0,hz1,hz2⟩:=info_parts Tryz.infoRec;obtain⟨m9,hm9⟩:∃m9,m9=acc.length:=⟨_,rfl⟩
     have hm8:m9<=7:=by have:=HC2.out.2.1; omega
     have HOW:=zz (fun(wa:World) (Fa:Nat->Prop) (s2:RS) (h:RW wa b va L lim s2 ({x.1 with «to» :=acc},vt) Fa)=>(show wa.ownsRow 0 78 9 vt m9 (acc.flatMap cRec)/\vt.ownBlock≠some b from by
      obtain⟨vl,vto,_,hta,_⟩:=h;have e:vto=vt:=hta.eq;subst e;have h2:=hta.own;unfold Owns at h2;rw [hm9];exact⟨h2,hta.tb.ne⟩))
     have HM9:=zz hm9;clear hm9;by_cases hp:pk=162
     ·subst hp;have hpk:=HPK.out;have hrc:rRecip L lim (.run c)=(some (rSealed L (.run c)).1,(rSealed L (.run c)).2):=by
       show(if peek L c=0xa2 then _ else if peek L c=0xa3 then _ else if _ then _ else _)=_;rw [if_pos hpk.symm]
      obtain⟨q,hq⟩:∃q,q=rSealed L (.run c):=⟨_,rfl⟩
      have hcl:=fun W (hW:Same wy W)=>IS b va L lim (.run c) ({x.1 with «to» :=acc},vt) F' (n+1) W ((HC2.out.2.2.1.same HSY.out).same hW) HC2.out.2.2.2.1 (by have:=H.out.2.1; omega) H.out.2.2.1
      rw [<-hq]at hrc hcl;obtain⟨rr,s2⟩:=q;simp only at hrc hcl;have HCL:=zz (fun W (hW:Same wy W)=>show Calls Tryz.prog 80 #[.pointer (some ⟨b,0,none⟩)] W (fun e w'=>e= .returned (.agg #[.int .i64 rr.way,.int .i64 rr.size,.int .i64 rr.kind,S rr.name,S rr.key,S rr.salt,.int .i64 rr.rounds,S rr.iv,S rr.loose])/\StepR W b va L lim F' s2 ({x.1 with «to» :=acc},vt) w')from hcl W hW);have HRC:=zz hrc;clear hrc hcl hq hpk;go_upto_region 8 with fail
      obtain⟨SS,hSS⟩:∃SS:World->Prop,SS=(fun W:World=>True):=⟨_,rfl⟩
      have hS0:SS wy.drew:=by rw [hSS]; trivial
      refine sR hS0 fun hHeld=>?_
      refine tQ 0 ?_ ?_ ?_;rotate_left
      ·intro w hw;rw [hSS]at hw;have q1:=hw;go_simp;try (with_reducible rfl)
      simp only [Act.put,Z1,Z2,Z3];refine tQ 1 ?_ ?_ ?_;rotate_left
      ·intro w hw;rw [hSS]at hw;have q1:=hw;go_simp;try (with_reducible rfl)
      simp only [Act.put,Z1,Z2,Z3];refine tQ 2 ?_ ?_ ?_;rotate_left
      ·intro w hw;rw [hSS]at hw;have q1:=hw;go_simp;try (with_reducible rfl)
      simp only [Act.put,Z1,Z2,Z3];refine tQ 3 ?_ ?_ ?_;rotate_left
      ·intro w hw;rw [hSS]at hw;have q1:=hw;go_simp;try (with_reducible rfl)
      simp only [Act.put,Z1,Z2,Z3];refine tQ 4 ?_ ?_ ?_;rotate_left
      ·intro w hw;rw [hSS]at hw;have q1:=hw;go_simp;try (with_reducible rfl)
      simp only [Act.put,Z1,Z2,Z3];refine tQ 6 ?_ ?_ ?_;rotate_left
      ·intro w hw;rw [hSS]at hw;have q1:=hw;go_simp;try (with_reducible rfl)
      simp only [Act.put,Z1,Z2,Z3];refine wpAnyH_ready (rs:=[5,7]) (by kernel_rfl) (by simp) ?_;refine AllReadyH.cons rfl (fun K hK=>?_) (AllReadyH.cons rfl (fun K hK=>?_) AllReadyH.nil)
      ·go_simp;refine sO hK ?_ fun hHeld=>?_
       ·rw [hSS]
        trivial
       clear hK K;refine rD 7 rfl (fun K hK=>?_);go_simp;refine(HCL.out _ (fD (fR _ _))).mono ?_;rintro e wa ⟨rfl,hst⟩;obtain⟨Fa,hra,hfa,hfra⟩:=hst;have HRA:=zz (aN hra (aN hfa hfra));have ka:=hra.cellX 2 rfl;obtain⟨kc,kf⟩:=ka;replace kc:wa.cell? ⟨b,10,none⟩=some vt:=kc;replace kf:wa.frozen? ⟨b,10,none⟩=false:=kf;have hbl:=World.block_lt_of_cell? _ _ kc;simp only at hbl;have kcA:∀o,(wa.alloc o).cell? ⟨b,10,none⟩=some vt:=fun o=>Ah kc
       clear hra hfa hfra;refine sO hK ?_ fun hHeld=>?_
       ·rw [hSS]
        trivial
       clear hK K;refine rD 8 rfl (fun K hK=>?_);go_simp;refine sO hK ?_ fun hHeld=>?_
       ·rw [hSS]
        trivial
       clear hK K;refine rD 9 rfl (fun K hK=>?_);refine step_append_lies _ (by rfl) _ _ _ (by rfl) 0 78 i0 _ 9 112 Tryz.underlying25 hi0 hz0 hz1 hz2 rfl (by omega) vt m9 (acc.flatMap cRec) (by rfl) (World.ownsRow.alloc (HOW.out _ _ _ HRA.out.1).1 _)
          ⟨wa.heap.size,0,none⟩ 1 1 (cRec rr) (by rfl) (by rfl) (World.news_of_block (cs:=(cRec rr).toArray) (t:=78) (fr:=(0,0)) (heap_alloc_new wa _)) (by simp [cRec,Value.oneCell'])
          (by omega) (by unfold maxLen; omega) (by omega) (by simp) (wa.heap.size+1) (by simp) ?_
       intro gg cap w3 hown1 hgrow0 hat hlt;have hgrow:((wa.alloc _).drew).grownBy w3 vt.ownBlock:=⟨hgrow0.os,hgrow0.tape,hgrow0.output,hgrow0.size,hgrow0.block⟩
       have k4:=AO hgrow kc (HOW.out _ _ _ HRA.out.1).2;have e4:=AP hgrow kc kf (HOW.out _ _ _ HRA.out.1).2;refine sO hK ?_ fun hHeld=>?_
       ·rw [hSS]
        trivial
       clear hK K;refine tQ 10 ?_ ?_ ?_;rotate_left
       ·intro w hw;rw [hSS]at hw;have q1:=hw;go_simp;try (with_reducible rfl)
       simp only [Act.put,Z1,Z2,Z3];refine tQ 11 ?_ ?_ ?_;rotate_left
       ·intro w hw;rw [hSS]at hw;have q1:=hw;go_simp;try (with_reducible rfl)
       simp only [Act.put,Z1,Z2,Z3];refine tQ 12 ?_ ?_ ?_;rotate_left
       ·intro w hw;rw [hSS]at hw;have q1:=hw;go_simp;try (with_reducible rfl)
       simp only [Act.put,Z1,Z2,Z3];refine rD 13 rfl (fun K hK=>?_);go_simp;refine sO hK ?_ fun hHeld=>?_
       ·rw [hSS]
        trivial
       clear hK K;refine wpAnyH_done (by kernel_rfl) ?_ _;go_wp2_with fail;go_roundg g'
       case measure=>omega
       case rel=>
        have hlp:=HLP.out;rw [HRC.out]at hlp;have ha:=HAF.out;rw [HRC.out]at ha;have hm9:=HM9.out;subst hm9;obtain⟨Fn,z1,z2,z3⟩:=RW.pushTo HRA.out.1 hown1 hgrow (hat.imp id (fun z=>by omega)) rfl;have hfr1:Fr F' wr wa:=(HSY.out.fr F').trans ((fD (fR _ wy)).trans HRA.out.2.2 fun _ _ y=>y) fun _ _ y=>y
        have hfs1:Fresh wr F' Fa:=fun q y=>(HRA.out.2.1 q y).imp id (fun y=>Nat.le_trans HSY.out.size (by simpa using y))
        have hfw:=HC2.out.2.2.2.2.2.2.1;have hfs:=HC2.out.2.2.2.2.2.1;refine⟨m,acc++ [rr],s2,_,Fn,by have:=HC2.out.1; omega,by have:=HC2.out.2.1; simp; omega,z1,ha.1,ha.2,?_,?_,?_⟩
        ·exact(hfs.trans hfw.size hfs1).trans (hfw.step hfs hfr1).size z2
        ·exact(hfw.step hfs hfr1).step (hfs.trans hfw.size hfs1) z3
        ·rw [hlp];rfl
      ·go_simp;refine(HCL.out _ (fD (fR _ _))).mono ?_;rintro e wa ⟨rfl,hst⟩;obtain⟨Fa,hra,hfa,hfra⟩:=hst;have HRA:=zz (aN hra (aN hfa hfra));have ka:=hra.cellX 2 rfl;obtain⟨kc,kf⟩:=ka;replace kc:wa.cell? ⟨b,10,none⟩=some vt:=kc;replace kf:wa.frozen? ⟨b,10,none⟩=false:=kf;have hbl:=World.block_lt_of_cell? _ _ kc;simp only at hbl;have kcA:∀o,(wa.alloc o).cell? ⟨b,10,none⟩=some vt:=fun o=>Ah kc
       clear hra hfa hfra;refine sO hK ?_ fun hHeld=>?_
       ·rw [hSS]
        trivial
       clear hK K;refine wpAnyH_ready (rs:=[5,8]) (by kernel_rfl) (by simp) ?_;refine AllReadyH.cons rfl (fun K hK=>?_) (AllReadyH.cons rfl (fun K hK=>?_) AllReadyH.nil)
       ·go_simp;refine sO hK ?_ fun hHeld=>?_
        ·rw [hSS]
         trivial
        clear hK K;refine rD 8 rfl (fun K hK=>?_);go_simp;refine sO hK ?_ fun hHeld=>?_
        ·rw [hSS]
         trivial
        clear hK K;refine rD 9 rfl (fun K hK=>?_);refine step_append_lies _ (by rfl) _ _ _ (by rfl) 0 78 i0 _ 9 112 Tryz.underlying25 hi0 hz0 hz1 hz2 rfl (by omega) vt m9 (acc.flatMap cRec) (by rfl) (World.ownsRow.alloc (HOW.out _ _ _ HRA.out.1).1 _)
           ⟨wa.heap.size,0,none⟩ 1 1 (cRec rr) (by rfl) (by rfl) (World.news_of_block (cs:=(cRec rr).toArray) (t:=78) (fr:=(0,0)) (heap_alloc_new wa _)) (by simp [cRec,Value.oneCell'])
           (by omega) (by unfold maxLen; omega) (by omega) (by simp) (wa.heap.size+1) (by simp) ?_
        intro gg cap w3 hown1 hgrow0 hat hlt;have hgrow:((wa.alloc _).drew).grownBy w3 vt.ownBlock:=⟨hgrow0.os,hgrow0.tape,hgrow0.output,hgrow0.size,hgrow0.block⟩
        have k4:=AO hgrow kc (HOW.out _ _ _ HRA.out.1).2;have e4:=AP hgrow kc kf (HOW.out _ _ _ HRA.out.1).2;refine sO hK ?_ fun hHeld=>?_
        ·rw [hSS]
         trivial
        clear hK K;refine tQ 10 ?_ ?_ ?_;rotate_left
        ·intro w hw;rw [hSS]at hw;have q1:=hw;go_simp;try (with_reducible rfl)
        simp only [Act.put,Z1,Z2,Z3];refine tQ 11 ?_ ?_ ?_;rotate_left
        ·intro w hw;rw [hSS]at hw;have q1:=hw;go_simp;try (with_reducible rfl)
        simp only [Act.put,Z1,Z2,Z3];refine tQ 12 ?_ ?_ ?_;rotate_left
        ·intro w hw;rw [hSS]at hw;have q1:=hw;go_simp;try (with_reducible rfl)
        simp only [Act.put,Z1,Z2,Z3];refine rD 13 rfl (fun K hK=>?_);go_simp;refine sO hK ?_ fun hHeld=>?_
        ·rw [hSS]
         trivial
        clear hK K;refine wpAnyH_done (by kernel_rfl) ?_ _;go_wp2_with fail;go_roundg g'
        case measure=>omega
        case rel=>
         have hlp:=HLP.out;rw [HRC.out]at hlp;have ha:=HAF.out;rw [HRC.out]at ha;have hm9:=HM9.out;subst hm9;obtain⟨Fn,z1,z2,z3⟩:=RW.pushTo HRA.out.1 hown1 hgrow (hat.imp id (fun z=>by omega)) rfl;have hfr1:Fr F' wr wa:=(HSY.out.fr F').trans ((fD (fR _ wy)).trans HRA.out.2.2 fun _ _ y=>y) fun _ _ y=>y
         have hfs1:Fresh wr F' Fa:=fun q y=>(HRA.out.2.1 q y).imp id (fun y=>Nat.le_trans HSY.out.size (by simpa using y))
         have hfw:=HC2.out.2.2.2.2.2.2.1;have hfs:=HC2.out.2.2.2.2.2.1;refine⟨m,acc++ [rr],s2,_,Fn,by have:=HC2.out.1; omega,by have:=HC2.out.2.1; simp; omega,z1,ha.1,ha.2,?_,?_,?_⟩
         ·exact(hfs.trans hfw.size hfs1).trans (hfw.step hfs hfr1).size z2
         ·exact(hfw.step hfs hfr1).step (hfs.trans hfw.size hfs1) z3
         ·rw [hlp];rfl
       ·go_simp;refine sO hK ?_ fun hHeld=>?_
        ·rw [hSS]
         trivial
        clear hK K;refine rD 5 rfl (fun K hK=>?_);go_simp;refine sO hK ?_ fun hHeld=>?_
        ·rw [hSS]
         trivial
        clear hK K;refine rD 9 rfl (fun K hK=>?_);refine step_append_lies _ (by rfl) _ _ _ (by rfl) 0 78 i0 _ 9 112 Tryz.underlying25 hi0 hz0 hz1 hz2 rfl (by omega) vt m9 (acc.flatMap cRec) (by rfl) (World.ownsRow.alloc (HOW.out _ _ _ HRA.out.1).1 _)
           ⟨wa.heap.size,0,none⟩ 1 1 (cRec rr) (by rfl) (by rfl) (World.news_of_block (cs:=(cRec rr).toArray) (t:=78) (fr:=(0,0)) (heap_alloc_new wa _)) (by simp [cRec,Value.oneCell'])
           (by omega) (by unfold maxLen; omega) (by omega) (by simp) (wa.heap.size+1) (by simp) ?_
        intro gg cap w3 hown1 hgrow0 hat hlt;have hgrow:((wa.alloc _).drew).grownBy w3 vt.ownBlock:=⟨hgrow0.os,hgrow0.tape,hgrow0.output,hgrow0.size,hgrow0.block⟩
        have k4:=AO hgrow kc (HOW.out _ _ _ HRA.out.1).2;have e4:=AP hgrow kc kf (HOW.out _ _ _ HRA.out.1).2;refine sO hK ?_ fun hHeld=>?_
        ·rw [hSS]
         trivial
        clear hK K;refine tQ 10 ?_ ?_ ?_;rotate_left
        ·intro w hw;rw [hSS]at hw;have q1:=hw;go_simp;try (with_reducible rfl)
        simp only [Act.put,Z1,Z2,Z3];refine tQ 11 ?_ ?_ ?_;rotate_left
        ·intro w hw;rw [hSS]at hw;have q1:=hw;go_simp;try (with_reducible rfl)
        simp only [Act.put,Z1,Z2,Z3];refine tQ 12 ?_ ?_ ?_;rotate_left
        ·intro w hw;rw [hSS]at hw;have q1:=hw;go_simp;try (with_reducible rfl)
        simp only [Act.put,Z1,Z2,Z3];refine rD 13 rfl (fun K hK=>?_);go_simp;refine sO hK ?_ fun hHeld=>?_
        ·rw [hSS]
         trivial
        clear hK K;refine wpAnyH_done (by kernel_rfl) ?_ _;go_wp2_with fail;go_roundg g'
        case measure=>omega
        case rel=>
         have hlp:=HLP.out;rw [HRC.out]at hlp;have ha:=HAF.out;rw [HRC.out]at ha;have hm9:=HM9.out;subst hm9;obtain⟨Fn,z1,z2,z3⟩:=RW.pushTo HRA.out.1 hown1 hgrow (hat.imp id (fun z=>by omega)) rfl;have hfr1:Fr F' wr wa:=(HSY.out.fr F').trans ((fD (fR _ wy)).trans HRA.out.2.2 fun _ _ y=>y) fun _ _ y=>y
         have hfs1:Fresh wr F' Fa:=fun q y=>(HRA.out.2.1 q y).imp id (fun y=>Nat.le_trans HSY.out.size (by simpa using y))
         have hfw:=HC2.out.2.2.2.2.2.2.1;have hfs:=HC2.out.2.2.2.2.2.1;refine⟨m,acc++ [rr],s2,_,Fn,by have:=HC2.out.1; omega,by have:=HC2.out.2.1; simp; omega,z1,ha.1,ha.2,?_,?_,?_⟩
         ·exact(hfs.trans hfw.size hfs1).trans (hfw.step hfs hfr1).size z2
         ·exact(hfw.step hfs hfr1).step (hfs.trans hfw.size hfs1) z3
         ·rw [hlp];rfl
     ·by_cases hp2:pk=163
      ·subst hp2;have hpk:=HPK.out;clear hp;have hrc:rRecip L lim (.run c)=(some (rPassword L lim (.run c)).1,(rPassword L lim (.run c)).2):=by
        show(if peek L c=0xa2 then _ else if peek L c=0xa3 then _ else if _ then _ else _)=_;rw [if_neg (fun e=>by rw [<-hpk]at e; exact absurd e (by decide)),if_pos hpk.symm]
       obtain⟨q,hq⟩:∃q,q=rPassword L lim (.run c):=⟨_,rfl⟩
       have hcl:=fun W (hW:Same wy W)=>GO b va L lim (.run c) ({x.1 with «to» :=acc},vt) F' (n+1) W ((HC2.out.2.2.1.same HSY.out).same hW) HC2.out.2.2.2.1 (by have:=H.out.2.1; omega) H.out.2.2.1 H.out.2.2.2.1
       rw [<-hq]at hrc hcl;obtain⟨rr,s2⟩:=q;simp only at hrc hcl;have HCL:=zz (fun W (hW:Same wy W)=>show Calls Tryz.prog 81 #[.pointer (some ⟨b,0,none⟩)] W (fun e w'=>e= .returned (.agg #[.int .i64 rr.way,.int .i64 rr.size,.int .i64 rr.kind,S rr.name,S rr.key,S rr.salt,.int .i64 rr.rounds,S rr.iv,S rr.loose])/\StepR W b va L lim F' s2 ({x.1 with «to» :=acc},vt) w')from hcl W hW);have HRC:=zz hrc;clear hrc hcl hq hpk;go_upto_region 10 with fail
       obtain⟨SS,hSS⟩:∃SS:World->Prop,SS=(fun W:World=>True):=⟨_,rfl⟩
       have hS0:SS wy.drew:=by rw [hSS]; trivial
       refine sR hS0 fun hHeld=>?_
       refine tQ 0 ?_ ?_ ?_;rotate_left
       ·intro w hw;rw [hSS]at hw;have q1:=hw;go_simp;try (with_reducible rfl)
       simp only [Act.put,Z1,Z2,Z3];refine tQ 1 ?_ ?_ ?_;rotate_left
       ·intro w hw;rw [hSS]at hw;have q1:=hw;go_simp;try (with_reducible rfl)
       simp only [Act.put,Z1,Z2,Z3];refine tQ 2 ?_ ?_ ?_;rotate_left
       ·intro w hw;rw [hSS]at hw;have q1:=hw;go_simp;try (with_reducible rfl)
       simp only [Act.put,Z1,Z2,Z3];refine tQ 3 ?_ ?_ ?_;rotate_left
       ·intro w hw;rw [hSS]at hw;have q1:=hw;go_simp;try (with_reducible rfl)
       simp only [Act.put,Z1,Z2,Z3];refine tQ 4 ?_ ?_ ?_;rotate_left
       ·intro w hw;rw [hSS]at hw;have q1:=hw;go_simp;try (with_reducible rfl)
       simp only [Act.put,Z1,Z2,Z3];refine tQ 6 ?_ ?_ ?_;rotate_left
       ·intro w hw;rw [hSS]at hw;have q1:=hw;go_simp;try (with_reducible rfl)
       simp only [Act.put,Z1,Z2,Z3];refine wpAnyH_ready (rs:=[5,7]) (by kernel_rfl) (by simp) ?_;refine AllReadyH.cons rfl (fun K hK=>?_) (AllReadyH.cons rfl (fun K hK=>?_) AllReadyH.nil)
       ·go_simp;refine sO hK ?_ fun hHeld=>?_
        ·rw [hSS]
         trivial
        clear hK K;refine rD 7 rfl (fun K hK=>?_);go_simp;refine(HCL.out _ (fD (fR _ _))).mono ?_;rintro e wa ⟨rfl,hst⟩;obtain⟨Fa,hra,hfa,hfra⟩:=hst;have HRA:=zz (aN hra (aN hfa hfra));have ka:=hra.cellX 2 rfl;obtain⟨kc,kf⟩:=ka;replace kc:wa.cell? ⟨b,10,none⟩=some vt:=kc;replace kf:wa.frozen? ⟨b,10,none⟩=false:=kf;have hbl:=World.block_lt_of_cell? _ _ kc;simp only at hbl;have kcA:∀o,(wa.alloc o).cell? ⟨b,10,none⟩=some vt:=fun o=>Ah kc
        clear hra hfa hfra;refine sO hK ?_ fun hHeld=>?_
        ·rw [hSS]
         trivial
        clear hK K;refine rD 8 rfl (fun K hK=>?_);go_simp;refine sO hK ?_ fun hHeld=>?_
        ·rw [hSS]
         trivial
        clear hK K;refine rD 9 rfl (fun K hK=>?_);refine step_append_lies _ (by rfl) _ _ _ (by rfl) 0 78 i0 _ 9 112 Tryz.underlying25 hi0 hz0 hz1 hz2 rfl (by omega) vt m9 (acc.flatMap cRec) (by rfl) (World.ownsRow.alloc (HOW.out _ _ _ HRA.out.1).1 _)
           ⟨wa.heap.size,0,none⟩ 1 1 (cRec rr) (by rfl) (by rfl) (World.news_of_block (cs:=(cRec rr).toArray) (t:=78) (fr:=(0,0)) (heap_alloc_new wa _)) (by simp [cRec,Value.oneCell'])
           (by omega) (by unfold maxLen; omega) (by omega) (by simp) (wa.heap.size+1) (by simp) ?_
        intro gg cap w3 hown1 hgrow0 hat hlt;have hgrow:((wa.alloc _).drew).grownBy w3 vt.ownBlock:=⟨hgrow0.os,hgrow0.tape,hgrow0.output,hgrow0.size,hgrow0.block⟩
        have k4:=AO hgrow kc (HOW.out _ _ _ HRA.out.1).2;have e4:=AP hgrow kc kf (HOW.out _ _ _ HRA.out.1).2;refine sO hK ?_ fun hHeld=>?_
        ·rw [hSS]
         trivial
        clear hK K;refine tQ 10 ?_ ?_ ?_;rotate_left
        ·intro w hw;rw [hSS]at hw;have q1:=hw;go_simp;try (with_reducible rfl)
        simp only [Act.put,Z1,Z2,Z3];refine tQ 11 ?_ ?_ ?_;rotate_left
        ·intro w hw;rw [hSS]at hw;have q1:=hw;go_simp;try (with_reducible rfl)
        simp only [Act.put,Z1,Z2,Z3];refine tQ 12 ?_ ?_ ?_;rotate_left
        ·intro w hw;rw [hSS]at hw;have q1:=hw;go_simp;try (with_reducible rfl)
        simp only [Act.put,Z1,Z2,Z3];refine rD 13 rfl (fun K hK=>?_);go_simp;refine sO hK ?_ fun hHeld=>?_
        ·rw [hSS]
         trivial
        clear hK K;refine wpAnyH_done (by kernel_rfl) ?_ _;go_wp2_with fail;go_roundg g'
        case measure=>omega
        case rel=>
         have hlp:=HLP.out;rw [HRC.out]at hlp;have ha:=HAF.out;rw [HRC.out]at ha;have hm9:=HM9.out;subst hm9;obtain⟨Fn,z1,z2,z3⟩:=RW.pushTo HRA.out.1 hown1 hgrow (hat.imp id (fun z=>by omega)) rfl;have hfr1:Fr F' wr wa:=(HSY.out.fr F').trans ((fD (fR _ wy)).trans HRA.out.2.2 fun _ _ y=>y) fun _ _ y=>y
         have hfs1:Fresh wr F' Fa:=fun q y=>(HRA.out.2.1 q y).imp id (fun y=>Nat.le_trans HSY.out.size (by simpa using y))
         have hfw:=HC2.out.2.2.2.2.2.2.1;have hfs:=HC2.out.2.2.2.2.2.1;refine⟨m,acc++ [rr],s2,_,Fn,by have:=HC2.out.1; omega,by have:=HC2.out.2.1; simp; omega,z1,ha.1,ha.2,?_,?_,?_⟩
         ·exact(hfs.trans hfw.size hfs1).trans (hfw.step hfs hfr1).size z2
         ·exact(hfw.step hfs hfr1).step (hfs.trans hfw.size hfs1) z3
         ·rw [hlp];rfl
       ·go_simp;refine(HCL.out _ (fD (fR _ _))).mono ?_;rintro e wa ⟨rfl,hst⟩;obtain⟨Fa,hra,hfa,hfra⟩:=hst;have HRA:=zz (aN hra (aN hfa hfra));have ka:=hra.cellX 2 rfl;obtain⟨kc,kf⟩:=ka;replace kc:wa.cell? ⟨b,10,none⟩=some vt:=kc;replace kf:wa.frozen? ⟨b,10,none⟩=false:=kf;have hbl:=World.block_lt_of_cell? _ _ kc;simp only at hbl;have kcA:∀o,(wa.alloc o).cell? ⟨b,10,none⟩=some vt:=fun o=>Ah kc
        clear hra hfa hfra;refine sO hK ?_ fun hHeld=>?_
        ·rw [hSS]
         trivial
        clear hK K;refine wpAnyH_ready (rs:=[5,8]) (by kernel_rfl) (by simp) ?_;refine AllReadyH.cons rfl (fun K hK=>?_) (AllReadyH.cons rfl (fun K hK=>?_) AllReadyH.nil)
        ·go_simp;refine sO hK ?_ fun hHeld=>?_
         ·rw [hSS]
          trivial
         clear hK K;refine rD 8 rfl (fun K hK=>?_);go_simp;refine sO hK ?_ fun hHeld=>?_
         ·rw [hSS]
          trivial
         clear hK K;refine rD 9 rfl (fun K hK=>?_);refine step_append_lies _ (by rfl) _ _ _ (by rfl) 0 78 i0 _ 9 112 Tryz.underlying25 hi0 hz0 hz1 hz2 rfl (by omega) vt m9 (acc.flatMap cRec) (by rfl) (World.ownsRow.alloc (HOW.out _ _ _ HRA.out.1).1 _)
            ⟨wa.heap.size,0,none⟩ 1 1 (cRec rr) (by rfl) (by rfl) (World.news_of_block (cs:=(cRec rr).toArray) (t:=78) (fr:=(0,0)) (heap_alloc_new wa _)) (by simp [cRec,Value.oneCell'])
            (by omega) (by unfold maxLen; omega) (by omega) (by simp) (wa.heap.size+1) (by simp) ?_
         intro gg cap w3 hown1 hgrow0 hat hlt;have hgrow:((wa.alloc _).drew).grownBy w3 vt.ownBlock:=⟨hgrow0.os,hgrow0.tape,hgrow0.output,hgrow0.size,hgrow0.block⟩
         have k4:=AO hgrow kc (HOW.out _ _ _ HRA.out.1).2;have e4:=AP hgrow kc kf (HOW.out _ _ _ HRA.out.1).2;refine sO hK ?_ fun hHeld=>?_
         ·rw [hSS]
          trivial
         clear hK K;refine tQ 10 ?_ ?_ ?_;rotate_left
         ·intro w hw;rw [hSS]at hw;have q1:=hw;go_simp;try (with_reducible rfl)
         simp only [Act.put,Z1,Z2,Z3];refine tQ 11 ?_ ?_ ?_;rotate_left
         ·intro w hw;rw [hSS]at hw;have q1:=hw;go_simp;try (with_reducible rfl)
         simp only [Act.put,Z1,Z2,Z3];refine tQ 12 ?_ ?_ ?_;rotate_left
         ·intro w hw;rw [hSS]at hw;have q1:=hw;go_simp;try (with_reducible rfl)
         simp only [Act.put,Z1,Z2,Z3];refine rD 13 rfl (fun K hK=>?_);go_simp;refine sO hK ?_ fun hHeld=>?_
         ·rw [hSS]
          trivial
         clear hK K;refine wpAnyH_done (by kernel_rfl) ?_ _;go_wp2_with fail;go_roundg g'
         case measure=>omega
         case rel=>
          have hlp:=HLP.out;rw [HRC.out]at hlp;have ha:=HAF.out;rw [HRC.out]at ha;have hm9:=HM9.out;subst hm9;obtain⟨Fn,z1,z2,z3⟩:=RW.pushTo HRA.out.1 hown1 hgrow (hat.imp id (fun z=>by omega)) rfl;have hfr1:Fr F' wr wa:=(HSY.out.fr F').trans ((fD (fR _ wy)).trans HRA.out.2.2 fun _ _ y=>y) fun _ _ y=>y
          have hfs1:Fresh wr F' Fa:=fun q y=>(HRA.out.2.1 q y).imp id (fun y=>Nat.le_trans HSY.out.size (by simpa using y))
          have hfw:=HC2.out.2.2.2.2.2.2.1;have hfs:=HC2.out.2.2.2.2.2.1;refine⟨m,acc++ [rr],s2,_,Fn,by have:=HC2.out.1; omega,by have:=HC2.out.2.1; simp; omega,z1,ha.1,ha.2,?_,?_,?_⟩
          ·exact(hfs.trans hfw.size hfs1).trans (hfw.step hfs hfr1).size z2
          ·exact(hfw.step hfs hfr1).step (hfs.trans hfw.size hfs1) z3
          ·rw [hlp];rfl
        ·go_simp;refine sO hK ?_ fun hHeld=>?_
         ·rw [hSS]
          trivial
         clear hK K;refine rD 5 rfl (fun K hK=>?_);go_simp;refine sO hK ?_ fun hHeld=>?_
         ·rw [hSS]
          trivial
         clear hK K;refine rD 9 rfl (fun K hK=>?_);refine step_append_lies _ (by rfl) _ _ _ (by rfl) 0 78 i0 _ 9 112 Tryz.underlying25 hi0 hz0 hz1 hz2 rfl (by omega) vt m9 (acc.flatMap cRec) (by rfl) (World.ownsRow.alloc (HOW.out _ _ _ HRA.out.1).1 _)
            ⟨wa.heap.size,0,none⟩ 1 1 (cRec rr) (by rfl) (by rfl) (World.news_of_block (cs:=(cRec rr).toArray) (t:=78) (fr:=(0,0)) (heap_alloc_new wa _)) (by simp [cRec,Value.oneCell'])
            (by omega) (by unfold maxLen; omega) (by omega) (by simp) (wa.heap.size+1) (by simp) ?_
         intro gg cap w3 hown1 hgrow0 hat hlt;have hgrow:((wa.alloc _).drew).grownBy w3 vt.ownBlock:=⟨hgrow0.os,hgrow0.tape,hgrow0.output,hgrow0.size,hgrow0.block⟩
         have k4:=AO hgrow kc (HOW.out _ _ _ HRA.out.1).2;have e4:=AP hgrow kc kf (HOW.out _ _ _ HRA.out.1).2;refine sO hK ?_ fun hHeld=>?_
         ·rw [hSS]
          trivial
         clear hK K;refine tQ 10 ?_ ?_ ?_;rotate_left
         ·intro w hw;rw [hSS]at hw;have q1:=hw;go_simp;try (with_reducible rfl)
         simp only [Act.put,Z1,Z2,Z3];refine tQ 11 ?_ ?_ ?_;rotate_left
         ·intro w hw;rw [hSS]at hw;have q1:=hw;go_simp;try (with_reducible rfl)
         simp only [Act.put,Z1,Z2,Z3];refine tQ 12 ?_ ?_ ?_;rotate_left
         ·intro w hw;rw [hSS]at hw;have q1:=hw;go_simp;try (with_reducible rfl)
         simp only [Act.put,Z1,Z2,Z3];refine rD 13 rfl (fun K hK=>?_);go_simp;refine sO hK ?_ fun hHeld=>?_
         ·rw [hSS]
          trivial
         clear hK K;refine wpAnyH_done (by kernel_rfl) ?_ _;go_wp2_with fail;go_roundg g'
         case measure=>omega
         case rel=>
          have hlp:=HLP.out;rw [HRC.out]at hlp;have ha:=HAF.out;rw [HRC.out]at ha;have hm9:=HM9.out;subst hm9;obtain⟨Fn,z1,z2,z3⟩:=RW.pushTo HRA.out.1 hown1 hgrow (hat.imp id (fun z=>by omega)) rfl;have hfr1:Fr F' wr wa:=(HSY.out.fr F').trans ((fD (fR _ wy)).trans HRA.out.2.2 fun _ _ y=>y) fun _ _ y=>y
          have hfs1:Fresh wr F' Fa:=fun q y=>(HRA.out.2.1 q y).imp id (fun y=>Nat.le_trans HSY.out.size (by simpa using y))
          have hfw:=HC2.out.2.2.2.2.2.2.1;have hfs:=HC2.out.2.2.2.2.2.1;refine⟨m,acc++ [rr],s2,_,Fn,by have:=HC2.out.1; omega,by have:=HC2.out.2.1; simp; omega,z1,ha.1,ha.2,?_,?_,?_⟩
          ·exact(hfs.trans hfw.size hfs1).trans (hfw.step hfs hfr1).size z2
          ·exact(hfw.step hfs hfr1).step (hfs.trans hfw.size hfs1) z3
          ·rw [hlp];rfl
      ·by_cases hp3:pk=48\/pk=161\/pk=164
       ·rcases hp3 with hp3 | hp3 | hp3
        ·subst hp3;have hrc:rRecip L lim (.run c)=(none,.bad 11):=by
          show(if peek L c=0xa2 then _ else if peek L c=0xa3 then _ else if _ then _ else _)=_;rw [<-HPK.out];rfl
         have HRC:=zz hrc;have HC:=zz (BO b va L lim (.run c) _ F' 11 (by decide) wy (HC2.out.2.2.1.same HSY.out));clear hrc;go_wp2_with fail;refine HC.out.mono ?_;rintro e wz ⟨rfl,hst,hfr⟩;have HZ:=zz (aN hst hfr);clear hst hfr HC;go_wp2_with fail;go_roundg g'
         case measure=>omega
         case rel=>
          have hlp:=HLP.out;rw [HRC.out]at hlp;refine⟨m,acc,.bad 11,vt,F',by have:=HC2.out.1; omega,by have:=HC2.out.2.1; omega,HZ.out.1,trivial,(fun c e=>by cases e),HC2.out.2.2.2.2.2.1,HC2.out.2.2.2.2.2.2.1.step HC2.out.2.2.2.2.2.1 ((HSY.out.fr F').trans HZ.out.2 fun _ _ y=>y),?_⟩;rw [hlp];simp
        ·subst hp3;have hrc:rRecip L lim (.run c)=(none,.bad 11):=by
          show(if peek L c=0xa2 then _ else if peek L c=0xa3 then _ else if _ then _ else _)=_;rw [<-HPK.out];rfl
         have HRC:=zz hrc;have HC:=zz (BO b va L lim (.run c) _ F' 11 (by decide) wy (HC2.out.2.2.1.same HSY.out));clear hrc;go_wp2_with fail;refine HC.out.mono ?_;rintro e wz ⟨rfl,hst,hfr⟩;have HZ:=zz (aN hst hfr);clear hst hfr HC;go_wp2_with fail;go_roundg g'
         case measure=>omega
         case rel=>
          have hlp:=HLP.out;rw [HRC.out]at hlp;refine⟨m,acc,.bad 11,vt,F',by have:=HC2.out.1; omega,by have:=HC2.out.2.1; omega,HZ.out.1,trivial,(fun c e=>by cases e),HC2.out.2.2.2.2.2.1,HC2.out.2.2.2.2.2.2.1.step HC2.out.2.2.2.2.2.1 ((HSY.out.fr F').trans HZ.out.2 fun _ _ y=>y),?_⟩;rw [hlp];simp
        ·subst hp3;have hrc:rRecip L lim (.run c)=(none,.bad 11):=by
          show(if peek L c=0xa2 then _ else if peek L c=0xa3 then _ else if _ then _ else _)=_;rw [<-HPK.out];rfl
         have HRC:=zz hrc;have HC:=zz (BO b va L lim (.run c) _ F' 11 (by decide) wy (HC2.out.2.2.1.same HSY.out));clear hrc;go_wp2_with fail;refine HC.out.mono ?_;rintro e wz ⟨rfl,hst,hfr⟩;have HZ:=zz (aN hst hfr);clear hst hfr HC;go_wp2_with fail;go_roundg g'
         case measure=>omega
         case rel=>
          have hlp:=HLP.out;rw [HRC.out]at hlp;refine⟨m,acc,.bad 11,vt,F',by have:=HC2.out.1; omega,by have:=HC2.out.2.1; omega,HZ.out.1,trivial,(fun c e=>by cases e),HC2.out.2.2.2.2.2.1,HC2.out.2.2.2.2.2.2.1.step HC2.out.2.2.2.2.2.1 ((HSY.out.fr F').trans HZ.out.2 fun _ _ y=>y),?_⟩;rw [hlp];simp
       ·have t1:(((pk:Nat):Int)==162)=false:=bn (by omega);have t2:(((pk:Nat):Int)==163)=false:=bn (by omega);have t3:(((pk:Nat):Int)==48)=false:=bn (by omega);have t4:(((pk:Nat):Int)==161)=false:=bn (by omega);have t5:(((pk:Nat):Int)==164)=false:=bn (by omega);have hrc:rRecip L lim (.run c)=(none,.bad 9):=by
         show(if peek L c=0xa2 then _ else if peek L c=0xa3 then _ else if _ then _ else _)=_;rw [<-HPK.out];rw [if_neg hp,if_neg hp2,if_neg hp3]
        have HRC:=zz hrc;have HC:=zz (BO b va L lim (.run c) _ F' 9 (by decide) wy (HC2.out.2.2.1.same HSY.out));clear hrc;go_wp2_with fail;refine HC.out.mono ?_;rintro e wz ⟨rfl,hst,hfr⟩;have HZ:=zz (aN hst hfr);clear hst hfr HC;go_wp2_with fail;go_roundg g'
        case measure=>omega
        case rel=>
         have hlp:=HLP.out;rw [HRC.out]at hlp;refine⟨m,acc,.bad 9,vt,F',by have:=HC2.out.1; omega,by have:=HC2.out.2.1; omega,HZ.out.1,trivial,(fun c e=>by cases e),HC2.out.2.2.2.2.2.1,HC2.out.2.2.2.2.2.2.1.step HC2.out.2.2.2.2.2.1 ((HSY.out.fr F').trans HZ.out.2 fun _ _ y=>y),?_⟩;rw [hlp];simp
end Go.Proofs.YtpfhollohodcjaaGreatDoor
