import Derived.Test.YtpfhollohodcjaaGreatDoorWD
import Derived.Test.YtpfhollohodcjaaGreatDoorVG
set_option maxRecDepth 100000
set_option maxHeartbeats 4000000
namespace Go.Proofs.YtpfhollohodcjaaGreatDoor
open Go.RowKit Go.Px Go.Px.Co Go.Px.Cm
abbrev XV:=Co.Env×Value
def rwRest(e:Int)(lim:Lim)(x:XV)(vto:Value):List Value:= .int .i64 e::(limL lim++(envC x.1 vto).toList)
structure RWt (w:World) (b:Nat) (va:Value) (x:XV) (vto vl:Value):Prop where
 own:Owns w 78 9 cRec vto x.1.to
 tb:Apart vto.ownBlock (some b)
 tl:Apart vto.ownBlock vl.ownBlock
 tv:Apart va.ownBlock vto.ownBlock
 eq:vto=x.2
def rwFoot(b:Nat)(vl vto:Value)(q:Nat):Prop:=cuFoot b vl q\/vto.ownBlock=some q
def RWs(w:World)(b:Nat)(va:Value)(L:List Px.Node)(lim:Lim)(x:XV)(vl vto:Value):RS->Prop
 | .run c=>CuRep 71 (rwRest 0 lim x vto) w b va L c vl
 | .bad e=>e≠0/\(∃a,Blk w b (cuCells va vl a (rwRest e lim x vto)) 71)/\(∀q,vl.ownBlock=some q->q<w.heap.size)/\(∀q,va.ownBlock=some q->q<w.heap.size)/\Apart vl.ownBlock (some b)/\Apart va.ownBlock (some b)/\Apart va.ownBlock vl.ownBlock
def RW(w:World)(b:Nat)(va:Value)(L:List Px.Node)(lim:Lim)(s:RS)(x:XV)(F:Nat->Prop):Prop:=∃vl vto,F=rwFoot b vl vto/\RWt w b va x vto vl/\RWs w b va L lim x vl vto s
def FitR(L:List Px.Node)(n:Nat):RS->Prop
 | .run c=>Fits L c/\c.left.length=n
 | .bad _=>True
section
variable {w w' : World} {b : Nat} {va vl vto : Value} {L : List Px.Node} {lim : Lim} {s : RS} {x : XV} {F G : Nat -> Prop}
theorem RWs.lt(h:RWs w b va L lim x vl vto s):(∀q,cuFoot b vl q->q<w.heap.size)/\(∀q,va.ownBlock=some q->q<w.heap.size)/\Apart vl.ownBlock (some b)/\Apart va.ownBlock (some b)/\Apart va.ownBlock vl.ownBlock:=by
 cases s with
 | run c=>exact⟨h.footLt,h.al2,h.lb,h.ab,h.al⟩
 | bad e=>
  obtain⟨_,⟨a,hb⟩,h1,h2,h3,h4,h5⟩:=h;refine⟨?_,h2,h3,h4,h5⟩;rintro q (rfl | hq)
  ·exact hb.lt
  ·exact h1 q hq
theorem RW.lt(h:RW w b va L lim s x F):∀q,F q->q<w.heap.size:=by
 obtain⟨vl,vto,rfl,ht,hs⟩:=h;rintro q (hq | hq)
 ·exact hs.lt.1 q hq
 ·exact ht.own.lt hq
theorem RW.vaLt(h:RW w b va L lim s x F):∀q,va.ownBlock=some q->q<w.heap.size/\¬F q:=by
 obtain⟨vl,vto,rfl,ht,hs⟩:=h;intro q hq;refine⟨hs.lt.2.1 q hq,?_⟩;rintro((e | e)| e)
 ·exact hs.lt.2.2.2.1 q hq (by rw [e])
 ·exact hs.lt.2.2.2.2 q hq e
 ·exact ht.tv q hq e
theorem RWs.fr(h:RWs w b va L lim x vl vto s)(hf:Fr G w w')(h1:∀q,cuFoot b vl q->¬G q)(h2:∀q,va.ownBlock=some q->¬G q):RWs w' b va L lim x vl vto s:=by
 cases s with
 | run c=>exact CuRep.fr h hf h1 h2
 | bad e=>
  obtain⟨h0,⟨a,hb⟩,k1,k2,k3⟩:=h;exact⟨h0,⟨a,hb.fr hf (h1 b (.inl rfl))⟩,fun q hq=>Nat.lt_of_lt_of_le (k1 q hq) hf.size,fun q hq=>Nat.lt_of_lt_of_le (k2 q hq) hf.size,k3⟩
theorem RWt.fr(h:RWt w b va x vto vl)(hf:Fr G w w')(h1:∀q,vto.ownBlock=some q->¬G q):RWt w' b va x vto vl:=⟨h.own.fr hf h1,h.tb,h.tl,h.tv,h.eq⟩
theorem RW.fr(h:RW w b va L lim s x F)(hf:Fr G w w')(h1:∀q,F q->¬G q)(h2:∀q,va.ownBlock=some q->¬G q):RW w' b va L lim s x F:=by
 obtain⟨vl,vto,rfl,ht,hs⟩:=h;exact⟨vl,vto,rfl,ht.fr hf (fun q hq=>h1 q (.inr hq)),hs.fr hf (fun q hq=>h1 q (.inl hq)) h2⟩
theorem RW.same(h:RW w b va L lim s x F)(hs:Same w w'):RW w' b va L lim s x F:=h.fr hs (fun _ _ y=>y) (fun _ _ y=>y)
def errOf:RS->Int
 | .run _=>0
 | .bad e=>e
theorem RWs.err(h:RWs w b va L lim x vl vto s):w.cell? ⟨b,3,none⟩=some (.int .i64 (errOf s))/\w.frozen? ⟨b,3,none⟩=false/\b<w.heap.size:=by
 cases s with
 | run c=>exact⟨h.blk.cell 3 rfl,h.blk.free 3,h.blk.lt⟩
 | bad e=>
  obtain⟨_,⟨a,hb⟩,_⟩:=h;exact⟨hb.cell 3 rfl,hb.free 3,hb.lt⟩
theorem RW.foot(h:RW w b va L lim s x F):F b:=by
 obtain⟨vl,vto,rfl,_⟩:=h;exact .inl (.inl rfl)
theorem RW.setErr{c:Cu}{e:Int}(he:e≠0)(h:RW w b va L lim (.run c) x F):RW (w.setCell ⟨b,3,none⟩ (.int .i64 e)) b va L lim (.bad e) x F:=by
 obtain⟨vl,vto,rfl,ht,hs⟩:=h;have h':CuRep 71 (rwRest 0 lim x vto) w b va L c vl:=hs;have hf:=A9 (w:=w) b 3 (.int .i64 e);refine⟨vl,vto,rfl,ht.fr hf (fun q hq e=>ht.tb q hq (by rw [e])),he,⟨c.at_,?_⟩,fun q hq=>Nat.lt_of_lt_of_le (h'.footLt q (.inr hq)) hf.size,fun q hq=>Nat.lt_of_lt_of_le (h'.al2 q hq) hf.size,h'.lb,h'.ab,h'.al⟩;have q:=h'.blk.set 3 (.int .i64 e);rw [show(cuCells va vl c.at_ (rwRest 0 lim x vto)).setIfInBounds 3 (.int .i64 e)=cuCells va vl c.at_ (rwRest e lim x vto) by simp [cuCells,rwRest]]at q;exact q
end
def StepR(w:World)(b:Nat)(va:Value)(L:List Px.Node)(lim:Lim)(F:Nat->Prop)(s:RS)(x:XV)(w':World):Prop:=∃F',RW w' b va L lim s x F'/\Fresh w F F'/\Fr F w w'
theorem BO(b:Nat)(va:Value)(L:List Px.Node)(lim:Lim)(s:RS)(x:XV)(F:Nat->Prop)(e:Int)(he:e≠0)(w:World)(h:RW w b va L lim s x F):
  Calls Tryz.prog 78 #[.pointer (some ⟨b,0,none⟩),.int .i64 e] w fun r w'=>r= .returned (.tuple #[])/\RW w' b va L lim (rFault e s) x F/\Fr F w w':=by
 have H:=zz h;obtain⟨vl,vto,_,ht,hs⟩:=h;obtain⟨c3,f3,hbl⟩:=hs.err;clear ht hs;cases s with
 | run c=>
  replace c3:w.cell? ⟨b,3,none⟩=some (.int .i64 0):=c3;go_enter Tryz.func78,Tryz.ntmps78;go_wp2;go_end0
  exact⟨rfl,H.out.setErr he,fC (fR _ w) (p:=⟨b,3,none⟩) (.inl H.out.foot) _⟩
 | bad n=>
  replace c3:w.cell? ⟨b,3,none⟩=some (.int .i64 n):=c3;have hn:n≠0:=by
   obtain⟨vl,vto,_,_,hn,_⟩:=H.out;exact hn
  have hnz:(n==0)=false:=bn hn;go_enter Tryz.func78,Tryz.ntmps78;go_wp2;go_end0
  exact⟨rfl,H.out,fR _ _⟩
theorem A2(b:Nat)(va:Value)(L:List Px.Node)(lim:Lim)(c:Cu)(x:XV)(F:Nat->Prop)(w:World)(h:RW w b va L lim (.run c) x F):
  Calls Tryz.prog 79 #[.pointer (some ⟨b,0,none⟩)] w fun e w'=>e= .returned (.int .i64 (c.left.headD 0:Nat))/\∃m,w'=w.drewN m:=by
 obtain⟨vl,vto,_,ht,hs⟩:=h;have h':CuRep 71 (rwRest 0 lim x vto) w b va L c vl:=hs;obtain⟨c0,c1,c2⟩:=h'.cells;obtain⟨n,r,g,cap,hk,rfl,hc1,hc2,t0,_,_⟩:=h'.top;unfold maxLen at hc2;rw [show c.left.headD 0=n by rw [hk]; rfl];clear hk ht hs h';go_enter Tryz.func79,Tryz.ntmps79;go_wp2_with fail;go_quiet (fail)
 go_wp2;go_ret;exact⟨rfl,_,rfl⟩
theorem Ae(b:Nat)(va:Value)(L:List Px.Node)(lim:Lim)(s:RS)(x:XV)(F:Nat->Prop)(ok:Bool)(e:Int)(he:e≠0)(w:World)(h:RW w b va L lim s x F):
  Calls Tryz.prog 33 #[.pointer (some ⟨b,0,none⟩),.bool ok,.int .i64 e] w fun r w'=>r= .returned (.tuple #[])/\RW w' b va L lim (rMust ok e s) x F/\Fr F w w':=by
 have HF:=zz (BO b va L lim s x F e he w h);have H:=zz h;clear h;cases ok with
 | true=>
  go_enter Tryz.func33,Tryz.ntmps33;go_wp2;go_end0
  exact⟨rfl,H.out,fR _ _⟩
 | false=>
  go_enter Tryz.func33,Tryz.ntmps33;go_wp2_with fail;refine HF.out.mono ?_;rintro r w1 ⟨rfl,h1,h2⟩;have HE:=zz (aN h1 h2);clear h1 h2 HF;go_wp2;go_end0
  exact⟨rfl,HE.out.1,HE.out.2⟩
theorem Cx(b:Nat)(va:Value)(L:List Px.Node)(lim:Lim)(s:RS)(x:XV)(F:Nat->Prop)(t n:Nat)(ht0:t≠0)(w:World)(h:RW w b va L lim s x F)(hf:FitR L n s):
  Calls Tryz.prog 34 #[.pointer (some ⟨b,0,none⟩),.int .u8 (t:Nat)] w fun e w'=>e= .returned (.bool (rIs L t s))/\Same w w':=by
 cases s with
 | bad e=>
  obtain⟨vl,vto,_,ht,hs⟩:=h;obtain⟨c3,f3,hbl⟩:=hs.err;replace c3:w.cell? ⟨b,3,none⟩=some (.int .i64 e):=c3;have hz:(e==0)=false:=bn hs.1;clear ht hs;go_enter Tryz.func34,Tryz.ntmps34;go_wp2_with fail;go_quiet (fail)
  go_wp2;go_ret;exact⟨rfl,Fr.drewN (fR _ w) _⟩
 | run c=>
  have HLF:=zz (fun m=>(A2 b va L lim c x F (w.drewN m) (h.same (Fr.drewN (fR _ w) _))).mono (R':=fun e w'=>e= .returned (.int .i64 (c.left.headD 0:Nat))/\∃k,w'=w.drewN k) (fun e w' hq=>⟨hq.1,by obtain⟨k,hk⟩:=hq.2; exact⟨m+k,by rw [hk]; exact World.drewN_drewN _ _ _⟩⟩));obtain⟨vl,vto,_,ht,hs⟩:=h;obtain⟨c3,f3,hbl⟩:=hs.err;replace c3:w.cell? ⟨b,3,none⟩=some (.int .i64 0):=c3;have h':CuRep 71 (rwRest 0 lim x vto) w b va L c vl:=hs;obtain⟨c0,c1,c2⟩:=h'.cells;cases hk:c.left with
  | nil=>exact absurd hk h'.ne
  | cons m r=>
   rw [hk]at HLF;cases m with
   | zero=>
    have hr:rIs L t (.run c)=false:=by
     show(peek L c==t)=false;unfold peek;rw [hk];exact bn (fun e=>ht0 e.symm)
    rw [hr];clear hr hk h' ht hs;go_enter Tryz.func34,Tryz.ntmps34;go_wp2_with fail;go_quiet ((go_at_call 79; exact HLF.out _))
    go_wp2;go_ret;exact⟨rfl,Fr.drewN (fR _ w) _⟩
   | succ m=>
    have hlt:=fits_lt hf.1 hk;obtain⟨vb,off,cap2,rfl,_,x0,_,_⟩:=h'.elem hlt;have hr:rIs L t (.run c)=((L.getD c.at_ nz).tag.toNat==t):=by
     show(peek L c==t)=_;unfold peek;rw [hk]
    rw [hr];obtain⟨tg,htg⟩:∃tg,tg=(L.getD c.at_ nz).tag.toNat:=⟨_,rfl⟩
    obtain⟨a,ha⟩:∃a,a=c.at_:=⟨_,rfl⟩
    rw [<-htg]at x0 ⊢;rw [<-ha]at x0 c1 hlt;have hltz:(a:Int)<(L.length:Int):=by omega
    have hmz:(0:Int)<((m:Int)+1):=by omega
    have hez:((tg:Nat)==t)=(((tg:Nat):Int)==((t:Nat):Int)):=by
     by_cases e:tg=t
     ·rw [e]; simp
     ·rw [bn e,bn (by omega)]
    rw [hez];clear hr hk h' ht hs htg ha hlt hez;go_enter Tryz.func34,Tryz.ntmps34;go_wp2_with fail;go_quiet ((go_at_call 79; exact HLF.out _))
    go_wp2;go_ret;exact⟨rfl,Fr.drewN (fR _ w) _⟩
theorem Ga{L:List Px.Node}{t:Nat}{s:RS}(h:rIs L t s=true):∃c,s= .run c/\peek L c=t:=by
 cases s with
 | run c=>exact⟨c,rfl,by have h2:(peek L c==t)=true:=h; exact beq_iff_eq.1 h2⟩
 | bad e=>cases h
theorem H1{L:List Px.Node}{t:Nat}{s:RS}(h:rIs L t s=false):rLeaf L t s=([],rFault 9 s):=by
 cases s with
 | run c=>
  have h2:(peek L c==t)=false:=h;have hT:Cm.take L t c= .error 9:=if_neg (beq_eq_false_iff_ne.1 h2);show(match Cm.take L t c with | .ok (b,c')=>(b,RS.run c')| .error e=>([],RS.bad e))=_;rw [hT];rfl
 | bad e=>rfl
theorem Jo{L:List Px.Node}{t:Nat}{c:Cu}(h:peek L c=t):rLeaf L t (.run c)=((L.getD c.at_ nz).body,.run ⟨c.at_+1,E5.dec c.left⟩):=by
 have hT:Cm.take L t c= .ok ((L.getD c.at_ nz).body,⟨c.at_+1,E5.dec c.left⟩):=if_pos h;show(match Cm.take L t c with | .ok (b,c')=>(b,RS.run c')| .error e=>([],RS.bad e))=_;rw [hT]
theorem Az(b:Nat)(va:Value)(L:List Px.Node)(lim:Lim)(s:RS)(x:XV)(F:Nat->Prop)(t n:Nat)(ht0:t≠0)(w:World)(h:RW w b va L lim s x F)(hf:FitR L n s):
  Calls Tryz.prog 32 #[.pointer (some ⟨b,0,none⟩),.int .u8 (t:Nat)] w fun e w'=>e= .returned (S (rLeaf L t s).1)/\RW w' b va L lim (rLeaf L t s).2 x F/\Fr F w w':=by
 have HI:=zz (Cx b va L lim s x F t n ht0 w h hf);have H:=zz (aN h hf);clear h hf;go_enter Tryz.func32,Tryz.ntmps32;go_wp2_with fail;refine HI.out.mono ?_;rintro e w1 ⟨rfl,hs1⟩;have HS1:=zz hs1;clear hs1 HI;cases hb:rIs L t s with
 | false=>
  have HL:=zz (H1 hb);have HF:=zz (BO b va L lim s x F 9 (by decide) w1 (H.out.1.same HS1.out));clear hb;go_wp2_with fail;refine HF.out.mono ?_;rintro e w2 ⟨rfl,h1,h2⟩;have HE:=zz (aN h1 h2);clear h1 h2 HF;go_wp2;go_ret;rw [HL.out];exact⟨rfl,HE.out.1,(HS1.out.fr F).trans HE.out.2 fun _ _ y=>y⟩
 | true=>
  obtain⟨c,rfl,hp⟩:=Ga hb;have HL:=zz (Jo hp);obtain⟨vl,vto,hF,hta,hrs⟩:=H.out.1.same HS1.out;have hrep:CuRep 71 (rwRest 0 lim x vto) w1 b va L c vl:=hrs;obtain⟨c0,c1,c2⟩:=hrep.cells;obtain⟨m,r,g,cap,hk,rfl,hc1,hc2,t0,tf,hg⟩:=hrep.top;cases m with
  | zero=>
   exfalso;apply ht0;rw [<-hp];unfold peek;rw [hk]
  | succ m=>
   have hlt:=fits_lt H.out.2.1 hk;obtain⟨vb,off,cap2,rfl,hvb,_,_,x2⟩:=hrep.elem hlt;have hgb:¬b=g:=fun e=>hrep.lb g rfl (by rw [e])
   have hgb2:¬g=b:=fun e=>hgb e.symm
   have hvg:¬vb=g:=fun e=>hrep.al vb rfl (by rw [e]; rfl)
   have hvb2:¬vb=b:=fun e=>hrep.ab vb rfl (by rw [e])
   have fb:=hrep.free 1;have hbl:=hrep.lt;have hst:=hrep.step hk;have HD:=zz (show E5.dec c.left=m::r by rw [hk]; rfl);have hnl:=Cw H.out.2.1 hk;have hL:=hrep.wf.1;have hnw:(m:Int)+1<=5000:=by omega
   have HLF:=zz (fun k=>(A2 b _ L lim c x F (w1.drewN k) ((H.out.1.same HS1.out).same (Fr.drewN (fR _ w1) _))));rw [show c.left.headD 0=m+1 by rw [hk]; rfl]at HLF;have htb:=hta.tb;have htl:=hta.tl;have hfw:Fr (rwFoot b (.slice (some ⟨g,0,none⟩) (r.length+1) cap) vto) w1 ((w1.setCell ⟨g,r.length,none⟩ (.int .i64 (m:Nat))).setCell ⟨b,1,none⟩ (.int .i64 ((c.at_+1:Nat):Int))):=((fR _ w1).setCell (p:=⟨g,r.length,none⟩) (.inl (.inl (.inr rfl))) _).setCell (p:=⟨b,1,none⟩) (.inl (.inl (.inl rfl))) _;have hta2:=hta.fr (G:=fun q=>q=g\/q=b) (((fR _ w1).setCell (p:=⟨g,r.length,none⟩) (.inl (.inl rfl)) (.int .i64 (m:Nat))).setCell (p:=⟨b,1,none⟩) (.inl (.inr rfl)) (.int .i64 ((c.at_+1:Nat):Int))) (fun q hq e=>by
    rcases e with e | e
    ·exact htl q hq (by rw [e]; rfl)
    ·exact htb q hq (by rw [e]))
   obtain⟨bd,hbd⟩:∃bd,bd=(L.getD c.at_ nz).body:=⟨_,rfl⟩
   obtain⟨a,ha⟩:∃a,a=c.at_:=⟨_,rfl⟩
   have HSA:=zz (aN hbd ha);have HX:=zz (aN hst (aN hF (aN hfw hta2)));rw [<-hbd]at x2;rw [<-ha]at x2 c1 hlt;have hltz:(a:Int)<(L.length:Int):=by omega
   have ha5:(a:Int)<=5000:=by omega
   unfold maxLen at hc2;have hrl:((r.length:Nat):Int)<(r.length:Int)+1:=by omega
   have hw1:IntKind.i64.wrap ((r.length:Nat):Int)=(r.length:Int):=IntWalk.i64_in _ ⟨by omega,by omega⟩;have hw2:IntKind.i64.wrap ((m:Nat):Int)=(m:Int):=IntWalk.i64_in _ ⟨by omega,by omega⟩;clear hb hp hF hta hrs hrep hk hst hnl hbd ha htb htl hfw hta2 hlt hL;go_wp2_with fail;obtain⟨SS,hSS⟩:∃SS:World->Prop,SS=(fun W:World=>W.cell? ⟨b,2,none⟩=some (.slice (some ⟨g,0,none⟩) (r.length+1) cap)):=⟨_,rfl⟩
   have hS0:SS w1.drew:=by rw [hSS]; exact c2
   refine sR hS0 fun hHeld=>?_
   refine tQ 0 ?_ ?_ ?_;rotate_left
   ·intro w hw;rw [hSS]at hw;have q1:=hw;go_simp;try (with_reducible rfl)
   simp only [Act.put,Z1,Z2,Z3];refine tQ 1 ?_ ?_ ?_;rotate_left
   ·intro w hw;rw [hSS]at hw;have q1:=hw;go_simp;try (with_reducible rfl)
   simp only [Act.put,Z1,Z2,Z3];refine tQ 2 ?_ ?_ ?_;rotate_left
   ·intro w hw;rw [hSS]at hw;have q1:=hw;go_simp;try (with_reducible rfl)
   simp only [Act.put,Z1,Z2,Z3];refine tQ 3 ?_ ?_ ?_;rotate_left
   ·intro w hw;rw [hSS]at hw;have q1:=hw;go_simp;try (with_reducible rfl)
   simp only [Act.put,Z1,Z2,Z3];refine tQ 4 ?_ ?_ ?_;rotate_left
   ·intro w hw;rw [hSS]at hw;have q1:=hw;go_simp;try (with_reducible rfl)
   simp only [Act.put,Z1,Z2,Z3];refine tQ 5 ?_ ?_ ?_;rotate_left
   ·intro w hw;rw [hSS]at hw;have q1:=hw;go_simp;try (with_reducible rfl)
   simp only [Act.put,Z1,Z2,Z3];refine tQ 6 ?_ ?_ ?_;rotate_left
   ·intro w hw;rw [hSS]at hw;have q1:=hw;go_simp;try (with_reducible rfl)
   simp only [Act.put,Z1,Z2,Z3];refine tQ 7 ?_ ?_ ?_;rotate_left
   ·intro w hw;rw [hSS]at hw;have q1:=hw;go_simp;try (with_reducible rfl)
   simp only [Act.put,Z1,Z2,Z3];refine tQ 8 ?_ ?_ ?_;rotate_left
   ·intro w hw;rw [hSS]at hw;have q1:=hw;go_simp;try (with_reducible rfl)
   simp only [Act.put,Z1,Z2,Z3];refine tQ 9 ?_ ?_ ?_;rotate_left
   ·intro w hw;rw [hSS]at hw;have q1:=hw;go_simp;try (with_reducible rfl)
   simp only [Act.put,Z1,Z2,Z3];refine tQ 10 ?_ ?_ ?_;rotate_left
   ·intro w hw;rw [hSS]at hw;have q1:=hw;go_simp;try (with_reducible rfl)
   simp only [Act.put,Z1,Z2,Z3];refine rD 11 rfl (fun K hK=>?_);go_simp;refine(HLF.out 1).mono ?_;rintro e wa ⟨rfl,kk,rfl⟩;refine sO hK ?_ fun hHeld=>?_
   ·rw [hSS];exact c2
   clear hK K;refine tQ 12 ?_ ?_ ?_;rotate_left
   ·intro w hw;rw [hSS]at hw;have q1:=hw;go_simp;try (with_reducible rfl)
   simp only [Act.put,Z1,Z2,Z3];refine tQ 13 ?_ ?_ ?_;rotate_left
   ·intro w hw;rw [hSS]at hw;have q1:=hw;go_simp;try (with_reducible rfl)
   simp only [Act.put,Z1,Z2,Z3];refine rD 14 rfl (fun K hK=>?_);go_simp;refine sO hK ?_ fun hHeld=>?_
   ·rw [hSS];exact((A9 (w:=(w1.drewN 1).drewN kk) g r.length (.int .i64 (m:Nat))).cell (p:=⟨b,2,none⟩) hbl (fun e=>hgb e)).trans c2
   clear hK K;refine wpAnyH_done (by kernel_rfl) ?_ _;go_wp2_with fail;go_quiet (fail)
   go_wp2;go_ret;have e1:=HSA.out.1;have e2:=HSA.out.2;subst e1 e2;rw [HL.out,HD.out];have hsW:Same ((w1.setCell ⟨g,r.length,none⟩ (.int .i64 (m:Nat))).setCell ⟨b,1,none⟩ (.int .i64 ((c.at_+1:Nat):Int))) ((((w1.drewN (1+kk)).setCell ⟨g,r.length,none⟩ (.int .i64 (m:Nat))).setCell ⟨b,1,none⟩ (.int .i64 ((c.at_:Int)+1))).drewN nq):=⟨rfl,rfl,rfl,Nat.le_refl _,fun _ _ _=>rfl⟩
   refine⟨rfl,⟨_,vto,HX.out.2.1,HX.out.2.2.2.fr hsW (fun _ _ y=>y),CuRep.same HX.out.1 hsW⟩,?_⟩;rw [HX.out.2.1];exact(HS1.out.fr _).trans (HX.out.2.2.1.trans (hsW.fr _) fun _ _ y=>y) fun _ _ y=>y
theorem N2{L:List Px.Node}{t:Nat}{s:RS}(h:rIs L t s=false):rIn L t s=rFault 9 s:=by
 cases s with
 | run c=>
  have h2:(peek L c==t)=false:=h;have hT:Cm.take L t c= .error 9:=if_neg (beq_eq_false_iff_ne.1 h2);show(match Cm.take L t c with | .ok (_,c')=>RS.run ⟨c'.at_,(L.getD c.at_ nz).kids.toNat::c'.left⟩| .error e=>RS.bad e)=_;rw [hT];rfl
 | bad e=>rfl
theorem MG{L:List Px.Node}{t:Nat}{c:Cu}(h:peek L c=t):rIn L t (.run c)= .run ⟨c.at_+1,(L.getD c.at_ nz).kids.toNat::E5.dec c.left⟩:=by
 have hT:Cm.take L t c= .ok ((L.getD c.at_ nz).body,⟨c.at_+1,E5.dec c.left⟩):=if_pos h;show(match Cm.take L t c with | .ok (_,c')=>RS.run ⟨c'.at_,(L.getD c.at_ nz).kids.toNat::c'.left⟩| .error e=>RS.bad e)=_;rw [hT]
theorem RW.push {w w1 w2:World} {b:Nat} {va vl vto:Value} {L:List Px.Node} {lim:Lim} {c:Cu} {x:XV} {n g cap:Nat} {o:Obj} (ht:RWt w b va x vto vl) (h:CuRep 71 (rwRest 0 lim x vto) w b va L c vl)
  (hown:w1.ownsRow 0 3 1 (.slice (some ⟨g,0,none⟩) (c.left.length+1) cap) (c.left.length+1) (c.left.reverse.flatMap cNum++cNum n)) (hg:((w.alloc o).drew).grownBy w1 vl.ownBlock) (hat:vl.ownBlock=some g\/w.heap.size<=g)
  (hw:w2=w1.setCell ⟨b,2,none⟩ (.slice (some ⟨g,0,none⟩) (c.left.length+1) cap)):
  ∃F',RW w2 b va L lim (.run ⟨c.at_,n::c.left⟩) x F'/\Fresh w (rwFoot b vl vto) F'/\Fr (rwFoot b vl vto) w w2:=by
 obtain⟨q1,q2,q3⟩:=h.push hown hg hat hw;have hnt:∀q,vto.ownBlock=some q->¬cuFoot b vl q:=fun q hq e=>e.elim (fun e=>ht.tb q hq (by rw [e])) (fun e=>ht.tl q hq e)
 refine⟨rwFoot b (.slice (some ⟨g,0,none⟩) (c.left.length+1) cap) vto,⟨_,vto,rfl,⟨ht.own.fr q2 hnt,ht.tb,fun q hq e=>?_,ht.tv,ht.eq⟩,q1⟩,fun q hq=>?_,Fr.mono q2 fun _ y=> .inl y⟩
 ·have e2:g=q:=Option.some.inj e;subst e2;rcases hat with e3 | e3
  ·exact ht.tl g hq e3
  ·have:=ht.own.lt hq;omega
 ·rcases hq with hq | hq
  ·exact(q3 q hq).imp (fun y=> .inl y) id
  ·exact .inl (.inr hq)
theorem AU(b:Nat)(va:Value)(L:List Px.Node)(lim:Lim)(s:RS)(x:XV)(F:Nat->Prop)(t:UInt8)(n:Nat)(ht0:t≠0)(hi:R5.inner t.toNat=true)(w:World)(h:RW w b va L lim s x F)(hf:FitR L n s)(hn:n<=100)(hr:∀a∈L,E5.right a=true):
  Calls Tryz.prog 31 #[.pointer (some ⟨b,0,none⟩),.int .u8 (t.toNat:Nat)] w fun e w'=>e= .returned (.tuple #[])/\StepR w b va L lim F (rIn L t.toNat s) x w':=by
 have ht1:t.toNat≠0:=fun e=>ht0 (UInt8.toNat_inj.1 e)
 have HLF:=zz (Az b va L lim s x F t.toNat n ht1 w h hf);have H:=zz (aN h (aN hf (aN hn (aN hr hi))));clear h hf hn hr hi;go_enter Tryz.func31,Tryz.ntmps31;go_wp2_with fail;refine HLF.out.mono ?_;rintro e w1 ⟨rfl,hrw,hfr⟩;cases hb:rIs L t.toNat s with
 | false=>
  have HI:=zz (N2 hb);rw [H1 hb]at hrw;have hs2:∃e,rFault 9 s= .bad e/\e≠0:=by
   cases s with
   | run c=>exact⟨9,rfl,by decide⟩
   | bad e=>
    obtain⟨vl,vto,_,_,hn,_⟩:=H.out.1;exact⟨e,rfl,hn⟩
  obtain⟨e,he,he0⟩:=hs2;have hrw2:=hrw;rw [show(([],rFault 9 s):Bytes×RS).2= .bad e from he]at hrw2;obtain⟨vl,vto,_,ht,hs⟩:=hrw2;obtain⟨c3,_,_⟩:=hs.err;replace c3:w1.cell? ⟨b,3,none⟩=some (.int .i64 e):=c3;have hez:(e==0)=false:=bn he0;have HE:=zz (aN hrw hfr);clear hrw hfr hb ht hs he he0 HLF;go_wp2;go_end0
  rw [HI.out];exact⟨rfl,F,HE.out.1,Aa _ _,HE.out.2⟩
 | true=>
  obtain⟨c,rfl,hp⟩:=Ga hb;have HI:=zz (MG hp);rw [Jo hp]at hrw;replace hrw:RW w1 b va L lim (.run ⟨c.at_+1,E5.dec c.left⟩) x F:=hrw;have hrw2:=hrw;obtain⟨vl,vto,hF,ht,hs⟩:=hrw2;have hrep:CuRep 71 (rwRest 0 lim x vto) w1 b va L ⟨c.at_+1,E5.dec c.left⟩ vl:=hs;obtain⟨c3,_,_⟩:=hs.err;replace c3:w1.cell? ⟨b,3,none⟩=some (.int .i64 0):=c3;obtain⟨c0,c1,c2⟩:=hrep.cells;obtain⟨m,r,hk⟩:∃m r,c.left=(m+1)::r:=by
   unfold peek at hp
   split at hp
   ·rename_i m r e
    exact⟨m,r,e⟩
   ·exact absurd hp.symm ht1
  have hlt:=fits_lt H.out.2.1.1 hk;obtain⟨vb,off,cap2,rfl,hvb,_,y1,_⟩:=hrep.elem hlt;have hTK:Cm.take L t.toNat c= .ok ((L.getD c.at_ nz).body,⟨c.at_+1,E5.dec c.left⟩):=if_pos hp;obtain⟨kk,hkk⟩:∃kk:Nat,kk=(L.getD c.at_ nz).kids.toNat:=⟨_,rfl⟩
  have hkz:(L.getD c.at_ nz).kids=(kk:Int):=by
   obtain⟨a,n,r,_,h2,hg,h3,_⟩:=By hTK (fun e=>ht1 e);rw [hkk,hg];have ha:=H.out.2.2.2.1 a h2;unfold E5.right at ha;simp only [Bool.and_eq_true,beq_iff_eq]at ha;have h4:R5.inner a.tag.toNat=true:=by rw [h3]; exact H.out.2.2.2.2
   have h5:=ha.1.2;rw [h4]at h5;have h6:¬a.kids<0:=by
    intro h7;have:E5.leaf a=true:=dt h7;rw [this]at h5;cases h5
   omega
  rw [hkz]at y1;have HKK:=zz hkk;obtain⟨a,ha⟩:∃a,a=c.at_:=⟨_,rfl⟩
  rw [<-ha]at y1 hlt;replace c1:w1.cell? ⟨b,1,none⟩=some (.int .i64 ((a:Int)+1)):=by rw [c1,ha]; rfl
  have hL:=hrep.wf.1;have hltz:(a:Int)<(L.length:Int):=by omega
  have ha5:(a:Int)+1<=5000:=by omega
  have hwr:IntKind.i64.wrap ((a:Nat):Int)=(a:Int):=IntWalk.i64_in _ ⟨by omega,by omega⟩;have f2:=hrep.free 2;have hbl:=hrep.lt;have LB:=hrep.lb.ne;obtain⟨i0,hi0,hz0,hz1,hz2⟩:=info_parts Tryz.infoInt;obtain⟨m9,hm9⟩:∃m9,m9=(E5.dec c.left).length:=⟨_,rfl⟩
  have hown:w1.ownsRow 0 3 1 vl m9 ((E5.dec c.left).reverse.flatMap cNum):=by
   have:=hrep.own;unfold Owns at this;rw [List.length_reverse,<-hm9]at this;exact this
  have HO:=zz hown;have hml:m9<=100:=by
   rw [hm9,E5.Bl];have:=H.out.2.1.2;have:=H.out.2.2.1;omega
  have HM:=zz hm9;have HX:=zz (aN hrep (aN ht (aN hF hfr)));have hnn:(0:Int)<=(a:Int):=by omega
  have htn:((a:Nat):Int).toNat=a:=by omega
  clear hrw hfr hb ht hs hrep hk hTK hkk hkz ha hm9 hown hF hp hL hlt HLF;go_wp2_with fail;go_region_law
   ((refine step_append_lies _ (by rfl) _ _ _ (by rfl) 0 3 i0 _ 1 8 Tryz.underlying51 hi0 hz0 hz1 hz2 rfl (by omega) vl m9 ((E5.dec c.left).reverse.flatMap cNum) (by rfl) (World.ownsRow.alloc HO.out _)
      ⟨w1.heap.size,0,none⟩ 1 1 [.int .i64 (kk:Int)] (by rfl) (by rfl) (World.news_of_block (cs:= #[.int .i64 (kk:Int)]) (t:=3) (fr:=(0,0)) (heap_alloc_new w1 _)) (by simp [Value.oneCell'])
      (by omega) (by unfold maxLen; omega) (by omega) (by simp) (w1.heap.size+1) (by simp) ?_; intro gg cap w2 hown1 hgrow hat hlt; have k2:=AO hgrow c2 LB; have e2:=AP hgrow c2 f2 LB))
  all_goals
   go_wp2;go_end0
   have hm:=HM.out;subst hm;rw [HI.out,<-HKK.out];obtain⟨F',q1,q2,q3⟩:=RW.push HX.out.2.1 HX.out.1 hown1 hgrow (hat.imp id (fun e=>by omega)) rfl;rw [<-HX.out.2.2.1]at q2 q3;exact⟨rfl,F',q1,fun q hq=>(q2 q hq).imp id (fun y=>Nat.le_trans HX.out.2.2.2.size y),HX.out.2.2.2.trans q3 fun _ _ y=>y⟩
theorem GC(b:Nat)(e:Int)(w:World)(c3:w.cell? ⟨b,3,none⟩=some (.int .i64 0))(f3:w.frozen? ⟨b,3,none⟩=false):
  Calls Tryz.prog 78 #[.pointer (some ⟨b,0,none⟩),.int .i64 e] w fun r w'=>r= .returned (.tuple #[])/\w'=w.setCell ⟨b,3,none⟩ (.int .i64 e):=by
 go_enter Tryz.func78,Tryz.ntmps78;go_wp2;go_end0
 exact⟨rfl,rfl⟩
theorem AC(b:Nat)(va:Value)(L:List Px.Node)(lim:Lim)(s:RS)(x:XV)(F:Nat->Prop)(n:Nat)(w:World)(h:RW w b va L lim s x F)(hf:FitR L n s)(hn:2<=n/\n<=1000):
  Calls Tryz.prog 38 #[.pointer (some ⟨b,0,none⟩)] w fun e w'=>e= .returned (.tuple #[])/\RW w' b va L lim (rOut s) x F/\Fr F w w':=by
 cases s with
 | bad e=>
  have H:=zz h;obtain⟨vl,vto,_,ht,hs⟩:=h;obtain⟨c3,f3,hbl⟩:=hs.err;replace c3:w.cell? ⟨b,3,none⟩=some (.int .i64 e):=c3;have hz:(e !=0)=true:=by rw [bne_iff_ne]; exact hs.1
  clear ht hs;go_enter Tryz.func38,Tryz.ntmps38;go_wp2;refine bodyPost_ret (v:= .tuple #[]) (results_none rfl _ _ _) rfl ?_;exact⟨rfl,H.out,fR _ w⟩
 | run c=>
  have HLF:=zz (A2 b va L lim c x F w h);obtain⟨vl,vto,hF,ht,hs⟩:=h;obtain⟨c3,f3,hbl⟩:=hs.err;replace c3:w.cell? ⟨b,3,none⟩=some (.int .i64 0):=c3;have hrep:CuRep 71 (rwRest 0 lim x vto) w b va L c vl:=hs;obtain⟨c0,c1,c2⟩:=hrep.cells;obtain⟨m,r,g,cap,hk,rfl,hc1,hc2,t0,_,_⟩:=hrep.top;have f2:=hrep.free 2;have hr1:r.length+1=n:=by have:=hf.2; rw [hk]at this; simpa using this
  have hrne:r≠ []:=by rintro rfl; simp at hr1; omega
  unfold maxLen at hc2;rw [show c.left.headD 0=m by rw [hk]; rfl]at HLF;have H:=zz (aN hrep (aN ht (aN hF (aN hk hrne))));have hr5:(r.length:Int)+1<=5000:=by omega
  have hca:¬(cap:Int)<(r.length:Int):=by omega
  clear hf hs hF ht hk hrep hr1 hrne hn;cases m with
  | zero=>
   go_enter Tryz.func38,Tryz.ntmps38;go_wp2_with fail;refine HLF.out.mono ?_;rintro e w1 ⟨rfl,kk,rfl⟩;clear HLF;go_wp2_with fail;go_region
   all_goals
    go_wp2;go_end0
    have hkk:Same (w.setCell ⟨b,2,none⟩ (.slice (some ⟨g,0,none⟩) r.length cap)) ((w.drewN (kk+1)).setCell ⟨b,2,none⟩ (.slice (some ⟨g,0,none⟩) r.length cap)):=⟨rfl,rfl,rfl,Nat.le_refl _,fun _ _ _=>rfl⟩
    have hpop:=CuRep.pop H.out.1 H.out.2.2.2.1 H.out.2.2.2.2;have hro:rOut (.run c)= .run ⟨c.at_,r⟩:=by
     show(match c.left with | (_+1)::_=>RS.bad 9 | _=>RS.run ⟨c.at_,c.left.tail⟩)=_;rw [H.out.2.2.2.1];rfl
    rw [hro];refine⟨rfl,⟨.slice (some ⟨g,0,none⟩) r.length cap,vto,H.out.2.2.1,(H.out.2.1.fr (A9 b 2 _) (fun q hq e=>H.out.2.1.tb q hq (by rw [e]))).fr hkk (fun _ _ y=>y)|>fun q=>⟨q.own,q.tb,q.tl,q.tv,q.eq⟩,CuRep.same hpop hkk⟩,?_⟩;rw [H.out.2.2.1];exact fC ((fR _ w).drewN _) (p:=⟨b,2,none⟩) (.inl (.inl (.inl rfl))) _
  | succ m=>
   go_enter Tryz.func38,Tryz.ntmps38;go_wp2_with fail;refine HLF.out.mono ?_;rintro e w1 ⟨rfl,kk,rfl⟩;clear HLF;have hmz:(0:Int)<((m:Int)+1):=by omega
   go_wp2_with fail;refine(GC b 9 (w.drewN kk) c3 f3).mono ?_;rintro e w2 ⟨rfl,rfl⟩;have hp1:¬g=b:=fun e=>H.out.1.lb g rfl (by rw [e])
   go_wp2_with fail;go_region
   all_goals
    go_wp2;go_end0
    have hro:rOut (.run c)= .bad 9:=by
     show(match c.left with | (_+1)::_=>RS.bad 9 | _=>RS.run ⟨c.at_,c.left.tail⟩)=_;rw [H.out.2.2.2.1]
    rw [hro];have hfb:Fr (fun q=>q=b) w ((w.setCell ⟨b,3,none⟩ (.int .i64 9)).setCell ⟨b,2,none⟩ (.slice (some ⟨g,0,none⟩) r.length cap)):=(A9 b 3 _).trans (A9 b 2 _) fun _ _ y=>y
    have hb1:=(H.out.1.blk.set 3 (.int .i64 9)).set 2 (.slice (some ⟨g,0,none⟩) r.length cap);rw [show((cuCells va (.slice (some ⟨g,0,none⟩) (r.length+1) cap) c.at_ (rwRest 0 lim x vto)).setIfInBounds 3 (.int .i64 9)).setIfInBounds 2 (.slice (some ⟨g,0,none⟩) r.length cap)=cuCells va (.slice (some ⟨g,0,none⟩) r.length cap) c.at_ (rwRest 9 lim x vto) by simp [cuCells,rwRest]]at hb1;have hR:RW ((w.setCell ⟨b,3,none⟩ (.int .i64 9)).setCell ⟨b,2,none⟩ (.slice (some ⟨g,0,none⟩) r.length cap)) b va L lim (.bad 9) x F:=⟨.slice (some ⟨g,0,none⟩) r.length cap,vto,H.out.2.2.1,⟨H.out.2.1.own.fr hfb (fun q hq e=>H.out.2.1.tb q hq (by rw [e])),H.out.2.1.tb,H.out.2.1.tl,H.out.2.1.tv,H.out.2.1.eq⟩,by decide,⟨c.at_,hb1⟩,fun q hq=>Nat.lt_of_lt_of_le (H.out.1.footLt q (.inr hq)) hfb.size,fun q hq=>Nat.lt_of_lt_of_le (H.out.1.al2 q hq) hfb.size,H.out.1.lb,H.out.1.ab,H.out.1.al⟩
    refine⟨rfl,hR.same ⟨rfl,rfl,rfl,Nat.le_refl _,fun _ _ _=>rfl⟩,?_⟩;rw [H.out.2.2.1];exact((((fR _ w).drewN kk).setCell (p:=⟨b,3,none⟩) (.inl (.inl (.inl rfl))) _).setCell (p:=⟨b,2,none⟩) (.inl (.inl (.inl rfl))) _).drew
theorem J5(a c:Bytes):(({data:=List.toArray a}:ByteArray)++ {data:=List.toArray c}).toList=a++c:=by
 first
 | (rw [<-ByteArray.toList_data]; simp; done)
 | (simp [ByteArray.toList_eq]; done)
def tblOf(first last:Bytes):List Bytes:=last.map fun c=>first++ [c]
theorem DJ(b:Nat)(va:Value)(L:List Px.Node)(lim:Lim)(s:RS)(x:XV)(F:Nat->Prop)(first last:Bytes)(n:Nat)(w:World)(h:RW w b va L lim s x F)(hf:FitR L n s)(hl1:first.length<=1000)(hl2:last.length<=1000):
  Calls Tryz.prog 82 #[.pointer (some ⟨b,0,none⟩),S first,S last] w fun e w'=>e= .returned (.int .i64 ((rOne L (tblOf first last) s).1:Nat))/\RW w' b va L lim (rOne L (tblOf first last) s).2 x F/\Fr F w w':=by
 have HLF:=zz (Az b va L lim s x F 6 n (by decide) w h hf);have HRO:Hid (rOne L (tblOf first last) s=match (tblOf first last).findIdx? (fun t=>t==(rLeaf L 6 s).1)with
  | some i=>(i,(rLeaf L 6 s).2)
  | none=>(0,rFault 11 (rLeaf L 6 s).2)):=zz rfl
 obtain⟨q,hq⟩:∃q,q=rLeaf L 6 s:=⟨_,rfl⟩
 rw [<-hq]at HLF HRO;obtain⟨s1,y⟩:=q;simp only at HLF HRO;clear h hf hq;go_enter Tryz.func82,Tryz.ntmps82;go_wp2_with fail;refine HLF.out.mono ?_;rintro e w1 ⟨rfl,hrw,hfr⟩;have HW:=zz (aN hrw hfr);have HFT:=zz (BO b va L lim y x F 11 (by decide) w1 hrw);clear hrw hfr HLF;go_wp2_with fail;go_loopw [8] (fun i wr=>∃k,k<=last.length/\i= .int .i64 (k:Nat)/\w1=wr/\Hid (∀j z,j<k->(tblOf first last)[j]?=some z->(z==s1)=false)) (fun i _=>last.length - (intOf i).toNat)
 case atStart=>exact⟨0,Nat.zero_le _,rfl,rfl,zz fun j _ hj=>by omega⟩
 case round=>
  obtain⟨k,hk,rfl,rfl,hno⟩:=hrel;by_cases hlt:k<last.length
  ·have hltz:(k:Int)<(last.length:Int):=by omega
   obtain⟨cs,hcs⟩:∃cs:Bytes,cs=[last[k]]:=⟨_,rfl⟩
   have hx:(tblOf first last)[k]?=some (first++cs):=by
    unfold tblOf;rw [List.getElem?_map,List.getElem?_eq_getElem hlt,hcs];rfl
   have hsl:∀W:World,(Instr.slice 9 (S last) (some (.int .i64 (k:Int))) (some (.int .i64 ((k:Int)+1))) none).run Tryz.prog W= .ok (S cs) W:=fun W=>by
    have q:=Bc last k (k+1) (by omega) hlt W;rw [List.drop_take,List.drop_eq_getElem_cons hlt,show k+1 - k=1 by omega,List.take_succ_cons,List.take_zero,<-hcs]at q;exact q
   have HX:=zz (aN hx hlt);have hcat:¬9223372036854775807<first.length+cs.length:=by rw [hcs,List.length_singleton]; omega
   have hk5:(k:Int)+1<=5000:=by omega
   clear hx hlt hcs hk;obtain⟨qq,hqq⟩:∃qq,(s1==(({data:=List.toArray first}:ByteArray)++ {data:=List.toArray cs}).toList)=qq:=⟨_,rfl⟩
   have HQ:Hid ((s1==first++cs)=qq):=zz (by rw [<-J5]; exact hqq);cases qq with
   | true=>
    have HFI:=zz (Gy HX.out.1 (by have:=HQ.out; rw [beq_iff_eq]at this ⊢; exact this.symm) hno.out);go_wp2;go_ret;rw [HRO.out,HFI.out];exact⟨rfl,HW.out.1,HW.out.2⟩
   | false=>
    go_wp2;go_roundw
    case rel=>
     refine⟨k+1,HX.out.2,by go_num,trivial,zz fun j y hj hy=>?_⟩;by_cases e:j=k
     ·subst e;rw [HX.out.1]at hy;cases hy;have:=HQ.out;rw [beq_eq_false_iff_ne]at this ⊢;exact fun e=>this e.symm
     ·exact hno.out j y (by omega) hy
    case measure=>
     show last.length - (((k:Nat):Int)+1).toNat<last.length - ((k:Nat):Int).toNat;have:=HX.out.2;omega
  ·have hlt':¬(k:Int)<(last.length:Int):=by omega
   have HNO:=zz (Gz (l:=tblOf first last) (t:=s1) (fun j y hj hy=>hno.out j y (by unfold tblOf at hj; rw [List.length_map]at hj; omega) hy));clear hno;go_wp2_with fail;refine HFT.out.mono ?_;rintro e w2 ⟨rfl,hrw,hfr⟩;have HE:=zz (aN hrw hfr);clear hrw hfr HFT;go_wp2;go_ret;rw [HRO.out,HNO.out];exact⟨rfl,HE.out.1,HW.out.2.trans HE.out.2 fun _ _ y=>y⟩
section
variable {L : List Px.Node} {n : Nat} {s : RS}
theorem AE(hr:∀a∈L,E5.right a=true){t:UInt8}(ht:t≠0)(hi:R5.inner t.toNat=false)(h:FitR L n s):FitR L n (rLeaf L t.toNat s).2:=by
 cases s with
 | bad e=>trivial
 | run c=>
  show FitR L n (match Cm.take L t.toNat c with | .ok (b,c')=>(b,RS.run c')| .error e=>([],RS.bad e)).2;cases hk:Cm.take L t.toNat c with
  | error e=>trivial
  | ok q=>
   obtain⟨u,c'⟩:=q;obtain⟨h1,h2⟩:=Aq (AI hr ht hi) hk h.1;exact⟨h1,h2.trans h.2⟩
theorem AV(hr:∀a∈L,E5.right a=true){t:UInt8}(ht:t≠0)(hi:R5.inner t.toNat=true)(h:FitR L n s):FitR L (n+1) (rIn L t.toNat s):=by
 cases s with
 | bad e=>trivial
 | run c=>
  show FitR L (n+1) (match Cm.take L t.toNat c with | .ok (_,c')=>RS.run ⟨c'.at_,(L.getD c.at_ nz).kids.toNat::c'.left⟩| .error e=>RS.bad e);cases hk:Cm.take L t.toNat c with
  | error e=>trivial
  | ok q=>
   obtain⟨u,c'⟩:=q;refine⟨CU hr ht hi hk h.1,?_⟩;obtain⟨a,m,r,_,_,_,_,_,h5,h6⟩:=By hk (fun e=>ht (UInt8.toNat_inj.1 e));have:=h.2;rw [h5]at this;rw [h6];simpa using this
theorem FJ(e:Int)(h:FitR L n s):FitR L n (rFault e s):=by
 cases s<;>trivial
theorem Ac(b:Bool)(e:Int)(h:FitR L n s):FitR L n (rMust b e s):=by
 cases b with
 | true=>exact h
 | false=>exact FJ e h
theorem AH(hn:1<=n)(h:FitR L (n+1) s):FitR L n (rOut s):=by
 cases s with
 | bad e=>trivial
 | run c=>
  show FitR L n (match c.left with | (_+1)::_=>RS.bad 9 | _=>RS.run ⟨c.at_,c.left.tail⟩);obtain⟨h1,h2⟩:=h;cases hk:c.left with
  | nil=>exact absurd hk h1.1
  | cons m r=>
   cases m with
   | succ m=>trivial
   | zero=>
    rw [hk]at h2;have hst:=h1.2;rw [hk]at hst;refine⟨⟨fun e=>?_,FV hst⟩,by simpa using h2⟩;have e2:r=[]:=e;rw [e2]at h2;simp at h2;omega
theorem DK(hr:∀a∈L,E5.right a=true)(tbl:List Bytes)(h:FitR L n s):FitR L n (rOne L tbl s).2:=by
 have h2:=AE hr (t:=6) (by decide) (by decide) h;unfold rOne
 split
 ·exact h2
 ·exact FJ 11 h2
end
structure Lin (w0:World) (F0:Nat->Prop) (b:Nat) (va:Value) (L:List Px.Node) (lim:Lim) (x:XV) (n:Nat) (s:RS) (F:Nat->Prop) (w:World):Prop where
 rw_:RW w b va L lim s x F
 fit:FitR L n s
 fs:Fresh w0 F0 F
 fr:Fr F0 w0 w
section
variable {w0 w w' : World} {F0 F : Nat -> Prop} {b : Nat} {va : Value} {L : List Px.Node} {lim : Lim} {x : XV} {n : Nat} {s s' : RS}
theorem Lin.step(h:Lin w0 F0 b va L lim x n s F w){m:Nat}(h1:RW w' b va L lim s' x F)(h2:FitR L m s')(h3:Fr F w w'):Lin w0 F0 b va L lim x m s' F w':=
 ⟨h1,h2,h.fs,h.fr.step h.fs h3⟩
theorem Lin.into(h:Lin w0 F0 b va L lim x n s F w){m:Nat}(h1:StepR w b va L lim F s' x w')(h2:FitR L m s'):∃F',Lin w0 F0 b va L lim x m s' F' w'/\Fr F w w'/\Fresh w F F':=by
 obtain⟨F',k1,k2,k3⟩:=h1;exact⟨F',⟨k1,h2,fun q hq=>(k2 q hq).elim (h.fs q) (fun y=> .inr (Nat.le_trans h.fr.size y)),h.fr.step h.fs k3⟩,k3,k2⟩
theorem Lin.same(h:Lin w0 F0 b va L lim x n s F w)(hs:Same w w'):Lin w0 F0 b va L lim x n s F w':=⟨h.rw_.same hs,h.fit,h.fs,h.fr.trans (hs.fr _) fun _ _ y=>y⟩
theorem Lin.apart(h:Lin w0 F0 b va L lim x n s F w){q:Nat}(h1:w0.heap.size<=q)(h2:¬F q)(h3:∀y,va.ownBlock=some y->y≠q)(i:Nat)(v:Value):Lin w0 F0 b va L lim x n s F (w.setCell ⟨q,i,none⟩ v):=
 ⟨h.rw_.fr (A9 q i v) (fun y hy e=>h2 (by rw [<-e]; exact hy)) h3,h.fit,h.fs,fC h.fr (.inr h1) _⟩
end
structure SeaW (w0:World) (F0:Nat->Prop) (b:Nat) (va:Value) (L:List Px.Node) (lim:Lim) (x:XV) (bo br:Nat) (n:Nat) (s:RS) (r:Co.Rec) (F:Nat->Prop) (w:World):Prop where
 lin:Lin w0 F0 b va L lim x n s F w
 rb:Blk w br (cRec r).toArray 78
 ob:Blk w bo (cRec zeroR).toArray 78
 nb:¬F br/\¬F bo
 lo:w0.heap.size<=br/\w0.heap.size<=bo/\¬bo=br
 vb:∀y,va.ownBlock=some y->y≠br/\y≠bo
section
variable {w0 w w' : World} {F0 F : Nat -> Prop} {b : Nat} {va : Value} {L : List Px.Node} {lim : Lim} {x : XV} {bo br n : Nat} {s s' : RS} {r r' : Co.Rec}
theorem SeaW.step(h:SeaW w0 F0 b va L lim x bo br n s r F w){m:Nat}(h1:RW w' b va L lim s' x F)(h2:FitR L m s')(h3:Fr F w w'):SeaW w0 F0 b va L lim x bo br m s' r F w':=
 ⟨h.lin.step h1 h2 h3,h.rb.fr h3 h.nb.1,h.ob.fr h3 h.nb.2,h.nb,h.lo,h.vb⟩
theorem SeaW.into(h:SeaW w0 F0 b va L lim x bo br n s r F w){m:Nat}(h1:StepR w b va L lim F s' x w')(h2:FitR L m s'):∃F',SeaW w0 F0 b va L lim x bo br m s' r F' w':=by
 obtain⟨F',k1,k2,k3⟩:=h.lin.into h1 h2;exact⟨F',k1,h.rb.fr k2 h.nb.1,h.ob.fr k2 h.nb.2,⟨fun e=>(k3 _ e).elim h.nb.1 (fun y=>by have:=h.rb.lt; omega),fun e=>(k3 _ e).elim h.nb.2 (fun y=>by have:=h.ob.lt; omega)⟩,h.lo,h.vb⟩
theorem SeaW.same(h:SeaW w0 F0 b va L lim x bo br n s r F w)(hs:Same w w'):SeaW w0 F0 b va L lim x bo br n s r F w':=⟨h.lin.same hs,h.rb.fr hs (fun y=>y),h.ob.fr hs (fun y=>y),h.nb,h.lo,h.vb⟩
theorem SeaW.set(h:SeaW w0 F0 b va L lim x bo br n s r F w)(i:Nat)(v:Value)(he:(cRec r).toArray.setIfInBounds i v=(cRec r').toArray):SeaW w0 F0 b va L lim x bo br n s r' F (w.setCell ⟨br,i,none⟩ v):=by
 have q:=h.rb.set i v;rw [he]at q;exact⟨h.lin.apart h.lo.1 h.nb.1 (fun y hy=>(h.vb y hy).1) i v,q,h.ob.other (p:=⟨br,i,none⟩) v h.lo.2.2,h.nb,h.lo,h.vb⟩
theorem Jp{w1:World}(h:RW w b va L lim s x F)(hf:FitR L n s)(r:Co.Rec)(e:w1=(w.alloc (.cells (cRec zeroR).toArray 78)).alloc (.cells (cRec r).toArray 78)):SeaW w F b va L lim x w.heap.size (w.heap.size+1) n s r F w1:=by
 have hs:Same w w1:=by rw [e]; exact((fR _ _).alloc _).alloc _
 have b1:=Af (w.alloc (.cells (cRec zeroR).toArray 78)) (cRec r).toArray 78;rw [show(w.alloc (.cells (cRec zeroR).toArray 78)).heap.size=w.heap.size+1 by simp,<-e]at b1;have b0:=(Af w (cRec zeroR).toArray 78).alloc (.cells (cRec r).toArray 78);rw [<-e]at b0;exact⟨⟨h.same hs,hf,Aa _ _,hs.fr _⟩,b1,b0,⟨fun y=>by have:=h.lt _ y; omega,fun y=>by have:=h.lt _ y; omega⟩,⟨by omega,by omega,by omega⟩,fun y hy=>by have:=(h.vaLt y hy).1; exact⟨by omega,by omega⟩⟩
theorem SeaW.done(h:SeaW w0 F0 b va L lim x bo br n s r F w)(hf:Fr (fun q=>q=bo) w w'):StepR w0 b va L lim F0 s x w':=
 ⟨F,h.lin.rw_.fr hf (fun q hq e=>h.nb.2 (by rw [<-e]; exact hq)) (fun q hq=>(h.vb q hq).2),h.lin.fs,h.lin.fr.trans hf fun q hq e=>by have:=h.lo.2.1; omega⟩
end
theorem FK(L:List Px.Node)(tbl:List Bytes)(s:RS)(h:tbl.length<=10):(rOne L tbl s).1<=10:=by
 unfold rOne
 split
 ·rename_i i e
  have:=(List.findIdx?_eq_some_iff_getElem.1 e).1;simp only;omega
 ·simp only;omega
end Go.Proofs.YtpfhollohodcjaaGreatDoor
