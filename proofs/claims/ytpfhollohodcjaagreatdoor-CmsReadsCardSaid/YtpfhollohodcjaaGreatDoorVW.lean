import Derived.Test.YtpfhollohodcjaaGreatDoorVV
import Derived.Laws.EntriesVeiled
import Derived.IntWalk
import Derived.BigRegion
import Derived.BigQuiet
set_option maxRecDepth 100000
set_option maxHeartbeats 8000000
namespace Go.Proofs.YtpfhollohodcjaaGreatDoor
open Go.RowKit Go.Px Go.Px.Co Go.Px.Cm
structure ConW (w:World) (F:Nat->Prop) (pc px pm ps b be:Nat) (x:Co.Env) (vto:Value) (ccm:Bool) (size:Nat):Prop where
 cc:w.cell? ⟨pc,0,none⟩=some (.pointer (some ⟨b,0,none⟩))
 cx:w.cell? ⟨px,0,none⟩=some (.pointer (some ⟨be,0,none⟩))
 mb:Blk w pm #[.bool ccm] 4
 sb:Blk w ps #[.int .i64 (size:Nat)] 3
 ew:EnvW w F be x vto
 nf:∀q,q=pc\/q=px\/q=pm\/q=ps->¬F q
 ne:∀q,q=pc\/q=px\/q=pm\/q=ps->¬envFoot be vto q
 d1:pc≠pm/\px≠pm/\ps≠pm
 d2:pc≠ps/\px≠ps
def conF(be:Nat)(vto:Value)(pm ps q:Nat):Prop:=envFoot be vto q\/q=pm\/q=ps
section
variable {w w' : World} {F G : Nat -> Prop} {pc px pm ps b be : Nat} {x : Co.Env} {vto : Value} {ccm : Bool} {size : Nat}
theorem A9{w:World}(q i:Nat)(v:Value):Fr (fun y=>y=q) w (w.setCell ⟨q,i,none⟩ v):=fC (F:=fun y=>y=q) (fR _ w) (p:=⟨q,i,none⟩) (.inl rfl) v
theorem ConW.keep(h:ConW w F pc px pm ps b be x vto ccm size)(hf:Fr F w w')(hs:Fresh w F G):ConW w' G pc px pm ps b be x vto ccm size:=by
 have l1:=World.block_lt_of_cell? _ _ h.cc;have l2:=World.block_lt_of_cell? _ _ h.cx;have l3:=h.mb.lt;have l4:=h.sb.lt;simp only at l1 l2;refine⟨(hf.cell (p:=⟨pc,0,none⟩) l1 (h.nf pc (.inl rfl))).trans h.cc,(hf.cell (p:=⟨px,0,none⟩) l2 (h.nf px (.inr (.inl rfl)))).trans h.cx,h.mb.fr hf (h.nf pm (.inr (.inr (.inl rfl)))),h.sb.fr hf (h.nf ps (.inr (.inr (.inr rfl)))),h.ew.keep hf hs,fun q hq e=>?_,h.ne,h.d1,h.d2⟩;rcases hs q e with y | y
 ·exact h.nf q hq y
 ·rcases hq with rfl | rfl | rfl | rfl<;>omega
theorem ConW.stable(h:ConW w F pc px pm ps b be x vto ccm size)(hf:Fr F w w'):ConW w' F pc px pm ps b be x vto ccm size:=h.keep hf (Aa w F)
theorem ConW.setE{x':Co.Env}(h:ConW w F pc px pm ps b be x vto ccm size)(i:Nat)(v:Value)(he:(envC x vto).setIfInBounds i v=envC x' vto)(ht:x'.to=x.to):ConW (w.setCell ⟨be,i,none⟩ v) F pc px pm ps b be x' vto ccm size:=by
 have hf:=A9 (w:=w) be i v;have l1:=World.block_lt_of_cell? _ _ h.cc;have l2:=World.block_lt_of_cell? _ _ h.cx;have n:∀q,q=pc\/q=px\/q=pm\/q=ps->¬q=be:=fun q hq e=>h.ne q hq (.inl e)
 exact⟨(hf.cell (p:=⟨pc,0,none⟩) l1 (n pc (.inl rfl))).trans h.cc,(hf.cell (p:=⟨px,0,none⟩) l2 (n px (.inr (.inl rfl)))).trans h.cx,h.mb.fr hf (n pm (.inr (.inr (.inl rfl)))),h.sb.fr hf (n ps (.inr (.inr (.inr rfl)))),h.ew.set i v he ht,h.nf,h.ne,h.d1,h.d2⟩
theorem ConW.setM(h:ConW w F pc px pm ps b be x vto ccm size)(v:Bool):ConW (w.setCell ⟨pm,0,none⟩ (.bool v)) F pc px pm ps b be x vto v size:=by
 have hf:=A9 (w:=w) pm 0 (.bool v);have l1:=World.block_lt_of_cell? _ _ h.cc;have l2:=World.block_lt_of_cell? _ _ h.cx;have n:∀q,envFoot be vto q->¬q=pm:=fun q hq e=>h.ne q (.inr (.inr (.inl e))) hq
 exact⟨(hf.cell (p:=⟨pc,0,none⟩) l1 h.d1.1).trans h.cc,(hf.cell (p:=⟨px,0,none⟩) l2 h.d1.2.1).trans h.cx,by have:=h.mb.set 0 (.bool v); simpa using this,h.sb.fr hf h.d1.2.2,⟨Blk.fr h.ew.eb hf (n be (.inl rfl)),h.ew.own.fr hf fun q e=>n q (.inr e),h.ew.nf,h.ew.ap⟩,h.nf,h.ne,h.d1,h.d2⟩
theorem ConW.setS(h:ConW w F pc px pm ps b be x vto ccm size)(v:Nat):ConW (w.setCell ⟨ps,0,none⟩ (.int .i64 (v:Nat))) F pc px pm ps b be x vto ccm v:=by
 have hf:=A9 (w:=w) ps 0 (.int .i64 (v:Nat));have l1:=World.block_lt_of_cell? _ _ h.cc;have l2:=World.block_lt_of_cell? _ _ h.cx;have n:∀q,envFoot be vto q->¬q=ps:=fun q hq e=>h.ne q (.inr (.inr (.inr e))) hq
 exact⟨(hf.cell (p:=⟨pc,0,none⟩) l1 h.d2.1).trans h.cc,(hf.cell (p:=⟨px,0,none⟩) l2 h.d2.2).trans h.cx,h.mb.fr hf (fun e=>h.d1.2.2 e.symm),by have:=h.sb.set 0 (.int .i64 (v:Nat)); simpa using this,⟨Blk.fr h.ew.eb hf (n be (.inl rfl)),h.ew.own.fr hf fun q e=>n q (.inr e),h.ew.nf,h.ew.ap⟩,h.nf,h.ne,h.d1,h.d2⟩
theorem ErrV.setB{v u:Value}{n:Int}{q i:Nat}{cs:Array Value}{T:TypeId}(h:ErrV w v n)(hb:Blk w q cs T)(hc:cs.size≠1):ErrV (w.setCell ⟨q,i,none⟩ u) v n:=by
 obtain⟨fb,e,h1⟩:=h;refine⟨fb,e,h1.other (p:=⟨q,i,none⟩) u ?_⟩;rintro rfl;have h2:=h1.symm.trans hb;simp only [Option.some.injEq,Obj.cells.injEq]at h2;exact hc (by rw [<-h2.1]; rfl)
theorem CuAt.setOut{va:Value}{L:List Px.Node}{lim:Lim}{k:Cu}(h:CuAt w b va L lim k F)(q i:Nat)(v:Value)(h1:¬F q)(h2:∀y,va.ownBlock=some y->y≠q):CuAt (w.setCell ⟨q,i,none⟩ v) b va L lim k F:=
 h.fr (A9 q i v) (fun y hy e=>h1 (by rw [<-e]; exact hy)) h2
end
def MidC(set:Bytes->Co.Env)(w:World)(pc px pm ps b be:Nat)(va:Value)(L:List Px.Node)(lim:Lim)(F:Nat->Prop)(vto:Value)(ccm:Bool)(size:Nat)(R:Except Int (Bytes×Cu))(t:Value)(wx:World):Prop:=match R with
 | .ok (s,k1)=>t= .nilIface/\CuAt wx b va L lim k1 F/\ConW wx F pc px pm ps b be (set s) vto ccm size/\Fr (fun q=>F q\/conF be vto pm ps q) w wx
 | .error n=>ErrV wx t n/\ConW wx F pc px pm ps b be (set []) vto ccm size/\Fr (fun q=>F q\/conF be vto pm ps q) w wx
theorem Jl {set:Bytes->Co.Env} {w w2:World} {pc px pm ps b be i:Nat} {va vto:Value} {L:List Px.Node} {lim:Lim} {F:Nat->Prop} {x:Co.Env} {ccm:Bool} {size:Nat} {R:Except Int (Bytes×Cu)} {e:Ending}
  (hset:∀s,(envC x vto).setIfInBounds i (S s)=envC (set s) vto/\(set s).to=x.to) (h:TkP S (S []) w b va L lim F R e w2) (hr:ConW w F pc px pm ps b be x vto ccm size) (hv:∀q,va.ownBlock=some q->¬conF be vto pm ps q):
  ∃s t,e= .returned (.tuple #[S s,t])/\Fr F w w2/\MidC set w pc px pm ps b be va L lim F vto ccm size R t (w2.setCell ⟨be,i,none⟩ (S s)):=by
 have hnb:¬F be:=hr.ew.nf be (.inl rfl);cases R with
 | ok q=>
  obtain⟨s,k1⟩:=q;obtain⟨e1,h1,h2⟩:=h;refine⟨s,.nilIface,e1,h2,rfl,?_,?_,?_⟩
  ·exact h1.setOut be i _ hnb fun q hq e=>hv q hq (.inl (.inl e))
  ·exact(hr.stable h2).setE i (S s) (hset s).1 (hset s).2
  ·exact fC (Fr.mono h2 fun _ x=> .inl x) (p:=⟨be,i,none⟩) (.inl (.inr (.inl (.inl rfl)))) _
 | error n=>
  obtain⟨⟨v,e1,h1⟩,h2⟩:=h;refine⟨[],v,e1,h2,?_,?_,?_⟩
  ·exact h1.setB (Blk.fr hr.ew.eb h2 hnb) (by simp [envC])
  ·exact(hr.stable h2).setE i (S []) (hset []).1 (hset []).2
  ·exact fC (Fr.mono h2 fun _ x=> .inl x) (p:=⟨be,i,none⟩) (.inl (.inr (.inl (.inl rfl)))) _
theorem MidC.base{set:Bytes->Co.Env}{w w0 wx:World}{pc px pm ps b be:Nat}{va vto:Value}{L:List Px.Node}{lim:Lim}{F:Nat->Prop}{ccm:Bool}{size:Nat}{R:Except Int (Bytes×Cu)}{t:Value}(h:MidC set w0 pc px pm ps b be va L lim F vto ccm size R t wx)(hs:Same w w0):MidC set w pc px pm ps b be va L lim F vto ccm size R t wx:=by
 cases R with
 | ok q=>
  obtain⟨h1,h2,h3,h4⟩:=h;exact⟨h1,h2,h3,(hs.fr _).trans h4 fun _ _ x=>x⟩
 | error n=>
  obtain⟨h1,h2,h3⟩:=h;exact⟨h1,h2,(hs.fr _).trans h3 fun _ _ x=>x⟩
def BadS(ps:Nat)(w:World):Prop:=∃n:Nat,Blk w ps #[.int .i64 (n:Nat)] 3
theorem ConW.bad{w w':World}{F:Nat->Prop}{pc px pm ps b be:Nat}{x:Co.Env}{vto:Value}{ccm:Bool}{size:Nat}(h:ConW w F pc px pm ps b be x vto ccm size)(hs:Same w w'):BadS ps w':=⟨size,h.sb.fr hs fun y=>y⟩
theorem BadS.same{ps:Nat}{w w':World}(h:BadS ps w)(hs:Same w w'):BadS ps w':=by
 obtain⟨n,h⟩:=h;exact⟨n,h.fr hs fun y=>y⟩
theorem TakeP.tk{w w2:World}{b:Nat}{va:Value}{L:List Px.Node}{lim:Lim}{F:Nat->Prop}{R:Except Int (Bytes×Cu)}{e:Ending}(h:TakeP w b va L lim F R e w2):TkP S (S []) w b va L lim F R e w2:=by
 cases R with
 | ok q=>exact h
 | error n=>exact⟨h.1,h.2.fr F⟩
theorem MayIn.fr{w w':World}{F:Nat->Prop}{v:Value}{a c m:Nat}(h:MayIn w F v a c m)(hf:Fr F w w'):MayIn w' F v a c m:=by
 obtain⟨pa,pc,pm,e,h1,h2,h3,n1,n2,n3⟩:=h.ex;exact⟨pa,pc,pm,e,h1.fr hf n1,h2.fr hf n2,h3.fr hf n3,n1,n2,n3⟩
theorem KY (pc py px pm ps b be:Nat) (va vm vto:Value) (L:List Px.Node) (lim:Lim) (k:Cu) (F:Nat->Prop) (x:Co.Env) (ccm:Bool) (w:World) (h:CuAt w b va L lim k F) (hf:Fits L k) (hr:∀a∈L,E5.right a=true) (hw:ConW w F pc px pm ps b be x vto ccm 12) (hv:∀q,va.ownBlock=some q->¬conF be vto pm ps q)
  (cy:w.cell? ⟨py,0,none⟩=some vm) (hy:MayIn w F vm (if ccm then 7 else 1) (if ccm then 13 else 1024) 1) (ny:¬F py) (ny2:¬be=py):
  Calls Tryz.prog 109 #[.pointer (some ⟨pc,0,none⟩),.pointer (some ⟨py,0,none⟩),.pointer (some ⟨px,0,none⟩),.pointer (some ⟨pm,0,none⟩),.pointer (some ⟨ps,0,none⟩)] w (RunsB (BadS ps) w b va L lim F (conF be vto pm ps) (fun p F' w'=>ConW w' F' pc px pm ps b be {x with iv:=p.1} vto ccm p.2) (params L ccm k)):=by
 obtain⟨R,hR⟩:∃R,R=params L ccm k:=⟨_,rfl⟩
 obtain⟨R1,hR1⟩:∃R1,R1=octs L (if ccm then 7 else 1) (if ccm then 13 else 1024) 1 k:=⟨_,rfl⟩
 rw [<-hR];have HR:=zz (aN hR hR1);have H:=zz (aN h (aN hf (aN hv (aN hr hy))));have HCW:=zz hw;have f1:=hw.cx;have f2:=hw.cc;have f3:=cy;have HY:=zz (aN ny ny2);have ly:=World.block_lt_of_cell? _ _ cy;simp only at ly;have hab:(if ccm then 7 else 1)<=5000/\(if ccm then 13 else 1024)<=5000/\1<=5000:=by cases ccm<;>decide
 have HAB:=zz hab;have HLY:=zz ly;have HVM:=zz (show ∃pq,vm= .func (.func 116) #[] pq from by obtain⟨pa,pc,pm,e,_⟩:=hy.ex; exact⟨_,e⟩);clear hR hR1 h hf hw hv cy ny ny2 hr hy hab ly;obtain⟨pq,rfl⟩:=HVM.out;go_enter Tryz.func109,Tryz.ntmps109;go_upto_region 1 with fail
 go_cut [5] (fun t2 wx=>MidC (fun s=> {x with iv:=s}) w pc px pm ps b be va L lim F vto ccm 12 R1 t2 wx)
 case first=>
  obtain⟨SS,hSS⟩:∃SS:World->Prop,SS=(fun W:World=>W.cell? ⟨px,0,none⟩=some (.pointer (some ⟨be,0,none⟩))/\W.cell? ⟨pc,0,none⟩=some (.pointer (some ⟨b,0,none⟩))/\W.cell? ⟨py,0,none⟩=some (.func (.func 116) #[] pq)):=⟨_,rfl⟩
  have hS0:SS w.drew:=by rw [hSS]; exact⟨f1,f2,f3⟩
  refine sR hS0 fun hHeld=>?_
  refine tQ 0 ?_ ?_ ?_;rotate_left
  ·intro w hw;rw [hSS]at hw;obtain⟨q1,q2,q3⟩:=hw;go_simp;try (with_reducible rfl)
  simp only [Act.put,Z1,Z2,Z3];refine tQ 1 ?_ ?_ ?_;rotate_left
  ·intro w hw;rw [hSS]at hw;obtain⟨q1,q2,q3⟩:=hw;go_simp;try (with_reducible rfl)
  simp only [Act.put,Z1,Z2,Z3];refine tQ 2 ?_ ?_ ?_;rotate_left
  ·intro w hw;rw [hSS]at hw;obtain⟨q1,q2,q3⟩:=hw;go_simp;try (with_reducible rfl)
  simp only [Act.put,Z1,Z2,Z3];refine rD 3 rfl (fun K hK=>?_);go_simp;have hrw:=HCW.out.stable (fD (fR _ w));have hcu:=H.out.1.same (fD (sE w));refine(BL b va L lim k F _ (if ccm then 7 else 1) (if ccm then 13 else 1024) 1 (by omega) HAB.out w.drew hcu H.out.2.1 (H.out.2.2.2.2.fr (fD (fR _ w)))).mono ?_;intro e wb hT;rw [<-HR.out.2]at hT;obtain⟨s,t,rfl,hfb,hmid⟩:=Jl (i:=6) (set:=(fun s=> {x with iv:=s})) (fun s=>⟨by simp [envC],rfl⟩) hT hrw H.out.2.2.1;have hrx:=hrw.stable hfb;refine sO hK ?_ fun hHeld=>?_
  ·rw [hSS];exact⟨hrx.cx,hrx.cc,(hfb.cell (p:=⟨py,0,none⟩) (w:=w.drew) HLY.out HY.out.1).trans f3⟩
  clear hK K;refine tQ 4 ?_ ?_ ?_;rotate_left
  ·intro w hw;rw [hSS]at hw;obtain⟨q1,q2,q3⟩:=hw;go_simp;try (with_reducible rfl)
  simp only [Act.put,Z1,Z2,Z3];refine tQ 5 ?_ ?_ ?_;rotate_left
  ·intro w hw;rw [hSS]at hw;obtain⟨q1,q2,q3⟩:=hw;go_simp;try (with_reducible rfl)
  simp only [Act.put,Z1,Z2,Z3];refine tQ 6 ?_ ?_ ?_;rotate_left
  ·intro w hw;rw [hSS]at hw;obtain⟨q1,q2,q3⟩:=hw;go_simp;try (with_reducible rfl)
  simp only [Act.put,Z1,Z2,Z3];refine tQ 7 ?_ ?_ ?_;rotate_left
  ·intro w hw;rw [hSS]at hw;obtain⟨q1,q2,q3⟩:=hw;go_simp;try (with_reducible rfl)
  simp only [Act.put,Z1,Z2,Z3];refine tQ 8 ?_ ?_ ?_;rotate_left
  ·intro w hw;rw [hSS]at hw;obtain⟨q1,q2,q3⟩:=hw;go_simp;try (with_reducible rfl)
  simp only [Act.put,Z1,Z2,Z3];have fb:=Blk.free hrx.ew.eb 6;have k0:=Blk.cell hrx.ew.eb 6 rfl;refine rD 9 rfl (fun K hK=>?_);go_simp;refine sO hK ?_ fun hHeld=>?_
  ·rw [hSS];have hrx2:=hrx.setE (x':=(fun s=> {x with iv:=s}) s) 6 (S s) (by simp [envC]) rfl;exact⟨hrx2.cx,hrx2.cc,((A9 be 6 (S s)).cell (p:=⟨py,0,none⟩) (Nat.lt_of_lt_of_le HLY.out hfb.size) (fun e=>HY.out.2 e.symm)).trans ((hfb.cell (p:=⟨py,0,none⟩) (w:=w.drew) HLY.out HY.out.1).trans f3)⟩
  clear hK K;refine tQ 10 ?_ ?_ ?_;rotate_left
  ·intro w hw;rw [hSS]at hw;obtain⟨q1,q2,q3⟩:=hw;go_simp;try (with_reducible rfl)
  simp only [Act.put,Z1,Z2,Z3];refine wpAnyH_done (by kernel_rfl) ?_ _;go_wp2_with fail;go_meet
  exact hmid.base (fD (fR _ w))
 case rest=>
  clear f3;cases R1 with
  | error n=>
   have HI:=zz (HR.out.1.trans (An HR.out.2.symm));obtain⟨⟨fb,rfl,hb⟩,hcw,hs⟩:=hcut;have HE:=zz (aN hb (aN hs (hcw.bad (sE _))));clear hb hs hcw HR f1 f2;go_wp2;go_ret;rw [HI.out];exact⟨⟨_,rfl,fb,rfl,HE.out.1⟩,HE.out.2.1,HE.out.2.2⟩
  | ok q=>
   obtain⟨s,k1⟩:=q;obtain⟨rfl,hc,hw,hs⟩:=hcut;obtain⟨hf1,hlk⟩:=Aq (AR H.out.2.2.2.1 _ _ _) HR.out.2.symm H.out.2.1;have HT:=zz (A6 b va L lim k1 F _ hc hf1);have HI:=zz (HR.out.1.trans (Ao HR.out.2.symm));have HC:=zz (aN hc (aN hw (aN hs (Aa w F))));have HF1:=zz (aN hf1 hlk);have c1:=hw.cc;clear hc hw hs hf1 hlk HR f1 f2;go_wp2_with fail;refine HT.out.mono ?_;rintro e w3 ⟨rfl,hs3⟩;have HS3:=zz hs3;clear hs3;by_cases hp:peek L k1=2
   ·have hcu3:=HC.out.1.same HS3.out;have hw3:=HC.out.2.1.stable (HS3.out.fr F);have hpz:(((peek L k1:Nat):Int) !=2)=false:=by rw [hp]; rfl
    have HTK:=zz (Bg b va L lim k1 F 2 (by decide) w3 hcu3 HF1.out.1);have HFR3:=zz (HC.out.2.2.1.trans (HS3.out.fr _) fun _ _ x=>x);have HW3:=zz hw3;have HI2:=zz (HI.out.trans (if_pos hp));obtain⟨sb,k2,htk⟩:∃sb k2,Cm.take L 2 k1= .ok (sb,k2):=⟨_,_,by unfold Cm.take; rw [if_pos hp]⟩
    have HK2:=zz htk;have c2:=hw3.cc;clear hcu3 hw3 hp HI HT htk c1;go_wp2_with fail;refine HTK.out.mono ?_;intro e w4 hT;rw [HK2.out]at hT;obtain⟨rfl,hc4,hf4⟩:=hT;have hw4:=HW3.out.stable hf4;have HFR4:=zz (HFR3.out.trans hf4 fun _ _ x=> .inl x);have HW4:=zz (aN hw4 hc4);have HI3:=zz (HI2.out.trans (Ao HK2.out));have hm4:=hw4.mb.cell 0 rfl;have hs4:=hw4.sb.cell 0 rfl;have hs4f:=hw4.sb.free 0;clear hw4 hc4 hf4 HTK HI2 HW3 HFR3;by_cases hl:sb.length=1
    ·obtain⟨c,rfl⟩:∃c,sb=[c]:=by
      match sb,hl with
      | [c],_=>exact⟨c,rfl⟩
     obtain⟨n,hn⟩:∃n,n=c.toNat:=⟨_,rfl⟩
     have HTG:=zz (fun w=>JZ n ccm w);have hn1:n<256:=by rw [hn]; exact c.toNat_lt
     obtain⟨tg,htg⟩:∃tg,tg=Cm.tagged n ccm:=⟨_,rfl⟩
     have HI4:Hid (R=if tg=true then .ok ((s,n),k2)else .error 9):=zz (HI3.out.trans (by
      rw [htg,hn];by_cases ht:Cm.tagged c.toNat ccm=true
      ·rw [if_pos ht];exact congrFun (if_pos (⟨rfl,ht⟩: [c].length=1/\Cm.tagged ([c].getD 0 0).toNat ccm=true)) k2
      ·rw [if_neg ht];exact congrFun (if_neg (fun e: [c].length=1/\Cm.tagged ([c].getD 0 0).toNat ccm=true=>ht e.2)) k2))
     have HN:=zz (aN hn htg);have hcz:(c.toNat:Int)=(n:Int):=by rw [hn]
     rw [<-htg]at HTG;clear hl HI3 hn htg;go_wp2_with fail;have hwz:IntKind.i64.wrap ((({data:= #[c]}:ByteArray)[0]'(Nat.zero_lt_one)).toNat:Int)=(n:Int):=by
      show IntKind.i64.wrap ((c.toNat:Nat):Int)=_;rw [hcz];exact IntWalk.i64_in _ ⟨by omega,by omega⟩
     clear hcz;go_quiet ((go_at_call 110; exact Calls.quiet_of_same ((HTG.out _).mono fun _ _ h=>⟨h.1,h.2.symm⟩)))
     cases tg with
     | true=>
      have HI5:=zz (HI4.out.trans (if_pos rfl));clear HI4;go_wp2;go_ret;rw [HI5.out];exact⟨rfl,⟨F,(HW4.out.2.same (Fr.drewN (fR _ w4) _)).setOut ps 0 _ (HW4.out.1.nf ps (.inr (.inr (.inr rfl)))) (fun q hq e=>H.out.2.2.1 q hq (.inr (.inr e))),HC.out.2.2.2,(HW4.out.1.stable (Fr.drewN (fR _ w4) _)).setS n⟩,fC (HFR4.out.trans (Fr.drewN (fR _ w4) _) fun _ _ x=>x) (p:=⟨ps,0,none⟩) (.inl (.inr (.inr (.inr rfl)))) _⟩
     | false=>
      have HI5:=zz (HI4.out.trans (if_neg (fun e=>nomatch e)));clear HI4;go_wp2_with fail;refine(Al 9 _).mono ?_;rintro e w5 ⟨v,rfl,he,hs5⟩;have HE:=zz (aN he (aN (HFR4.out.trans ((Fr.drewN (fR _ w4) _).trans (hs5.fr _) fun _ _ x=>x) fun _ _ x=>x) (HW4.out.1.bad ((Fr.drewN (fR _ w4) _).trans hs5 fun _ _ x=>x))));clear he hs5;go_wp2;go_ret;rw [HI5.out];exact⟨⟨v,rfl,HE.out.1⟩,HE.out.2.1,HE.out.2.2⟩
    ·have hlz:((sb.length:Int)==1)=false:=bn (by omega);have HI4:Hid (R= .error 9):=zz (HI3.out.trans (by
      show(if sb.length=1/\_ then ret _ else fail 9) k2=_;rw [if_neg (fun e=>hl e.1)];rfl))
     have hlz2:((sb.length:Int) !=1)=true:=by rw [bne_iff_ne]; omega
     clear hl HI3;go_wp2_with fail;go_quiet (fail)
     go_wp2_with fail;refine(Al 9 _).mono ?_;rintro e w5 ⟨v,rfl,he,hs5⟩;have HE:=zz (aN he (aN (HFR4.out.trans ((Fr.drewN (fR _ w4) _).trans (hs5.fr _) fun _ _ x=>x) fun _ _ x=>x) (HW4.out.1.bad ((Fr.drewN (fR _ w4) _).trans hs5 fun _ _ x=>x))));clear he hs5;go_wp2;go_ret;rw [HI4.out];exact⟨⟨v,rfl,HE.out.1⟩,HE.out.2.1,HE.out.2.2⟩
   ·have HI2:=zz (HI.out.trans (if_neg hp));have hpz:(((peek L k1:Nat):Int) !=2)=true:=by rw [bne_iff_ne]; omega
    obtain⟨pk,hpk⟩:∃pk,pk=peek L k1:=⟨_,rfl⟩
    rw [<-hpk]at hpz ⊢;clear hp HI HT hpk c1;go_wp2;go_ret;rw [HI2.out];exact⟨rfl,⟨F,HC.out.1.same HS3.out,HC.out.2.2.2,HC.out.2.1.stable (HS3.out.fr F)⟩,HC.out.2.2.1.trans (HS3.out.fr _) fun _ _ x=>x⟩
end Go.Proofs.YtpfhollohodcjaaGreatDoor
