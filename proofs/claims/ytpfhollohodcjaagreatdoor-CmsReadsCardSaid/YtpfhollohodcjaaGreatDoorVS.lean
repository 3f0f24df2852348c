import Derived.Test.YtpfhollohodcjaaGreatDoorVR
import Derived.Test.YtpfhollohodcjaaGreatDoorVR
import Derived.Laws.EntriesVeiled
import Derived.IntWalk
import Derived.BigRegion
set_option maxRecDepth 100000
set_option maxHeartbeats 8000000
namespace Go.Proofs.YtpfhollohodcjaaGreatDoor
open Go.RowKit Go.Px Go.Px.Co Go.Px.Cm
structure RecW (w:World) (F:Nat->Prop) (pc pr b br:Nat) (r:Co.Rec):Prop where
 cc:w.cell? ⟨pc,0,none⟩=some (.pointer (some ⟨b,0,none⟩))
 cr:w.cell? ⟨pr,0,none⟩=some (.pointer (some ⟨br,0,none⟩))
 rb:Blk w br (cRec r).toArray 78
 nc:¬F pc
 nr:¬F pr
 nb:¬F br
 ec:pc≠br
 er:pr≠br
section
variable {w w' : World} {F G : Nat -> Prop} {pc pr b br : Nat} {r : Co.Rec}
theorem RecW.keep(h:RecW w F pc pr b br r)(hf:Fr F w w')(hs:Fresh w F G):RecW w' G pc pr b br r:=by
 have l1:=World.block_lt_of_cell? _ _ h.cc;have l2:=World.block_lt_of_cell? _ _ h.cr;have l3:=h.rb.lt;refine⟨(hf.cell (p:=⟨pc,0,none⟩) l1 h.nc).trans h.cc,(hf.cell (p:=⟨pr,0,none⟩) l2 h.nr).trans h.cr,h.rb.fr hf h.nb,fun x=>?_,fun x=>?_,fun x=>?_,h.ec,h.er⟩
 ·rcases hs _ x with y | y
  ·exact h.nc y
  ·exact absurd l1 (by simp only at l1 ⊢; omega)
 ·rcases hs _ x with y | y
  ·exact h.nr y
  ·exact absurd l2 (by simp only at l2 ⊢; omega)
 ·rcases hs _ x with y | y
  ·exact h.nb y
  ·omega
theorem Aa(w:World)(F:Nat->Prop):Fresh w F F:=fun _ x=> .inl x
theorem RecW.set{r':Co.Rec}(h:RecW w F pc pr b br r)(i:Nat)(v:Value)(he:(cRec r).toArray.setIfInBounds i v=(cRec r').toArray):RecW (w.setCell ⟨br,i,none⟩ v) F pc pr b br r':=by
 have hf:Fr (fun q=>q=br) w (w.setCell ⟨br,i,none⟩ v):=fC (F:=fun q=>q=br) (fR _ w) (p:=⟨br,i,none⟩) (.inl rfl) v;have l1:=World.block_lt_of_cell? _ _ h.cc;have l2:=World.block_lt_of_cell? _ _ h.cr;have q:=h.rb.set i v;rw [he]at q;exact⟨(hf.cell (p:=⟨pc,0,none⟩) l1 h.ec).trans h.cc,(hf.cell (p:=⟨pr,0,none⟩) l2 h.er).trans h.cr,q,h.nc,h.nr,h.nb,h.ec,h.er⟩
theorem CuAt.fr{va:Value}{L:List Px.Node}{lim:Lim}{k:Cu}(h:CuAt w b va L lim k F)(hf:Fr G w w')(h1:∀q,F q->¬G q)(h2:∀q,va.ownBlock=some q->¬G q):CuAt w' b va L lim k F:=by
 obtain⟨vl,h,rfl⟩:=h;exact⟨vl,h.fr hf h1 h2,rfl⟩
theorem ErrV.set{v u:Value}{n:Int}{i:Nat}(h:ErrV w v n)(hb:Blk w br (cRec r).toArray 78):ErrV (w.setCell ⟨br,i,none⟩ u) v n:=by
 obtain⟨fb,e,h1⟩:=h;refine⟨fb,e,h1.other (p:=⟨br,i,none⟩) u ?_⟩;rintro rfl;have h2:=h1.symm.trans hb;simp [cRec]at h2
end
def MidB(set:Bytes->Co.Rec)(w:World)(b pc pr br:Nat)(va:Value)(L:List Px.Node)(lim:Lim)(F:Nat->Prop)(R:Except Int (Bytes×Cu))(t:Value)(wx:World):Prop:=match R with
 | .ok (s,k1)=>t= .nilIface/\CuAt wx b va L lim k1 F/\RecW wx F pc pr b br (set s)/\Fr (fun q=>F q\/q=br) w wx
 | .error n=>ErrV wx t n/\Fr (fun q=>F q\/q=br) w wx
theorem Ec {set:Bytes->Co.Rec} {w w2:World} {b pc pr br i:Nat} {va:Value} {L:List Px.Node} {lim:Lim} {F:Nat->Prop} {r:Co.Rec} {R:Except Int (Bytes×Cu)} {e:Ending}
  (hset:∀s,(cRec r).toArray.setIfInBounds i (S s)=(cRec (set s)).toArray) (h:TkP S (S []) w b va L lim F R e w2) (hr:RecW w F pc pr b br r) (hv:∀q,va.ownBlock=some q->q≠br):
  ∃s t,e= .returned (.tuple #[S s,t])/\Fr F w w2/\MidB set w b pc pr br va L lim F R t (w2.setCell ⟨br,i,none⟩ (S s)):=by
 cases R with
 | ok q=>
  obtain⟨s,k1⟩:=q;obtain⟨e1,h1,h2⟩:=h;refine⟨s,.nilIface,e1,h2,rfl,?_,?_,?_⟩
  ·exact h1.fr (G:=fun q=>q=br) (fC (F:=fun q=>q=br) (fR _ w2) (p:=⟨br,i,none⟩) (.inl rfl) _) (fun q hq e=>hr.nb (by rw [<-e]; exact hq)) hv
  ·exact(hr.keep h2 (Aa w F)).set i (S s) (hset s)
  ·exact fC (Fr.mono h2 fun _ x=> .inl x) (p:=⟨br,i,none⟩) (.inl (.inr rfl)) _
 | error n=>
  obtain⟨⟨v,e1,h1⟩,h2⟩:=h;refine⟨[],v,e1,h2,?_,?_⟩
  ·exact h1.set (hr.rb.fr h2 hr.nb)
  ·exact fC (Fr.mono h2 fun _ x=> .inl x) (p:=⟨br,i,none⟩) (.inl (.inr rfl)) _
theorem MidB.base{set:Bytes->Co.Rec}{w w0 wx:World}{b pc pr br:Nat}{va:Value}{L:List Px.Node}{lim:Lim}{F:Nat->Prop}{R:Except Int (Bytes×Cu)}{t:Value}(h:MidB set w0 b pc pr br va L lim F R t wx)(hs:Same w w0):MidB set w b pc pr br va L lim F R t wx:=by
 cases R with
 | ok q=>
  obtain⟨h1,h2,h3,h4⟩:=h;exact⟨h1,h2,h3,(hs.fr _).trans h4 fun _ _ x=>x⟩
 | error n=>
  obtain⟨h1,h2⟩:=h;exact⟨h1,(hs.fr _).trans h2 fun _ _ x=>x⟩
theorem Aw{w1 w':World}{F:Nat->Prop}{a c m:Nat}(hF:∀q,F q->q<w1.heap.size)(ha:Blk w' w1.heap.size #[.int .i64 (a:Nat)] 3)(hc:Blk w' (w1.heap.size+1) #[.int .i64 (c:Nat)] 3)(hm:Blk w' (w1.heap.size+1+1) #[.int .i64 (m:Nat)] 3):
  MayIn w' F (.func (.func 116) #[] #[.pointer (some ⟨w1.heap.size,0,none⟩),.pointer (some ⟨w1.heap.size+1,0,none⟩),.pointer (some ⟨w1.heap.size+1+1,0,none⟩)]) a c m:=
 ⟨_,_,_,rfl,ha,hc,hm,fun x=>absurd (hF _ x) (by omega),fun x=>absurd (hF _ x) (by omega),fun x=>absurd (hF _ x) (by omega)⟩
theorem CuAt.lt{w:World}{b:Nat}{va:Value}{L:List Px.Node}{lim:Lim}{k:Cu}{F:Nat->Prop}(h:CuAt w b va L lim k F):∀q,F q->q<w.heap.size:=by
 obtain⟨vl,h,rfl⟩:=h;exact h.footLt
theorem CuAt.va{w:World}{b:Nat}{va:Value}{L:List Px.Node}{lim:Lim}{k:Cu}{F:Nat->Prop}(h:CuAt w b va L lim k F):∀q,va.ownBlock=some q->q<w.heap.size:=by
 obtain⟨vl,h,rfl⟩:=h;exact h.al2
theorem KT(pc pr b br:Nat)(va:Value)(L:List Px.Node)(lim:Lim)(k:Cu)(F:Nat->Prop)(r:Co.Rec)(w:World)(h:CuAt w b va L lim k F)(hf:Fits L k)(hw:RecW w F pc pr b br r)(hv:∀q,va.ownBlock=some q->q≠br)(hE:Eats L (octs L 1 128 1) (fun _ _=>True)):
  Calls Tryz.prog 138 #[.pointer (some ⟨pc,0,none⟩),.pointer (some ⟨pr,0,none⟩)] w (RunsE w b va L lim F (fun q=>q=br) (fun nm F' w'=>RecW w' F' pc pr b br {r with name:=nm}) (nameP L k)):=by
 obtain⟨R,hR⟩:∃R,R=nameP L k:=⟨_,rfl⟩
 obtain⟨R1,hR1⟩:∃R1,R1=octs L 1 128 1 k:=⟨_,rfl⟩
 rw [<-hR];have HR:=zz (aN hR hR1);have H:=zz (aN h (aN hf (aN hv hE)));have HRW:=zz hw;have c1:=hw.cc;have c2:=hw.cr;have HG:=zz (Aa w F);clear hR hR1 h hf hw hv hE;go_enter Tryz.func138,Tryz.ntmps138;go_upto_region 1 with fail
 go_cut [2] (fun t2 wx=>MidB (fun s=> {r with name:=s}) w b pc pr br va L lim F R1 t2 wx)
 case first=>
  obtain⟨SS,hSS⟩:∃SS:World->Prop,SS=(fun W:World=>W.cell? ⟨pc,0,none⟩=some (.pointer (some ⟨b,0,none⟩))/\W.cell? ⟨pr,0,none⟩=some (.pointer (some ⟨br,0,none⟩))):=⟨_,rfl⟩
  have hS0:SS w.drew:=by rw [hSS]; exact⟨c1,c2⟩
  refine sR hS0 fun hHeld=>?_
  refine tQ 0 ?_ ?_ ?_;rotate_left
  ·intro w hw;rw [hSS]at hw;obtain⟨q1,q2⟩:=hw;go_simp;try (with_reducible rfl)
  simp only [Act.put,Z1,Z2,Z3];refine tQ 1 ?_ ?_ ?_;rotate_left
  ·intro w hw;rw [hSS]at hw;obtain⟨q1,q2⟩:=hw;go_simp;try (with_reducible rfl)
  simp only [Act.put,Z1,Z2,Z3];refine rD 2 rfl (fun K hK=>?_);go_simp;refine(A3 1 128 1 _).mono ?_;rintro e wa ⟨rfl,hba,hbc,hbm,hsa⟩;refine sO hK ?_ fun hHeld=>?_
  ·rw [hSS];have hrw:=(HRW.out.keep (fD (fR _ w)) (Aa _ F)).keep (hsa.fr F) (Aa _ F);exact⟨hrw.cc,hrw.cr⟩
  clear hK K;refine rD 3 rfl (fun K hK=>?_);go_simp;have hro:=HRW.out.keep (fD (fR _ w)) (Aa _ F);have hrw:=hro.keep (hsa.fr F) (Aa _ F);have hcu:=(H.out.1.same (fD (sE w))).same hsa;refine(BL b va L lim k F _ 1 128 1 (by omega) (by omega) wa hcu H.out.2.1 (Aw H.out.1.lt hba hbc hbm)).mono ?_;intro e wb hT;rw [<-HR.out.2]at hT;obtain⟨s,t,rfl,hfb,hmid⟩:=Ec (i:=3) (set:=(fun s=> {r with name:=s})) (fun s=>by simp [cRec]) hT hrw H.out.2.2.1;refine sO hK ?_ fun hHeld=>?_
  ·rw [hSS];have hrx:=hrw.keep hfb (Aa _ F);exact⟨hrx.cc,hrx.cr⟩
  clear hK K;refine tQ 4 ?_ ?_ ?_;rotate_left
  ·intro w hw;rw [hSS]at hw;obtain⟨q1,q2⟩:=hw;go_simp;try (with_reducible rfl)
  simp only [Act.put,Z1,Z2,Z3];refine tQ 5 ?_ ?_ ?_;rotate_left
  ·intro w hw;rw [hSS]at hw;obtain⟨q1,q2⟩:=hw;go_simp;try (with_reducible rfl)
  simp only [Act.put,Z1,Z2,Z3];refine tQ 6 ?_ ?_ ?_;rotate_left
  ·intro w hw;rw [hSS]at hw;obtain⟨q1,q2⟩:=hw;go_simp;try (with_reducible rfl)
  simp only [Act.put,Z1,Z2,Z3];refine tQ 7 ?_ ?_ ?_;rotate_left
  ·intro w hw;rw [hSS]at hw;obtain⟨q1,q2⟩:=hw;go_simp;try (with_reducible rfl)
  simp only [Act.put,Z1,Z2,Z3];refine tQ 8 ?_ ?_ ?_;rotate_left
  ·intro w hw;rw [hSS]at hw;obtain⟨q1,q2⟩:=hw;go_simp;try (with_reducible rfl)
  simp only [Act.put,Z1,Z2,Z3];have fb:=(hrw.keep hfb (Aa _ F)).rb.free 3;have k0:=(hrw.keep hfb (Aa _ F)).rb.cell 3 rfl;refine rD 9 rfl (fun K hK=>?_);go_simp;refine sO hK ?_ fun hHeld=>?_
  ·rw [hSS];have hrx:=(hrw.keep hfb (Aa _ F)).set (r':=(fun s=> {r with name:=s}) s) 3 (S s) (by simp [cRec]);exact⟨hrx.cc,hrx.cr⟩
  clear hK K;refine tQ 10 ?_ ?_ ?_;rotate_left
  ·intro w hw;rw [hSS]at hw;obtain⟨q1,q2⟩:=hw;go_simp;try (with_reducible rfl)
  simp only [Act.put,Z1,Z2,Z3];refine wpAnyH_done (by kernel_rfl) ?_ _;go_wp2_with fail;go_meet
  exact hmid.base (sT (fD (fR _ w)) hsa)
 case rest=>
  cases R1 with
  | error n=>
   have HI:=zz (HR.out.1.trans (show nameP L k= .error n by unfold nameP bnd; rw [<-HR.out.2]));obtain⟨⟨fb,rfl,hb⟩,hs⟩:=hcut;have HE:=zz (aN hb hs);clear hb hs HR;go_wp2;go_ret;rw [HI.out];exact⟨⟨_,rfl,fb,rfl,HE.out.1⟩,HE.out.2⟩
  | ok q=>
   obtain⟨s,k1⟩:=q;obtain⟨rfl,hc,hw,hs⟩:=hcut;have hf1:=(H.out.2.2.2 k s k1 HR.out.2.symm H.out.2.1).1;have HT:=zz (A6 b va L lim k1 F _ hc hf1);have HI:=zz (HR.out.1.trans (show nameP L k=if(peek L k1 !=0)=true then .error 11 else .ok (s,k1) by
    unfold nameP bnd;rw [<-HR.out.2];rfl))
   have HC:=zz (aN hc (aN hw hs));have c1:=hw.cc;clear hc hw hs hf1 HR;go_wp2_with fail;refine HT.out.mono ?_;rintro e w3 ⟨rfl,hs3⟩;have HS3:=zz hs3;clear hs3;by_cases hp:peek L k1=0
   ·have HI2:=zz (HI.out.trans (if_neg (by rw [hp]; decide)));rw [hp];clear hp HI HT;go_wp2;go_ret;rw [HI2.out];exact⟨rfl,⟨F,HC.out.1.same HS3.out,HG.out,HC.out.2.1.keep (HS3.out.fr F) (Aa _ F)⟩,HC.out.2.2.trans (HS3.out.fr _) fun _ _ x=>x⟩
   ·have HI2:=zz (HI.out.trans (if_pos (by rw [bne_iff_ne]; exact hp)));have hpz:(((peek L k1:Nat):Int)==0)=false:=bn (by omega);obtain⟨pk,hpk⟩:∃pk,pk=peek L k1:=⟨_,rfl⟩
    rw [<-hpk]at hpz ⊢;clear hp HI HT hpk;go_wp2_with fail;refine(Al 11 _).mono ?_;rintro e w4 ⟨v,rfl,he,hs4⟩;have HE:=zz (aN he (HC.out.2.2.trans ((HS3.out.trans hs4).fr _) fun _ _ x=>x));clear he hs4;go_wp2;go_ret;rw [HI2.out];exact⟨⟨v,rfl,HE.out.1⟩,HE.out.2⟩
theorem BM{w:World}{g:Nat}{l:List Bytes}{T:TypeId}(h:Blk w g (l.map S).toArray T)(hl:l.length<=1000):Lies w 1 cStr (.slice (some ⟨g,0,none⟩) l.length l.length) l:=by
 refine⟨⟨_,_,rfl,Nat.le_refl _,by unfold maxLen; omega⟩,fun j x hj=>⟨g,0,_,rfl,h.lt,fun i u hu=>?_⟩⟩;cases i with
 | zero=>
  simp only [cStr,List.getElem?_cons_zero,Option.some.injEq]at hu;subst hu;rw [Nat.zero_add,Nat.mul_one,Nat.add_zero];exact h.cell j (by simp [hj])
 | succ i=>simp [cStr]at hu
theorem Eq{L:List Px.Node}{tbl:List Bytes}{k k1:Cu}{i:Nat}(h:kind L tbl k= .ok (i,k1)):i<tbl.length:=by
 unfold kind bnd at h;cases hk:Cm.take L 6 k with
 | error n=>
  rw [hk]at h;cases h
 | ok q=>
  rw [hk]at h;obtain⟨t,k2⟩:=q;simp only at h;cases hi:tbl.findIdx? (fun y=>y==t)with
  | none=>
   rw [hi]at h;cases h
  | some j=>
   rw [hi]at h;simp only [ret,Except.ok.injEq,Prod.mk.injEq]at h;rw [<-h.1];exact(List.findIdx?_eq_some_iff_getElem.1 hi).1
theorem KU(pc pr b br:Nat)(va:Value)(L:List Px.Node)(lim:Lim)(k:Cu)(F:Nat->Prop)(r:Co.Rec)(w:World)(h:CuAt w b va L lim k F)(hf:Fits L k)(hw:RecW w F pc pr b br r)(hv:∀q,va.ownBlock=some q->q≠br):
  Calls Tryz.prog 139 #[.pointer (some ⟨pc,0,none⟩),.pointer (some ⟨pr,0,none⟩)] w (RunsE w b va L lim F (fun q=>q=br) (fun i F' w'=>RecW w' F' pc pr b br {r with size:=16+8*(i:Nat)}) (kind L wrapT k)):=by
 obtain⟨R,hR⟩:∃R,R=kind L wrapT k:=⟨_,rfl⟩
 rw [<-hR];have HR:=zz hR;have H:=zz (aN h (aN hf hv));have HRW:=zz hw;have c1:=hw.cc;have c2:=hw.cr;have HG:=zz (Aa w F);clear hR h hf hw hv;go_enter Tryz.func139,Tryz.ntmps139;go_wp2_with fail;have hal:Same w (w.alloc (.cells (wrapT.map S).toArray 9)):=fA (fR _ w) _;refine(BK b va L lim k F (.slice (some ⟨w.heap.size,0,none⟩) 3 3) wrapT (by decide) (w.alloc (.cells (wrapT.map S).toArray 9)) (H.out.1.same hal) H.out.2.1 (BM (Af w _ _) (by decide)) (fun q hq hF=>by simp only [Value.ownBlock,Option.some.injEq]at hq; have:=H.out.1.lt q hF; omega)).mono ?_;intro e w1 hT;rw [<-HR.out]at hT;have hrw:=HRW.out.keep (hal.fr F) (Aa _ F);cases R with
 | error n=>
  obtain⟨⟨v,rfl,hv⟩,hs⟩:=hT;have hr1:=hrw.keep hs (Aa _ F);have c3:=hr1.cr;have fb:=hr1.rb.free 1;have k0:=hr1.rb.cell 1 rfl;obtain⟨fb2,rfl,hfb⟩:=hv;have HE:=zz (aN (ErrV.set (i:=1) (u:= .int .i64 16) ⟨fb2,rfl,hfb⟩ hr1.rb) ((hal.fr F).trans hs fun _ _ x=>x));clear hal hrw hs hr1 hfb c1 c2;go_wp2;go_ret;exact⟨⟨_,rfl,HE.out.1⟩,fC (Fr.mono HE.out.2 fun _ x=> .inl x) (p:=⟨br,1,none⟩) (.inl (.inr rfl)) _⟩
 | ok q=>
  obtain⟨i,k1⟩:=q;obtain⟨rfl,hc,hs⟩:=hT;have hi:i<3:=Eq HR.out.symm;have hr1:=hrw.keep hs (Aa _ F);have c3:=hr1.cr;have fb:=hr1.rb.free 1;have k0:=hr1.rb.cell 1 rfl;have HE:=zz (aN hc (aN (hr1.set (r':= {r with size:=16+8*(i:Int)}) 1 (.int .i64 (16+8*(i:Int))) (by simp [cRec])) ((hal.fr F).trans hs fun _ _ x=>x)));have hiz:(i:Int)<3:=by omega
  have hnb:=zz hr1.nb;clear hal hrw hs hr1 hc c1 c2 hi;go_wp2;go_ret;exact⟨rfl,⟨F,HE.out.1.fr (G:=fun q=>q=br) (fC (F:=fun q=>q=br) (fR _ _) (p:=⟨br,1,none⟩) (.inl rfl) _) (fun q hq e=>hnb.out (by rw [<-e]; exact hq)) H.out.2.2,HG.out,HE.out.2.1⟩,fC (Fr.mono HE.out.2.2 fun _ x=> .inl x) (p:=⟨br,1,none⟩) (.inl (.inr rfl)) _⟩
theorem Aq{α:Type}{L:List Px.Node}{p:P α}{R:α->List (List Px.Node)->Prop}{k k1:Cu}{v:α}(h:Eats L p R)(e:p k= .ok (v,k1))(hf:Fits L k):Fits L k1/\k1.left.length=k.left.length:=by
 obtain⟨h1,ts,n,r,_,h2,h3,_⟩:=h k v k1 e hf;exact⟨h1,by rw [h2,h3]; rfl⟩
def wr3(L:List Px.Node)(nm:Bytes)(i:Nat):P Co.Rec:=bnd (octs L 24 1032 8) fun s=>ret ⟨2,16+8*i,0,nm,s,[],0,[],[]⟩
def wr2(L:List Px.Node)(nm:Bytes):P Co.Rec:=bnd (inn L 48 (kind L wrapT)) fun i=>wr3 L nm i
def wr1(L:List Px.Node):P Co.Rec:=bnd (inn L 48 (nameP L)) fun nm=>wr2 L nm
theorem An{α β:Type}{p:P α}{f:α->P β}{c:Cu}{n:Int}(h:p c= .error n):bnd p f c= .error n:=by
 unfold bnd;rw [h]
theorem Ao{α β:Type}{p:P α}{f:α->P β}{c c':Cu}{a:α}(h:p c= .ok (a,c')):bnd p f c=f a c':=by
 unfold bnd;rw [h]
def zeroR:Co.Rec:=⟨0,0,0,[],[],[],0,[],[]⟩
def RecP(br:Nat)(x:Co.Rec)(F:Nat->Prop)(w:World):Prop:=¬F br/\Blk w br (cRec x).toArray 78
theorem Ay{α:Type}{L:List Px.Node}{p:P α}{R:α->List (List Px.Node)->Prop}(h:Eats L p R):Eats L p (fun _ _=>True):=h.mono fun _ _ _=>trivial
theorem RecW.stable{w w':World}{F:Nat->Prop}{pc pr b br:Nat}{r:Co.Rec}(h:RecW w F pc pr b br r)(hf:Fr F w w'):RecW w' F pc pr b br r:=h.keep hf (Aa w F)
theorem AY{F F1 G:Nat->Prop}{w w1 w2:World}(h:Fr (fun q=>F q\/G q) w w1)(hs:Fresh w F F1)(k:Fr (fun q=>F1 q\/G q) w1 w2):Fr (fun q=>F q\/G q) w w2:=
 fT h k fun b hb x=>by
  rcases x with x | x
  ·rcases hs b x with y | y
   ·exact .inl y
   ·omega
  ·exact .inr x
theorem A0{F F1 F2 G:Nat->Prop}{w w1:World}(h:Fr G w w1)(hs:Fresh w F F1)(k:Fresh w1 F1 F2):Fresh w F F2:=fun q x=>by
 rcases k q x with y | y
 ·exact hs q y
 ·have:=h.size;exact .inr (by omega)
theorem IJ(b br:Nat)(va:Value)(L:List Px.Node)(lim:Lim)(k:Cu)(F:Nat->Prop)(w:World)(h:CuAt w b va L lim k F)(hf:Fits L k)(hd:k.left.length<=99)(hr:∀a∈L,E5.right a=true)(hx:RecP br zeroR F w)(hv:∀q,va.ownBlock=some q->q≠br):
  Calls Tryz.prog 104 #[.pointer (some ⟨b,0,none⟩),.pointer (some ⟨br,0,none⟩)] w (RunsE w b va L lim F (fun q=>q=br) (RecP br) (wrapped L k)):=by
 obtain⟨R,hR⟩:∃R,R=wrapped L k:=⟨_,rfl⟩
 rw [<-hR];have HR:=zz hR;have H:=zz (aN h (aN hf (aN hd (aN hr hv))));have hbl:=hx.2.lt;have k0:=hx.2.cell 0 rfl;have fb:=hx.2.free 0;obtain⟨w3,hw3⟩:∃w3,w3=(((w.setCell ⟨br,0,none⟩ (.int .i64 2)).alloc (.cells #[.pointer (some ⟨b,0,none⟩)] 50)).alloc (.cells #[.pointer (some ⟨br,0,none⟩)] 167)):=⟨_,rfl⟩
 have hsz:(w.setCell ⟨br,0,none⟩ (.int .i64 2)).heap.size=w.heap.size:=by simp [World.setCell]
 have hs2:Same (w.setCell ⟨br,0,none⟩ (.int .i64 2)) w3:=by rw [hw3]; exact((fR _ _).alloc _).alloc _
 have hf2:Fr (fun q=>q=br) w (w.setCell ⟨br,0,none⟩ (.int .i64 2)):=fC (F:=fun q=>q=br) (fR _ w) (p:=⟨br,0,none⟩) (.inl rfl) _;have hbx:Blk (w.setCell ⟨br,0,none⟩ (.int .i64 2)) br (cRec {zeroR with way:=2}).toArray 78:=hx.2.set 0 (.int .i64 2);have hrw3:RecW w3 F w.heap.size (w.heap.size+1) b br {zeroR with way:=2}:=by
  have b0:=(Af (w.setCell ⟨br,0,none⟩ (.int .i64 2)) #[.pointer (some ⟨b,0,none⟩)] 50).alloc (.cells #[.pointer (some ⟨br,0,none⟩)] 167);have b1:=Af ((w.setCell ⟨br,0,none⟩ (.int .i64 2)).alloc (.cells #[.pointer (some ⟨b,0,none⟩)] 50)) #[.pointer (some ⟨br,0,none⟩)] 167;rw [show((w.setCell ⟨br,0,none⟩ (.int .i64 2)).alloc (.cells #[.pointer (some ⟨b,0,none⟩)] 50)).heap.size=w.heap.size+1 by simp [World.setCell]]at b1;rw [<-hw3]at b0 b1;rw [hsz]at b0;refine⟨b0.cell 0 rfl,b1.cell 0 rfl,hbx.fr hs2 (fun x=>x),fun x=>?_,fun x=>?_,hx.1,by omega,by omega⟩
  ·have:=h.lt _ x; omega
  ·have:=h.lt _ x; omega
 have hcu3:CuAt w3 b va L lim k F:=(h.fr (G:=fun q=>q=br) hf2 (fun q hq e=>hx.1 (by rw [<-e]; exact hq)) hv).same hs2;have hfr3:Fr (fun q=>F q\/q=br) w w3:=(Fr.mono hf2 fun _ x=> .inr x).trans (hs2.fr _) fun _ _ x=>x
 have c1:=hrw3.cc;have c2:=hrw3.cr;have W3:=zz hw3;have HV:=zz (Dh b va L lim k F [4] w3 hcu3 hf);have H3:=zz (aN hrw3 hfr3);have hHG:=zz (Aa w F);rw [hw3]at c1 c2;clear hR h hf hd hr hv hx hs2 hf2 hsz hbx hrw3 hcu3 hfr3 hw3;go_enter Tryz.func104,Tryz.ntmps104;go_wp2_with fail;rw [<-W3.out];refine HV.out.mono ?_;intro e w4 hT;obtain⟨pc,hpc⟩:∃pc,pc=w.heap.size:=⟨_,rfl⟩
 obtain⟨pr,hpr⟩:∃pr,pr=w.heap.size+1:=⟨_,rfl⟩
 clear c1 c2;rw [<-hpr,<-hpc];have hrw3:=H3.out.1;rw [<-hpr,<-hpc]at hrw3;have HRW:=zz hrw3;clear hrw3 hpc hpr;cases hk:version L [4] k with
 | error n=>
  rw [hk]at hT;have HI:=zz (HR.out.trans (An hk));obtain⟨⟨v,rfl,fb,rfl,hb⟩,hs⟩:=hT;have HE:=zz (aN hb (AY H3.out.2 hHG.out (Fr.mono hs fun _ x=> .inl x)));clear hb hs hk HV;go_wp2;go_ret;rw [HI.out];exact⟨⟨_,rfl,fb,rfl,HE.out.1⟩,HE.out.2⟩
 | ok q=>
  obtain⟨u,k1⟩:=q;rw [hk]at hT;obtain⟨rfl,hcu,hfr⟩:=hT;have hR1:R=wr1 L k1:=HR.out.trans (Ao hk);obtain⟨hf1,hd1⟩:=Aq (Bz H.out.2.2.2.1 [4]) hk H.out.2.1;have hrw:=HRW.out.stable hfr;have hin:=Bd b va L lim k1 F (fun q=>q=br) 0x30 (by decide) (by decide) 138 #[.pointer (some ⟨pc,0,none⟩),.pointer (some ⟨pr,0,none⟩)] (nameP L) (fun nm F' w'=>RecW w' F' pc pr b br {way:=2,size:=0,kind:=0,name:=nm,key:=[],salt:=[],rounds:=0,iv:=[],loose:=[]}) w4 hcu hf1 (by have:=H.out.2.2.1; omega) H.out.2.2.2.1 (fun _=>rfl) (Ay (D1 H.out.2.2.2.1)) (fun v F w w' h hf=>h.stable hf)
   (fun w1 F1 k2 h1 h2 _ h4 h5=>KT pc pr b br va L lim k2 F1 {zeroR with way:=2} w1 h1 h2 (hrw.keep h4 h5) H.out.2.2.2.2 (Ay (AR H.out.2.2.2.1 1 128 1)))
  rw [show((0x30:UInt8).toNat)=48 from rfl]at hin;have HIN:=zz hin;have HR1:=zz hR1;have H4:=zz (aN hd1 (aN hf1 (AY H3.out.2 hHG.out (Fr.mono hfr fun _ x=> .inl x))));have c1:=hrw.cc;have c2:=hrw.cr;clear hcu hfr hR1 hf1 hd1 hrw hin hk HV HR H3;go_wp2_with fail;refine HIN.out.mono ?_;intro e w5 hT;clear c1 c2;cases hk:inn L 48 (nameP L) k1 with
  | error n=>
   rw [hk]at hT;have HI:=zz (HR1.out.trans (An hk));obtain⟨⟨v,rfl,fb,rfl,hb⟩,hs⟩:=hT;have HE:=zz (aN hb (AY H4.out.2.2 (A0 H4.out.2.2 hHG.out (Aa _ F)) hs));clear hb hs hk HIN;go_wp2;go_ret;rw [HI.out];exact⟨⟨_,rfl,fb,rfl,HE.out.1⟩,HE.out.2⟩
  | ok q=>
   obtain⟨nm,k2⟩:=q;rw [hk]at hT;obtain⟨rfl,⟨F1,hcu,hfs,hrw⟩,hfr⟩:=hT;have hR2:R=wr2 L nm k2:=HR1.out.trans (Ao hk);have hei:=Aq (Eats.inn (t:=0x30) H.out.2.2.2.1 (D1 H.out.2.2.2.1) (by decide) (by decide)) hk H4.out.2.1;obtain⟨hf2,hd2⟩:=hei;have hin:=Bd b va L lim k2 F1 (fun q=>q=br) 0x30 (by decide) (by decide) 139 #[.pointer (some ⟨pc,0,none⟩),.pointer (some ⟨pr,0,none⟩)] (kind L wrapT) (fun i F' w'=>RecW w' F' pc pr b br {way:=2,size:=16+8*(i:Nat),kind:=0,name:=nm,key:=[],salt:=[],rounds:=0,iv:=[],loose:=[]}) w5 hcu hf2 (by have:=H.out.2.2.1; have:=H4.out.1; omega) H.out.2.2.2.1 (fun _=>rfl) (Ay (Av H.out.2.2.2.1 wrapT)) (fun v F w w' h hf=>h.stable hf)
    (fun w1 F2 k3 h1 h2 _ h4 h5=>KU pc pr b br va L lim k3 F2 _ w1 h1 h2 (hrw.keep h4 h5) H.out.2.2.2.2)
   rw [show((0x30:UInt8).toNat)=48 from rfl]at hin;have HIN2:=zz hin;have HR2:=zz hR2;have hfr5:=AY H4.out.2.2 (Aa w F) hfr;have hfs5:=A0 H4.out.2.2 (Aa w F) hfs;have H5:=zz (aN hf2 (aN hfr5 hfs5));have c1:=hrw.cc;have c2:=hrw.cr;clear hcu hfr hR2 hf2 hd2 hrw hin hk HIN HR1 hfs H4 hfr5 hfs5;go_wp2_with fail;refine HIN2.out.mono ?_;intro e w6 hT;clear c1 c2;cases hk:inn L 48 (kind L wrapT) k2 with
   | error n=>
    rw [hk]at hT;have HI:=zz (HR2.out.trans (An hk));obtain⟨⟨v,rfl,fb,rfl,hb⟩,hs⟩:=hT;have HE:=zz (aN hb (AY H5.out.2.1 H5.out.2.2 hs));clear hb hs hk HIN2;go_wp2;go_ret;rw [HI.out];exact⟨⟨_,rfl,fb,rfl,HE.out.1⟩,HE.out.2⟩
   | ok q=>
    obtain⟨i,k3⟩:=q;rw [hk]at hT;obtain⟨rfl,⟨F2,hcu,hfs,hrw⟩,hfr⟩:=hT;have hR3:R=wr3 L nm i k3:=HR2.out.trans (Ao hk);have hei:=Aq (Eats.inn (t:=0x30) H.out.2.2.2.1 (Av H.out.2.2.2.1 wrapT) (by decide) (by decide)) hk H5.out.1;obtain⟨hf3,_⟩:=hei;obtain⟨R1,hR1⟩:∃R1,R1=octs L 24 1032 8 k3:=⟨_,rfl⟩
    replace HR:=zz (aN hR3 hR1);replace HRW:=zz hrw;have hvv:=H.out.2.2.2.2;replace H:=zz (aN hcu (aN hf3 (aN hvv True.intro)));have H6:=zz (aN (AY H5.out.2.1 H5.out.2.2 hfr) (A0 H5.out.2.1 H5.out.2.2 hfs));have c1:=hrw.cc;have c2:=hrw.cr;clear hcu hfr hR3 hf3 hrw hk HIN2 HR2 hfs H5 hR1 hvv;go_upto_region 11 with fail
    go_cut [6] (fun t6 wx=>MidB (fun s=> {way:=2,size:=16+8*(i:Nat),kind:=0,name:=nm,key:=s,salt:=[],rounds:=0,iv:=[],loose:=[]}) w6 b pc pr br va L lim F2 R1 t6 wx)
    case first=>
     obtain⟨SS,hSS⟩:∃SS:World->Prop,SS=(fun W:World=>W.cell? ⟨pc,0,none⟩=some (.pointer (some ⟨b,0,none⟩))/\W.cell? ⟨pr,0,none⟩=some (.pointer (some ⟨br,0,none⟩))):=⟨_,rfl⟩
     have hS0:SS w6.drew:=by rw [hSS]; exact⟨c1,c2⟩
     refine sR hS0 fun hHeld=>?_
     refine tQ 0 ?_ ?_ ?_;rotate_left
     ·intro w hw;rw [hSS]at hw;obtain⟨q1,q2⟩:=hw;go_simp;try (with_reducible rfl)
     simp only [Act.put,Z1,Z2,Z3];refine tQ 1 ?_ ?_ ?_;rotate_left
     ·intro w hw;rw [hSS]at hw;obtain⟨q1,q2⟩:=hw;go_simp;try (with_reducible rfl)
     simp only [Act.put,Z1,Z2,Z3];refine rD 2 rfl (fun K hK=>?_);go_simp;refine(A3 24 1032 8 _).mono ?_;rintro e wa ⟨rfl,hba,hbc,hbm,hsa⟩;refine sO hK ?_ fun hHeld=>?_
     ·rw [hSS];have hrw:=(HRW.out.keep (fD (fR _ w6)) (Aa _ F2)).keep (hsa.fr F2) (Aa _ F2);exact⟨hrw.cc,hrw.cr⟩
     clear hK K;refine rD 3 rfl (fun K hK=>?_);go_simp;have hro:=HRW.out.keep (fD (fR _ w6)) (Aa _ F2);have hrw:=hro.keep (hsa.fr F2) (Aa _ F2);have hcu:=(H.out.1.same (fD (sE w6))).same hsa;refine(BL b va L lim k3 F2 _ 24 1032 8 (by omega) (by omega) wa hcu H.out.2.1 (Aw H.out.1.lt hba hbc hbm)).mono ?_;intro e wb hT;rw [<-HR.out.2]at hT;obtain⟨s,t,rfl,hfb,hmid⟩:=Ec (i:=4) (set:=(fun s=> {way:=2,size:=16+8*(i:Nat),kind:=0,name:=nm,key:=s,salt:=[],rounds:=0,iv:=[],loose:=[]})) (fun s=>by simp [cRec]) hT hrw H.out.2.2.1;refine sO hK ?_ fun hHeld=>?_
     ·rw [hSS];have hrx:=hrw.keep hfb (Aa _ F2);exact⟨hrx.cc,hrx.cr⟩
     clear hK K;refine tQ 4 ?_ ?_ ?_;rotate_left
     ·intro w hw;rw [hSS]at hw;obtain⟨q1,q2⟩:=hw;go_simp;try (with_reducible rfl)
     simp only [Act.put,Z1,Z2,Z3];refine tQ 5 ?_ ?_ ?_;rotate_left
     ·intro w hw;rw [hSS]at hw;obtain⟨q1,q2⟩:=hw;go_simp;try (with_reducible rfl)
     simp only [Act.put,Z1,Z2,Z3];refine tQ 6 ?_ ?_ ?_;rotate_left
     ·intro w hw;rw [hSS]at hw;obtain⟨q1,q2⟩:=hw;go_simp;try (with_reducible rfl)
     simp only [Act.put,Z1,Z2,Z3];refine tQ 7 ?_ ?_ ?_;rotate_left
     ·intro w hw;rw [hSS]at hw;obtain⟨q1,q2⟩:=hw;go_simp;try (with_reducible rfl)
     simp only [Act.put,Z1,Z2,Z3];refine tQ 8 ?_ ?_ ?_;rotate_left
     ·intro w hw;rw [hSS]at hw;obtain⟨q1,q2⟩:=hw;go_simp;try (with_reducible rfl)
     simp only [Act.put,Z1,Z2,Z3];have fb:=(hrw.keep hfb (Aa _ F2)).rb.free 4;have k0:=(hrw.keep hfb (Aa _ F2)).rb.cell 4 rfl;refine rD 9 rfl (fun K hK=>?_);go_simp;refine sO hK ?_ fun hHeld=>?_
     ·rw [hSS];have hrx:=(hrw.keep hfb (Aa _ F2)).set (r':=(fun s=> {way:=2,size:=16+8*(i:Nat),kind:=0,name:=nm,key:=s,salt:=[],rounds:=0,iv:=[],loose:=[]}) s) 4 (S s) (by simp [cRec]);exact⟨hrx.cc,hrx.cr⟩
     clear hK K;refine tQ 10 ?_ ?_ ?_;rotate_left
     ·intro w hw;rw [hSS]at hw;obtain⟨q1,q2⟩:=hw;go_simp;try (with_reducible rfl)
     simp only [Act.put,Z1,Z2,Z3];refine wpAnyH_done (by kernel_rfl) ?_ _;go_wp2_with fail;go_meet
     exact hmid.base (sT (fD (fR _ w6)) hsa)
    case rest=>
     clear c1 c2;cases R1 with
     | error n=>
      have HI:=zz (HR.out.1.trans (An HR.out.2.symm));obtain⟨⟨fb,rfl,hb⟩,hs⟩:=hcut;have HE:=zz (aN hb (AY H6.out.1 H6.out.2 hs));clear hb hs HR;go_wp2;go_ret;rw [HI.out];exact⟨⟨_,rfl,fb,rfl,HE.out.1⟩,HE.out.2⟩
     | ok q=>
      obtain⟨s,k4⟩:=q;have HI:=zz (HR.out.1.trans (Ao HR.out.2.symm));obtain⟨rfl,hc,hw,hs⟩:=hcut;have HE:=zz (aN hc (aN hw (AY H6.out.1 H6.out.2 hs)));clear hc hw hs HR;go_wp2;go_ret;rw [HI.out];exact⟨rfl,⟨F2,HE.out.1,H6.out.2,HE.out.2.1.nb,HE.out.2.1.rb⟩,HE.out.2.2⟩
theorem Hx(s:Bytes)(x:UInt8):num (s++ [x])=num s*256+x.toNat:=by
 unfold num;rw [List.foldl_append];rfl
theorem GA:∀(n:Nat) (s:Bytes),s.length=n->num s<256 ^ n
 | 0,s,h=>by
  cases s with
  | nil=>decide
  | cons _ _=>cases h
 | n+1,s,h=>by
  have hs:s=s.dropLast++ [s.getLast (by intro e; rw [e]at h; cases h)]:=(List.dropLast_concat_getLast _).symm;rw [hs,Hx];have h2:=GA n s.dropLast (by rw [List.length_dropLast,h]; rfl);have h3:=(s.getLast (by intro e; rw [e]at h; cases h)).toNat_lt;rw [Nat.pow_succ];omega
theorem Md{s:Bytes}{k:Nat}{x:UInt8}(hx:s[k]?=some x):num (s.take (k+1))=num (s.take k)*256+x.toNat:=by
 rw [List.take_add_one,hx];exact Hx _ _
theorem I3(n:Nat)(x:UInt8):(n*256)||| x.toNat=n*256+x.toNat:=by
 have:=Nat.shiftLeft_add_eq_or_of_lt (i:=8) (b:=x.toNat) x.toNat_lt n;rw [Nat.shiftLeft_eq]at this;exact this.symm
theorem Nr(s:Bytes)(h0:s≠ [])(h8:s.length<=8)(w:World):Calls Tryz.prog 169 #[S s] w fun e w'=>e= .returned (.tuple #[.int .u64 (num s:Nat),.int .i64 0])/\w=w':=by
 have hne:(s==[])=false:=bn h0;have h8z:¬(8:Int)<(s.length:Int):=by omega
 have H:=zz (aN h0 h8);clear h0 h8;go_enter Tryz.func169,Tryz.ntmps169;go_wp2;go_loopw [4,15] (fun n i wr=>∃k,k<=s.length/\i= .int .i64 (k:Nat)/\n= .int .u64 (num (s.take k):Nat)/\w=wr) (fun _ i _=>s.length - (intOf i).toNat)
 case atStart=>exact⟨0,Nat.zero_le _,rfl,rfl,rfl⟩
 case round=>
  obtain⟨k,hk,rfl,rfl,rfl⟩:=hrel;by_cases hlt:k<s.length
  ·have hltz:(k:Int)<(s.length:Int):=by omega
   obtain⟨x,hx⟩:∃x,s[k]?=some x:=⟨_,List.getElem?_eq_getElem hlt⟩
   have HX:=zz (aN hx hlt);go_wp2;go_roundw
   case rel=>
    refine⟨k+1,HX.out.2,by go_num,?_,trivial⟩;have hg:({data:=s.toArray}:ByteArray)[k]'(by show k<s.toArray.size; simpa using HX.out.2)=x:=by
     obtain⟨_,e⟩:=List.getElem?_eq_some_iff.1 HX.out.1;exact e
    have hn:num (s.take k)<72057594037927936:=by
     have h1:=GA k (s.take k) (by rw [List.length_take]; omega);have h2:256 ^ k<=256 ^ 7:=Nat.pow_le_pow_right (by decide) (by have:=H.out.2; omega);have h3:256 ^ 7=72057594037927936:=by decide
     omega
    have hxl:=x.toNat_lt;rw [hg,Md HX.out.1,IntWalk.u64_in _ ⟨by omega,by omega⟩,IntWalk.u64_in _ ⟨by omega,by omega⟩];have h4:=u64_or_nat (num (s.take k)*256) x.toNat (by omega) (by omega);rw [I3]at h4;rw [show((num (s.take k):Nat):Int)*256=((num (s.take k)*256:Nat):Int) by omega,h4]
   case measure=>have:=HX.out.2; simp [intOf]; omega
  ·have hltz:¬(k:Int)<(s.length:Int):=by omega
   have HE:=zz (show s.take k=s from List.take_of_length_le (by omega));go_wp2;go_ret2
   rw [HE.out];exact⟨rfl,rfl⟩
def rndR(lim:Lim)(k1:Cu)(s:Bytes):Except Int (Nat×Cu):=
 if 128<=(s.getD 0 0).toNat\/s=[0]then .error 9 else if 8<s.length\/lim.r<num s then .error 10 else .ok (num s,k1)
theorem JX(b:Nat)(va:Value)(L:List Px.Node)(lim:Lim)(k:Cu)(F:Nat->Prop)(w:World)(h:CuAt w b va L lim k F)(hf:Fits L k)(hr:∀a∈L,E5.right a=true)(hl:0<=lim.r/\lim.r<=4096):
  Calls Tryz.prog 160 #[.pointer (some ⟨b,0,none⟩)] w (TkP (fun n:Nat=> .int .i64 (n:Nat)) (.int .i64 0) w b va L lim F (rounds L lim k)):=by
 have HT:=zz (Bg b va L lim k F 2 (by decide) w h hf);have HN:=zz (fun(s:Bytes) (k1:Cu) (e:Cm.take L 2 k= .ok (s,k1))=>show s≠ []from by
  obtain⟨_,ts,n,r,⟨_,hb⟩,_⟩:=AI hr (t:=2) (by decide) (by decide) k s k1 e hf;intro e;rw [e]at hb
  revert hb
  decide)
 have HL:=zz hl;obtain⟨R,hR⟩:∃R,R=rounds L lim k:=⟨_,rfl⟩
 rw [<-hR];have HR:=zz hR;clear hR h hf hr hl;go_enter Tryz.func160,Tryz.ntmps160;go_wp2_with fail;refine HT.out.mono ?_;intro e w1 hT;cases hk:Cm.take L 2 k with
 | error n=>
  rw [hk]at hT;have HI:=zz (HR.out.trans (An hk));obtain⟨⟨v,rfl,fb,rfl,hb⟩,hs⟩:=hT;have HE:=zz (aN hb hs);clear hb hs hk HT;go_wp2;go_ret2
  rw [HI.out];exact⟨⟨_,rfl,fb,rfl,HE.out.1⟩,HE.out.2.fr _⟩
 | ok q=>
  obtain⟨s,k1⟩:=q;rw [hk]at hT;obtain⟨rfl,hc,hfr⟩:=hT;have hne:=HN.out s k1 hk;have hI:R=rndR lim k1 s:=by
   rw [HR.out];unfold rounds;rw [Ao hk];unfold rndR
   split
   ·rfl
   ·split<;>rfl
  obtain⟨vl,hrep,hFF⟩:=hc;have c6:=hrep.blk.cell 6 (v:= .int .i64 lim.r) rfl;have HC:=zz (aN (⟨vl,hrep,hFF⟩:CuAt w1 b va L lim k1 F) hfr);have HI:=zz hI;clear hrep hFF hfr hk hI HT HR HN;have hpos:0<s.length:=List.length_pos_iff.2 hne;have hsz:0<({data:=s.toArray}:ByteArray).size:=by show 0<s.toArray.size; simpa using hpos
  have hsx:s.getD 0 0=({data:=s.toArray}:ByteArray)[0]'hsz:=by
   have h1:s.getD 0 0=s[0]:=by simp [List.getD,hpos]
   rw [h1];rfl
  have hx0:(0:Int)<(s.length:Int):=by omega
  have HS:=zz hne;clear hne hpos;by_cases h1:128<=(s.getD 0 0).toNat
  ·have HI2:=zz (HI.out.trans (show rndR lim k1 s= .error 9 by unfold rndR; rw [if_pos (.inl h1)]));rw [hsx]at h1;have h1z:(128:Int)<=(((({data:=s.toArray}:ByteArray)[0]'hsz).toNat:Nat):Int):=by omega
   clear h1 HI hsx;go_wp2_with fail;refine(Al 9 _).mono ?_;rintro e w2 ⟨v,rfl,he,hs⟩;have HE:=zz (aN he (HC.out.2.trans (hs.fr F) (fun _ _ x=>x)));clear he hs;go_wp2;go_ret2
   rw [HI2.out];exact⟨⟨v,rfl,HE.out.1⟩,HE.out.2⟩
  ·have h1y:=h1;rw [hsx]at h1y;have h1z:¬(128:Int)<=(((({data:=s.toArray}:ByteArray)[0]'hsz).toNat:Nat):Int):=by omega
   clear h1y hsx;by_cases h2:s=[0]
   ·have HI2:=zz (HI.out.trans (show rndR lim k1 s= .error 9 by unfold rndR; rw [if_pos (.inr h2)]));have h2z:(s==[0])=true:=by rw [beq_iff_eq]; exact h2
    clear h1 h2 HI;go_wp2_with fail;refine(Al 9 _).mono ?_;rintro e w2 ⟨v,rfl,he,hs⟩;have HE:=zz (aN he (HC.out.2.trans (hs.fr F) (fun _ _ x=>x)));clear he hs;go_wp2;go_ret2
    rw [HI2.out];exact⟨⟨v,rfl,HE.out.1⟩,HE.out.2⟩
   ·have HI3:=zz (HI.out.trans (show rndR lim k1 s=if 8<s.length\/lim.r<num s then .error 10 else .ok (num s,k1) by unfold rndR; rw [if_neg (by rintro(e | e); exact h1 e; exact h2 e)]));have h2z:(s==[0])=false:=by rw [beq_eq_false_iff_ne]; exact h2
    clear h1 h2 HI;by_cases h3:8<s.length
    ·have HI2:=zz (HI3.out.trans (if_pos (.inl h3)));have h3z:(8:Int)<(s.length:Int):=by omega
     clear h3 HI3;go_wp2_with fail;refine(Al 10 _).mono ?_;rintro e w2 ⟨v,rfl,he,hs⟩;have HE:=zz (aN he (HC.out.2.trans (hs.fr F) (fun _ _ x=>x)));clear he hs;go_wp2;go_ret2
     rw [HI2.out];exact⟨⟨v,rfl,HE.out.1⟩,HE.out.2⟩
    ·have h3z:¬(8:Int)<(s.length:Int):=by omega
     have HG:=zz (Nr s HS.out (by omega) w1);obtain⟨lr,hlr⟩:∃lr:Nat,lim.r=(lr:Int):=⟨lim.r.toNat,by have:=HL.out.1; omega⟩
     rw [hlr]at c6;have hlr2:lr<=4096:=by have:=HL.out.2; omega
     have hwr:IntKind.u64.wrap (lr:Int)=(lr:Int):=IntWalk.u64_in _ ⟨by omega,by omega⟩;by_cases h4:lr<num s
     ·have HI2:=zz (HI3.out.trans (if_pos (.inr (by omega))));have h4z:(lr:Int)<((num s:Nat):Int):=by omega
      clear h3 h4 HI3 hlr;go_wp2_with fail;refine HG.out.mono ?_;rintro e w2 ⟨rfl,rfl⟩;go_wp2_with fail;refine(Al 10 _).mono ?_;rintro e w2 ⟨v,rfl,he,hs⟩;have HE:=zz (aN he (HC.out.2.trans (hs.fr F) (fun _ _ x=>x)));clear he hs;go_wp2;go_ret2
      rw [HI2.out];exact⟨⟨v,rfl,HE.out.1⟩,HE.out.2⟩
     ·have HI2:=zz (HI3.out.trans (if_neg (by rintro(e | e)<;>omega)));have h4z:¬(lr:Int)<((num s:Nat):Int):=by omega
      have hnz:((num s:Nat):Int)<=4096:=by omega
      have hwn:IntKind.i64.wrap ((num s:Nat):Int)=((num s:Nat):Int):=IntWalk.i64_in _ ⟨by omega,by omega⟩;clear h3 h4 HI3 hlr;go_wp2_with fail;refine HG.out.mono ?_;rintro e w2 ⟨rfl,rfl⟩;go_wp2;go_ret2
      rw [HI2.out];exact⟨rfl,HC.out.1,HC.out.2⟩
theorem Me(pc pr b br:Nat)(va:Value)(L:List Px.Node)(lim:Lim)(k:Cu)(F:Nat->Prop)(r:Co.Rec)(w:World)(h:CuAt w b va L lim k F)(hf:Fits L k)(hr:∀a∈L,E5.right a=true)(hw:RecW w F pc pr b br r)(hv:∀q,va.ownBlock=some q->q≠br):
  Calls Tryz.prog 161 #[.pointer (some ⟨pc,0,none⟩),.pointer (some ⟨pr,0,none⟩)] w (RunsE w b va L lim F (fun q=>q=br) (fun i F' w'=>RecW w' F' pc pr b br {r with kind:=256+128*(i:Nat)}) (hashP L k)):=by
 obtain⟨R,hR⟩:∃R,R=hashP L k:=⟨_,rfl⟩
 rw [<-hR];have HR:=zz hR;have H:=zz (aN h (aN hf (aN hv hr)));have HRW:=zz hw;have c1:=hw.cc;have HG:=zz (Aa w F);clear hR h hf hw hv hr;go_enter Tryz.func161,Tryz.ntmps161;go_wp2_with fail;have hal:Same w (w.alloc (.cells (hashT.map S).toArray 9)):=fA (fR _ w) _;refine(BK b va L lim k F (.slice (some ⟨w.heap.size,0,none⟩) 3 3) hashT (by decide) (w.alloc (.cells (hashT.map S).toArray 9)) (H.out.1.same hal) H.out.2.1 (BM (Af w _ _) (by decide)) (fun q hq hF=>by simp only [Value.ownBlock,Option.some.injEq]at hq; have:=H.out.1.lt q hF; omega)).mono ?_;intro e w1 hT;have hrw:=HRW.out.keep (hal.fr F) (Aa _ F);cases hk:kind L hashT k with
 | error n=>
  rw [hk]at hT;have HI:=zz (HR.out.trans (An hk));obtain⟨⟨v,rfl,fb2,rfl,hfb⟩,hs⟩:=hT;have HE:=zz (aN hfb ((hal.fr F).trans hs fun _ _ x=>x));clear hal hrw hs hfb c1 hk;go_wp2;go_ret;rw [HI.out];exact⟨⟨_,rfl,fb2,rfl,HE.out.1⟩,Fr.mono HE.out.2 fun _ x=> .inl x⟩
 | ok q=>
  obtain⟨i,k1⟩:=q;rw [hk]at hT;obtain⟨rfl,hc,hs⟩:=hT;have hi:i<3:=Eq hk;have hR1:R=bnd (Cm.take L 5) (fun _=>ret i) k1:=HR.out.trans (Ao hk);have hf1:=(Aq (Av H.out.2.2.2 hashT) hk H.out.2.1).1;have hr1:=hrw.keep hs (Aa _ F);have c3:=hr1.cr;have c4:=hr1.cc;have fb:=hr1.rb.free 2;have k0:=hr1.rb.cell 2 rfl;have hr2:=hr1.set (r':= {r with kind:=256+128*(i:Int)}) 2 (.int .i64 (256+128*(i:Int))) (by simp [cRec]);have hc2:CuAt (w1.setCell ⟨br,2,none⟩ (.int .i64 (256+128*(i:Int)))) b va L lim k1 F:=hc.fr (G:=fun q=>q=br) (fC (F:=fun q=>q=br) (fR _ _) (p:=⟨br,2,none⟩) (.inl rfl) _) (fun q hq e=>hr1.nb (by rw [<-e]; exact hq)) H.out.2.2.1;have HT:=zz (Bg b va L lim k1 F 5 (by decide) _ hc2 hf1);have HE:=zz (aN hr2 (fC (F:=fun q=>F q\/q=br) (Fr.mono ((hal.fr F).trans hs fun _ _ x=>x) fun _ x=> .inl x) (p:=⟨br,2,none⟩) (.inl (.inr rfl)) (.int .i64 (256+128*(i:Int)))));have HR1:=zz hR1;have hiz:(i:Int)<3:=by omega
  have hpcb:=hr1.ec;clear hal hrw hs hr1 hc hi hk hR1 hf1 hr2 hc2 c1;go_wp2_with fail;refine HT.out.mono ?_;intro e w3 hT;cases hk:Cm.take L 5 k1 with
  | error n=>
   rw [hk]at hT;have HI:=zz (HR1.out.trans (An hk));obtain⟨⟨v,rfl,fb2,rfl,hfb⟩,hs⟩:=hT;have HE2:=zz (aN hfb (HE.out.2.trans (hs.fr _) fun _ _ x=>x));clear hs hfb hk;go_wp2;go_ret;rw [HI.out];exact⟨⟨_,rfl,fb2,rfl,HE2.out.1⟩,HE2.out.2⟩
  | ok q=>
   obtain⟨s,k2⟩:=q;rw [hk]at hT;have HI:=zz (HR1.out.trans (Ao hk));obtain⟨rfl,hc3,hs⟩:=hT;have HE2:=zz (aN hc3 (aN (HE.out.1.stable hs) (HE.out.2.trans hs fun _ _ x=> .inl x)));clear hs hc3 hk;go_wp2;go_ret;rw [HI.out];exact⟨rfl,⟨F,HE2.out.1,HG.out,HE2.out.2.1⟩,HE2.out.2.2⟩
end Go.Proofs.YtpfhollohodcjaaGreatDoor
