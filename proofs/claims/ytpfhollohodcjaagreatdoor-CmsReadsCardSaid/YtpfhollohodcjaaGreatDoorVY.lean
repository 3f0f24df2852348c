import Derived.Test.YtpfhollohodcjaaGreatDoorVX
set_option maxRecDepth 100000
set_option maxHeartbeats 8000000
namespace Go.Proofs.YtpfhollohodcjaaGreatDoor
open Go.RowKit Go.Px Go.Px.Co Go.Px.Cm
theorem Ed{L:List Px.Node}(hr:∀a∈L,E5.right a=true):Eats L (cipherP L) (fun _ _=>True):=
 Ay ((Av hr sixT).bnd fun i=>((CF hr (decide (2<i))).inn hr (t:=0x30) (by decide) (by decide)).bnd fun p=>Ax (i,p))
theorem D6{L:List Px.Node}(hr:∀a∈L,E5.right a=true)(i:Nat)(iv:Bytes):Eats L (textP L i iv) (fun _ _=>True):=
 Ay ((AI hr (t:=0x80) (by decide) (by decide)).bnd fun s=>C1 (R:=fun _ _=>True) (fun _=>B4 10) (fun _=>Ay (Ax s)))
theorem GM{L:List Px.Node}(hr:∀a∈L,E5.right a=true):Eats L (contentQ L) (fun _ _=>True):=
 Ay ((Av hr [dataT]).bnd fun _=>((Ed hr).inn hr (t:=0x30) (by decide) (by decide)).bnd fun a=>((D6 hr a.1 a.2.1).bnd fun s=>Ax (a,s)).bar)
theorem K0(pc px pm ps b be:Nat)(va vto:Value)(L:List Px.Node)(lim:Lim)(k:Cu)(F:Nat->Prop)(x:Co.Env)(w:World)(h:CuAt w b va L lim k F)(hf:Fits L k)(hd:k.left.length<=98)(hr:∀a∈L,E5.right a=true)(hw:ConW w F pc px pm ps b be x vto false 12)(hv:∀q,va.ownBlock=some q->¬conF be vto pm ps q):
  Calls Tryz.prog 107 #[.pointer (some ⟨pc,0,none⟩),.pointer (some ⟨px,0,none⟩),.pointer (some ⟨pm,0,none⟩),.pointer (some ⟨ps,0,none⟩)] w (RunsB (BadS ps) w b va L lim F (conF be vto pm ps) (fun a F' w'=>ConW w' F' pc px pm ps b be {x with alg:=algsL.getD a.1.1 0,iv:=a.1.2.1,cipher:=a.2} vto (decide (2<a.1.1)) a.1.2.2) (contentQ L k)):=by
 obtain⟨R,hR⟩:∃R,R=contentQ L k:=⟨_,rfl⟩
 rw [<-hR];have HR:=zz hR;have H:=zz (aN h (aN hf (aN hv (aN hr hd))));have HCW:=zz hw;have c1:=hw.cc;clear hR h hf hw hv hr hd;have hal:Same w (w.alloc (.cells ([dataT].map S).toArray 9)):=fA (fR _ w) _;have HKD:=zz (BK b va L lim k F (.slice (some ⟨w.heap.size,0,none⟩) 1 1) [dataT] (by decide) (w.alloc (.cells ([dataT].map S).toArray 9)) (H.out.1.same hal) H.out.2.1 (BM (Af w _ _) (by decide)) (fun q hq hF=>by simp only [Value.ownBlock,Option.some.injEq]at hq; have:=H.out.1.lt q hF; omega));have HAL:=zz hal;clear hal;go_enter Tryz.func107,Tryz.ntmps107;go_wp2_with fail;refine HKD.out.mono ?_;intro e w1 hT;cases hk:kind L [dataT] k with
 | error n=>
  rw [hk]at hT;have HI:=zz (HR.out.trans (An hk));obtain⟨⟨v,rfl,fb2,rfl,hfb⟩,hs⟩:=hT;have HE:=zz (aN hfb (aN ((HAL.out.fr F).trans hs fun _ _ x=>x) (((HCW.out.stable (HAL.out.fr F)).stable hs).bad (sE _))));clear hs hfb c1 hk HKD;go_wp2;go_ret;rw [HI.out];exact⟨⟨_,rfl,fb2,rfl,HE.out.1⟩,Fr.mono HE.out.2.1 (fun _ x=> .inl x),HE.out.2.2⟩
 | ok q=>
  obtain⟨u,k1⟩:=q;rw [hk]at hT;obtain⟨rfl,hc,hs⟩:=hT;have HI:=zz (HR.out.trans (Ao hk));obtain⟨hf1,hl1⟩:=Aq (Av H.out.2.2.2.1 [dataT]) hk H.out.2.1;have hcw:=(HCW.out.stable (HAL.out.fr F)).stable hs;have HW1:=zz (aN hcw (aN hc (aN ((HAL.out.fr F).trans hs fun _ _ x=>x) (aN hf1 hl1))));have hin:=F8 (BadS ps) b va L lim k1 F (conF be vto pm ps) 0x30 (by decide) (by decide) 108 #[.pointer (some ⟨pc,0,none⟩),.pointer (some ⟨px,0,none⟩),.pointer (some ⟨pm,0,none⟩),.pointer (some ⟨ps,0,none⟩)] (cipherP L) (fun a F' w'=>ConW w' F' pc px pm ps b be {x with alg:=algsL.getD a.1 0,iv:=a.2.1} vto (decide (2<a.1)) a.2.2) w1 hc hf1 (by have:=H.out.2.2.2.2; omega) H.out.2.2.2.1 (fun _=>rfl) (Ed H.out.2.2.2.1) (fun v F w w' h hf=>h.stable hf) (hcw.bad (sE _)) (fun _ _ h hs=>h.same hs) (fun v F w h=>h.bad (sE _))
   (fun w1 F1 k2 h1 h2 h3 h4 h5=>KZ pc px pm ps b be va vto L lim k2 F1 x w1 h1 h2 (by have:=H.out.2.2.2.2; omega) H.out.2.2.2.1 (hcw.keep h4 h5) H.out.2.2.1)
  rw [show((0x30:UInt8).toNat)=48 from rfl]at hin;have HIN:=zz hin;have c3:=hcw.cc;clear hcw hc hs hk hf1 hl1 c1 HKD hin;go_wp2_with fail;refine HIN.out.mono ?_;intro e w2 hT;cases hk:inn L 48 (cipherP L) k1 with
  | error n=>
   rw [hk]at hT;have HI2:=zz (HI.out.trans (An hk));obtain⟨⟨v,rfl,fb2,rfl,hfb⟩,hs,hbd⟩:=hT;have HE:=zz (aN hfb (aN ((Fr.mono HW1.out.2.2.1 (fun _ y=>Or.inl y)).trans hs fun _ _ y=>y) hbd));clear hs hfb hbd hk HIN c3;go_wp2;go_ret;rw [HI2.out];exact⟨⟨_,rfl,fb2,rfl,HE.out.1⟩,HE.out.2.1,HE.out.2.2⟩
  | ok q=>
   obtain⟨⟨i,iv,sz⟩,k2⟩:=q;rw [hk]at hT;obtain⟨rfl,⟨F1,hc,hs1,hcw⟩,hs⟩:=hT;have hI2:R=bar (fun c=>peek L c==0) 11 (bnd (textP L i iv) fun s=>ret ((i,iv,sz),s)) k2:=HI.out.trans (Ao hk);have HI2:=zz hI2;obtain⟨hf2,hl2⟩:=Aq ((Ed H.out.2.2.2.1).inn H.out.2.2.2.1 (t:=0x30) (by decide) (by decide)) hk HW1.out.2.2.2.1;obtain⟨x2,hx2⟩:∃x2:Co.Env,x2= {x with alg:=algsL.getD i 0,iv:=iv}:=⟨_,rfl⟩
   replace hcw:ConW w2 F1 pc px pm ps b be x2 vto (decide (2<i)) sz:=by rw [hx2]; exact hcw
   have HW2:=zz (aN hcw (aN hc (aN ((Fr.mono HW1.out.2.2.1 (fun _ y=>Or.inl y)).trans hs fun _ _ y=>y) (aN hf2 (aN (show Fresh w F F1 from fun q hq=>(hs1 q hq).imp id (fun y=>Nat.le_trans HW1.out.2.2.1.size y)) hx2)))));have HTG:=zz (A6 b va L lim k2 F1 _ hc hf2);have c3:=hcw.cc;clear hcw hc hs hs1 hk hf2 hl2 HIN hI2 hx2;go_wp2_with fail;refine HTG.out.mono ?_;rintro e w3 ⟨rfl,hs3⟩;have hcw3:=HW2.out.1.stable (hs3.fr F1);have HW3:=zz (aN hcw3 (aN (HW2.out.2.1.same hs3) (HW2.out.2.2.1.trans (hs3.fr _) fun _ _ y=>y)));clear hs3 c3 HTG;by_cases hp:peek L k2=0
   ·have HI3:=zz (HI2.out.trans (if_pos (show(peek L k2==0)=true by rw [hp]; rfl)));rw [hp];clear hp hcw3;go_wp2_with fail;refine(Al 11 _).mono ?_;rintro e w4 ⟨v,rfl,he,hs4⟩;have HE:=zz (aN he (aN (HW3.out.2.2.trans (hs4.fr _) fun _ _ y=>y) (HW3.out.1.bad hs4)));clear he hs4;go_wp2;go_ret;rw [HI3.out];exact⟨⟨v,rfl,HE.out.1⟩,HE.out.2.1,HE.out.2.2⟩
   ·have HI3:=zz (HI2.out.trans (if_neg (show ¬(peek L k2==0)=true by rw [beq_iff_eq]; exact hp)));have hpz:(((peek L k2:Nat):Int)==0)=false:=bn (by omega);obtain⟨pk,hpk⟩:∃pk,pk=peek L k2:=⟨_,rfl⟩
    rw [<-hpk]at hpz ⊢;have f1:=hcw3.cx;have f2:=hcw3.cc;obtain⟨R1,hR1⟩:∃R1,R1=Cm.take L 128 k2:=⟨_,rfl⟩
    have HR9:=zz (aN rfl hR1:R1=R1/\R1=Cm.take L 128 k2);clear hp hpk hcw3 hR1;go_upto_region 9 with fail
    go_cut [7] (fun t2 wx=>MidC (fun s=> {x2 with cipher:=s}) w3 pc px pm ps b be va L lim F1 vto (decide (2<i)) sz R1 t2 wx)
    case first=>
     obtain⟨SS,hSS⟩:∃SS:World->Prop,SS=(fun W:World=>W.cell? ⟨px,0,none⟩=some (.pointer (some ⟨be,0,none⟩))/\W.cell? ⟨pc,0,none⟩=some (.pointer (some ⟨b,0,none⟩))):=⟨_,rfl⟩
     have hS0:SS w3.drew:=by rw [hSS]; exact⟨f1,f2⟩
     refine sR hS0 fun hHeld=>?_
     refine tQ 0 ?_ ?_ ?_;rotate_left
     ·intro w hw;rw [hSS]at hw;obtain⟨q1,q2⟩:=hw;go_simp;try (with_reducible rfl)
     simp only [Act.put,Z1,Z2,Z3];refine tQ 1 ?_ ?_ ?_;rotate_left
     ·intro w hw;rw [hSS]at hw;obtain⟨q1,q2⟩:=hw;go_simp;try (with_reducible rfl)
     simp only [Act.put,Z1,Z2,Z3];refine rD 2 rfl (fun K hK=>?_);go_simp;have hrw:=HW3.out.1.stable (fD (fR _ w3));have hcu:=HW3.out.2.1.same (fD (sE w3));refine(Bg b va L lim k2 F1 128 (by decide) w3.drew hcu HW2.out.2.2.2.1).mono ?_;intro e wb hT;rw [<-HR9.out.2]at hT;replace hT:=hT.tk;obtain⟨s,t,rfl,hfb,hmid⟩:=Jl (i:=7) (set:=(fun s=> {x2 with cipher:=s})) (fun s=>⟨by simp [envC],rfl⟩) hT hrw H.out.2.2.1;have hrx:=hrw.stable hfb;refine sO hK ?_ fun hHeld=>?_
     ·rw [hSS];exact⟨hrx.cx,hrx.cc⟩
     clear hK K;refine tQ 3 ?_ ?_ ?_;rotate_left
     ·intro w hw;rw [hSS]at hw;obtain⟨q1,q2⟩:=hw;go_simp;try (with_reducible rfl)
     simp only [Act.put,Z1,Z2,Z3];refine tQ 4 ?_ ?_ ?_;rotate_left
     ·intro w hw;rw [hSS]at hw;obtain⟨q1,q2⟩:=hw;go_simp;try (with_reducible rfl)
     simp only [Act.put,Z1,Z2,Z3];refine tQ 5 ?_ ?_ ?_;rotate_left
     ·intro w hw;rw [hSS]at hw;obtain⟨q1,q2⟩:=hw;go_simp;try (with_reducible rfl)
     simp only [Act.put,Z1,Z2,Z3];refine tQ 6 ?_ ?_ ?_;rotate_left
     ·intro w hw;rw [hSS]at hw;obtain⟨q1,q2⟩:=hw;go_simp;try (with_reducible rfl)
     simp only [Act.put,Z1,Z2,Z3];refine tQ 7 ?_ ?_ ?_;rotate_left
     ·intro w hw;rw [hSS]at hw;obtain⟨q1,q2⟩:=hw;go_simp;try (with_reducible rfl)
     simp only [Act.put,Z1,Z2,Z3];have fb:=Blk.free hrx.ew.eb 7;have k0:=Blk.cell hrx.ew.eb 7 rfl;refine rD 8 rfl (fun K hK=>?_);go_simp;refine sO hK ?_ fun hHeld=>?_
     ·rw [hSS];have hrx2:=hrx.setE (x':=(fun s=> {x2 with cipher:=s}) s) 7 (S s) (by simp [envC]) rfl;exact⟨hrx2.cx,hrx2.cc⟩
     clear hK K;refine tQ 9 ?_ ?_ ?_;rotate_left
     ·intro w hw;rw [hSS]at hw;obtain⟨q1,q2⟩:=hw;go_simp;try (with_reducible rfl)
     simp only [Act.put,Z1,Z2,Z3];refine wpAnyH_done (by kernel_rfl) ?_ _;go_wp2_with fail;go_meet
     exact hmid.base (fD (fR _ w3))
    case rest=>
     clear f1 f2 hpz;have hr1:=HR9.out.2;clear HR9;cases R1 with
     | error n=>
      have HI4:=zz (HI3.out.trans (An (An hr1.symm)));obtain⟨⟨fb,rfl,hb⟩,hcw,hs⟩:=hcut;have f1:=hcw.cx;have k0:wc.cell? ⟨be,7,none⟩=some (S []):=Blk.cell hcw.ew.eb 7 rfl;have f3:=hcw.mb.cell 0 rfl;have HE:=zz (aN hb (aN (HW3.out.2.2.trans hs fun q hq y=>y.elim (fun z=>(HW2.out.2.2.2.2.1 q z).elim (fun y2=> .inl y2) (fun y2=>by omega)) .inr) hcw));clear hb hs hcw hr1;go_wp2;go_ret;rw [HI4.out];exact⟨⟨_,rfl,fb,rfl,HE.out.1⟩,HE.out.2.1,HE.out.2.2.bad (sE _)⟩
     | ok q=>
      obtain⟨s,k3⟩:=q;obtain⟨rfl,hc,hcw,hs⟩:=hcut;have HI4:Hid (R=if 70000<s.length\/(65536<=s.length/\2<i/\iv.length=13)then .error 10 else .ok (((i,iv,sz),s),k3)):=zz (HI3.out.trans (by
       show bnd (textP L i iv) _ k2=_;by_cases hq:70000<s.length\/(65536<=s.length/\2<i/\iv.length=13)
       ·rw [if_pos hq];exact An ((Ao hr1.symm).trans (congrFun (if_pos hq) k3))
       ·rw [if_neg hq];exact Ao ((Ao hr1.symm).trans (congrFun (if_neg hq) k3))))
      have f1:=hcw.cx;have k0:wc.cell? ⟨be,7,none⟩=some (S s):=Blk.cell hcw.ew.eb 7 rfl;have k1:wc.cell? ⟨be,6,none⟩=some (S iv):=by rw [show iv=x2.iv by rw [HW2.out.2.2.2.2.2]]; exact Blk.cell hcw.ew.eb 6 rfl
      have f3:=hcw.mb.cell 0 rfl;have HC:=zz (aN hc (aN hcw (HW3.out.2.2.trans hs fun q hq y=>y.elim (fun z=>(HW2.out.2.2.2.2.1 q z).elim (fun y2=> .inl y2) (fun y2=>by omega)) .inr)));obtain⟨n,hn⟩:∃n,n=s.length:=⟨_,rfl⟩
      obtain⟨m,hm⟩:∃m,m=iv.length:=⟨_,rfl⟩
      obtain⟨ccm,hccm⟩:∃ccm,ccm=decide (2<i):=⟨_,rfl⟩
      rw [<-hccm]at f3;have HL:=zz (aN hn (aN hm hccm));have hnz:((s.length:Nat):Int)=(n:Int):=by rw [hn]
      have hmz:((iv.length:Nat):Int)=(m:Int):=by rw [hm]
      have HI5:Hid (R=if 70000<n\/(65536<=n/\ccm=true/\m=13)then .error 10 else .ok (((i,iv,sz),s),k3)):=zz (by
       rw [HI4.out,hn,hm,hccm];simp only [decide_eq_true_eq])
      clear hc hcw hs hn hm hccm hr1 HI4;by_cases h1:70000<n
      ·have HI6:=zz (HI5.out.trans (if_pos (.inl h1)));have h1z:decide ((70000:Int)<(n:Int))=true:=dt (by omega);clear h1;clear HI5;go_wp2_with fail;refine(Al 10 _).mono ?_;rintro e w4 ⟨v,rfl,he,hs4⟩;have HE:=zz (aN he (aN (HC.out.2.2.trans (hs4.fr _) fun _ _ y=>y) (HC.out.2.1.bad hs4)));clear he hs4;go_wp2;go_ret;rw [HI6.out];exact⟨⟨v,rfl,HE.out.1⟩,HE.out.2.1,HE.out.2.2⟩
      ·have h1z:decide ((70000:Int)<(n:Int))=false:=df (by omega);by_cases h2:65536<=n
       ·have h2z:decide ((65536:Int)<=(n:Int))=true:=dt (by omega);cases ccm with
        | true=>
         by_cases h3:m=13
         ·have HI6:=zz (HI5.out.trans (if_pos (.inr ⟨h2,rfl,h3⟩)));have h3z:((m:Int)==13)=true:=by rw [beq_iff_eq]; omega
          clear h1 h2 h3;clear HI5;go_wp2_with fail;refine(Al 10 _).mono ?_;rintro e w4 ⟨v,rfl,he,hs4⟩;have HE:=zz (aN he (aN (HC.out.2.2.trans (hs4.fr _) fun _ _ y=>y) (HC.out.2.1.bad hs4)));clear he hs4;go_wp2;go_ret;rw [HI6.out];exact⟨⟨v,rfl,HE.out.1⟩,HE.out.2.1,HE.out.2.2⟩
         ·have HI6:=zz (HI5.out.trans (if_neg (fun e=>e.elim h1 (fun e=>h3 e.2.2))));have h3z:((m:Int)==13)=false:=bn (by omega);clear h1 h2 h3;clear HI5;go_wp2;go_ret;rw [HI6.out];exact⟨rfl,⟨F1,HC.out.1,HW2.out.2.2.2.2.1,by have:=HC.out.2.1; rw [HW2.out.2.2.2.2.2]at this; exact this⟩,HC.out.2.2⟩
        | false=>
         have HI6:=zz (HI5.out.trans (if_neg (fun e=>e.elim h1 (fun e=>nomatch e.2.1))));clear h1 h2;clear HI5;go_wp2;go_ret;rw [HI6.out];exact⟨rfl,⟨F1,HC.out.1,HW2.out.2.2.2.2.1,by have:=HC.out.2.1; rw [HW2.out.2.2.2.2.2]at this; exact this⟩,HC.out.2.2⟩
       ·have HI6:=zz (HI5.out.trans (if_neg (fun e=>e.elim h1 (fun e=>h2 e.1))));have h2z:decide ((65536:Int)<=(n:Int))=false:=df (by omega);clear h1 h2;clear HI5;go_wp2;go_ret;rw [HI6.out];exact⟨rfl,⟨F1,HC.out.1,HW2.out.2.2.2.2.1,by have:=HC.out.2.1; rw [HW2.out.2.2.2.2.2]at this; exact this⟩,HC.out.2.2⟩
def ContE(w:World)(b be:Nat)(va vto:Value)(L:List Px.Node)(lim:Lim)(F:Nat->Prop)(x:Co.Env)(r:Except Int (((Nat×Bytes×Nat)×Bytes)×Cu))(e:Ending)(w':World):Prop:=match r with
 | .ok (a,k')=>e= .returned (.tuple #[.int .i64 (a.1.2.2:Nat),.nilIface])/\(∃F',CuAt w' b va L lim k' F'/\Fresh w F F'/\EnvW w' F' be {x with alg:=algsL.getD a.1.1 0,iv:=a.1.2.1,cipher:=a.2} vto)/\Fr (fun q=>F q\/envFoot be vto q) w w'
 | .error n=>(∃(m:Nat) (v:Value),e= .returned (.tuple #[.int .i64 (m:Nat),v])/\ErrV w' v n)/\Fr (fun q=>F q\/envFoot be vto q) w w'
theorem NW {w w3:World} {b be:Nat} {va vto:Value} {L:List Px.Node} {lim:Lim} {k:Cu} {F:Nat->Prop} {x:Co.Env} (h:CuAt w b va L lim k F) (hx:EnvW w F be x vto)
  (e:w3=(((w.alloc (.cells #[.pointer (some ⟨b,0,none⟩)] 50)).alloc (.cells #[.pointer (some ⟨be,0,none⟩)] 60)).alloc (.cells #[.int .i64 12] 3)).alloc (.cells #[.bool false] 4)):
  ConW w3 F w.heap.size (w.heap.size+1) (w.heap.size+1+1+1) (w.heap.size+1+1) b be x vto false 12/\Same w w3:=by
 have hs2:Same w w3:=by rw [e]; exact((((fR _ _).alloc _).alloc _).alloc _).alloc _
 have b0:=(((Af w #[.pointer (some ⟨b,0,none⟩)] 50).alloc (.cells #[.pointer (some ⟨be,0,none⟩)] 60)).alloc (.cells #[.int .i64 12] 3)).alloc (.cells #[.bool false] 4);have b1:=((Af (w.alloc (.cells #[.pointer (some ⟨b,0,none⟩)] 50)) #[.pointer (some ⟨be,0,none⟩)] 60).alloc (.cells #[.int .i64 12] 3)).alloc (.cells #[.bool false] 4);have b2:=(Af ((w.alloc (.cells #[.pointer (some ⟨b,0,none⟩)] 50)).alloc (.cells #[.pointer (some ⟨be,0,none⟩)] 60)) #[.int .i64 12] 3).alloc (.cells #[.bool false] 4);have b3:=Af (((w.alloc (.cells #[.pointer (some ⟨b,0,none⟩)] 50)).alloc (.cells #[.pointer (some ⟨be,0,none⟩)] 60)).alloc (.cells #[.int .i64 12] 3)) #[.bool false] 4;rw [show(w.alloc (.cells #[.pointer (some ⟨b,0,none⟩)] 50)).heap.size=w.heap.size+1 by simp]at b1;rw [show((w.alloc (.cells #[.pointer (some ⟨b,0,none⟩)] 50)).alloc (.cells #[.pointer (some ⟨be,0,none⟩)] 60)).heap.size=w.heap.size+1+1 by simp]at b2;rw [show(((w.alloc (.cells #[.pointer (some ⟨b,0,none⟩)] 50)).alloc (.cells #[.pointer (some ⟨be,0,none⟩)] 60)).alloc (.cells #[.int .i64 12] 3)).heap.size=w.heap.size+1+1+1 by simp]at b3;rw [<-e]at b0 b1 b2 b3;have hl:=h.lt;have hl2:=hx.lt;refine⟨⟨b0.cell 0 rfl,b1.cell 0 rfl,b3,b2,hx.keep (hs2.fr F) (Aa _ _),fun q hq e=>?_,fun q hq e=>?_,?_,?_⟩,hs2⟩
 ·have:=hl q e;rcases hq with rfl | rfl | rfl | rfl<;>omega
 ·have:=hl2 q e;rcases hq with rfl | rfl | rfl | rfl<;>omega
 ·omega
 ·omega
theorem IL(b be:Nat)(va vto:Value)(L:List Px.Node)(lim:Lim)(k:Cu)(F:Nat->Prop)(x:Co.Env)(w:World)(h:CuAt w b va L lim k F)(hf:Fits L k)(hd:k.left.length<=97)(hr:∀a∈L,E5.right a=true)(hx:EnvW w F be x vto)(hv:∀q,va.ownBlock=some q->¬envFoot be vto q):
  Calls Tryz.prog 68 #[.pointer (some ⟨b,0,none⟩),.pointer (some ⟨be,0,none⟩)] w (ContE w b be va vto L lim F x (content L k)):=by
 obtain⟨R,hR⟩:∃R,R=content L k:=⟨_,rfl⟩
 rw [<-hR];have HR:=zz hR;obtain⟨w3,hw3⟩:∃w3,w3=(((w.alloc (.cells #[.pointer (some ⟨b,0,none⟩)] 50)).alloc (.cells #[.pointer (some ⟨be,0,none⟩)] 60)).alloc (.cells #[.int .i64 12] 3)).alloc (.cells #[.bool false] 4):=⟨_,rfl⟩
 obtain⟨hcw,hs3⟩:=NW h hx hw3;have hva:∀q,va.ownBlock=some q->¬conF be vto (w.heap.size+1+1+1) (w.heap.size+1+1) q:=fun q hq e=>by
  have:=h.va q hq;rcases e with e | e | e
  ·exact hv q hq e
  ·omega
  ·omega
 have hin:=F8 (BadS (w.heap.size+1+1)) b va L lim k F (conF be vto (w.heap.size+1+1+1) (w.heap.size+1+1)) 0x30 (by decide) (by decide) 107 #[.pointer (some ⟨w.heap.size,0,none⟩),.pointer (some ⟨w.heap.size+1,0,none⟩),.pointer (some ⟨w.heap.size+1+1+1,0,none⟩),.pointer (some ⟨w.heap.size+1+1,0,none⟩)] (contentQ L) (fun a F' w'=>ConW w' F' w.heap.size (w.heap.size+1) (w.heap.size+1+1+1) (w.heap.size+1+1) b be {x with alg:=algsL.getD a.1.1 0,iv:=a.1.2.1,cipher:=a.2} vto (decide (2<a.1.1)) a.1.2.2) w3 (h.same hs3) hf (by omega) hr (fun _=>rfl) (GM hr) (fun v F w w' h hf=>h.stable hf) (hcw.bad (sE _)) (fun _ _ h hs=>h.same hs) (fun v F w h=>h.bad (sE _))
  (fun w1 F1 k2 h1 h2 h3 h4 h5=>K0 _ _ _ _ b be va vto L lim k2 F1 x w1 h1 h2 (by omega) hr (hcw.keep h4 h5) hva)
 rw [show((0x30:UInt8).toNat)=48 from rfl]at hin;have HIN:=zz hin;have c1:=hcw.cc;rw [hw3]at c1;have H:=zz (aN hw3 (aN hs3 hx));clear hR h hf hd hr hx hv hw3 hcw hs3 hva hin;go_enter Tryz.func68,Tryz.ntmps68;go_wp2_with fail;rw [<-H.out.1];refine HIN.out.mono ?_;intro e w4 hT;have hfr:Fr (fun q=>F q\/conF be vto (w.heap.size+1+1+1) (w.heap.size+1+1) q) w3 w4->Fr (fun q=>F q\/envFoot be vto q) w w4:=fun hq=>fT (H.out.2.1.fr _) hq fun q hl y=>y.imp id (fun y=>y.elim id (fun y=>by omega))
 have HF:=zz hfr;clear hfr c1;cases hk:inn L 48 (contentQ L) k with
 | error n=>
  rw [hk]at hT;have HI:=zz (HR.out.trans hk);obtain⟨⟨v,rfl,fb,rfl,hb⟩,hs,m,hm⟩:=hT;have c4:=hm.cell 0 rfl;have HE:=zz (aN hb hs);clear hb hs hm hk HIN;go_wp2;go_ret2
  rw [HI.out];exact⟨⟨m,_,rfl,fb,rfl,HE.out.1⟩,HF.out HE.out.2⟩
 | ok q=>
  obtain⟨a,k2⟩:=q;rw [hk]at hT;have HI:=zz (HR.out.trans hk);obtain⟨rfl,⟨F1,hc,hs1,hcw⟩,hs⟩:=hT;have c4:=hcw.sb.cell 0 rfl;have HE:=zz (aN hc (aN (show Fresh w F F1 from fun q hq=>(hs1 q hq).imp id (fun y=>Nat.le_trans H.out.2.1.size y)) (aN hcw.ew hs)));clear hc hs1 hcw hs hk HIN;go_wp2;go_ret2
  rw [HI.out];exact⟨rfl,⟨F1,HE.out.1,HE.out.2.1,HE.out.2.2.1⟩,HF.out HE.out.2.2.2⟩
end Go.Proofs.YtpfhollohodcjaaGreatDoor
