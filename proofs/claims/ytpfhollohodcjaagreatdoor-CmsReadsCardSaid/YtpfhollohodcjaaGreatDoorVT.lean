import Derived.Test.YtpfhollohodcjaaGreatDoorVS
import Derived.Laws.EntriesVeiled
import Derived.IntWalk
import Derived.BigRegion
set_option maxRecDepth 100000
set_option maxHeartbeats 8000000
namespace Go.Proofs.YtpfhollohodcjaaGreatDoor
open Go.RowKit Go.Px Go.Px.Co Go.Px.Cm
def MidN(set:Nat->Co.Rec)(w:World)(b pc pr br:Nat)(va:Value)(L:List Px.Node)(lim:Lim)(F:Nat->Prop)(R:Except Int (Nat×Cu))(t:Value)(wx:World):Prop:=match R with
 | .ok (s,k1)=>t= .nilIface/\CuAt wx b va L lim k1 F/\RecW wx F pc pr b br (set s)/\Fr (fun q=>F q\/q=br) w wx
 | .error n=>ErrV wx t n/\Fr (fun q=>F q\/q=br) w wx
theorem Ns {set:Nat->Co.Rec} {w w2:World} {b pc pr br i:Nat} {va:Value} {L:List Px.Node} {lim:Lim} {F:Nat->Prop} {r:Co.Rec} {R:Except Int (Nat×Cu)} {e:Ending}
  (hset:∀s:Nat,(cRec r).toArray.setIfInBounds i (.int .i64 (s:Nat))=(cRec (set s)).toArray) (h:TkP (fun n:Nat=> .int .i64 (n:Nat)) (.int .i64 0) w b va L lim F R e w2) (hr:RecW w F pc pr b br r) (hv:∀q,va.ownBlock=some q->q≠br):
  ∃(s:Nat) (t:Value),e= .returned (.tuple #[.int .i64 (s:Nat),t])/\Fr F w w2/\MidN set w b pc pr br va L lim F R t (w2.setCell ⟨br,i,none⟩ (.int .i64 (s:Nat))):=by
 cases R with
 | ok q=>
  obtain⟨s,k1⟩:=q;obtain⟨e1,h1,h2⟩:=h;refine⟨s,.nilIface,e1,h2,rfl,?_,?_,?_⟩
  ·exact h1.fr (G:=fun q=>q=br) (fC (F:=fun q=>q=br) (fR _ w2) (p:=⟨br,i,none⟩) (.inl rfl) _) (fun q hq e=>hr.nb (by rw [<-e]; exact hq)) hv
  ·exact(hr.keep h2 (Aa w F)).set i _ (hset s)
  ·exact fC (Fr.mono h2 fun _ x=> .inl x) (p:=⟨br,i,none⟩) (.inl (.inr rfl)) _
 | error n=>
  obtain⟨⟨v,e1,h1⟩,h2⟩:=h;refine⟨0,v,e1,h2,?_,?_⟩
  ·exact h1.set (hr.rb.fr h2 hr.nb)
  ·exact fC (Fr.mono h2 fun _ x=> .inl x) (p:=⟨br,i,none⟩) (.inl (.inr rfl)) _
theorem MidN.base{set:Nat->Co.Rec}{w w0 wx:World}{b pc pr br:Nat}{va:Value}{L:List Px.Node}{lim:Lim}{F:Nat->Prop}{R:Except Int (Nat×Cu)}{t:Value}(h:MidN set w0 b pc pr br va L lim F R t wx)(hs:Same w w0):MidN set w b pc pr br va L lim F R t wx:=by
 cases R with
 | ok q=>
  obtain⟨h1,h2,h3,h4⟩:=h;exact⟨h1,h2,h3,(hs.fr _).trans h4 fun _ _ x=>x⟩
 | error n=>
  obtain⟨h1,h2⟩:=h;exact⟨h1,(hs.fr _).trans h2 fun _ _ x=>x⟩
def dv3(L:List Px.Node)(salt:Bytes)(n:Nat):P (Bytes×Nat×Nat):=bnd (inn L 48 (hashP L)) fun i=>ret (salt,n,i)
def dv2(L:List Px.Node)(salt:Bytes)(n:Nat):P (Bytes×Nat×Nat):=bar (fun c=>peek L c==0 || peek L c==2) 11 (dv3 L salt n)
def dv1(L:List Px.Node)(lim:Lim)(salt:Bytes):P (Bytes×Nat×Nat):=bnd (rounds L lim) fun n=>dv2 L salt n
theorem JY(pc pr b br:Nat)(va:Value)(L:List Px.Node)(lim:Lim)(k:Cu)(F:Nat->Prop)(r:Co.Rec)(w:World)(h:CuAt w b va L lim k F)(hf:Fits L k)(hd:k.left.length<=98)(hr:∀a∈L,E5.right a=true)(hl:0<=lim.r/\lim.r<=4096)(hw:RecW w F pc pr b br r)(hv:∀q,va.ownBlock=some q->q≠br):
  Calls Tryz.prog 159 #[.pointer (some ⟨pc,0,none⟩),.pointer (some ⟨pr,0,none⟩)] w (RunsE w b va L lim F (fun q=>q=br) (fun d F' w'=>RecW w' F' pc pr b br {r with salt:=d.1,rounds:=(d.2.1:Nat),kind:=256+128*(d.2.2:Nat)}) (derivP L lim k)):=by
 obtain⟨R,hR⟩:∃R,R=derivP L lim k:=⟨_,rfl⟩
 obtain⟨R1,hR1⟩:∃R1,R1=octs L 8 1000 1 k:=⟨_,rfl⟩
 rw [<-hR];have HR:=zz (aN hR hR1);have H:=zz (aN h (aN hf (aN hv True.intro)));have HH:=zz (aN hd (aN hf (aN hr hl)));have HRW:=zz hw;have c1:=hw.cc;have c2:=hw.cr;clear hR hR1 h hf hw hv hr hl hd;go_enter Tryz.func159,Tryz.ntmps159;go_upto_region 1 with fail
 go_cut [2] (fun t2 wx=>MidB (fun s=> {r with salt:=s}) w b pc pr br va L lim F R1 t2 wx)
 case first=>
  obtain⟨SS,hSS⟩:∃SS:World->Prop,SS=(fun W:World=>W.cell? ⟨pc,0,none⟩=some (.pointer (some ⟨b,0,none⟩))/\W.cell? ⟨pr,0,none⟩=some (.pointer (some ⟨br,0,none⟩))):=⟨_,rfl⟩
  have hS0:SS w.drew:=by rw [hSS]; exact⟨c1,c2⟩
  refine sR hS0 fun hHeld=>?_
  refine tQ 0 ?_ ?_ ?_;rotate_left
  ·intro w hw;rw [hSS]at hw;obtain⟨q1,q2⟩:=hw;go_simp;try (with_reducible rfl)
  simp only [Act.put,Z1,Z2,Z3];refine tQ 1 ?_ ?_ ?_;rotate_left
  ·intro w hw;rw [hSS]at hw;obtain⟨q1,q2⟩:=hw;go_simp;try (with_reducible rfl)
  simp only [Act.put,Z1,Z2,Z3];refine rD 2 rfl (fun K hK=>?_);go_simp;refine(A3 8 1000 1 _).mono ?_;rintro e wa ⟨rfl,hba,hbc,hbm,hsa⟩;refine sO hK ?_ fun hHeld=>?_
  ·rw [hSS];have hrw:=(HRW.out.keep (fD (fR _ w)) (Aa _ F)).keep (hsa.fr F) (Aa _ F);exact⟨hrw.cc,hrw.cr⟩
  clear hK K;refine rD 3 rfl (fun K hK=>?_);go_simp;have hro:=HRW.out.keep (fD (fR _ w)) (Aa _ F);have hrw:=hro.keep (hsa.fr F) (Aa _ F);have hcu:=(H.out.1.same (fD (sE w))).same hsa;refine(BL b va L lim k F _ 8 1000 1 (by omega) (by omega) wa hcu H.out.2.1 (Aw H.out.1.lt hba hbc hbm)).mono ?_;intro e wb hT;rw [<-HR.out.2]at hT;obtain⟨s,t,rfl,hfb,hmid⟩:=Ec (i:=5) (set:=(fun s=> {r with salt:=s})) (fun s=>by simp [cRec]) hT hrw H.out.2.2.1;refine sO hK ?_ fun hHeld=>?_
  ·rw [hSS];have hrx:=hrw.keep hfb (Aa _ F);exact⟨hrx.cc,hrx.cr⟩
  clear hK K;refine tQ 4 ?_ ?_ ?_;rotate_left
  ·intro w hw;rw [hSS]at hw;obtain⟨q1,q2⟩:=hw;go_simp;try (with_reducible rfl)
  simp only [Act.put,Z1,Z2,Z3];refine tQ 5 ?_ ?_ ?_;rotate_left
  ·intro w hw;rw [hSS]at hw;obtain⟨q1,q2⟩:=hw;go_simp;try (with_reducible rfl)
  simp only [Act.put,Z1,Z2,Z3];refine tQ 6 ?_ ?_ ?_;rotate_left
  ·intro w hw;rw [hSS]at hw;obtain⟨q1,q2⟩:=hw;go_simp;try (with_reducible rfl)
  simp only [Act.put,Z1,Z2,Z3];refine tQ 7 ?_ ?_ ?_;rotate_left
  ·intro w hw;rw [hSS]at hw;obtain⟨q1,q2⟩:=hw;go_simp;try (with_reducible rfl)
  simp only [Act.put,Z1,Z2,Z3];refine tQ 8 ?_ ?_ ?_;rotate_left
  ·intro w hw;rw [hSS]at hw;obtain⟨q1,q2⟩:=hw;go_simp;try (with_reducible rfl)
  simp only [Act.put,Z1,Z2,Z3];have fb:=(hrw.keep hfb (Aa _ F)).rb.free 5;have k0:=(hrw.keep hfb (Aa _ F)).rb.cell 5 rfl;refine rD 9 rfl (fun K hK=>?_);go_simp;refine sO hK ?_ fun hHeld=>?_
  ·rw [hSS];have hrx:=(hrw.keep hfb (Aa _ F)).set (r':=(fun s=> {r with salt:=s}) s) 5 (S s) (by simp [cRec]);exact⟨hrx.cc,hrx.cr⟩
  clear hK K;refine tQ 10 ?_ ?_ ?_;rotate_left
  ·intro w hw;rw [hSS]at hw;obtain⟨q1,q2⟩:=hw;go_simp;try (with_reducible rfl)
  simp only [Act.put,Z1,Z2,Z3];refine wpAnyH_done (by kernel_rfl) ?_ _;go_wp2_with fail;go_meet
  exact hmid.base (sT (fD (fR _ w)) hsa)
 case rest=>
  clear c1 c2;cases R1 with
  | error n=>
   have HI:=zz (HR.out.1.trans (An HR.out.2.symm));obtain⟨⟨fb,rfl,hb⟩,hs⟩:=hcut;have HE:=zz (aN hb hs);clear hb hs HR;go_wp2;go_ret;rw [HI.out];exact⟨⟨_,rfl,fb,rfl,HE.out.1⟩,HE.out.2⟩
  | ok q=>
   obtain⟨salt,k1⟩:=q;have hRx:R=dv1 L lim salt k1:=HR.out.1.trans (Ao HR.out.2.symm);obtain⟨rfl,hc,hw,hs⟩:=hcut;have hel:=Aq (AR HH.out.2.2.1 8 1000 1) HR.out.2.symm H.out.2.1;obtain⟨R2,hR2⟩:∃R2,R2=rounds L lim k1:=⟨_,rfl⟩
   have hvv:=H.out.2.2.1;replace HR:=zz (aN hRx hR2);replace HH:=zz (aN (show k1.left.length<=98 by rw [hel.2]; exact HH.out.1) (aN hel.1 HH.out.2.2));replace H:=zz (aN hc (aN hel.1 (aN hvv True.intro)));replace HRW:=zz hw;have HS:=zz hs;have c1:=hw.cc;have c2:=hw.cr;clear hc hw hs hel hRx hR2 hvv;go_upto_region 4 with fail
   go_cut [2] (fun t2 wx=>MidN (fun n:Nat=> {r with salt:=salt,rounds:=n}) wc b pc pr br va L lim F R2 t2 wx)
   case first=>
    obtain⟨SS,hSS⟩:∃SS:World->Prop,SS=(fun W:World=>W.cell? ⟨pc,0,none⟩=some (.pointer (some ⟨b,0,none⟩))/\W.cell? ⟨pr,0,none⟩=some (.pointer (some ⟨br,0,none⟩))):=⟨_,rfl⟩
    have hS0:SS wc.drew:=by rw [hSS]; exact⟨c1,c2⟩
    refine sR hS0 fun hHeld=>?_
    refine tQ 0 ?_ ?_ ?_;rotate_left
    ·intro w hw;rw [hSS]at hw;obtain⟨q1,q2⟩:=hw;go_simp;try (with_reducible rfl)
    simp only [Act.put,Z1,Z2,Z3];refine tQ 1 ?_ ?_ ?_;rotate_left
    ·intro w hw;rw [hSS]at hw;obtain⟨q1,q2⟩:=hw;go_simp;try (with_reducible rfl)
    simp only [Act.put,Z1,Z2,Z3];refine rD 2 rfl (fun K hK=>?_);go_simp;have hrw:=HRW.out.keep (fD (fR _ wc)) (Aa _ F);refine(JX b va L lim k1 F _ (H.out.1.same (fD (sE wc))) H.out.2.1 HH.out.2.2.1 HH.out.2.2.2).mono ?_;intro e wb hT;rw [<-HR.out.2]at hT;obtain⟨s,t,rfl,hfb,hmid⟩:=Ns (i:=6) (set:=(fun n:Nat=> {r with salt:=salt,rounds:=n})) (fun s=>by simp [cRec]) hT hrw H.out.2.2.1;refine sO hK ?_ fun hHeld=>?_
    ·rw [hSS];have hrx:=hrw.keep hfb (Aa _ F);exact⟨hrx.cc,hrx.cr⟩
    clear hK K;refine tQ 3 ?_ ?_ ?_;rotate_left
    ·intro w hw;rw [hSS]at hw;obtain⟨q1,q2⟩:=hw;go_simp;try (with_reducible rfl)
    simp only [Act.put,Z1,Z2,Z3];refine tQ 4 ?_ ?_ ?_;rotate_left
    ·intro w hw;rw [hSS]at hw;obtain⟨q1,q2⟩:=hw;go_simp;try (with_reducible rfl)
    simp only [Act.put,Z1,Z2,Z3];refine tQ 5 ?_ ?_ ?_;rotate_left
    ·intro w hw;rw [hSS]at hw;obtain⟨q1,q2⟩:=hw;go_simp;try (with_reducible rfl)
    simp only [Act.put,Z1,Z2,Z3];refine tQ 6 ?_ ?_ ?_;rotate_left
    ·intro w hw;rw [hSS]at hw;obtain⟨q1,q2⟩:=hw;go_simp;try (with_reducible rfl)
    simp only [Act.put,Z1,Z2,Z3];refine tQ 7 ?_ ?_ ?_;rotate_left
    ·intro w hw;rw [hSS]at hw;obtain⟨q1,q2⟩:=hw;go_simp;try (with_reducible rfl)
    simp only [Act.put,Z1,Z2,Z3];have fb:=(hrw.keep hfb (Aa _ F)).rb.free 6;have k0:=(hrw.keep hfb (Aa _ F)).rb.cell 6 rfl;refine rD 8 rfl (fun K hK=>?_);go_simp;refine sO hK ?_ fun hHeld=>?_
    ·rw [hSS];have hrx:=(hrw.keep hfb (Aa _ F)).set (r':=(fun n:Nat=> {r with salt:=salt,rounds:=n}) s) 6 (.int .i64 (s:Nat)) (by simp [cRec]);exact⟨hrx.cc,hrx.cr⟩
    clear hK K;refine tQ 9 ?_ ?_ ?_;rotate_left
    ·intro w hw;rw [hSS]at hw;obtain⟨q1,q2⟩:=hw;go_simp;try (with_reducible rfl)
    simp only [Act.put,Z1,Z2,Z3];refine wpAnyH_done (by kernel_rfl) ?_ _;go_wp2_with fail;go_meet
    exact hmid.base (fD (sE wc))
   case rest=>
    clear c1 c2;cases R2 with
    | error n=>
     have HI:=zz (HR.out.1.trans (An HR.out.2.symm));obtain⟨⟨fb,rfl,hb⟩,hs⟩:=hcut;have HE:=zz (aN hb (HS.out.trans hs fun _ _ x=>x));clear hb hs HR;go_wp2;go_ret;rw [HI.out];exact⟨⟨_,rfl,fb,rfl,HE.out.1⟩,HE.out.2⟩
    | ok q=>
     obtain⟨n,k2⟩:=q;have hRx:R=dv2 L salt n k2:=HR.out.1.trans (Ao HR.out.2.symm);obtain⟨rfl,hc,hw,hs⟩:=hcut;have hel:=Aq (CD HH.out.2.2.1 HH.out.2.2.2.2) HR.out.2.symm H.out.2.1;have HX:=zz (aN hc (aN hw (aN (HS.out.trans hs fun _ _ x=>x) (aN hel.1 (show k2.left.length<=98 by rw [hel.2]; exact HH.out.1)))));have HT:=zz (A6 b va L lim k2 F wc hc hel.1);have HR3:=zz hRx;have c1:=hw.cc;clear hc hw hs hel hRx HR HS;go_wp2_with fail;refine HT.out.mono ?_;rintro e w3 ⟨rfl,hs3⟩;have HS3:=zz hs3;have hw3:=HX.out.2.1.stable (hs3.fr F);have c3:=hw3.cc;have HW3:=zz hw3;have HT3:=zz (A6 b va L lim k2 F w3 (HX.out.1.same hs3) HX.out.2.2.2.1);clear hs3 hw3 HT c1;obtain⟨pk,hpk⟩:∃pk,pk=peek L k2:=⟨_,rfl⟩
     have HPK:=zz hpk;rw [<-hpk]at HT3 ⊢;clear hpk;by_cases hp0:pk=0
     ·have HI:=zz (HR3.out.trans (show dv2 L salt n k2= .error 11 by
       unfold dv2 bar;simp [<-HPK.out,hp0]))
      subst hp0;clear HR3 HT3;go_wp2_with fail;refine(Al 11 _).mono ?_;rintro e w4 ⟨v,rfl,he,hs4⟩;have HE:=zz (aN he (HX.out.2.2.1.trans ((HS3.out.trans hs4).fr _) fun _ _ x=>x));clear he hs4;go_wp2;go_ret;rw [HI.out];exact⟨⟨v,rfl,HE.out.1⟩,HE.out.2⟩
     ·have hz0:(((pk:Nat):Int)==0)=false:=bn (by omega);by_cases hp2:pk=2
      ·have HI:=zz (HR3.out.trans (show dv2 L salt n k2= .error 11 by
        unfold dv2 bar;simp [<-HPK.out,hp2]))
       have hz2:(((pk:Nat):Int)==2)=true:=by rw [hp2]; rfl
       clear HR3 hp0 hp2;go_wp2_with fail;refine HT3.out.mono ?_;rintro e w5 ⟨rfl,hs5⟩;have HS5:=zz (HS3.out.trans hs5);clear hs5;go_wp2_with fail;refine(Al 11 _).mono ?_;rintro e w4 ⟨v,rfl,he,hs4⟩;have HE:=zz (aN he (HX.out.2.2.1.trans ((HS5.out.trans hs4).fr _) fun _ _ x=>x));clear he hs4;go_wp2;go_ret;rw [HI.out];exact⟨⟨v,rfl,HE.out.1⟩,HE.out.2⟩
      ·have HR4:=zz (HR3.out.trans (show dv2 L salt n k2=dv3 L salt n k2 by
        unfold dv2 bar;simp [<-HPK.out,hp0,hp2]))
       have hz2:(((pk:Nat):Int)==2)=false:=bn (by omega);clear HR3 hp0 hp2;go_wp2_with fail;refine HT3.out.mono ?_;rintro e w5 ⟨rfl,hs5⟩;have hw5:=HW3.out.stable (hs5.fr F);have c5:=hw5.cc;have hin:=Bd b va L lim k2 F (fun q=>q=br) 0x30 (by decide) (by decide) 161 #[.pointer (some ⟨pc,0,none⟩),.pointer (some ⟨pr,0,none⟩)] (hashP L) (fun i F' w'=>RecW w' F' pc pr b br {r with salt:=salt,rounds:=(n:Nat),kind:=256+128*(i:Nat)}) w5 (HX.out.1.same (HS3.out.trans hs5)) HX.out.2.2.2.1 (by have:=HX.out.2.2.2.2; omega) HH.out.2.2.1 (fun _=>rfl) (Ay (D3 HH.out.2.2.1)) (fun v F w w' h hf=>h.stable hf)
        (fun w1 F1 k3 h1 h2 _ h4 h5=>Me pc pr b br va L lim k3 F1 {r with salt:=salt,rounds:=(n:Nat)} w1 h1 h2 HH.out.2.2.1 (hw5.keep h4 h5) H.out.2.2.1)
       rw [show((0x30:UInt8).toNat)=48 from rfl]at hin;have HIN:=zz hin;have HS5:=zz (HX.out.2.2.1.trans ((HS3.out.trans hs5).fr _) fun _ _ x=>x);clear hs5 hw5 hin c3;go_wp2_with fail;refine HIN.out.mono ?_;intro e w6 hT;cases hk:inn L 48 (hashP L) k2 with
       | error n=>
        rw [hk]at hT;have HI:=zz (HR4.out.trans (An hk));obtain⟨⟨v,rfl,fb,rfl,hb⟩,hs⟩:=hT;have HE:=zz (aN hb (HS5.out.trans hs fun _ _ x=>x));clear hb hs hk HIN;go_wp2;go_ret;rw [HI.out];exact⟨⟨_,rfl,fb,rfl,HE.out.1⟩,HE.out.2⟩
       | ok q=>
        obtain⟨i,k3⟩:=q;rw [hk]at hT;have HI:=zz (HR4.out.trans (Ao hk));obtain⟨rfl,⟨F1,hcu,hfs,hrw⟩,hfr⟩:=hT;have HE:=zz (aN hcu (aN hrw (aN (HS5.out.trans hfr fun _ _ x=>x) (A0 HS5.out (Aa w F) hfs))));clear hcu hfs hrw hfr hk HIN;go_wp2;go_ret;rw [HI.out];exact⟨rfl,⟨F1,HE.out.1,HE.out.2.2.2,HE.out.2.1⟩,HE.out.2.2.1⟩
theorem Oa {w w3:World} {b br:Nat} {va:Value} {L:List Px.Node} {lim:Lim} {k:Cu} {F:Nat->Prop} {r:Co.Rec} (h:CuAt w b va L lim k F) (hx:RecP br r F w)
  (e:w3=(w.alloc (.cells #[.pointer (some ⟨b,0,none⟩)] 50)).alloc (.cells #[.pointer (some ⟨br,0,none⟩)] 167)):RecW w3 F w.heap.size (w.heap.size+1) b br r/\Same w w3:=by
 have hs2:Same w w3:=by rw [e]; exact((fR _ _).alloc _).alloc _
 have b0:=(Af w #[.pointer (some ⟨b,0,none⟩)] 50).alloc (.cells #[.pointer (some ⟨br,0,none⟩)] 167);have b1:=Af (w.alloc (.cells #[.pointer (some ⟨b,0,none⟩)] 50)) #[.pointer (some ⟨br,0,none⟩)] 167;rw [show(w.alloc (.cells #[.pointer (some ⟨b,0,none⟩)] 50)).heap.size=w.heap.size+1 by simp]at b1;rw [<-e]at b0 b1;have hbl:=hx.2.lt;refine⟨⟨b0.cell 0 rfl,b1.cell 0 rfl,hx.2.fr hs2 (fun x=>x),fun x=>?_,fun x=>?_,hx.1,by omega,by omega⟩,hs2⟩
 ·have:=h.lt _ x; omega
 ·have:=h.lt _ x; omega
theorem IK(b br:Nat)(va:Value)(L:List Px.Node)(lim:Lim)(k:Cu)(F:Nat->Prop)(r:Co.Rec)(w:World)(h:CuAt w b va L lim k F)(hf:Fits L k)(hd:k.left.length<=97)(hr:∀a∈L,E5.right a=true)(hl:0<=lim.r/\lim.r<=4096)(hx:RecP br r F w)(hv:∀q,va.ownBlock=some q->q≠br):
  Calls Tryz.prog 141 #[.pointer (some ⟨b,0,none⟩),.pointer (some ⟨br,0,none⟩)] w (RunsE w b va L lim F (fun q=>q=br) (fun d=>RecP br {r with salt:=d.1,rounds:=(d.2.1:Nat),kind:=256+128*(d.2.2:Nat)}) (derived L lim k)):=by
 obtain⟨R,hR⟩:∃R,R=derived L lim k:=⟨_,rfl⟩
 rw [<-hR];have HR:=zz hR;have H:=zz (aN h (aN hf (aN hd (aN hr (aN hl hv)))));obtain⟨w3,hw3⟩:∃w3,w3=((w.alloc (.cells #[.pointer (some ⟨b,0,none⟩)] 50)).alloc (.cells #[.pointer (some ⟨br,0,none⟩)] 167)):=⟨_,rfl⟩
 obtain⟨hrw3,hs3⟩:=Oa h hx hw3;have c1:=hrw3.cc;rw [hw3]at c1;have hal:Same w3 (w3.alloc (.cells ([derivT].map S).toArray 9)):=fA (fR _ w3) _;have HK:=zz (BK b va L lim k F (.slice (some ⟨w3.heap.size,0,none⟩) 1 1) [derivT] (by decide) (w3.alloc (.cells ([derivT].map S).toArray 9)) ((h.same hs3).same hal) hf (BM (Af w3 _ _) (by decide)) (fun q hq hF=>by simp only [Value.ownBlock,Option.some.injEq]at hq; have:=(h.same hs3).lt q hF; omega));have H3:=zz (aN (hrw3.stable (hal.fr F)) (hs3.trans hal));have W3:=zz hw3;clear hR h hf hd hr hl hx hv hw3 hrw3 hs3 hal;go_enter Tryz.func141,Tryz.ntmps141;go_wp2_with fail;have hsz:w3.heap.size=w.heap.size+1+1:=by rw [W3.out]; simp
 rw [<-W3.out,<-hsz];refine HK.out.mono ?_;intro e w4 hT;obtain⟨pc,hpc⟩:∃pc,pc=w.heap.size:=⟨_,rfl⟩
 obtain⟨pr,hpr⟩:∃pr,pr=w.heap.size+1:=⟨_,rfl⟩
 clear c1 hsz;have hrw3:=H3.out.1;rw [<-hpr,<-hpc]at hrw3 ⊢;clear hpc hpr;cases hk:kind L [derivT] k with
 | error n=>
  rw [hk]at hT;have HI:=zz (HR.out.trans (An hk));obtain⟨⟨v,rfl,fb,rfl,hb⟩,hs⟩:=hT;have HE:=zz (aN hb ((H3.out.2.fr F).trans hs fun _ _ x=>x));clear hb hs hk HK hrw3;go_wp2;go_ret;rw [HI.out];exact⟨⟨_,rfl,fb,rfl,HE.out.1⟩,Fr.mono HE.out.2 fun _ x=> .inl x⟩
 | ok q=>
  obtain⟨u,k1⟩:=q;rw [hk]at hT;obtain⟨rfl,hcu,hfr⟩:=hT;have hR1:R=inn L 48 (derivP L lim) k1:=HR.out.trans (Ao hk);obtain⟨hf1,hd1⟩:=Aq (Av H.out.2.2.2.1 [derivT]) hk H.out.2.1;have hrw:=hrw3.stable hfr;have hin:=Bd b va L lim k1 F (fun q=>q=br) 0x30 (by decide) (by decide) 159 #[.pointer (some ⟨pc,0,none⟩),.pointer (some ⟨pr,0,none⟩)] (derivP L lim) (fun d F' w'=>RecW w' F' pc pr b br {r with salt:=d.1,rounds:=(d.2.1:Nat),kind:=256+128*(d.2.2:Nat)}) w4 hcu hf1 (by have:=H.out.2.2.1; omega) H.out.2.2.2.1 (fun _=>rfl)
   (Ay (((AR H.out.2.2.2.1 8 1000 1).bnd fun salt=>(CD H.out.2.2.2.1 H.out.2.2.2.2.1.2).bnd fun n=>(((D3 H.out.2.2.2.1).inn H.out.2.2.2.1 (t:=0x30) (by decide) (by decide)).bnd fun i=>Ax (salt,n,i)).bar))) (fun v F w w' h hf=>h.stable hf)
   (fun w1 F1 k2 h1 h2 h3 h4 h5=>JY pc pr b br va L lim k2 F1 r w1 h1 h2 (by have:=H.out.2.2.1; omega) H.out.2.2.2.1 H.out.2.2.2.2.1 (hrw.keep h4 h5) H.out.2.2.2.2.2)
  rw [show((0x30:UInt8).toNat)=48 from rfl]at hin;have HIN:=zz hin;have HR1:=zz hR1;have H4:=zz (Fr.mono (G:=fun q=>F q\/q=br) ((H3.out.2.fr F).trans hfr fun _ _ x=>x) fun _ x=> .inl x);have c1:=hrw.cc;clear hcu hfr hR1 hf1 hd1 hrw hrw3 hin hk HK HR;go_wp2_with fail;refine HIN.out.mono ?_;intro e w5 hT;clear c1;cases hk:inn L 48 (derivP L lim) k1 with
  | error n=>
   rw [hk]at hT;have HI:=zz (HR1.out.trans hk);obtain⟨⟨v,rfl,fb,rfl,hb⟩,hs⟩:=hT;have HE:=zz (aN hb (H4.out.trans hs fun _ _ x=>x));clear hb hs hk HIN;go_wp2;go_ret;rw [HI.out];exact⟨⟨_,rfl,fb,rfl,HE.out.1⟩,HE.out.2⟩
  | ok q=>
   obtain⟨d,k3⟩:=q;rw [hk]at hT;have HI:=zz (HR1.out.trans hk);obtain⟨rfl,⟨F1,hcu,hfs,hrw⟩,hfr⟩:=hT;have HE:=zz (aN hcu (aN hrw (aN (H4.out.trans hfr fun _ _ x=>x) (A0 H4.out (Aa w F) hfs))));clear hcu hfs hrw hfr hk HIN;go_wp2;go_ret;rw [HI.out];exact⟨rfl,⟨F1,HE.out.1,HE.out.2.2.2,HE.out.2.1.nb,HE.out.2.1.rb⟩,HE.out.2.2.1⟩
theorem KV(pc pr b br:Nat)(va:Value)(L:List Px.Node)(lim:Lim)(k:Cu)(F:Nat->Prop)(r:Co.Rec)(w:World)(h:CuAt w b va L lim k F)(hf:Fits L k)(hr:∀a∈L,E5.right a=true)(hw:RecW w F pc pr b br r)(hv:∀q,va.ownBlock=some q->q≠br):
  Calls Tryz.prog 143 #[.pointer (some ⟨pc,0,none⟩),.pointer (some ⟨pr,0,none⟩)] w (RunsE w b va L lim F (fun q=>q=br) (fun d F' w'=>RecW w' F' pc pr b br {r with size:=16+8*(d.1:Nat),iv:=d.2}) (lockQ L k)):=by
 obtain⟨R,hR⟩:∃R,R=lockQ L k:=⟨_,rfl⟩
 rw [<-hR];have HR:=zz hR;have H:=zz (aN h (aN hf (aN hv hr)));have HRW:=zz hw;have c1:=hw.cc;have HG:=zz (Aa w F);clear hR h hf hw hv hr;go_enter Tryz.func143,Tryz.ntmps143;go_wp2_with fail;have hal:Same w (w.alloc (.cells (lockTs.map S).toArray 9)):=fA (fR _ w) _;refine(BK b va L lim k F (.slice (some ⟨w.heap.size,0,none⟩) 3 3) lockTs (by decide) (w.alloc (.cells (lockTs.map S).toArray 9)) (H.out.1.same hal) H.out.2.1 (BM (Af w _ _) (by decide)) (fun q hq hF=>by simp only [Value.ownBlock,Option.some.injEq]at hq; have:=H.out.1.lt q hF; omega)).mono ?_;intro e w1 hT;have hrw:=HRW.out.keep (hal.fr F) (Aa _ F);cases hk:kind L lockTs k with
 | error n=>
  rw [hk]at hT;have HI:=zz (HR.out.trans (An hk));obtain⟨⟨v,rfl,fb2,rfl,hfb⟩,hs⟩:=hT;have HE:=zz (aN hfb ((hal.fr F).trans hs fun _ _ x=>x));clear hal hrw hs hfb c1 hk;go_wp2;go_ret;rw [HI.out];exact⟨⟨_,rfl,fb2,rfl,HE.out.1⟩,Fr.mono HE.out.2 fun _ x=> .inl x⟩
 | ok q=>
  obtain⟨i,k1⟩:=q;rw [hk]at hT;obtain⟨rfl,hc,hs⟩:=hT;have hi:i<3:=Eq hk;have hR1:R=bnd (octs L 16 16 1) (fun iv=>ret (i,iv)) k1:=HR.out.trans (Ao hk);have hf1:=(Aq (Av H.out.2.2.2 lockTs) hk H.out.2.1).1;have hr1:=hrw.keep hs (Aa _ F);have c3:=hr1.cr;have fb:=hr1.rb.free 1;have k0:=hr1.rb.cell 1 rfl;have hr2:=hr1.set (r':= {r with size:=16+8*(i:Int)}) 1 (.int .i64 (16+8*(i:Int))) (by simp [cRec]);have hc2:CuAt (w1.setCell ⟨br,1,none⟩ (.int .i64 (16+8*(i:Int)))) b va L lim k1 F:=hc.fr (G:=fun q=>q=br) (fC (F:=fun q=>q=br) (fR _ _) (p:=⟨br,1,none⟩) (.inl rfl) _) (fun q hq e=>hr1.nb (by rw [<-e]; exact hq)) H.out.2.2.1;have HE:=zz (fC (F:=fun q=>F q\/q=br) (Fr.mono ((hal.fr F).trans hs fun _ _ x=>x) fun _ x=> .inl x) (p:=⟨br,1,none⟩) (.inl (.inr rfl)) (.int .i64 (16+8*(i:Int))));have hiz:(i:Int)<3:=by omega
  obtain⟨R1,hR2⟩:∃R1,R1=octs L 16 16 1 k1:=⟨_,rfl⟩
  have hvv:=H.out.2.2.1;replace HR:=zz (aN hR1 hR2);replace HRW:=zz hr2;replace H:=zz (aN hc2 (aN hf1 (aN hvv True.intro)));clear hal hrw hs hr1 hc hi hk hR1 hR2 hf1 hr2 hc2 c1 hvv;go_upto_region 5 with fail
  clear fb k0 c3 hiz;obtain⟨w2,hw2⟩:∃w2,w2=w1.setCell ⟨br,1,none⟩ (.int .i64 (16+8*(i:Int))):=⟨_,rfl⟩
  rw [<-hw2]at HRW H HE ⊢;clear hw2;have c1:=HRW.out.cc;have c2:=HRW.out.cr;go_cut [4] (fun t4 wx=>MidB (fun s=> {r with size:=16+8*(i:Int),iv:=s}) w2 b pc pr br va L lim F R1 t4 wx)
  case first=>
   obtain⟨SS,hSS⟩:∃SS:World->Prop,SS=(fun W:World=>W.cell? ⟨pc,0,none⟩=some (.pointer (some ⟨b,0,none⟩))/\W.cell? ⟨pr,0,none⟩=some (.pointer (some ⟨br,0,none⟩))):=⟨_,rfl⟩
   have hS0:SS w2.drew:=by rw [hSS]; exact⟨c1,c2⟩
   refine sR hS0 fun hHeld=>?_
   refine tQ 0 ?_ ?_ ?_;rotate_left
   ·intro w hw;rw [hSS]at hw;obtain⟨q1,q2⟩:=hw;go_simp;try (with_reducible rfl)
   simp only [Act.put,Z1,Z2,Z3];refine tQ 1 ?_ ?_ ?_;rotate_left
   ·intro w hw;rw [hSS]at hw;obtain⟨q1,q2⟩:=hw;go_simp;try (with_reducible rfl)
   simp only [Act.put,Z1,Z2,Z3];refine rD 2 rfl (fun K hK=>?_);go_simp;refine(A3 16 16 1 _).mono ?_;rintro e wa ⟨rfl,hba,hbc,hbm,hsa⟩;refine sO hK ?_ fun hHeld=>?_
   ·rw [hSS];have hrw:=(HRW.out.keep (fD (fR _ w2)) (Aa _ F)).keep (hsa.fr F) (Aa _ F);exact⟨hrw.cc,hrw.cr⟩
   clear hK K;refine rD 3 rfl (fun K hK=>?_);go_simp;have hro:=HRW.out.keep (fD (fR _ w2)) (Aa _ F);have hrw:=hro.keep (hsa.fr F) (Aa _ F);have hcu:=(H.out.1.same (fD (sE w2))).same hsa;refine(BL b va L lim k1 F _ 16 16 1 (by omega) (by omega) wa hcu H.out.2.1 (Aw H.out.1.lt hba hbc hbm)).mono ?_;intro e wb hT;rw [<-HR.out.2]at hT;obtain⟨s,t,rfl,hfb,hmid⟩:=Ec (i:=7) (set:=(fun s=> {r with size:=16+8*(i:Int),iv:=s})) (fun s=>by simp [cRec]) hT hrw H.out.2.2.1;refine sO hK ?_ fun hHeld=>?_
   ·rw [hSS];have hrx:=hrw.keep hfb (Aa _ F);exact⟨hrx.cc,hrx.cr⟩
   clear hK K;refine tQ 4 ?_ ?_ ?_;rotate_left
   ·intro w hw;rw [hSS]at hw;obtain⟨q1,q2⟩:=hw;go_simp;try (with_reducible rfl)
   simp only [Act.put,Z1,Z2,Z3];refine tQ 5 ?_ ?_ ?_;rotate_left
   ·intro w hw;rw [hSS]at hw;obtain⟨q1,q2⟩:=hw;go_simp;try (with_reducible rfl)
   simp only [Act.put,Z1,Z2,Z3];refine tQ 6 ?_ ?_ ?_;rotate_left
   ·intro w hw;rw [hSS]at hw;obtain⟨q1,q2⟩:=hw;go_simp;try (with_reducible rfl)
   simp only [Act.put,Z1,Z2,Z3];refine tQ 7 ?_ ?_ ?_;rotate_left
   ·intro w hw;rw [hSS]at hw;obtain⟨q1,q2⟩:=hw;go_simp;try (with_reducible rfl)
   simp only [Act.put,Z1,Z2,Z3];refine tQ 8 ?_ ?_ ?_;rotate_left
   ·intro w hw;rw [hSS]at hw;obtain⟨q1,q2⟩:=hw;go_simp;try (with_reducible rfl)
   simp only [Act.put,Z1,Z2,Z3];have fb:=(hrw.keep hfb (Aa _ F)).rb.free 7;have k0:=(hrw.keep hfb (Aa _ F)).rb.cell 7 rfl;refine rD 9 rfl (fun K hK=>?_);go_simp;refine sO hK ?_ fun hHeld=>?_
   ·rw [hSS];have hrx:=(hrw.keep hfb (Aa _ F)).set (r':=(fun s=> {r with size:=16+8*(i:Int),iv:=s}) s) 7 (S s) (by simp [cRec]);exact⟨hrx.cc,hrx.cr⟩
   clear hK K;refine tQ 10 ?_ ?_ ?_;rotate_left
   ·intro w hw;rw [hSS]at hw;obtain⟨q1,q2⟩:=hw;go_simp;try (with_reducible rfl)
   simp only [Act.put,Z1,Z2,Z3];refine wpAnyH_done (by kernel_rfl) ?_ _;go_wp2_with fail;go_meet
   exact hmid.base (sT (fD (fR _ w2)) hsa)
  case rest=>
   clear c1 c2;cases R1 with
   | error n=>
    have HI:=zz (HR.out.1.trans (An HR.out.2.symm));obtain⟨⟨fb,rfl,hb⟩,hs⟩:=hcut;have HE2:=zz (aN hb (HE.out.trans hs fun _ _ x=>x));clear hb hs HR;go_wp2;go_ret;rw [HI.out];exact⟨⟨_,rfl,fb,rfl,HE2.out.1⟩,HE2.out.2⟩
   | ok q=>
    obtain⟨s,k2⟩:=q;have HI:=zz (HR.out.1.trans (Ao HR.out.2.symm));obtain⟨rfl,hc,hw,hs⟩:=hcut;have HE2:=zz (aN hc (aN hw (HE.out.trans hs fun _ _ x=>x)));clear hc hw hs HR;go_wp2;go_ret;rw [HI.out];exact⟨rfl,⟨F,HE2.out.1,HG.out,HE2.out.2.1⟩,HE2.out.2.2⟩
theorem RecW.back{w w':World}{F F':Nat->Prop}{pc pr b br:Nat}{r x:Co.Rec}(h:RecW w F pc pr b br r)(hf:Fr (fun q=>F q\/q=br) w w')(hs:Fresh w F F')(hp:RecP br x F' w'):RecW w' F' pc pr b br x:=by
 have l1:=World.block_lt_of_cell? _ _ h.cc;have l2:=World.block_lt_of_cell? _ _ h.cr;refine⟨(hf.cell (p:=⟨pc,0,none⟩) l1 (by rintro(e | e); exact h.nc e; exact h.ec e)).trans h.cc,(hf.cell (p:=⟨pr,0,none⟩) l2 (by rintro(e | e); exact h.nr e; exact h.er e)).trans h.cr,hp.2,fun x=>?_,fun x=>?_,hp.1,h.ec,h.er⟩
 ·rcases hs _ x with y | y
  ·exact h.nc y
  ·exact absurd l1 (by simp only at l1 ⊢; omega)
 ·rcases hs _ x with y | y
  ·exact h.nr y
  ·exact absurd l2 (by simp only at l2 ⊢; omega)
theorem KW(pc pr b br:Nat)(va:Value)(L:List Px.Node)(lim:Lim)(k:Cu)(F:Nat->Prop)(r:Co.Rec)(w:World)(h:CuAt w b va L lim k F)(hf:Fits L k)(hd:k.left.length<=97)(hr:∀a∈L,E5.right a=true)(hl:0<=lim.r/\lim.r<=4096)(hw:RecW w F pc pr b br r)(hv:∀q,va.ownBlock=some q->q≠br):
  Calls Tryz.prog 140 #[.pointer (some ⟨pc,0,none⟩),.pointer (some ⟨pr,0,none⟩)] w (RunsE w b va L lim F (fun q=>q=br) (fun d F' w'=>RecW w' F' pc pr b br {r with salt:=d.1,rounds:=(d.2.1:Nat),kind:=256+128*(d.2.2:Nat)}) (derived L lim k)):=by
 have HD:=zz (IK b br va L lim k F r w h hf hd hr hl ⟨hw.nb,hw.rb⟩ hv);obtain⟨R,hR⟩:∃R,R=derived L lim k:=⟨_,rfl⟩
 rw [<-hR]at HD ⊢;have HW:=zz hw;have c1:=hw.cc;have c2:=hw.cr;clear hR h hf hd hr hl hw hv;go_enter Tryz.func140,Tryz.ntmps140;go_wp2_with fail;refine HD.out.mono ?_;intro e w1 hT;cases R with
 | error n=>
  obtain⟨⟨v,rfl,fb,rfl,hb⟩,hs⟩:=hT;have HE:=zz (aN hb hs);clear hb hs HD;go_wp2;go_ret;exact⟨⟨_,rfl,fb,rfl,HE.out.1⟩,HE.out.2⟩
 | ok q=>
  obtain⟨d,k1⟩:=q;obtain⟨rfl,⟨F1,hcu,hfs,hp⟩,hfr⟩:=hT;have HE:=zz (aN hcu (aN hfs (aN (HW.out.back hfr hfs hp) hfr)));clear hcu hfs hp hfr HD;go_wp2;go_ret;exact⟨rfl,⟨F1,HE.out.1,HE.out.2.1,HE.out.2.2.1⟩,HE.out.2.2.2⟩
theorem KX(pc pr b br:Nat)(va:Value)(L:List Px.Node)(lim:Lim)(k:Cu)(F:Nat->Prop)(r:Co.Rec)(w:World)(h:CuAt w b va L lim k F)(hf:Fits L k)(hd:k.left.length<=98)(hr:∀a∈L,E5.right a=true)(hw:RecW w F pc pr b br r)(hv:∀q,va.ownBlock=some q->q≠br):
  Calls Tryz.prog 142 #[.pointer (some ⟨pc,0,none⟩),.pointer (some ⟨pr,0,none⟩)] w (RunsE w b va L lim F (fun q=>q=br) (fun d F' w'=>RecW w' F' pc pr b br {r with size:=16+8*(d.1:Nat),iv:=d.2}) (lockP L k)):=by
 obtain⟨R,hR⟩:∃R,R=lockP L k:=⟨_,rfl⟩
 rw [<-hR];have HR:=zz hR;have H:=zz (aN h (aN hf (aN hd (aN hr hv))));have HRW:=zz hw;have c1:=hw.cc;clear hR h hf hw hv hr hd;go_enter Tryz.func142,Tryz.ntmps142;go_wp2_with fail;have hal:Same w (w.alloc (.cells ([lockT].map S).toArray 9)):=fA (fR _ w) _;refine(BK b va L lim k F (.slice (some ⟨w.heap.size,0,none⟩) 1 1) [lockT] (by decide) (w.alloc (.cells ([lockT].map S).toArray 9)) (H.out.1.same hal) H.out.2.1 (BM (Af w _ _) (by decide)) (fun q hq hF=>by simp only [Value.ownBlock,Option.some.injEq]at hq; have:=H.out.1.lt q hF; omega)).mono ?_;intro e w1 hT;cases hk:kind L [lockT] k with
 | error n=>
  rw [hk]at hT;have HI:=zz (HR.out.trans (An hk));obtain⟨⟨v,rfl,fb2,rfl,hfb⟩,hs⟩:=hT;have HE:=zz (aN hfb ((hal.fr F).trans hs fun _ _ x=>x));clear hal hs hfb c1 hk;go_wp2;go_ret;rw [HI.out];exact⟨⟨_,rfl,fb2,rfl,HE.out.1⟩,Fr.mono HE.out.2 fun _ x=> .inl x⟩
 | ok q=>
  obtain⟨u,k1⟩:=q;rw [hk]at hT;obtain⟨rfl,hcu,hfr⟩:=hT;have hR1:R=inn L 48 (lockQ L) k1:=HR.out.trans (Ao hk);obtain⟨hf1,hd1⟩:=Aq (Av H.out.2.2.2.1 [lockT]) hk H.out.2.1;have hrw:=(HRW.out.stable (hal.fr F)).stable hfr;have hin:=Bd b va L lim k1 F (fun q=>q=br) 0x30 (by decide) (by decide) 143 #[.pointer (some ⟨pc,0,none⟩),.pointer (some ⟨pr,0,none⟩)] (lockQ L) (fun d F' w'=>RecW w' F' pc pr b br {r with size:=16+8*(d.1:Nat),iv:=d.2}) w1 hcu hf1 (by have:=H.out.2.2.1; omega) H.out.2.2.2.1 (fun _=>rfl)
   (Ay ((Av H.out.2.2.2.1 lockTs).bnd fun j=>(AR H.out.2.2.2.1 16 16 1).bnd fun iv=>Ax (j,iv))) (fun v F w w' h hf=>h.stable hf)
   (fun w1 F1 k2 h1 h2 _ h4 h5=>KV pc pr b br va L lim k2 F1 r w1 h1 h2 H.out.2.2.2.1 (hrw.keep h4 h5) H.out.2.2.2.2)
  rw [show((0x30:UInt8).toNat)=48 from rfl]at hin;have HIN:=zz hin;have HR1:=zz hR1;have H4:=zz (Fr.mono (G:=fun q=>F q\/q=br) ((hal.fr F).trans hfr fun _ _ x=>x) fun _ x=> .inl x);replace c1:=hrw.cc;clear hcu hfr hR1 hf1 hd1 hrw hin hk HR hal;go_wp2_with fail;refine HIN.out.mono ?_;intro e w5 hT;clear c1;cases hk:inn L 48 (lockQ L) k1 with
  | error n=>
   rw [hk]at hT;have HI:=zz (HR1.out.trans hk);obtain⟨⟨v,rfl,fb,rfl,hb⟩,hs⟩:=hT;have HE:=zz (aN hb (H4.out.trans hs fun _ _ x=>x));clear hb hs hk HIN;go_wp2;go_ret;rw [HI.out];exact⟨⟨_,rfl,fb,rfl,HE.out.1⟩,HE.out.2⟩
  | ok q=>
   obtain⟨d,k3⟩:=q;rw [hk]at hT;have HI:=zz (HR1.out.trans hk);obtain⟨rfl,⟨F1,hcu,hfs,hrw⟩,hfr⟩:=hT;have HE:=zz (aN hcu (aN hrw (aN (H4.out.trans hfr fun _ _ x=>x) (A0 H4.out (Aa w F) hfs))));clear hcu hfs hrw hfr hk HIN;go_wp2;go_ret;rw [HI.out];exact⟨rfl,⟨F1,HE.out.1,HE.out.2.2.2,HE.out.2.1⟩,HE.out.2.2.1⟩
end Go.Proofs.YtpfhollohodcjaaGreatDoor
