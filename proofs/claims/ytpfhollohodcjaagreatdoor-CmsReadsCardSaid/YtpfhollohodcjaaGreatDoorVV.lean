import Derived.Test.YtpfhollohodcjaaGreatDoorVU
import Derived.Laws.EntriesVeiled
import Derived.IntWalk
import Derived.BigRegion
set_option maxRecDepth 100000
set_option maxHeartbeats 8000000
namespace Go.Proofs.YtpfhollohodcjaaGreatDoor
open Go.RowKit Go.Px Go.Px.Co Go.Px.Cm
def RunsB{α:Type}(Bad:World->Prop)(w:World)(b:Nat)(va:Value)(L:List Px.Node)(lim:Lim)(F G:Nat->Prop)(Post:α->(Nat->Prop)->World->Prop)(r:Except Int (α×Cu))(e:Ending)(w':World):Prop:=match r with
 | .ok (v,k')=>e= .returned .nilIface/\(∃F',CuAt w' b va L lim k' F'/\Fresh w F F'/\Post v F' w')/\Fr (fun q=>F q\/G q) w w'
 | .error n=>(∃v,e= .returned v/\ErrV w' v n)/\Fr (fun q=>F q\/G q) w w'/\Bad w'
theorem F8 {α:Type} (Bad:World->Prop) (b:Nat) (va:Value) (L:List Px.Node) (lim:Lim) (k:Cu) (F G:Nat->Prop) (t:UInt8) (ht:t≠0) (hi:R5.inner t.toNat=true) (kf:Nat) (cap:Array Value) (p:P α) (Post:α->(Nat->Prop)->World->Prop) (w:World) (h:CuAt w b va L lim k F) (hf:Fits L k) (hd:k.left.length<=100) (hr:∀a∈L,E5.right a=true)
  (hen:∀W,(callFunc kf cap).run Tryz.prog W= .ok (.enter kf cap) W) (hE:Eats L p (fun _ _=>True)) (hst:∀v F w w',Post v F w->Fr F w w'->Post v F w') (hb0:Bad w) (hbs:∀w w',Bad w->Same w w'->Bad w') (hpb:∀v F w,Post v F w->Bad w)
  (hcl:∀w1 F1 k1,CuAt w1 b va L lim k1 F1->Fits L k1->k1.left.length=k.left.length+1->Fr F w w1->Fresh w F F1->Calls Tryz.prog kf cap w1 (RunsB Bad w1 b va L lim F1 G Post (p k1))):
  Calls Tryz.prog 23 #[.pointer (some ⟨b,0,none⟩),.int .u8 (t.toNat:Nat),.func (.func kf) #[] cap] w (RunsB Bad w b va L lim F G Post (inn L t.toNat p k)):=by
 have H:=zz (aN h hf);have HC:=zz hcl;have ht0:t.toNat≠0:=fun e=>ht (UInt8.toNat_inj.1 e)
 have HT:=zz (Bg b va L lim k F t.toNat ht0 w h hf);have HFI:=zz (fun(c':Cu) (s:Bytes) (e:Cm.take L t.toNat k= .ok (s,c'))=>CU hr ht hi e hf);obtain⟨R,hR⟩:∃R,R=inn L t.toNat p k:=⟨_,rfl⟩
 rw [<-hR];have HR:=zz hR;clear hR;have HEN:=zz hen;have HBD:=zz (aN hb0 (aN hbs hpb));clear h hf hcl hen hb0 hbs hpb;go_enter Tryz.func23,Tryz.ntmps23;go_wp2_with fail;refine HT.out.mono ?_;intro e w1 hT;cases hk:Cm.take L t.toNat k with
 | error n=>
  rw [hk]at hT;have hI:inn L t.toNat p k= .error n:=by
   unfold inn;rw [hk]
  obtain⟨⟨v,rfl,fb,rfl,hb⟩,hs⟩:=hT;have HE:=zz (aN hb hs);have HI:=zz (HR.out.trans hI);clear hb hs hk hI HT;go_wp2;go_ret;rw [HI.out];exact⟨⟨_,rfl,fb,rfl,HE.out.1⟩,HE.out.2.fr _,HBD.out.2.1 _ _ HBD.out.1 HE.out.2⟩
 | ok q=>
  obtain⟨s,k1⟩:=q;rw [hk]at hT;obtain⟨rfl,⟨vl,hrep,hF⟩,hfr⟩:=hT;have hfi:=HFI.out _ _ hk;obtain⟨n0,r0,hkl,hk1⟩:∃n0 r0,k.left=(n0+1)::r0/\k1=⟨k.at_+1,n0::r0⟩:=by
   obtain⟨a,n,r,_,_,_,_,_,h5,h6⟩:=By hk (fun e=>ht0 e);exact⟨n,r,h5,h6⟩
  have hlt:=fits_lt H.out.2 hkl;obtain⟨kk,hkk⟩:∃kk:Nat,kk=(L.getD k.at_ nz).kids.toNat:=⟨_,rfl⟩
  have hkz:(L.getD k.at_ nz).kids=(kk:Int):=by
   obtain⟨a,n,r,_,h2,hg,h3,_⟩:=By hk (fun e=>ht0 e);rw [hkk,hg];have ha:=hr a h2;unfold E5.right at ha;simp only [Bool.and_eq_true,beq_iff_eq]at ha;have h4:R5.inner a.tag.toNat=true:=by rw [h3]; exact hi
   have h5:=ha.1.2;rw [h4]at h5;have h6:¬a.kids<0:=by
    intro h7;have:E5.leaf a=true:=dt h7;rw [this]at h5;cases h5
   omega
  have hI:inn L t.toNat p k=match p ⟨k1.at_,kk::k1.left⟩with | .error e=> .error e | .ok (v,c2)=>out v c2:=by
   unfold inn;rw [hk,hkk];rfl
  rw [<-hkk]at hfi;have HI:=zz (HR.out.trans hI);have HK:=zz (aN hfi (aN hF hfr));subst hk1;obtain⟨c0,c1,c2⟩:=hrep.cells;obtain⟨vb,off,cap2,hva,hvb,_,y1,_⟩:=hrep.elem hlt;rw [hkz]at y1;rw [hva]at c0;obtain⟨a,ha⟩:∃a,a=k.at_:=⟨_,rfl⟩
  rw [<-ha]at y1 hlt;replace c1:w1.cell? ⟨b,1,none⟩=some (.int .i64 ((a:Int)+1)):=by rw [c1,ha]; rfl
  have hL:=hrep.wf.1;have hltz:(a:Int)<(L.length:Int):=by omega
  have hvl:=hrep.own.len;rw [List.length_reverse]at hvl;obtain⟨la,lc,hvl1,hlc1,hlc2,_⟩:=hvl;have f2:=hrep.free 2;have HX:=zz hrep;have hbl:=hrep.lt;obtain⟨i0,hi0,hz0,hz1,hz2⟩:=info_parts Tryz.infoInt;unfold maxLen at hlc2;obtain⟨m,hm⟩:∃m,m=(n0::r0).length:=⟨_,rfl⟩
  have HM:=zz hm;have HV:=zz hva;have hown:w1.ownsRow 0 3 1 vl m ((n0::r0).reverse.flatMap cNum):=by
   have:=hrep.own;unfold Owns at this;rw [List.length_reverse,<-hm]at this;exact this
  have HO:=zz hown;rw [<-hm]at hvl1 hlc1;have hml:m<=100:=by
   rw [hkl]at hd;rw [hm];exact hd
  have HKL:=zz hkl;clear hrep hm hva hown hI hkk hkz ha hk hF hfr hfi hkl hd;have LB:=HX.out.lb.ne;have hwr:IntKind.i64.wrap ((a:Nat):Int)=(a:Int):=IntWalk.i64_in _ ⟨by omega,by omega⟩;have hnn:(0:Int)<=(a:Int):=by omega
  have htn:((a:Nat):Int).toNat=a:=by omega
  have HA:=zz hlt;clear hlt hvl1 hlc1 hlc2;go_upto_region 4 with fail
  go_cut [] (fun wx=>∃F2,CuAt wx b va L lim ⟨k.at_+1,kk::n0::r0⟩ F2/\Fr F w1 wx/\Fresh w1 F F2)
  case first=>
   go_region_law
    ((refine step_append_lies _ (by rfl) _ _ _ (by rfl) 0 3 i0 _ 1 8 Tryz.underlying51 hi0 hz0 hz1 hz2 rfl (by omega) vl m ((n0::r0).reverse.flatMap cNum) (by rfl) (World.ownsRow.alloc HO.out _)
       ⟨w1.heap.size,0,none⟩ 1 1 [.int .i64 (kk:Int)] (by rfl) (by rfl) (World.news_of_block (cs:= #[.int .i64 (kk:Int)]) (t:=3) (fr:=(0,0)) (heap_alloc_new w1 _)) (by simp [Value.oneCell'])
       (by omega) (by unfold maxLen; omega) (by omega) (by simp) (w1.heap.size+1) (by simp) ?_; intro gg cap w2 hown1 hgrow hat hlt; have k2:=AO hgrow c2 LB; have e2:=AP hgrow c2 f2 LB))
   all_goals
    go_wp2_with fail;go_meet
    have hm:=HM.out;subst hm;obtain⟨q1,q2,q3⟩:=HX.out.push hown1 hgrow (hat.imp id (fun e=>by omega)) rfl;refine⟨_,⟨_,q1,rfl⟩,?_,?_⟩
    ·rw [HK.out.2.1];exact q2
    ·rw [HK.out.2.1];exact q3
  case rest=>
   obtain⟨F2,hcu,hf2,hfr2⟩:=hcut;have hfw:Fr F w wc:=fT HK.out.2.2 hf2 (fun _ _ x=>x);have hfs:Fresh w F F2:=fun q hq=>by
    rcases hfr2 q hq with x | x
    ·exact .inl x
    ·exact .inr (Nat.le_trans HK.out.2.2.size x)
   have HR2:=zz (HC.out wc F2 ⟨k.at_+1,kk::n0::r0⟩ hcu HK.out.1 (by rw [HKL.out]; rfl) hfw hfs);have HW:=zz (aN hfw hfs);clear hcu hf2 hfr2 hfw hfs c0 c1 c2 y1 f2 HX HO HM HV LB hwr hnn htn HA hml hltz hL hvb hbl;have hen:=HEN.out wc;go_wp2_with fail;refine HR2.out.mono ?_;intro e w3 hR3;cases hp:p ⟨k.at_+1,kk::n0::r0⟩with
   | error n=>
    rw [hp]at hR3;obtain⟨⟨v,rfl,fb,rfl,hb⟩,hf3,hbd3⟩:=hR3;have HE:=zz (aN hb (aN (GS HW.out.1 HW.out.2 hf3) hbd3));have HI2:Hid (R= .error n):=zz (HI.out.trans (by rw [hp]));clear hb hf3 hbd3 hp HI;go_wp2;go_ret;rw [HI2.out];exact⟨⟨_,rfl,fb,rfl,HE.out.1⟩,HE.out.2.1,HE.out.2.2⟩
   | ok q=>
    obtain⟨v,k2⟩:=q;rw [hp]at hR3;obtain⟨rfl,⟨F3,⟨vl3,hrep3,hF3⟩,hfs3,hpost⟩,hf3⟩:=hR3;obtain⟨hfit2,ts,n2,r2,_,e1,e2,_⟩:=hE _ v k2 hp HK.out.1;simp only [List.cons.injEq]at e1;obtain⟨_,e1⟩:=e1;obtain⟨n,r,g,cp,hk2,rfl,hc1,hc2,t0,tf,hg⟩:=hrep3.top;have hrr:r=n0::r0:=by
     rw [e2]at hk2;simp only [List.cons.injEq]at hk2;rw [<-hk2.2,e1]
    have hrne:r≠ []:=by rw [hrr]; simp
    have hI2:R=out v k2:=HI.out.trans (by rw [hp]);obtain⟨c0,c1,c2⟩:=hrep3.cells;have f2:=hrep3.free 2;have hbl:=hrep3.lt;have hnl:=Cw hfit2 hk2;have hL:=hrep3.wf.1;unfold maxLen at hc2;have hgb:¬g=b:=fun e=>hrep3.lb g rfl (by rw [e])
    have HFA:=zz (GS HW.out.1 HW.out.2 hf3);have HFS:=zz (show Fresh w F F3 from fun q hq=>by
     rcases hfs3 q hq with x | x
     ·exact HW.out.2 q x
     ·exact .inr (Nat.le_trans HW.out.1.size x))
    cases n with
    | zero=>
     have hpop:=hrep3.pop hk2 hrne;have hout:R= .ok (v,⟨k2.at_,r⟩):=by
      rw [hI2];unfold out;rw [hk2];rfl
     have hbF:F3 b:=by rw [hF3]; exact .inl rfl
     have HQ:=zz (aN hpop (aN hout (aN hF3 (aN hpost hbF))));clear hpop hout hF3 hpost hbF hrep3 hI2 hk2 e2 e1 hrr hp hf3 hfs3 hfit2 HI hrne;go_wp2;go_ret;rw [HQ.out.2.1];refine⟨rfl,⟨F3,⟨_,HQ.out.1,HQ.out.2.2.1⟩,HFS.out,hst _ _ _ _ HQ.out.2.2.2.1 (fC (F:=F3) (fR _ w3) (p:=⟨b,2,none⟩) (.inl HQ.out.2.2.2.2) _)⟩,?_⟩;refine fC HFA.out (p:=⟨b,2,none⟩) ?_ _;rcases HFS.out b HQ.out.2.2.2.2 with x | x
     ·exact .inl (.inl x)
     ·exact .inr x
    | succ n=>
     have hout:R= .error 9:=by
      rw [hI2];unfold out;rw [hk2]
     have hnz:(0:Int)<(n:Int)+1:=by omega
     have HQ:=zz (aN hout (HBD.out.2.2 _ _ _ hpost));clear hout hF3 hpost hrep3 hI2 hk2 e2 e1 hrr hp hf3 hfs3 hfit2 HI hrne;go_wp2_with fail;refine(Al 9 _).mono ?_;rintro e w4 ⟨v4,rfl,he,hs⟩;have HE:=zz (aN he hs);clear he hs;go_wp2;go_ret;rw [HQ.out.1];exact⟨⟨v4,rfl,HE.out.1⟩,fT HFA.out HE.out.2 (fun _ _ x=>x.elim),HBD.out.2.1 _ _ HQ.out.2 HE.out.2⟩
end Go.Proofs.YtpfhollohodcjaaGreatDoor
