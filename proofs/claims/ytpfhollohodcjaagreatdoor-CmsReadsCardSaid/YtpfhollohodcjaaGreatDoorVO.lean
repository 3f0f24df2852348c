import Derived.Test.YtpfhollohodcjaaGreatDoorVN
import Derived.Deep.LoopGhost
import Derived.Deep.CutBlock
set_option maxRecDepth 100000
set_option maxHeartbeats 8000000
namespace Go.Proofs.YtpfhollohodcjaaGreatDoor
open Go.RowKit Go.Px Go.Px.R5
def shapeV(l:List Px.Node):Nat×Bool:=
 match E5.shape true l [] 0 with
 | none=>(0,false)
 | some (m,left)=>(m, !l.isEmpty && left.isEmpty)
structure Shp (w wr:World) (v:Value) (l:List Px.Node) (k most:Nat) (left:List Nat):Prop where
 nums:Nums w wr v left
 eq:E5.shape true l [] 0=E5.shape (k==0) (l.drop k) left most
 len:left.length<=k
 most:most<=k
 small:∀c∈left,(c:Int)<=9223372036854775807
 top:left=[]\/∃n r,left=(n+1)::r
def wrongT(a:Px.Node):Bool:= !(tagE a.tag.toNat==0 && decide (-1<=a.kids) && (inner a.tag.toNat== !E5.leaf a))
def wrongB(a:Px.Node):Bool:= !(if E5.leaf a then R5.body a.tag.toNat a.body else a.body.isEmpty)
theorem Dg(a:Px.Node):E5.right a=(!wrongT a && !wrongB a):=by
 unfold E5.right wrongT wrongB;rw [Bool.not_not,Bool.not_not]
def left2(a:Px.Node)(left:List Nat):List Nat:=if E5.leaf a then E5.dec left else E5.count a::E5.dec left
def most2(a:Px.Node)(left:List Nat)(most:Nat):Nat:=if E5.leaf a then most else max most (left.length+1)
theorem JT{l:List Px.Node}{k:Nat}{left:List Nat}{most:Nat}(hk:k<l.length)(hl:left=[]->k=0)(hr:E5.right l[k]=true):
  E5.shape (k==0) (l.drop k) left most=E5.shape false (l.drop (k+1)) (E5.pops (left2 l[k] left)) (most2 l[k] left most):=by
 rw [List.drop_eq_getElem_cons hk,E5.shape,if_neg ?_]
 ·unfold left2 most2;cases E5.leaf l[k]<;>rfl
 ·rw [hr];cases left with
  | nil=>rw [hl rfl]; simp
  | cons a t=>simp
theorem DG{l:List Px.Node}{k:Nat}{left:List Nat}{most:Nat}(hk:k<l.length)(h:(left=[]/\0<k)\/E5.right l[k]=false):E5.shape (k==0) (l.drop k) left most=none:=by
 rw [List.drop_eq_getElem_cons hk,E5.shape,if_pos ?_];rcases h with ⟨rfl,h0⟩| h
 ·simp; omega
 ·simp [h]
theorem KL(l:List Px.Node):(l.isEmpty=true/\l.length=0)\/(l.isEmpty=false/\0<l.length):=by
 cases l with
 | nil=>exact .inl ⟨rfl,rfl⟩
 | cons a t=>exact .inr ⟨rfl,by simp⟩
theorem KM(l:List Nat):(l.isEmpty=true/\l.length=0)\/(l.isEmpty=false/\0<l.length):=by
 cases l with
 | nil=>exact .inl ⟨rfl,rfl⟩
 | cons a t=>exact .inr ⟨rfl,by simp⟩
theorem IG(a:Px.Node):(∃te,te=tagE a.tag.toNat/\(te==0)=false/\wrongT a=true)\/(tagE a.tag.toNat=0/\a.kids< -1/\wrongT a=true)\/
  (tagE a.tag.toNat=0/\¬a.kids< -1/\((inner a.tag.toNat=true/\0<=a.kids/\wrongT a=false)\/(inner a.tag.toNat=true/\¬0<=a.kids/\wrongT a=true)\/(inner a.tag.toNat=false/\0<=a.kids/\wrongT a=true)\/(inner a.tag.toNat=false/\¬0<=a.kids/\wrongT a=false))):=by
 unfold wrongT;by_cases h1:tagE a.tag.toNat=0
 ·rw [show(tagE a.tag.toNat==0)=true from beq_iff_eq.2 h1,Bool.true_and];by_cases h2:a.kids< -1
  ·rw [df (by omega)];exact .inr (.inl ⟨h1,h2,rfl⟩)
  ·rw [dt (show -1<=a.kids by omega),Bool.true_and];refine .inr (.inr ⟨h1,h2,?_⟩);by_cases h3:0<=a.kids
   ·have hl:E5.leaf a=false:=df (by omega);rw [hl];cases inner a.tag.toNat
    ·exact .inr (.inr (.inl ⟨rfl,h3,rfl⟩))
    ·exact .inl ⟨rfl,h3,rfl⟩
   ·have hl:E5.leaf a=true:=dt (by omega);rw [hl];cases inner a.tag.toNat
    ·exact .inr (.inr (.inr ⟨rfl,h3,rfl⟩))
    ·exact .inr (.inl ⟨rfl,h3,rfl⟩)
 ·exact .inl ⟨_,rfl,bn h1,by rw [show(tagE a.tag.toNat==0)=false from bn h1]; rfl⟩
theorem JU(v:Value)(l:List Px.Node)(w:World)(h:Lies w 3 cNode v l)(hl:l.length<=4096)(hw:∀a∈l,-9223372036854775808<=a.kids/\a.kids<=9223372036854775807/\a.body.length<=140737488355327)(hT:Tabs w):
  Calls Tryz.prog 87 #[v] w fun e w'=>e= .returned (.tuple #[.int .i64 ((shapeV l).1:Nat),.bool (shapeV l).2])/\Same w w':=by
 obtain⟨va,vc,hv,hv1,hv2⟩:=h.slice;subst hv;have H:=zz (aN h (aN hw hT));clear h hw hT;obtain⟨i0,hi0,hz0,hz1,hz2⟩:=info_parts Tryz.infoI64;go_enter Tryz.func87,Tryz.ntmps87;go_wp2;go_loopg [4,5,12] (l.length+1) (fun gk v4 t5 i wr=>∃(k most:Nat) (left:List Nat),gk+k=l.length+1/\k<=l.length/\i= .int .i64 (k:Nat)/\t5= .int .i64 (most:Nat)/\Hid (Shp w wr v4 l k most left))
 case atStart=>exact⟨0,0,[],rfl,Nat.zero_le _,rfl,rfl,zz ⟨⟨A4 _ _ _ _,sE w,nofun⟩,by rw [List.drop_zero]; rfl,Nat.le_refl _,Nat.le_refl _,nofun,.inl rfl⟩⟩
 case round=>
  obtain⟨k,most,left,hgk,hk,rfl,rfl,HS⟩:=hrel;have HG:=zz hgk;clear hgk;obtain⟨la,lc,hv4⟩:=HS.out.nums.len;subst hv4;by_cases hlt:k<l.length
  ·have hlz:(k:Int)<(l.length:Int):=by omega
   obtain⟨xb,xo,xc,hve,hxb,hcx⟩:=(Lies.same H.out.1 HS.out.nums.same).cell k l[k] (by simp [hlt]);simp only [Value.slice.injEq,true_and]at hve;obtain⟨rfl,rfl⟩:=hve;have x0:=hcx 0 _ rfl;have x1:=hcx 1 _ rfl;have x2:=hcx 2 _ rfl;rw [<-Nat.add_assoc]at x0 x1 x2;rw [Nat.add_zero]at x0;obtain⟨x,hx⟩:∃x,x=l[k]:=⟨_,rfl⟩
   rw [<-hx]at x0 x1 x2;have hxl:=H.out.2.1 x (by rw [hx]; exact List.getElem_mem _);have HX:=zz (aN hx hxl);have hk1:=hxl.1;have hk2:=hxl.2.1;clear hcx hx hxl;go_upto_region 6 with fail
   obtain⟨g',rfl⟩:∃g',gk=g'+1:=⟨gk - 1,by have:=HG.out; omega⟩
   obtain⟨WX,hWX⟩:∃WX,WX=wr.alloc (.cells #[.int .u8 x.tag.toNat,.int .i64 x.kids,.string ⟨x.body.toArray⟩] 90 (0,0)):=⟨_,rfl⟩
   rw [<-hWX];have hsX:Same wr WX:=by rw [hWX]; exact(sE wr).alloc _
   have hbX:WX.heap[wr.heap.size]?=some (.cells #[.int .u8 x.tag.toNat,.int .i64 x.kids,S x.body] 90 (0,0)):=by rw [hWX]; exact heap_alloc_new wr _
   have HS1:=zz (aN (HS.out.nums.sm hsX) (aN HS.out (aN hsX hbX)));have HWR:=zz (show ∀g,(Value.slice la left.length lc).ownBlock=some g->g<wr.heap.size from fun g hg=>HS.out.nums.own.lt hg);clear hWX hsX hbX x0 x1 x2 HS;by_cases hstop:left=[]/\0<k
   ·obtain⟨rfl,hk0⟩:=hstop;have hkz:(0:Int)<(k:Int):=by omega
    have HR:=zz (show shapeV l=(0,false) by unfold shapeV; rw [HS1.out.2.1.eq,DG hlt (.inl ⟨rfl,hk0⟩)]);clear hk0;go_wp2;go_ret2
    rw [HR.out];exact⟨rfl,HS1.out.1.same⟩
   ·have HST:=zz hstop;clear hstop;have hforms:(k=0/\left=[])\/∃n rest,left=(n+1)::rest:=by
     rcases HS1.out.2.1.top with rfl | h
     ·exact .inl ⟨by have:=HST.out; simp at this; omega,rfl⟩
     ·exact .inr h
    have HF:=zz hforms;clear hforms;have hlen4:left.length<=4096:=by have:=HS1.out.2.1.len; omega
    go_cut [23] (fun t23 wx=>t23= .bool false/\wx=WX)
    case first=>
     rcases HF.out with ⟨rfl,rfl⟩| ⟨n,rest,rfl⟩
     ·go_wp2_with fail;go_meet
      exact⟨rfl,rfl⟩
     ·have hz0:(((rest.length:Int)+1)==0)=false:=by simp; omega
      have hk0:(0:Int)<(k:Int):=by have:=HS1.out.2.1.len; simp at this; omega
      rw [List.length_cons];go_wp2_with fail;go_meet
      exact⟨rfl,rfl⟩
    case rest=>
     obtain⟨rfl,hwc⟩:=hcut;subst hwc;go_upto_if 27 with fail
     go_cut [] (fun wx=>Nums w wx (.slice la left.length lc) (E5.dec left)/\wx.heap[wr.heap.size]?=some (.cells #[.int .u8 x.tag.toNat,.int .i64 x.kids,S x.body] 90 (0,0)))
     case first=>
      rcases HF.out with ⟨rfl,rfl⟩| ⟨n,rest,rfl⟩
      ·go_wp2_with fail;go_meet
       exact⟨HS1.out.1,HS1.out.2.2.2⟩
      ·obtain⟨g,cap,hve,hc1,hc2,hcell,hfz,hgl⟩:=HS1.out.1.top;simp only [List.length_cons,Value.slice.injEq,true_and]at hve;obtain⟨rfl,rfl⟩:=hve;unfold maxLen at hc2;have hsm:=HS1.out.2.1.small (n+1) (by simp);have hk0:(0:Int)<(rest.length:Int)+1:=by omega
       have hn1:((n+1:Nat):Int)=(n:Int)+1:=by omega
       rw [hn1]at hcell hsm;have hset:=HS1.out.1.set n;have hne:g≠wr.heap.size:=fun e=>by have:=HWR.out g rfl; omega
       have HSE:=zz (show Nums w (wc.setCell ⟨g,rest.length,none⟩ (.int .i64 (n:Nat))) (.slice (some ⟨g,0,none⟩) (rest.length+1) lc) (n::rest)/\(wc.setCell ⟨g,rest.length,none⟩ (.int .i64 (n:Nat))).heap[wr.heap.size]?=some (.cells #[.int .u8 x.tag.toNat,.int .i64 x.kids,S x.body] 90 (0,0))from
        ⟨hset,(heap_setCell_other _ _ _ _ (fun e=>hne e.symm)).trans HS1.out.2.2.2⟩)
       have hwr:IntKind.i64.wrap ((n:Int)+1 - 1)=(n:Int):=by rw [show(n:Int)+1 - 1=n by omega]; exact IntWalk.i64_in _ ⟨by omega,by omega⟩
       have hwr2:IntKind.i64.wrap (n:Int)=(n:Int):=IntWalk.i64_in _ ⟨by omega,by omega⟩;clear hset hn1 hsm;rw [List.length_cons];go_wp2_with fail;go_meet
       exact HSE.out
     case rest=>
      obtain⟨hnu,hbx⟩:=hcut;have HN:=zz (aN hnu hbx);have y0:=Ab hbx 0 rfl;have y1:=Ab hbx 1 rfl;have y2:=Ab hbx 2 rfl;clear hnu hbx;have htb:x.tag.toNat<256:=UInt8.toNat_lt _;go_upto_region 11 with fail
      go_cut [53] (fun t53 wx=>t53= .bool (wrongT x)/\wx=wc)
      case first=>
       rcases IG x with ⟨te,hte,q1,q2⟩| ⟨hte,q1,q2⟩| ⟨hte,q0,⟨q1,q3,q2⟩| ⟨q1,q3,q2⟩| ⟨q1,q3,q2⟩| ⟨q1,q3,q2⟩⟩
       ·have HE:=zz (aN hte q2);have hne:¬te=0:=beq_eq_false_iff_ne.1 q1;have hbn:(te !=0)=true:=bne_iff_ne.2 hne;clear hte q2;go_wp2_with fail;refine(AL _ htb _).mono ?_;rintro r w2 ⟨rfl,hw2⟩;subst hw2;rw [<-HE.out.1];go_wp2_with fail;go_meet
        rw [HE.out.2];exact⟨rfl,rfl⟩
       ·have HE:=zz (aN hte q2);clear hte q2;go_wp2_with fail;refine(AL _ htb _).mono ?_;rintro r w2 ⟨rfl,hw2⟩;subst hw2;rw [HE.out.1];go_wp2_with fail;go_meet
        rw [HE.out.2];exact⟨rfl,rfl⟩
       all_goals
        have HE:=zz (aN hte q2);have d1:decide (x.kids< -1)=false:=df q0
        first | have d2:=dt q3 | have d2:=df q3
        first | have hbt:=CW _ htb q1 | have hbt:=Bh _ htb q1
        clear hte q2 q1;go_wp2_with fail;refine(AL _ htb _).mono ?_;rintro r w2 ⟨rfl,hw2⟩;subst hw2;rw [HE.out.1];go_wp2_with fail;go_meet
        rw [HE.out.2]
        first
         | exact⟨rfl,rfl⟩
         | (refine⟨?_,rfl⟩; simp; omega)
      case rest=>
       obtain⟨rfl,hwc2⟩:=hcut;subst hwc2;cases hWT:wrongT x with
       | true=>
        have HR:=zz (show shapeV l=(0,false) by unfold shapeV; rw [HS1.out.2.1.eq,DG hlt (.inr (by rw [<-HX.out.1,Dg,hWT]; rfl))]);clear hWT;go_wp2;go_ret2
        rw [HR.out];exact⟨rfl,HN.out.1.same⟩
       | false=>
        have HWT:=zz hWT;clear hWT;go_upto_region 13 with fail
        go_cut [74] (fun t74 wx=>t74= .bool (wrongB x)/\Same wc wx)
        case first=>
         by_cases hlf:0<=x.kids
         ·have hlk:E5.leaf x=false:=df (by omega);by_cases hbe:x.body=[]
          ·have HE:=zz (show wrongB x=false by unfold wrongB; rw [hlk,hbe]; rfl);rw [hbe]at y2;clear hlk hbe;go_wp2_with fail;go_meet
           rw [HE.out];exact⟨rfl,sE _⟩
          ·have hie:x.body.isEmpty=false:=by rw [List.isEmpty_eq_false_iff]; exact hbe
           have hie2:(!x.body.isEmpty)=true:=by rw [hie]; rfl
           have HE:=zz (show wrongB x=true by unfold wrongB; rw [hlk,hie]; rfl);clear hlk;go_wp2_with fail;go_meet
           rw [HE.out];exact⟨rfl,sE _⟩
         ·have hlk:E5.leaf x=true:=dt (by omega);have hlf2:x.kids<0:=by omega
          have HE:=zz (show wrongB x= !R5.body x.tag.toNat x.body by unfold wrongB; rw [hlk]; rfl);have HB:=zz (BB x.tag.toNat x.body HX.out.2.2.2 wc (H.out.2.2.same HN.out.1.same));clear hlk;go_wp2_with fail;refine HB.out.mono ?_;rintro r w2 ⟨rfl,hs2⟩;have HS2:=zz hs2;clear hs2;go_wp2_with fail;go_meet
          rw [HE.out];exact⟨rfl,HS2.out⟩
        case rest=>
         obtain⟨rfl,hsc⟩:=hcut;have HN2:=zz (aN (HN.out.1.sm hsc) ((hsc.block _ (Au HN.out.2) (fun x=>x)).trans HN.out.2));clear hsc y0 y1 y2 HN;cases hWB:wrongB x with
         | true=>
          have HR:=zz (show shapeV l=(0,false) by unfold shapeV; rw [HS1.out.2.1.eq,DG hlt (.inr (by rw [<-HX.out.1,Dg,hWB,Bool.not_true,Bool.and_false]))]);clear hWB;go_wp2;go_ret2
          rw [HR.out];exact⟨rfl,HN2.out.1.same⟩
         | false=>
          have HQ:=zz (show E5.shape true l [] 0=E5.shape false (l.drop (k+1)) (E5.pops (left2 x left)) (most2 x left most)from by
           have hr:E5.right x=true:=by rw [Dg,HWT.out,hWB]; rfl
           have:=HS1.out.2.1.eq.trans (JT (left:=left) (most:=most) hlt (fun e=>by have:=HST.out; simp [e]at this; exact this) (by rw [<-HX.out.1]; exact hr));rw [<-HX.out.1]at this;exact this)
          clear hWB;have y1:=Ab HN2.out.2 1 rfl;have hdl:(E5.dec left).length=left.length:=E5.Bl left;have HDL:=zz hdl;have hmk:most<=k:=HS1.out.2.1.most;clear hdl;go_upto_if 77 with fail
          go_cut [4,5] (fun v4 t5 wx=>Nums w wx v4 (left2 x left)/\t5= .int .i64 (most2 x left most:Nat))
          case first=>
           by_cases hlf:0<=x.kids
           ·have hlk:E5.leaf x=false:=df (by omega);have hkn:x.kids=((E5.count x:Nat):Int):=by unfold E5.count; omega
            have HE:=zz (show left2 x left=E5.count x::E5.dec left/\most2 x left most=max most (left.length+1) by unfold left2 most2; rw [hlk]; exact⟨rfl,rfl⟩);rw [hkn]at y1;obtain⟨cn,hcn⟩:∃cn,cn=E5.count x:=⟨_,rfl⟩
            rw [<-hcn]at y1 HE;have hrow:=HN2.out.1.row;rw [HDL.out]at hrow;obtain⟨RL,hRL⟩:∃RL,RL=(E5.dec left).reverse.flatMap cNum:=⟨_,rfl⟩
            rw [<-hRL]at hrow;have HO:=zz hrow;have HRL:=zz hRL;clear hrow hRL hlk hkn hcn;go_wp2_with (at_builtin; go_must (refine wpList_append_lies _ rfl _ _ _ rfl 0 3 i0 _ 1 8 Tryz.underlying51 hi0 hz0 hz1 hz2 rfl (by omega) (.slice la left.length lc) left.length RL rfl (HO.out.alloc _) ⟨wc.heap.size,0,none⟩ 1 1 [.int .i64 (cn:Nat)] rfl rfl (World.news_of_block (cs:= #[.int .i64 (cn:Nat)]) (t:=3) (fr:=(0,0)) (heap_alloc_new wc _)) (by simp [Value.oneCell']) (by omega) (by unfold maxLen; omega) (by omega) (by omega) (wc.heap.size+1) (by simp) ?_))
            intro gg cap WY hown1 hgrow hat hlt1;rw [HRL.out]at hown1;have HP:=zz (show Nums w WY (.slice (some ⟨gg,0,none⟩) (left.length+1) cap) (cn::E5.dec left)from by
             have h1:=HN2.out.1;have h2:=hown1;rw [<-HDL.out]at h1 h2 ⊢;exact Nums.push h1 h2 (AA (w:=wc) (by rw [<-HDL.out]at hgrow; exact hgrow)) (hat.imp (fun e=>by rw [HDL.out]; exact e) (fun e=>by omega)))
            clear hown1 hgrow hat;go_wp2_with fail;go_meet
            rw [HE.out.1,HE.out.2];exact⟨HP.out,by go_num⟩
           ·have hlk:E5.leaf x=true:=dt (by omega);have HE:=zz (show left2 x left=E5.dec left/\most2 x left most=most by unfold left2 most2; rw [hlk]; exact⟨rfl,rfl⟩);clear hlk;go_wp2_with fail;go_meet
            rw [HE.out.1,HE.out.2];exact⟨HN2.out.1,rfl⟩
          case rest=>
           obtain⟨hnu,rfl⟩:=hcut;obtain⟨L2,hL2⟩:∃L2,L2=left2 x left:=⟨_,rfl⟩
           obtain⟨M2,hM2⟩:∃M2,M2=most2 x left most:=⟨_,rfl⟩
           rw [<-hL2,<-hM2]at HQ;rw [<-hL2]at hnu;rw [<-hM2];have hl2:L2.length<=k+1:=by
            rw [hL2]; unfold left2;have:=HS1.out.2.1.len;have:=HDL.out
            split
            ·omega
            ·rw [List.length_cons]; omega
           have hm2:M2<=k+1:=by
            rw [hM2]; unfold most2;have:=HS1.out.2.1.len
            split<;>omega
           have hsm2:∀c∈L2,(c:Int)<=9223372036854775807:=by
            have hd:∀c∈E5.dec left,(c:Int)<=9223372036854775807:=by
             have hs:=HS1.out.2.1.small;cases left with
             | nil=>exact nofun
             | cons n rest=>
              intro c hc;rcases List.mem_cons.1 hc with rfl | hc
              ·have:=hs n (by simp); omega
              ·exact hs c (by simp [hc])
            rw [hL2]; unfold left2
            split
            ·exact hd
            ·intro c hc;rcases List.mem_cons.1 hc with rfl | hc
             ·unfold E5.count; omega
             ·exact hd c hc
           obtain⟨va2,vc2,hve2⟩:=hnu.len;subst hve2;have HN:=zz (aN hnu (aN hl2 (aN hm2 (aN hsm2 HQ.out))));clear hnu hl2 hsm2 hL2 hM2 HQ y1 HN2;go_wp2;obtain⟨wo,rfl⟩:∃wo:World,wo=wc:=⟨_,rfl⟩
           go_loopg [4,9] (L2.length+1) (fun gk2 v4 t9 w2=>∃lf:List Nat,lf.length<gk2/\t9= .int .i64 (lf.length:Nat)/\Hid (Nums w w2 v4 lf/\E5.pops lf=E5.pops L2/\lf.length<=L2.length/\∀c∈lf,(c:Int)<=9223372036854775807))
           case atStart=>exact⟨L2,by omega,rfl,zz ⟨HN.out.1,rfl,Nat.le_refl _,HN.out.2.2.2.1⟩⟩
           case round=>
            obtain⟨lf,hgl,rfl,HL⟩:=hrel;have HGL:=zz hgl;clear hgl;have hkm:(k:Int)<9223372036854775807:=by omega
            rcases hlf:lf with _ | ⟨ci,rs⟩
            ·rw [hlf]at HL;obtain⟨a2,c2,hv2⟩:=HL.out.1.len;subst hv2;clear hlf HGL;go_wp2;go_roundg g'
             case measure=>omega
             case rel=>
              have hp:E5.pops ([]:List Nat)=E5.pops L2:=HL.out.2.1;refine⟨k+1,M2,[],by have:=HG.out; omega,by omega,by go_num,rfl,zz ⟨HL.out.1,?_,Nat.zero_le _,HN.out.2.2.1,nofun,.inl rfl⟩⟩;rw [HN.out.2.2.2.2,<-hp];rfl
            ·rw [hlf]at HL HGL;obtain⟨g2,c2,rfl,hc1,hc2,hcell,hfz,hg2⟩:=HL.out.1.top;unfold maxLen at hc2;clear hlf;by_cases hc0:ci=0
             ·subst hc0;go_wp2;go_roundg (rs.length+1)
              case measure=>have:=HGL.out; simp at this; omega
              case rel=>exact⟨rs,by omega,by go_num,zz ⟨HL.out.1.pop,HL.out.2.1,Nat.le_of_succ_le HL.out.2.2.1,fun c hc=>HL.out.2.2.2 c (by simp [hc])⟩⟩
             ·have hcz:((ci:Int)==0)=false:=by simpa using hc0
              have HC:=zz hc0;clear hc0;go_wp2;go_roundg g'
              case measure=>omega
              case rel=>
               have hp:=HL.out.2.1;have e:E5.pops (ci::rs)=ci::rs:=by unfold E5.pops; rw [if_neg HC.out]
               refine⟨k+1,M2,ci::rs,by have:=HG.out; omega,by omega,by go_num,rfl,zz ⟨HL.out.1,?_,?_,HN.out.2.2.1,HL.out.2.2.2,.inr ⟨ci - 1,rs,by rw [Nat.sub_add_cancel (Nat.one_le_iff_ne_zero.2 HC.out)]⟩⟩⟩
               ·rw [HN.out.2.2.2.2,<-hp,e];rfl
               ·have:=HL.out.2.2.1; have:=HN.out.2.1; omega
  ·have hlz:¬(k:Int)<(l.length:Int):=by omega
   have hkl:k=l.length:=by omega
   have HR:=zz (show shapeV l=(most, !l.isEmpty && left.isEmpty) by
    unfold shapeV;rw [HS.out.eq,hkl,List.drop_length,E5.shape])
   have HSM:=zz HS.out.nums.same;clear hkl hlt HS;rcases KL l with ⟨e1,e2⟩| ⟨e1,e2⟩
   ·have HE:=zz e1;have z:¬(0:Int)<(l.length:Int):=by omega
    clear e1;go_wp2;go_ret2
    rw [HR.out,HE.out];exact⟨rfl,HSM.out⟩
   ·have z:(0:Int)<(l.length:Int):=by omega
    rcases KM left with ⟨e3,e4⟩| ⟨e3,e4⟩
    ·have HE:=zz (aN e1 e3);have z2:((left.length:Int)==0)=true:=beq_iff_eq.2 (by omega);clear e1 e3;go_wp2;go_ret2
     rw [HR.out,HE.out.1,HE.out.2];exact⟨rfl,HSM.out⟩
    ·have HE:=zz (aN e1 e3);have z2:((left.length:Int)==0)=false:=bn (by omega);clear e1 e3;go_wp2;go_ret2
     rw [HR.out,HE.out.1,HE.out.2];exact⟨rfl,HSM.out⟩
end Go.Proofs.YtpfhollohodcjaaGreatDoor
