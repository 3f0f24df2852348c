import Derived.Test.YtpfhollohodcjaaGreatDoorVQ
import Derived.Deep.DeepCutAuto
import Derived.Test.YtpfhollohodcjaaGreatDoorVG
import Derived.Test.YtpfhollohodcjaaGreatDoorVZ
set_option maxRecDepth 100000
set_option maxHeartbeats 8000000
namespace Go.Proofs.YtpfhollohodcjaaGreatDoor
open Go.RowKit Go.Px Go.Px.R5
def behV(r:Option Nat×Nat):Value:= .tuple #[.int .i64 (match r.1 with | none=> -1 | some e=>(e:Int)),.int .i64 (r.2:Nat)]
structure Beh (w wr:World) (v:Value) (l:List Px.Node) (k most:Nat) (left:List Nat):Prop where
 nums:Nums w wr v left
 eq:E5.behind l [] 0 0=E5.behind (l.drop k) left most k
 len:left.length<=k
 mlen:left.length<=most
 most:most<=k
 small:∀c∈left,(c:Int)<=9223372036854775807
 top:left=[]\/∃n r,left=(n+1)::r
theorem FL{l:List Px.Node}{k most:Nat}{left:List Nat}(hk:k<l.length)(h:l[k].kids< -1):E5.behind (l.drop k) left most k=(none,most):=by
 rw [List.drop_eq_getElem_cons hk,E5.behind,if_pos h]
theorem EG{l:List Px.Node}{k most:Nat}{left:List Nat}(hk:k<l.length)(h:¬l[k].kids< -1):E5.behind (l.drop k) left most k=
  if(E5.pops (left2 l[k] left)).isEmpty then(some (k+1),max most (left2 l[k] left).length)else E5.behind (l.drop (k+1)) (E5.pops (left2 l[k] left)) (max most (left2 l[k] left).length) (k+1):=by
 rw [List.drop_eq_getElem_cons hk,E5.behind,if_neg h];rfl
theorem J6(v:Value)(l:List Px.Node)(w:World)(h:Lies w 3 cNode v l)(hl:l.length<=4096)(hw:∀a∈l,-9223372036854775808<=a.kids/\a.kids<=9223372036854775807):
  Calls Tryz.prog 83 #[v,.int .i64 0] w fun e w'=>e= .returned (behV (E5.behind l [] 0 0))/\Same w w':=by
 obtain⟨va,vc,hv,hv1,hv2⟩:=h.slice;subst hv;have H:=zz (aN h hw);clear h hv2 hw;obtain⟨i0,hi0,hz0,hz1,hz2⟩:=info_parts Tryz.infoI64;go_enter Tryz.func83,Tryz.ntmps83;go_wp2;go_loopg [6,7,8] (l.length+1) (fun gk v6 t7 i wr=>∃(k most:Nat) (left:List Nat),gk+k=l.length+1/\k<=l.length/\i= .int .i64 (k:Nat)/\t7= .int .i64 (most:Nat)/\Hid (Beh w wr v6 l k most left))
 case atStart=>exact⟨0,0,[],rfl,Nat.zero_le _,rfl,rfl,zz ⟨⟨A4 _ _ _ _,sE w,nofun⟩,by rw [List.drop_zero],Nat.le_refl _,Nat.le_refl _,Nat.le_refl _,nofun,.inl rfl⟩⟩
 case round=>
  obtain⟨k,most,left,hgk,hk,rfl,rfl,HS⟩:=hrel;have HG:=zz hgk;clear hgk;obtain⟨la,lc,hv6⟩:=HS.out.nums.len;subst hv6;by_cases hlt:k<l.length
  ·have hlz:(k:Int)<(l.length:Int):=by omega
   obtain⟨g',rfl⟩:∃g',gk=g'+1:=⟨gk - 1,by have:=HG.out; omega⟩
   obtain⟨xb,xo,xc,hve,hxb,hcx⟩:=H.out.1.cell k l[k] (by simp [hlt]);simp only [Value.slice.injEq,true_and]at hve;obtain⟨rfl,rfl⟩:=hve;have hx1:=hcx 1 _ rfl;rw [<-Nat.add_assoc]at hx1;obtain⟨x,hx⟩:∃x,x=l[k]:=⟨_,rfl⟩
   rw [<-hx]at hx1;have hxl:=H.out.2 x (by rw [hx]; exact List.getElem_mem _);have hk1:=hxl.1;have hk2:=hxl.2;have HX:=zz (aN hx (show ∀W,Same w W->W.cell? ⟨xb,xo+k*3+1,none⟩=some (.int .i64 x.kids)from fun W hW=>(hW.cell (p:=⟨xb,xo+k*3+1,none⟩) hxb (fun x=>x)).trans hx1));have x1:=HX.out.2 wr HS.out.nums.same;clear hcx hx hx1 hxl;have hlen4:left.length<=4096:=by have:=HS.out.len; omega
   by_cases hneg:x.kids< -1
   ·have HR:=zz (show E5.behind l [] 0 0=(none,most) by rw [HS.out.eq]; exact FL hlt (by rw [<-HX.out.1]; exact hneg));go_wp2;go_ret2
    rw [HR.out];exact⟨rfl,HS.out.nums.same⟩
   ·have HSB:=zz (show E5.behind l [] 0 0=if(E5.pops (left2 x left)).isEmpty then(some (k+1),max most (left2 x left).length)else E5.behind (l.drop (k+1)) (E5.pops (left2 x left)) (max most (left2 x left).length) (k+1) by
     have h1:=HX.out.1;rw [HS.out.eq,h1];exact EG hlt (by rw [<-h1]; exact hneg))
    go_upto_if 25 with fail
    go_cut [] (fun wx=>Nums w wx (.slice la left.length lc) (E5.dec left))
    case first=>
     clear x1;rcases HS.out.top with rfl | ⟨n,rest,rfl⟩
     ·go_wp2_with fail;go_meet
      exact HS.out.nums
     ·obtain⟨g,cap,hve,hc1,hc2,hcell,hfz,hgl⟩:=HS.out.nums.top;simp only [List.length_cons,Value.slice.injEq,true_and]at hve;obtain⟨rfl,rfl⟩:=hve;unfold maxLen at hc2;have hsm:=HS.out.small (n+1) (by simp);have hk0:(0:Int)<(rest.length:Int)+1:=by omega
      have hn1:((n+1:Nat):Int)=(n:Int)+1:=by omega
      rw [hn1]at hcell hsm;have HSE:=zz (HS.out.nums.set n);have hwr:IntKind.i64.wrap ((n:Int)+1 - 1)=(n:Int):=by rw [show(n:Int)+1 - 1=n by omega]; exact IntWalk.i64_in _ ⟨by omega,by omega⟩
      have hwr2:IntKind.i64.wrap (n:Int)=(n:Int):=IntWalk.i64_in _ ⟨by omega,by omega⟩;clear hn1 hsm;rw [List.length_cons];go_wp2_with fail;go_meet
      exact HSE.out
    case rest=>
     have HN:=zz hcut;clear hcut x1;have x1:=HX.out.2 wc HN.out.same;have hdl:(E5.dec left).length=left.length:=E5.Bl left;have HDL:=zz hdl;clear hdl;go_upto_if 43 with fail
     go_cut [6] (fun v6 wx=>Nums w wx v6 (left2 x left))
     case first=>
      by_cases hlf:0<=x.kids
      ·have hlk:E5.leaf x=false:=df (by omega);have hkn:x.kids=((E5.count x:Nat):Int):=by unfold E5.count; omega
       have HE:=zz (show left2 x left=E5.count x::E5.dec left by unfold left2; rw [hlk]; rfl);rw [hkn]at x1;obtain⟨cn,hcn⟩:∃cn,cn=E5.count x:=⟨_,rfl⟩
       rw [<-hcn]at x1 HE;have hrow:=HN.out.row;rw [HDL.out]at hrow;obtain⟨RL,hRL⟩:∃RL,RL=(E5.dec left).reverse.flatMap cNum:=⟨_,rfl⟩
       rw [<-hRL]at hrow;have HO:=zz hrow;have HRL:=zz hRL;clear hrow hRL hlk hkn hcn;go_wp2_with (at_builtin; go_must (refine wpList_append_lies _ rfl _ _ _ rfl 0 3 i0 _ 1 8 Tryz.underlying51 hi0 hz0 hz1 hz2 rfl (by omega) (.slice la left.length lc) left.length RL rfl (HO.out.alloc _) ⟨wc.heap.size,0,none⟩ 1 1 [.int .i64 (cn:Nat)] rfl rfl (World.news_of_block (cs:= #[.int .i64 (cn:Nat)]) (t:=3) (fr:=(0,0)) (heap_alloc_new wc _)) (by simp [Value.oneCell']) (by omega) (by unfold maxLen; omega) (by omega) (by omega) (wc.heap.size+1) (by simp) ?_))
       intro gg cap WY hown1 hgrow hat hlt1;rw [HRL.out]at hown1;have HP:=zz (show Nums w WY (.slice (some ⟨gg,0,none⟩) (left.length+1) cap) (cn::E5.dec left)from by
        have h1:=HN.out;have h2:=hown1;rw [<-HDL.out]at h1 h2 ⊢;exact Nums.push h1 h2 (AA (w:=wc) (by rw [<-HDL.out]at hgrow; exact hgrow)) (hat.imp (fun e=>by rw [HDL.out]; exact e) (fun e=>by omega)))
       clear hown1 hgrow hat;go_wp2_with fail;go_meet
       rw [HE.out];exact HP.out
      ·have hlk:E5.leaf x=true:=dt (by omega);have HE:=zz (show left2 x left=E5.dec left by unfold left2; rw [hlk]; rfl);clear hlk;go_wp2_with fail;go_meet
       rw [HE.out];exact HN.out
     case rest=>
      rename_i t6 _
      obtain⟨LL,hLL⟩:∃LL,LL=left2 x left:=⟨_,rfl⟩
      rw [<-hLL]at hcut HSB;have HN2:=zz hcut;obtain⟨lb,ld,hv6⟩:=hcut.len;clear hcut;subst hv6;obtain⟨MM,hMM⟩:∃MM,MM=max most LL.length:=⟨_,rfl⟩
      rw [<-hMM]at HSB;have hLL1:LL.length<=k+1:=by
       rw [hLL]; unfold left2;have:=HS.out.len;have:=HDL.out
       split
       ·omega
       ·rw [List.length_cons]; omega
      have HM:=zz hMM;have hm0:=HS.out.most;have hm1:MM<=k+1:=by omega
      have hm2:LL.length<=MM:=by omega
      have HLLs:=zz (show ∀c∈LL,(c:Int)<=9223372036854775807 from by
       have hd:∀c∈E5.dec left,(c:Int)<=9223372036854775807:=by
        have hs:=HS.out.small;cases left with
        | nil=>exact nofun
        | cons n rest=>
         intro c hc;rcases List.mem_cons.1 hc with rfl | hc
         ·have:=hs n (by simp); omega
         ·exact hs c (by simp [hc])
       rw [hLL]; unfold left2
       split
       ·exact hd
       ·intro c hc;rcases List.mem_cons.1 hc with rfl | hc
        ·unfold E5.count; omega
        ·exact hd c hc)
      clear x1 hMM hLL;go_upto_if 55 with fail
      go_cut [7] (fun t7 wx=>t7= .int .i64 (MM:Nat)/\wx=wc)
      case first=>
       by_cases hgt:most<LL.length
       ·have hgz:(most:Int)<(LL.length:Int):=by omega
        have HE:=zz (show MM=LL.length by rw [HM.out]; omega);clear hgt;go_wp2_with fail;go_meet
        rw [HE.out];exact⟨rfl,rfl⟩
       ·have hgz:¬(most:Int)<(LL.length:Int):=by omega
        have HE:=zz (show MM=most by rw [HM.out]; omega);clear hgt;go_wp2_with fail;go_meet
        rw [HE.out];exact⟨rfl,rfl⟩
      case rest=>
       obtain⟨rfl,hwc2⟩:=hcut;subst hwc2;obtain⟨wo,rfl⟩:∃wo:World,wo=wc:=⟨_,rfl⟩
       go_wp2;go_loopg [6] (LL.length+1) (fun gk2 v6 w2=>∃lf:List Nat,lf.length<gk2/\Hid (Nums w w2 v6 lf/\E5.pops lf=E5.pops LL/\lf.length<=LL.length/\∀c∈lf,(c:Int)<=9223372036854775807))
       case atStart=>exact⟨LL,by omega,zz ⟨HN2.out,rfl,Nat.le_refl _,HLLs.out⟩⟩
       case round=>
        obtain⟨lf,hgl,HQ⟩:=hrel;have HGL:=zz hgl;clear hgl;rcases hlf:lf with _ | ⟨ci,rs⟩
        ·rw [hlf]at HQ;obtain⟨a2,c2,hv2⟩:=HQ.out.1.len;subst hv2;have HR:=zz (show E5.behind l [] 0 0=(some (k+1),MM) by
          rw [HSB.out,if_pos];have:=HQ.out.2.1;rw [<-this];rfl)
         clear hlf HGL;go_wp2;go_ret2
         rw [HR.out];exact⟨by unfold behV; go_num,HQ.out.1.same⟩
        ·rw [hlf]at HQ HGL;obtain⟨g2,c2,rfl,hc1,hc2,hcell,hfz,hg2⟩:=HQ.out.1.top;unfold maxLen at hc2;clear hlf;by_cases hc0:ci=0
         ·subst hc0;go_wp2;go_roundg (rs.length+1)
          case measure=>have:=HGL.out; simp at this; omega
          case rel=>exact⟨rs,by omega,zz ⟨HQ.out.1.pop,HQ.out.2.1,Nat.le_of_succ_le HQ.out.2.2.1,fun c hc=>HQ.out.2.2.2 c (by simp [hc])⟩⟩
         ·have hcz:((ci:Int)==0)=false:=by simpa using hc0
          have hzz:(((rs.length:Int)+1)==0)=false:=bn (by omega);have HC:=zz hc0;clear hc0;go_wp2;go_roundg g'
          case measure=>omega
          case rel=>
           have hp:=HQ.out.2.1;have e:E5.pops (ci::rs)=ci::rs:=by unfold E5.pops; rw [if_neg HC.out]
           refine⟨k+1,MM,ci::rs,by have:=HG.out; omega,by omega,by go_num,rfl,zz ⟨HQ.out.1,?_,?_,?_,hm1,HQ.out.2.2.2,.inr ⟨ci - 1,rs,by rw [Nat.sub_add_cancel (Nat.one_le_iff_ne_zero.2 HC.out)]⟩⟩⟩
           ·rw [HSB.out,<-hp,e];rfl
           ·have:=HQ.out.2.2.1; omega
           ·have:=HQ.out.2.2.1; omega
  ·have hlz:¬(k:Int)<(l.length:Int):=by omega
   have HR:=zz (show E5.behind l [] 0 0=(none,most) by
    rw [HS.out.eq,show k=l.length by omega,List.drop_length];rfl)
   go_wp2;go_ret2
   rw [HR.out];exact⟨rfl,HS.out.nums.same⟩
structure BehA (p:Nat) (w wr:World) (v:Value) (l:List Px.Node) (k most:Nat) (left:List Nat):Prop where
 nums:Nums w wr v left
 eq:E5.behind (l.drop p) [] 0 p=E5.behind (l.drop k) left most k
 len:left.length<=k
 mlen:left.length<=most
 most:most<=k
 small:∀c∈left,(c:Int)<=9223372036854775807
 top:left=[]\/∃n r,left=(n+1)::r
theorem H9(v:Value)(l:List Px.Node)(p:Nat)(hp:p<=l.length)(w:World)(h:Lies w 3 cNode v l)(hl:l.length<=4096)(hw:∀a∈l,-9223372036854775808<=a.kids/\a.kids<=9223372036854775807):
  Calls Tryz.prog 83 #[v,.int .i64 (p:Nat)] w fun e w'=>e= .returned (behV (E5.behind (l.drop p) [] 0 p))/\Same w w':=by
 obtain⟨va,vc,hv,hv1,hv2⟩:=h.slice;subst hv;have H:=zz (aN h hw);clear h hv2 hw;obtain⟨i0,hi0,hz0,hz1,hz2⟩:=info_parts Tryz.infoI64;go_enter Tryz.func83,Tryz.ntmps83;go_wp2;go_loopg [6,7,8] (l.length+1 - p) (fun gk v6 t7 i wr=>∃(k most:Nat) (left:List Nat),gk+k=l.length+1/\k<=l.length/\i= .int .i64 (k:Nat)/\t7= .int .i64 (most:Nat)/\Hid (BehA p w wr v6 l k most left))
 case atStart=>exact⟨p,0,[],by omega,hp,rfl,rfl,zz ⟨⟨A4 _ _ _ _,sE w,nofun⟩,rfl,Nat.zero_le _,Nat.le_refl _,Nat.zero_le _,nofun,.inl rfl⟩⟩
 case round=>
  obtain⟨k,most,left,hgk,hk,rfl,rfl,HS⟩:=hrel;have HG:=zz hgk;clear hgk;obtain⟨la,lc,hv6⟩:=HS.out.nums.len;subst hv6;by_cases hlt:k<l.length
  ·have hlz:(k:Int)<(l.length:Int):=by omega
   obtain⟨g',rfl⟩:∃g',gk=g'+1:=⟨gk - 1,by have:=HG.out; omega⟩
   obtain⟨xb,xo,xc,hve,hxb,hcx⟩:=H.out.1.cell k l[k] (by simp [hlt]);simp only [Value.slice.injEq,true_and]at hve;obtain⟨rfl,rfl⟩:=hve;have hx1:=hcx 1 _ rfl;rw [<-Nat.add_assoc]at hx1;obtain⟨x,hx⟩:∃x,x=l[k]:=⟨_,rfl⟩
   rw [<-hx]at hx1;have hxl:=H.out.2 x (by rw [hx]; exact List.getElem_mem _);have hk1:=hxl.1;have hk2:=hxl.2;have HX:=zz (aN hx (show ∀W,Same w W->W.cell? ⟨xb,xo+k*3+1,none⟩=some (.int .i64 x.kids)from fun W hW=>(hW.cell (p:=⟨xb,xo+k*3+1,none⟩) hxb (fun x=>x)).trans hx1));have x1:=HX.out.2 wr HS.out.nums.same;clear hcx hx hx1 hxl;have hlen4:left.length<=4096:=by have:=HS.out.len; omega
   by_cases hneg:x.kids< -1
   ·have HR:=zz (show E5.behind (l.drop p) [] 0 p=(none,most) by rw [HS.out.eq]; exact FL hlt (by rw [<-HX.out.1]; exact hneg));go_wp2;go_ret2
    rw [HR.out];exact⟨rfl,HS.out.nums.same⟩
   ·have HSB:=zz (show E5.behind (l.drop p) [] 0 p=if(E5.pops (left2 x left)).isEmpty then(some (k+1),max most (left2 x left).length)else E5.behind (l.drop (k+1)) (E5.pops (left2 x left)) (max most (left2 x left).length) (k+1) by
     have h1:=HX.out.1;rw [HS.out.eq,h1];exact EG hlt (by rw [<-h1]; exact hneg))
    go_upto_if 25 with fail
    go_cut [] (fun wx=>Nums w wx (.slice la left.length lc) (E5.dec left))
    case first=>
     clear x1;rcases HS.out.top with rfl | ⟨n,rest,rfl⟩
     ·go_wp2_with fail;go_meet
      exact HS.out.nums
     ·obtain⟨g,cap,hve,hc1,hc2,hcell,hfz,hgl⟩:=HS.out.nums.top;simp only [List.length_cons,Value.slice.injEq,true_and]at hve;obtain⟨rfl,rfl⟩:=hve;unfold maxLen at hc2;have hsm:=HS.out.small (n+1) (by simp);have hk0:(0:Int)<(rest.length:Int)+1:=by omega
      have hn1:((n+1:Nat):Int)=(n:Int)+1:=by omega
      rw [hn1]at hcell hsm;have HSE:=zz (HS.out.nums.set n);have hwr:IntKind.i64.wrap ((n:Int)+1 - 1)=(n:Int):=by rw [show(n:Int)+1 - 1=n by omega]; exact IntWalk.i64_in _ ⟨by omega,by omega⟩
      have hwr2:IntKind.i64.wrap (n:Int)=(n:Int):=IntWalk.i64_in _ ⟨by omega,by omega⟩;clear hn1 hsm;rw [List.length_cons];go_wp2_with fail;go_meet
      exact HSE.out
    case rest=>
     have HN:=zz hcut;clear hcut x1;have x1:=HX.out.2 wc HN.out.same;have hdl:(E5.dec left).length=left.length:=E5.Bl left;have HDL:=zz hdl;clear hdl;go_upto_if 43 with fail
     go_cut [6] (fun v6 wx=>Nums w wx v6 (left2 x left))
     case first=>
      by_cases hlf:0<=x.kids
      ·have hlk:E5.leaf x=false:=df (by omega);have hkn:x.kids=((E5.count x:Nat):Int):=by unfold E5.count; omega
       have HE:=zz (show left2 x left=E5.count x::E5.dec left by unfold left2; rw [hlk]; rfl);rw [hkn]at x1;obtain⟨cn,hcn⟩:∃cn,cn=E5.count x:=⟨_,rfl⟩
       rw [<-hcn]at x1 HE;have hrow:=HN.out.row;rw [HDL.out]at hrow;obtain⟨RL,hRL⟩:∃RL,RL=(E5.dec left).reverse.flatMap cNum:=⟨_,rfl⟩
       rw [<-hRL]at hrow;have HO:=zz hrow;have HRL:=zz hRL;clear hrow hRL hlk hkn hcn;go_wp2_with (at_builtin; go_must (refine wpList_append_lies _ rfl _ _ _ rfl 0 3 i0 _ 1 8 Tryz.underlying51 hi0 hz0 hz1 hz2 rfl (by omega) (.slice la left.length lc) left.length RL rfl (HO.out.alloc _) ⟨wc.heap.size,0,none⟩ 1 1 [.int .i64 (cn:Nat)] rfl rfl (World.news_of_block (cs:= #[.int .i64 (cn:Nat)]) (t:=3) (fr:=(0,0)) (heap_alloc_new wc _)) (by simp [Value.oneCell']) (by omega) (by unfold maxLen; omega) (by omega) (by omega) (wc.heap.size+1) (by simp) ?_))
       intro gg cap WY hown1 hgrow hat hlt1;rw [HRL.out]at hown1;have HP:=zz (show Nums w WY (.slice (some ⟨gg,0,none⟩) (left.length+1) cap) (cn::E5.dec left)from by
        have h1:=HN.out;have h2:=hown1;rw [<-HDL.out]at h1 h2 ⊢;exact Nums.push h1 h2 (AA (w:=wc) (by rw [<-HDL.out]at hgrow; exact hgrow)) (hat.imp (fun e=>by rw [HDL.out]; exact e) (fun e=>by omega)))
       clear hown1 hgrow hat;go_wp2_with fail;go_meet
       rw [HE.out];exact HP.out
      ·have hlk:E5.leaf x=true:=dt (by omega);have HE:=zz (show left2 x left=E5.dec left by unfold left2; rw [hlk]; rfl);clear hlk;go_wp2_with fail;go_meet
       rw [HE.out];exact HN.out
     case rest=>
      rename_i t6 _
      obtain⟨LL,hLL⟩:∃LL,LL=left2 x left:=⟨_,rfl⟩
      rw [<-hLL]at hcut HSB;have HN2:=zz hcut;obtain⟨lb,ld,hv6⟩:=hcut.len;clear hcut;subst hv6;obtain⟨MM,hMM⟩:∃MM,MM=max most LL.length:=⟨_,rfl⟩
      rw [<-hMM]at HSB;have hLL1:LL.length<=k+1:=by
       rw [hLL]; unfold left2;have:=HS.out.len;have:=HDL.out
       split
       ·omega
       ·rw [List.length_cons]; omega
      have HM:=zz hMM;have hm0:=HS.out.most;have hm1:MM<=k+1:=by omega
      have hm2:LL.length<=MM:=by omega
      have HLLs:=zz (show ∀c∈LL,(c:Int)<=9223372036854775807 from by
       have hd:∀c∈E5.dec left,(c:Int)<=9223372036854775807:=by
        have hs:=HS.out.small;cases left with
        | nil=>exact nofun
        | cons n rest=>
         intro c hc;rcases List.mem_cons.1 hc with rfl | hc
         ·have:=hs n (by simp); omega
         ·exact hs c (by simp [hc])
       rw [hLL]; unfold left2
       split
       ·exact hd
       ·intro c hc;rcases List.mem_cons.1 hc with rfl | hc
        ·unfold E5.count; omega
        ·exact hd c hc)
      clear x1 hMM hLL;go_upto_if 55 with fail
      go_cut [7] (fun t7 wx=>t7= .int .i64 (MM:Nat)/\wx=wc)
      case first=>
       by_cases hgt:most<LL.length
       ·have hgz:(most:Int)<(LL.length:Int):=by omega
        have HE:=zz (show MM=LL.length by rw [HM.out]; omega);clear hgt;go_wp2_with fail;go_meet
        rw [HE.out];exact⟨rfl,rfl⟩
       ·have hgz:¬(most:Int)<(LL.length:Int):=by omega
        have HE:=zz (show MM=most by rw [HM.out]; omega);clear hgt;go_wp2_with fail;go_meet
        rw [HE.out];exact⟨rfl,rfl⟩
      case rest=>
       obtain⟨rfl,hwc2⟩:=hcut;subst hwc2;obtain⟨wo,rfl⟩:∃wo:World,wo=wc:=⟨_,rfl⟩
       go_wp2;go_loopg [6] (LL.length+1) (fun gk2 v6 w2=>∃lf:List Nat,lf.length<gk2/\Hid (Nums w w2 v6 lf/\E5.pops lf=E5.pops LL/\lf.length<=LL.length/\∀c∈lf,(c:Int)<=9223372036854775807))
       case atStart=>exact⟨LL,by omega,zz ⟨HN2.out,rfl,Nat.le_refl _,HLLs.out⟩⟩
       case round=>
        obtain⟨lf,hgl,HQ⟩:=hrel;have HGL:=zz hgl;clear hgl;rcases hlf:lf with _ | ⟨ci,rs⟩
        ·rw [hlf]at HQ;obtain⟨a2,c2,hv2⟩:=HQ.out.1.len;subst hv2;have HR:=zz (show E5.behind (l.drop p) [] 0 p=(some (k+1),MM) by
          rw [HSB.out,if_pos];have:=HQ.out.2.1;rw [<-this];rfl)
         clear hlf HGL;go_wp2;go_ret2
         rw [HR.out];exact⟨by unfold behV; go_num,HQ.out.1.same⟩
        ·rw [hlf]at HQ HGL;obtain⟨g2,c2,rfl,hc1,hc2,hcell,hfz,hg2⟩:=HQ.out.1.top;unfold maxLen at hc2;clear hlf;by_cases hc0:ci=0
         ·subst hc0;go_wp2;go_roundg (rs.length+1)
          case measure=>have:=HGL.out; simp at this; omega
          case rel=>exact⟨rs,by omega,zz ⟨HQ.out.1.pop,HQ.out.2.1,Nat.le_of_succ_le HQ.out.2.2.1,fun c hc=>HQ.out.2.2.2 c (by simp [hc])⟩⟩
         ·have hcz:((ci:Int)==0)=false:=by simpa using hc0
          have hzz:(((rs.length:Int)+1)==0)=false:=bn (by omega);have HC:=zz hc0;clear hc0;go_wp2;go_roundg g'
          case measure=>omega
          case rel=>
           have hp:=HQ.out.2.1;have e:E5.pops (ci::rs)=ci::rs:=by unfold E5.pops; rw [if_neg HC.out]
           refine⟨k+1,MM,ci::rs,by have:=HG.out; omega,by omega,by go_num,rfl,zz ⟨HQ.out.1,?_,?_,?_,hm1,HQ.out.2.2.2,.inr ⟨ci - 1,rs,by rw [Nat.sub_add_cancel (Nat.one_le_iff_ne_zero.2 HC.out)]⟩⟩⟩
           ·rw [HSB.out,<-hp,e];rfl
           ·have:=HQ.out.2.2.1; omega
           ·have:=HQ.out.2.2.1; omega
  ·have hlz:¬(k:Int)<(l.length:Int):=by omega
   have HR:=zz (show E5.behind (l.drop p) [] 0 p=(none,most) by
    rw [HS.out.eq,show k=l.length by omega,List.drop_length];rfl)
   go_wp2;go_ret2
   rw [HR.out];exact⟨rfl,HS.out.nums.same⟩
end Go.Proofs.YtpfhollohodcjaaGreatDoor
namespace Go.Px.Cm
open E5 Co
def valsN(L:List Node)(m:Nat):RS->RS
 | .run c=> .run (anyC L m c)
 | .bad e=> .bad e
theorem J7(L:List Node)(t:RS):rVals L t=valsN L (cntOf t) (rMust (isBad t || decide (0<cntOf t)) 9 t):=by
 cases t with
 | bad e=>rfl
 | run c=>
  show(if c.left.headD 0=0 then RS.bad 9 else RS.run (anyC L (c.left.headD 0) c))=valsN L (c.left.headD 0) (rMust (false || decide (0<c.left.headD 0)) 9 (.run c));by_cases h:c.left.headD 0=0
  ·rw [if_pos h,df (by omega)];rfl
  ·rw [if_neg h,dt (by omega)];rfl
theorem J8{L:List Node}{c:Cu}{m:Nat}(hr:∀a∈L,right a=true)(hf:Fits L c)(hm:c.left.headD 0=m+1):rNone L (.run c)=false/\∀c',rAttr L (.run c)= .run c'->c'.left.headD 0=m:=by
 obtain⟨r,hc⟩:∃r,c.left=(m+1)::r:=by
  cases h:c.left with
  | nil=>exact absurd h hf.1
  | cons n r=>
   rw [h]at hm;exact⟨r,by rw [show n=m+1 from hm]⟩
 refine⟨bn (Cv hf hc),fun c' hq=>?_⟩;have hrc:=(Jh hr).run c hf;have hE:=C8 hr c;cases hp:inn L 0x30 (attrQ L) c with
 | error e=>
  rw [hp]at hrc;have h2:rAttr L (.run c)= .bad e:=hrc;rw [h2]at hq;cases hq
 | ok q=>
  obtain⟨x,c1⟩:=q;rw [hp]at hrc;obtain⟨hf1,ts,n,r2,⟨_,_,_,rfl⟩,k1,k2,_⟩:=hE x c1 hp hf;have h2:rAttr L (.run c)= .run c1:=congrArg Prod.snd (show((),rAttr L (.run c))=(x,RS.run c1)from hrc);rw [h2]at hq;cases hq;rw [hc]at k1;simp only [List.cons.injEq,List.length_cons,List.length_nil]at k1;rw [k2];show n=m;omega
theorem Lc{L:List Node}{c c4:Cu}{k:Nat}(hr:∀a∈L,right a=true)(hf:Fits L c)(hp:peek L c=0xa1)(hk:k=(L.getD c.at_ nz).kids.toNat)(h:rOut (rAttrN L k (rMust (decide (0<k)) 9 (.run ⟨c.at_+1,k::dec c.left⟩)))= .run c4):inn L 0xa1 (attrP L) c= .ok ((),c4):=by
 have ht:take L 0xa1 c= .ok ((L.getD c.at_ nz).body,⟨c.at_+1,dec c.left⟩):=by
  unfold take;rw [if_pos hp]
 have hfi:=CU hr (t:=0xa1) (by decide) (by decide) ht hf;rw [<-hk]at hfi;by_cases h0:0<k
 ·rw [dt h0]at h;replace h:rOut (rAttrN L k (.run ⟨c.at_+1,k::dec c.left⟩))= .run c4:=h;have hN:=EV hr _ _ hfi rfl;unfold Cm.inn;rw [ht];dsimp only;rw [<-hk];have hP:∀c,attrP L c=attrN L (c.left.headD 0) c:=fun _=>rfl
  rw [hP];cases hq:attrN L ((⟨c.at_+1,k::dec c.left⟩:Cu).left.headD 0) ⟨c.at_+1,k::dec c.left⟩with
  | error e=>
   rw [hq]at hN;have h2:rAttrN L k (.run ⟨c.at_+1,k::dec c.left⟩)= .bad e:=hN;rw [h2]at h;cases h
  | ok q=>
   obtain⟨v,c2⟩:=q;rw [hq]at hN;have h2:rAttrN L k (.run ⟨c.at_+1,k::dec c.left⟩)= .run c2:=hN;rw [h2]at h;replace h:(match c2.left with | (_+1)::_=>RS.bad 9 | _=>RS.run ⟨c2.at_,c2.left.tail⟩)= .run c4:=h;dsimp only;unfold out;cases hl2:c2.left with
   | nil=>
    rw [hl2]at h;simp only [RS.run.injEq]at h;rw [<-h]
   | cons n r=>
    rw [hl2]at h;cases n with
    | zero=>
     simp only [RS.run.injEq]at h;rw [<-h]
    | succ n=>cases h
 ·rw [df h0]at h;replace h:rOut (rAttrN L k (.bad 9))= .run c4:=h;rw [Da]at h;cases h
theorem N3{L:List Node}{k:Cu}{n:Nat}{r:List Nat}(hf:Fits L k)(hk:k.left=(n+1)::r):k.at_<=L.length/\nx L k.at_<=L.length/\∃m,behind (L.drop k.at_) [] 0 k.at_=(some (nx L k.at_),m):=by
 have hst:=hf.2;rw [hk]at hst;obtain⟨x,y,o,q,hx1,hx2,_⟩:=B0 hst;have hnx:=GR hx2 hx1;obtain⟨m,hm⟩:=hx2.beh y k.at_;have hlt:=Go.Proofs.YtpfhollohodcjaaGreatDoor.fits_lt hf hk;have hl:=congrArg List.length hx1;rw [List.length_drop,List.length_append]at hl;refine⟨by omega,by omega,m,?_⟩;rw [hx1,hm,hnx]
theorem Nw{L:List Node}{k:Cu}{n:Nat}{r:List Nat}(hk:k.left=(n+1)::r):anyC L (n+1) k=anyC L n ⟨nx L k.at_,n::r⟩:=by
 show anyC L n ⟨nx L k.at_,dec k.left⟩=_;rw [hk];rfl
end Go.Px.Cm
