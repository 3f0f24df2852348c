import Derived.Test.YtpfhollohodcjaaGreatDoorVO
import Derived.Laws.OwnMore
set_option maxRecDepth 100000
set_option maxHeartbeats 8000000
namespace Go.Proofs.YtpfhollohodcjaaGreatDoor
open Go.RowKit Go.Px Go.Px.R5
theorem FD:∀n:Nat,(List.replicate n 0).flatMap cNum=List.replicate n (Value.int .i64 0)
 | 0=>rfl
 | n+1=>by rw [List.replicate_succ,List.flatMap_cons,FD n,List.replicate_succ]; rfl
theorem JV(n:Nat):(madeCells #[Value.int .i64 0] n).toList=(List.replicate n 0).flatMap cNum:=by
 rw [FD];apply List.ext_getElem
 ·simp [madeCells]
 ·intro i h1 h2;simp [madeCells,Nat.mod_one]
def SizeP(w:World)(l:List Px.Node)(b:Bytes)(e:Ending)(w':World):Prop:=
 ∃sv,Same w w'/\((262144<b.length/\e= .returned (.tuple #[sv,.bool false]))\/
  (b.length<=262144/\e= .returned (.tuple #[sv,.bool true])/\Owns w' 3 1 cNum sv (E5.szR l).1))
theorem SizeP.long{w w':World}{l:List Px.Node}{b:Bytes}{e:Ending}(sv:Value)(hs:Same w w')(hb:262144<b.length)(he:e= .returned (.tuple #[sv,.bool false])):SizeP w l b e w':=⟨sv,hs,.inl ⟨hb,he⟩⟩
theorem SizeP.ok{w w':World}{l:List Px.Node}{b:Bytes}{e:Ending}(sv:Value)(hs:Same w w')(hb:b.length<=262144)(he:e= .returned (.tuple #[sv,.bool true]))(ho:Owns w' 3 1 cNum sv (E5.szR l).1):SizeP w l b e w':=⟨sv,hs,.inr ⟨hb,he,ho⟩⟩
structure Siz (w wr:World) (ov v5:Value) (l:List Px.Node) (k:Nat):Prop where
 out:Owns wr 3 1 cNum ov (List.replicate k 0++(E5.szR (l.drop k)).1)
 done:Nums w wr v5 (E5.szR (l.drop k)).2
 small:∀n∈(E5.szR (l.drop k)).2,n<=262154
 len:(E5.szR (l.drop k)).2.length<=l.length - k
 ap:Apart ov.ownBlock v5.ownBlock
 outNew:∀g,ov.ownBlock=some g->w.heap.size<=g
theorem Hv:∀(l:List Px.Node) (j:Nat),(E5.szR l).1.drop j=(E5.szR (l.drop j)).1
 | [],j=>by simp [E5.szR]
 | a::r,0=>rfl
 | a::r,j+1=>by
  rw [E5.Dw,List.drop_succ_cons,List.drop_succ_cons];exact Hv r j
theorem GL(D:List Nat)(c d:Nat)(rest:List Nat)(h:D.drop c=d::rest):(D.take (c+1)).sum=(D.take c).sum+d/\D.drop (c+1)=rest:=by
 have hc:c<D.length:=by
  rcases Nat.lt_or_ge c D.length with h1 | h1
  ·exact h1
  ·rw [List.drop_eq_nil_of_le h1]at h; cases h
 have h2:=List.drop_eq_getElem_cons hc;rw [h2]at h;simp only [List.cons.injEq]at h;refine⟨?_,h.2⟩;rw [List.take_succ_eq_append_getElem hc,List.sum_append,h.1];simp
theorem NU(D:List Nat)(m:Nat)(h:∀n∈D,n<=m):D.sum<=D.length*m:=by
 induction D with
 | nil=>simp
 | cons a D ih=>
  have h1:=h a (by simp);have h2:=ih (fun n hn=>h n (by simp [hn]));rw [List.sum_cons,List.length_cons,Nat.add_mul];omega
theorem FE(v:Value)(l:List Px.Node)(w:World)(h:Lies w 3 cNode v l)(hn:l≠ [])(hl:l.length<=4096)(hw:∀a∈l,a.body.length<=140737488355327)(b:Bytes)(o:Bool)(hel:E5.El 32 l b o):
  Calls Tryz.prog 88 #[v] w (SizeP w l b):=by
 obtain⟨va,vc,hv,hv1,hv2⟩:=h.slice;subst hv;have hll:0<l.length:=List.length_pos_iff.2 hn;obtain⟨i0,hi0,hz0,hz1,hz2⟩:=info_parts Tryz.infoI64;have hmk:∀W:World,(Instr.makeSlice 51 (.int .i64 (l.length:Nat)) (.int .i64 (l.length:Nat))).run Tryz.prog W= .ok (.slice (some ⟨W.heap.size,0,none⟩) l.length l.length) (W.alloc (.cells (madeCells #[.int .i64 0] l.length) 3 (0,0))):=fun W=>by
  have:=run_make (P:=Tryz.prog) W 51 3 i0 (.int .i64 0) Tryz.underlying51 hi0 hz0 .i64 .i64 (l.length:Nat) (l.length:Nat) (by omega) (Int.le_refl _) (by rw [hz2]; omega) (by omega);rw [hz1,Int.toNat_natCast,Nat.mul_one]at this;exact this
 have H:=zz (aN h (aN hw hel.whole));clear h hw hn hel;go_enter Tryz.func88,Tryz.ntmps88;go_wp2;have HO:=zz (show Siz w (w.alloc (.cells (madeCells #[.int .i64 0] l.length) 3 (0,0))) (.slice (some ⟨w.heap.size,0,none⟩) l.length l.length) (.slice none 0 0) l l.length from by
  have hdr:l.drop l.length=[]:=List.drop_length;refine⟨?_,?_,?_,?_,nofun,?_⟩
  ·rw [hdr];have h1:=World.ownsRow_lit (base:=0) (e:=3) (size:=1) w (madeCells #[.int .i64 0] l.length) l.length (Nat.zero_le _) (by unfold maxLen; omega) (by rw [size_madeCells,Nat.mul_one]);show Owns _ _ _ _ _ (List.replicate l.length 0++ []);rw [List.append_nil];unfold Owns;rw [List.length_replicate,<-JV];exact h1
  ·rw [hdr]; exact⟨A4 _ _ _ _,(sE w).alloc _,nofun⟩
  ·rw [hdr]; exact nofun
  ·rw [hdr]; exact Nat.zero_le _
  ·intro g hg;simp only [Value.ownBlock,Option.some.injEq]at hg;omega)
 clear hmk;go_loopw [5,6] (fun v5 ii wr=>∃k:Nat,k<=l.length/\ii= .int .i64 ((k:Int) - 1)/\Hid (Siz w wr (.slice (some ⟨w.heap.size,0,none⟩) l.length l.length) v5 l k)) (fun _ ii _=>(intOf ii+1).toNat)
 case atStart=>exact⟨l.length,Nat.le_refl _,rfl,HO⟩
 case round=>
  clear HO;obtain⟨k,hk,rfl,HS⟩:=hrel;cases k with
  | zero=>
   have hz:¬(0:Int)<=((0:Nat):Int) - 1:=by omega
   have hD:(E5.szR (l.drop 0)).2=[b.length]:=by rw [List.drop_zero]; exact H.out.2.2.1
   have hdn:=HS.out.done;rw [hD]at hdn;obtain⟨g,cap,hve,hc1,hc2,hcell,hfz,hgl⟩:=hdn.top;simp only [List.length_nil,Nat.zero_add]at hve hc1 hcell;rw [hve];unfold maxLen at hc2;have hout:=HS.out.out;rw [List.replicate_zero,List.nil_append,List.drop_zero]at hout;have HX:=zz (aN hdn.same hout);clear hdn hout hD hve hfz HS;go_wp2_with fail;go_region
   go_wp2;go_ret2
   by_cases hb:b.length<=262144
   ·rw [dt (show(b.length:Int)<=262144 by omega)];exact SizeP.ok _ HX.out.1.drew hb rfl HX.out.2.drew
   ·rw [df (show ¬(b.length:Int)<=262144 by omega)];exact SizeP.long _ HX.out.1.drew (by omega) rfl
  | succ j=>
   have ej:((j+1:Nat):Int) - 1=(j:Int):=by omega
   have hjl:j<l.length:=by omega
   obtain⟨xb,xo,xc,hve,hxb,hcx⟩:=(Lies.same H.out.1 HS.out.done.same).cell j l[j] (by simp [hjl]);simp only [Value.slice.injEq,true_and]at hve;obtain⟨rfl,rfl⟩:=hve;have x1:=hcx 1 _ rfl;have x2:=hcx 2 _ rfl;rw [<-Nat.add_assoc]at x1 x2;obtain⟨x,hx⟩:∃x,x=l[j]:=⟨_,rfl⟩
   have hdj:l.drop j=x::l.drop (j+1):=by rw [hx]; exact List.drop_eq_getElem_cons hjl
   have hcnt:=H.out.2.2.2.2.2.1 (l.take j) x (l.drop (j+1)) (by rw [<-hdj,List.take_append_drop]);have hbl:=H.out.2.1 x (by rw [hx]; exact List.getElem_mem _);have hszx:(ByteArray.mk x.body.toArray).size=x.body.length:=Ad x.body;rw [<-hx]at x1 x2;clear hcx hx;obtain⟨D,hD⟩:∃D,D=(E5.szR (l.drop (j+1))).2:=⟨_,rfl⟩
   obtain⟨LN,hLN⟩:∃LN,LN=(E5.szR (l.drop (j+1))).1:=⟨_,rfl⟩
   obtain⟨cn,hcn⟩:∃cn,cn=E5.count x:=⟨_,rfl⟩
   have hmx:max x.kids 0=(cn:Int):=by rw [hcn]; unfold E5.count; omega
   obtain⟨hS1,hS2,hS3,hS4,hS5,hS6⟩:=HS.out;rw [<-hD]at hS2 hS3 hS4 hcnt;rw [<-hLN]at hS1;rw [<-hcn]at hcnt;have hszj:(E5.szR (l.drop j)).1=(x.body.length+(D.take cn).sum)::LN/\(E5.szR (l.drop j)).2=(x.body.length+(D.take cn).sum+E5.headN (x.body.length+(D.take cn).sum))::D.drop cn:=by
    rw [hdj,E5.Dw,hD,hLN,hcn];exact⟨rfl,rfl⟩
   have hDs:∀c,c<=cn->(D.take c).sum<=1100000000:=fun c hc=>by
    have h1:=NU (D.take c) 262154 (fun n hn=>hS3 n (List.mem_of_mem_take hn));rw [List.length_take]at h1;have h2:min c D.length*262154<=4096*262154:=Nat.mul_le_mul_right _ (by omega);omega
   have hcn4:cn<=4096:=by omega
   have HX:=zz (aN hS1 (aN hS2 (aN hS3 (aN hS4 (aN hS5 (aN hS6 (aN hszj (aN hcnt (aN hDs hbl)))))))));obtain⟨bl,hblx⟩:∃bl,bl=x.body.length:=⟨_,rfl⟩
   rw [<-hblx]at hszx hbl;have HBL:=zz hblx;obtain⟨va5,vc5,hve5⟩:=hS2.len;subst hve5;clear hS1 hS2 hS3 hS4 hS5 hS6 hszj hcnt hDs hD hLN hcn hdj HS hblx;rw [ej];clear ej;go_wp2;go_loop [5,7,30] (fun v5 n c=>∃(c':Nat),c'<=cn/\c= .int .i64 (c':Nat)/\n= .int .i64 ((bl+(D.take c').sum:Nat):Int)/\Hid (Nums w wr v5 (D.drop c')/\Apart (some w.heap.size) v5.ownBlock)) (fun _ _ c=>cn - (intOf c).toNat)
   case atStart=>exact⟨0,Nat.zero_le _,rfl,by simp,zz ⟨HX.out.2.1,HX.out.2.2.2.2.1⟩⟩
   case round=>
    obtain⟨c',hc',rfl,rfl,HN⟩:=hrel;have hsum:=HX.out.2.2.2.2.2.2.2.2.1 c' hc';obtain⟨sm,hsm⟩:∃sm,sm=bl+(D.take c').sum:=⟨_,rfl⟩
    rw [<-hsm];have hsmb:sm<=140740000000000:=by omega
    by_cases hlt:c'<cn
    ·have hltz:(c':Int)<(cn:Int):=by omega
     have hdd:=List.drop_eq_getElem_cons (l:=D) (i:=c') (by have:=HX.out.2.2.2.2.2.2.2.1; omega);obtain⟨d,hd⟩:∃d,d=D[c']'(by have:=HX.out.2.2.2.2.2.2.2.1; omega):=⟨_,rfl⟩
     have hdb:d<=262154:=by rw [hd]; exact HX.out.2.2.1 _ (List.getElem_mem _)
     rw [<-hd]at hdd;have hts:=GL D c' d _ hdd;have hnu:=HN.out.1;rw [hdd]at hnu;obtain⟨g,cap,hve,hc1,hc2,hcell,hfz,hgl⟩:=hnu.top;subst hve;unfold maxLen at hc2;obtain⟨rs,hrs⟩:∃rs,rs=D.drop (c'+1):=⟨_,rfl⟩
     rw [<-hrs]at hnu hcell hfz hc1 ⊢;have HE:=zz (aN hnu.pop (aN HN.out.2 (aN hrs (show sm+d=bl+(D.take (c'+1)).sum by rw [hts.1,hsm]; omega))));clear hd hdd hts hnu hrs hsm hsum HN;go_wp2;go_round
     case rel=>exact⟨c'+1,by omega,by go_num,by rw [<-HE.out.2.2.2]; go_num,zz ⟨by rw [<-HE.out.2.2.1]; exact HE.out.1,HE.out.2.1⟩⟩
     case measure=>simp [intOf]; omega
    ·have hltz:¬(c':Int)<(cn:Int):=by omega
     obtain rfl:c'=cn:=by omega
     obtain⟨va6,vc6,hve6⟩:=HN.out.1.len;subst hve6;have hszj:(E5.szR (l.drop j)).1=sm::LN/\(E5.szR (l.drop j)).2=(sm+E5.headN sm)::D.drop c':=by rw [hsm,HBL.out]; exact HX.out.2.2.2.2.2.2.1
     have HJ:=zz hszj;clear hsm hlt hszj;by_cases hbig:262144<sm
     ·have hbz:(262144:Int)<(sm:Int):=by omega
      have hbb:262144<b.length:=by
       have h1:=H.out.2.2.2.2.1 sm (List.mem_of_mem_drop (i:=j) (by rw [Hv,HJ.out.1]; simp));omega
      clear hbig;go_wp2;go_ret2
      exact SizeP.long _ HN.out.1.same hbb rfl
     ·have hbz:¬(262144:Int)<(sm:Int):=by omega
      have hget:(List.replicate (j+1) 0++LN)[j]?=some 0:=by
       rw [List.getElem?_append_left (by simp),List.getElem?_replicate,if_pos (by omega)]
      obtain⟨g0,cap0,hve0,_,_,hcell0,hfz0⟩:=HX.out.1.at Bk hget;simp only [Value.slice.injEq,Option.some.injEq,Addr.mk.injEq,and_true]at hve0;have hg0:=hve0.1;subst hg0;clear hve0;have k0:=hcell0 0 _ rfl;have f0:=hfz0 j;rw [Nat.mul_one,Nat.add_zero]at k0;have hset:=Dm Bk HX.out.1 hget 0 (by decide) (.int .i64 (sm:Nat)) (show cNum sm=_ from rfl);rw [Nat.mul_one,Nat.add_zero]at hset;have hl3:(List.replicate (j+1) 0++LN).set j sm=List.replicate j 0++(sm::LN):=by
       rw [List.replicate_succ',List.append_assoc,List.set_append_right _ _ (by simp)];simp
      rw [hl3]at hset;have hnb:(Value.slice va6 (D.drop c').length vc6).ownBlock≠some w.heap.size:=fun e=>HN.out.2 _ rfl e
      have HW:=zz (show Owns (wr.setCell ⟨w.heap.size,j,none⟩ (.int .i64 (sm:Nat))) 3 1 cNum (.slice (some ⟨w.heap.size,0,none⟩) l.length l.length) (List.replicate j 0++(sm::LN))/\Nums w (wr.setCell ⟨w.heap.size,j,none⟩ (.int .i64 (sm:Nat))) (.slice va6 (D.drop c').length vc6) (D.drop c')from
       ⟨hset,HN.out.1.own.setCell (p:=⟨w.heap.size,j,none⟩) hnb _,HN.out.1.same.setCell (p:=⟨w.heap.size,j,none⟩) (.inr (Nat.le_refl _)) _,HN.out.1.new⟩)
      have hhl:=L8 sm;obtain⟨hd,hhd⟩:∃hd,hd=E5.headN sm:=⟨_,rfl⟩
      rw [<-hhd]at hhl;have HHD:=zz hhd;have hwl:w.heap.size<wr.heap.size:=(HX.out.1.lt rfl)
      clear hset hget hcell0 hfz0 hl3 hnb hbig hhd;go_upto_region 15 with fail
      obtain⟨W1,hW1⟩:∃W1,W1=wr.setCell ⟨w.heap.size,j,none⟩ (.int .i64 (sm:Nat)):=⟨_,rfl⟩
      rw [<-hW1]at HW ⊢;clear hW1 k0 f0;have hrow:=HW.out.2.row;obtain⟨RL,hRL⟩:∃RL,RL=(D.drop c').reverse.flatMap cNum:=⟨_,rfl⟩
      rw [<-hRL]at hrow;have HRO:=zz hrow;have HRL:=zz hRL;have hdl:(D.drop c').length<=4096:=by rw [List.length_drop]; have:=HX.out.2.2.2.1; omega
      obtain⟨DL,hDL⟩:∃DL,DL=(D.drop c').length:=⟨_,rfl⟩
      rw [<-hDL]at hdl HRO ⊢;have HDL:=zz hDL;clear hrow hRL hDL;go_wp2_with fail;refine(Gx sm (by omega) _).mono ?_;rintro r w2x ⟨rfl,hw2x⟩;subst hw2x;rw [<-HHD.out];go_wp2_with (at_builtin; go_must (refine wpList_append_lies _ rfl _ _ _ rfl 0 3 i0 _ 1 8 Tryz.underlying51 hi0 hz0 hz1 hz2 rfl (by omega) (.slice va6 DL vc6) DL RL rfl (HRO.out.alloc _) ⟨W1.heap.size,0,none⟩ 1 1 [.int .i64 ((sm:Int)+hd)] rfl rfl (World.news_of_block (cs:= #[.int .i64 ((sm:Int)+hd)]) (t:=3) (fr:=(0,0)) (heap_alloc_new W1 _)) (by simp [Value.oneCell']) (by omega) (by unfold maxLen; omega) (by omega) (by omega) (W1.heap.size+1) (by simp) ?_))
      intro gg cap WY hown1 hgrow hat hlt1;rw [HRL.out,show(sm:Int)+hd=((sm+hd:Nat):Int) by omega]at hown1;have HP:=zz (show Siz w WY (.slice (some ⟨w.heap.size,0,none⟩) l.length l.length) (.slice (some ⟨gg,0,none⟩) (DL+1) cap) l j from by
       have h1:=HW.out.2;have h2:=hown1;have h3:=AA (w:=W1) hgrow;rw [HDL.out]at h2 h3 hat ⊢;have hnums:=Nums.push (n:=sm+hd) h1 h2 h3 (hat.imp id (fun e=>by omega));refine⟨?_,?_,?_,?_,?_,HX.out.2.2.2.2.2.1⟩
       ·rw [HJ.out.1];exact HW.out.1.grown h3 (fun g hg=>by
         simp only [Value.ownBlock,Option.some.injEq]at hg;subst hg;exact HN.out.2 _ rfl)
       ·rw [HJ.out.2,<-HHD.out]; exact hnums
       ·rw [HJ.out.2,<-HHD.out];intro m hm;rcases List.mem_cons.1 hm with rfl | hm
        ·omega
        ·exact HX.out.2.2.1 m (List.mem_of_mem_drop hm)
       ·rw [HJ.out.2,List.length_cons,List.length_drop];have:=HX.out.2.2.2.1;omega
       ·intro g hg e;simp only [Value.ownBlock,Option.some.injEq]at hg e;subst hg;rcases hat with q | q
        ·exact HN.out.2 _ rfl (by rw [q,e])
        ·have:=HW.out.1.lt (k:=w.heap.size) rfl;omega)
      clear hown1 hgrow hat;go_wp2;go_roundw
      case rel=>
       exact⟨j,by omega,rfl,HP⟩
      case measure=>simp [intOf]
end Go.Proofs.YtpfhollohodcjaaGreatDoor
namespace Go.Px
open Go.RowKit
theorem Fc{α:Type}{c:α->List Value}{sz:Nat}(hc:∀a,(c a).length=sz)(hs:0<sz):∀(l:List α) (j:Nat) (u:Value),(l.flatMap c)[j]?=some u->∃x,l[j / sz]?=some x/\(c x)[j % sz]?=some u
 | [],j,u,h=>by simp at h
 | a::t,j,u,h=>by
  rw [List.flatMap_cons]at h;by_cases hj:j<sz
  ·rw [List.getElem?_append_left (by rw [hc]; exact hj)]at h;exact⟨a,by rw [Nat.div_eq_of_lt hj]; rfl,by rw [Nat.mod_eq_of_lt hj]; exact h⟩
  ·rw [List.getElem?_append_right (by rw [hc]; omega),hc]at h;obtain⟨x,h1,h2⟩:=Fc hc hs t (j - sz) u h;have e:j=(j - sz)+sz:=by omega
   have e1:j / sz=(j - sz) / sz+1:=by
    conv=>lhs; rw [e]
    exact Nat.add_div_right _ hs
   have e2:j % sz=(j - sz) % sz:=by
    conv=>lhs; rw [e]
    exact Nat.add_mod_right _ _
   exact⟨x,by rw [e1]; exact h1,by rw [e2]; exact h2⟩
theorem Lies.src{α:Type}{P:Program}{w:World}{sz:Nat}{c:α->List Value}{v:Value}{l:List α}{tx e':TypeId}(h:Lies w sz c v l)(hc:∀a,(c a).length=sz)(hs:0<sz)(hk:P.underlying tx=some (.slice e'))(h1:∀u∈l.flatMap c,u.oneCell'=true):
  Src P sz tx v l.length (l.flatMap c) w:=by
 obtain⟨a,cap,hv,_,_⟩:=h.slice;cases l with
 | nil=>
  subst hv;cases a with
  | none=>exact Src.ofNil w hk cap
  | some ad=>exact Src.ofSlice w hk ad 0 cap [] (by simp) (fun j u hu=>by simp at hu) (fun u hu=>by cases hu)
 | cons x t=>
  obtain⟨b,off,cap2,hv2,_,_⟩:=h.cell 0 x rfl;rw [hv2];refine Src.ofSlice w hk ⟨b,off,none⟩ _ _ _ (Br hc _) (fun j u hu=>?_) h1;obtain⟨y,h2,h3⟩:=Fc hc hs _ j u hu;obtain⟨b',off',cap3,hv3,_,hcell⟩:=h.cell _ y h2;rw [hv2]at hv3;simp only [Value.slice.injEq,Option.some.injEq,Addr.mk.injEq,and_true,true_and]at hv3;obtain⟨⟨rfl,rfl⟩,_⟩:=hv3;have:=hcell _ u h3;have e:j / sz*sz+j % sz=j:=by rw [Nat.mul_comm]; exact Nat.div_add_mod j sz
  rw [e]at this;have hadd:(⟨b,off,none⟩:Addr).add j=⟨b,off+j,none⟩:=by unfold Addr.add; split<;>simp_all
  rw [hadd];exact this
theorem FF (P:Program) (w:World) (t tx ty:TypeId) (e:TypeId) (i:TypeInfo) (z:Value) (size bytes:Nat) (ht:P.underlying t=some (.slice e)) (hi:P.info? e=some i) (hz:i.zero=some z)
  (hsize:i.size=size) (hby:i.bytes=bytes) (hzs:z.cells.size=size) (b:Nat) (hb:w.heap[b]?=some (.cells #[] e (0,0)))
  (x:Value) (m:Nat) (news:List Value) (hs:Src P size tx x m news w) (h63:m<=maxLen) (hbytes:m*bytes<=140737488355328):
  ∃g cap w',(Builtin.append_ #[t,tx] ty #[.slice (some ⟨b,0,none⟩) 0 0,x]).run P w= .ok (.slice (some ⟨g,0,none⟩) m cap) w'/\
   w'.ownsRow 0 e size (.slice (some ⟨g,0,none⟩) m cap) m news/\w.grownBy w' none/\(g=b\/g=w.heap.size):=by
 subst hsize;subst hby;by_cases hm:m=0
 ·subst hm;have hnl:news=[]:=List.eq_nil_of_length_eq_zero (by rw [hs.newsLen]; simp);subst hnl;have hr:=run_append_room_src (P:=P) w t tx ty e i ht hi b 0 0 0 x 0 [] hs (Nat.le_refl _) (fun j hj=>absurd hj (Nat.not_lt_zero j)) (fun j hj=>absurd hj (Nat.not_lt_zero j));exact⟨b,0,w,hr,⟨by simp,.inr ⟨b,0,#[],rfl,Nat.zero_le _,hb,Nat.le_refl _,Nat.zero_le _,by simp,by simp⟩⟩,⟨rfl,rfl,rfl,Nat.le_refl _,fun _ _ _=>rfl⟩,.inl rfl⟩
 ·have hr:=run_append_grow_src (P:=P) w t tx ty e i z ht hi hz (some ⟨b,0,none⟩) 0 0 [] (run_firstCells_some w.drew i.size 0 ⟨b,0,none⟩ 0 0 [] (by simp) (fun j u hu=>by simp at hu)) x m news hs (by omega) (by unfold maxLen at h63; omega) (growslice_fits (by omega) (by rw [Nat.zero_add]; exact hbytes));simp only [Nat.zero_add,List.nil_append]at hr;refine⟨w.heap.size,_,_,hr,⟨hs.newsLen,.inr ⟨w.heap.size,_,_,rfl,Nat.zero_le _,heap_alloc_new w.drew _,grownCap_ge w m 0 e,grownCap_le_maxLen w m 0 e h63,?_,?_⟩⟩,⟨rfl,rfl,rfl,by simp,fun k hk _=>heap_alloc_old w.drew _ hk⟩,.inr rfl⟩
  ·have hge:=grownCap_ge w m 0 e;simp only [Array.size_append,List.size_toArray,size_zeroCells,hzs,hs.newsLen,<-Nat.add_mul]
   congr 1
   omega
  ·simp only [Array.toList_append];rw [<-hs.newsLen];exact List.take_left
theorem FZ {P:Program} {w:World} {o:Oper} {a:Act} {K:Act->World->Prop} {Q:Exit->Act->World->Prop} (s x:Operand) (t tx:TypeId)
  (ho:o.op= .call {callee:= .builtin .append,args:= #[s,x],argTypes:= #[t,tx]})
  (e:TypeId) (i:TypeInfo) (z:Value) (size bytes:Nat) (ht:P.underlying t=some (.slice e)) (hi:P.info? e=some i) (hz:i.zero=some z)
  (hsize:i.size=size) (hby:i.bytes=bytes) (hzs:z.cells.size=size) (b:Nat) (hs:a.eval s= .slice (some ⟨b,0,none⟩) 0 0) (hb:w.heap[b]?=some (.cells #[] e (0,0)))
  (vx:Value) (m:Nat) (news:List Value) (hx:a.eval x=vx) (hsrc:Src P size tx vx m news w) (h63:m<=maxLen) (hbytes:m*bytes<=140737488355328)
  (h:∀g cap w',w'.ownsRow 0 e size (.slice (some ⟨g,0,none⟩) m cap) m news->w.grownBy w' none->(g=b\/g=w.heap.size)->K (a.put o.dst (.slice (some ⟨g,0,none⟩) m cap)) w'):o.wp P a w K Q:=by
 obtain⟨g,cap,w',hr,h2,h3,h4⟩:=FF P w t tx o.type e i z size bytes ht hi hz hsize hby hzs b hb vx m news hsrc h63 hbytes;unfold Oper.wp execOp;simp only [ho,resolve,invoke,builtin,Sem.run_bind,Sem.run_pure,Result.andThen_ok,List.map_toArray,List.map_cons,List.map_nil,hs,hx,hr];exact h g cap w' h2 h3 h4
theorem Eb {P:Program} {w:World} {ops:Array Oper} {rest:List Oper} {o:Oper} {a:Act} {Q:Exit->Act->World->Prop} (hgd:o.guard=none) (s x:Operand) (t tx:TypeId)
  (ho:o.op= .call {callee:= .builtin .append,args:= #[s,x],argTypes:= #[t,tx]})
  (e:TypeId) (i:TypeInfo) (z:Value) (size bytes:Nat) (ht:P.underlying t=some (.slice e)) (hi:P.info? e=some i) (hz:i.zero=some z)
  (hsize:i.size=size) (hby:i.bytes=bytes) (hzs:z.cells.size=size) (b:Nat) (hs:a.eval s= .slice (some ⟨b,0,none⟩) 0 0) (hb:w.heap[b]?=some (.cells #[] e (0,0)))
  (vx:Value) (m:Nat) (news:List Value) (hx:a.eval x=vx) (hsrc:Src P size tx vx m news w) (h63:m<=maxLen) (hbytes:m*bytes<=140737488355328)
  (h:∀g cap w',w'.ownsRow 0 e size (.slice (some ⟨g,0,none⟩) m cap) m news->w.grownBy w' none->(g=b\/g=w.heap.size)->wpList P ops Q rest (a.put o.dst (.slice (some ⟨g,0,none⟩) m cap)) w'):wpList P ops Q (o::rest) a w:=
 wpList_plain hgd fun _ hK=>FZ s x t tx ho e i z size bytes ht hi hz hsize hby hzs b hs hb vx m news hx hsrc h63 hbytes fun g cap w' h2 h3 h4=>hK _ _ (h g cap w' h2 h3 h4)
theorem CP {P:Program} {w:World} {ops:Array Oper} {rest:List Oper} {o:Oper} {a:Act} {Q:Exit->Act->World->Prop} (hgd:o.guard=none) (s x:Operand) (t tx:TypeId)
  (ho:o.op= .call {callee:= .builtin .append,args:= #[s,x],argTypes:= #[t,tx]})
  (e:TypeId) (i:TypeInfo) (z:Value) (size bytes:Nat) (ht:P.underlying t=some (.slice e)) (hi:P.info? e=some i) (hz:i.zero=some z)
  (hsize:i.size=size) (hby:i.bytes=bytes) (hzs:z.cells.size=size)
  (v:Value) (n:Nat) (xs:List Value) (hs:a.eval s=v) (hown:w.ownsRow 0 e size v n xs)
  (vx:Value) (m:Nat) (news:List Value) (hx:a.eval x=vx) (hsrc:Src P size tx vx m news w)
  (hn:0<n) (h63:n+m<=maxLen) (hbytes:(n+m)*bytes<=140737488355328)
  (h:∀g cap w',w'.ownsRow 0 e size (.slice (some ⟨g,0,none⟩) (n+m) cap) (n+m) (xs++news)->w.grownBy w' v.ownBlock->(v.ownBlock=some g\/g=w.heap.size)->wpList P ops Q rest (a.put o.dst (.slice (some ⟨g,0,none⟩) (n+m) cap)) w'):wpList P ops Q (o::rest) a w:=
 wpList_plain hgd fun _ hK=>GK s x t tx ho e i z size bytes ht hi hz hsize hby hzs v n xs hs hown vx m news hx hsrc hn h63 hbytes fun g cap w' h2 h3 h4=>hK _ _ (h g cap w' h2 h3 h4)
end Go.Px
namespace Go.Proofs.YtpfhollohodcjaaGreatDoor
open Go.RowKit Go.Px Go.Px.R5
theorem Tryz.sizeU8(w:World):(Go.sizeOf 5).run Tryz.prog w= .ok 1 w:=by kernel_rfl
theorem Tryz.infoU8:(Tryz.prog.info? 5).map (fun i=>(i.zero,i.size,i.bytes))=some (some (.int .u8 0),1,1):=by kernel_rfl
theorem Owns.str{w:World}{v:Value}{l:List UInt8}(h:Owns w 5 1 cByte v l):(convert 145 9 v).run Tryz.prog w= .ok (S l) w:=by
 obtain⟨sv,hs,hc⟩:=h.bytesTo (P:=Tryz.prog) (p:=0) (Nat.zero_le _) (t:=145) (dst:=9) (by kernel_rfl) (by kernel_rfl) (by kernel_rfl) Tryz.sizeU8;have hc0:=hc 0;have hs0:=hs w;rcases h.2 with ⟨rfl,h0⟩| ⟨g,cap,cur,rfl,_,hg,hc1,hc2,_⟩
 ·rw [run_convert_bytes_nil _ 145 5 Tryz.underlying145 Tryz.underlying5 0 0 9 Tryz.underlying9,List.length_eq_zero_iff.1 h0];rfl
 ·have hcell:∀j,(hj:j<l.length)->w.cell? ⟨g,0+j,none⟩=some (.int .u8 (l[j].toNat)):=by
   intro j hj;obtain⟨g',cap',hv,_,_,hc,_⟩:=h.at A7 (j:=j) (a:=l[j]) (by simp [hj]);simp only [Value.slice.injEq,Option.some.injEq,Addr.mk.injEq,and_true,true_and]at hv;obtain⟨rfl,rfl⟩:=hv;have:=hc 0 _ rfl;simpa using this
  rw [run_convert_bytes_arg w 145 5 Tryz.underlying145 Tryz.underlying5 g 0 l.length cap (l.map fun c=>((c.toNat:Nat):Int)) (by simp) ?_ 9 Tryz.underlying9,Ey];intro i hi;rw [hcell i hi];simp [List.getD,hi]
def Grown(w:World)(v:Value)(l:Bytes)(v':Value)(w':World):Prop:=
 Owns w' 5 1 cByte v' l/\Fr (fun k=>v.ownBlock=some k) w w'/\∀g,v'.ownBlock=some g->v.ownBlock=some g\/w.heap.size<=g
theorem DH {w w1:World} {va:Option Addr} {l:Bytes} {vc gg cap:Nat} {c:UInt8}
  (hown1:w1.ownsRow 0 5 1 (.slice (some ⟨gg,0,none⟩) (l.length+1) cap) (l.length+1) (l.flatMap cByte++cByte c)) (hg:w.grownBy w1 (Value.slice va l.length vc).ownBlock) (hat:(Value.slice va l.length vc).ownBlock=some gg\/w.heap.size<=gg):
  Grown w (.slice va l.length vc) (l++ [c]) (.slice (some ⟨gg,0,none⟩) (l.length+1) cap) w1:=by
 refine⟨Bb hown1,Fr.grown (fR _ w) hg (fun k e=> .inl e),fun g hg=>?_⟩;simp only [Value.ownBlock,Option.some.injEq]at hg;subst hg;exact hat
theorem Grown.trans{w w1 w2:World}{v v1 v2:Value}{l l2:Bytes}(h:Grown w v l v1 w1)(k:Grown w1 v1 l2 v2 w2):Grown w v l2 v2 w2:=
 ⟨k.1,Fr.step h.2.1 (fun b hb=>h.2.2 b hb) k.2.1,fun g hg=>by
  rcases k.2.2 g hg with e | e
  ·exact h.2.2 g e
  ·exact .inr (Nat.le_trans h.2.1.size e)⟩
theorem Nn(l:Bytes):byteCells ⟨l.toArray⟩=l.flatMap cByte:=by
 unfold byteCells
 induction l with
 | nil=>rfl
 | cons a t ih=>simpa [cByte] using ih
theorem Grown.app {w w1 w2:World} {v v1:Value} {l t:Bytes} {g cap:Nat} (h:Grown w v l v1 w1) (hown:w2.ownsRow 0 5 1 (.slice (some ⟨g,0,none⟩) (l.length+t.length) cap) (l.length+t.length) (l.flatMap cByte++t.flatMap cByte))
  (hg:w1.grownBy w2 v1.ownBlock) (hat:v1.ownBlock=some g\/g=w1.heap.size):Grown w v (l++t) (.slice (some ⟨g,0,none⟩) (l.length+t.length) cap) w2:=by
 refine h.trans ⟨?_,Fr.grown (fR _ w1) hg (fun k e=> .inl e),fun g' hg'=>?_⟩
 ·unfold Owns;rw [List.length_append,List.flatMap_append];exact hown
 ·simp only [Value.ownBlock,Option.some.injEq]at hg';subst hg';exact hat.imp id (fun e=>by omega)
def Tells(w:World)(d:Bytes×Int)(r:Ending)(w':World):Prop:=r= .returned (.tuple #[S d.1,.int .i64 d.2])/\Same w w'
theorem KN{l:List Px.Node}(hl:l.length<=4096)(h:(shapeV l).2=false):E5.Enc l ([],9):=by
 unfold shapeV at h;cases hs:E5.shape true l [] 0 with
 | none=>exact E5.D0 hl (.inr (.inl hs))
 | some r=>
  obtain⟨m,left⟩:=r;rw [hs]at h;simp only at h;cases l with
  | nil=>exact E5.D0 hl (.inl rfl)
  | cons a t=>
   cases left with
   | nil=>simp at h
   | cons c r=>exact E5.D0 hl (.inr (.inr ⟨m,c,r,hs⟩))
theorem KO{l:List Px.Node}(h:(shapeV l).2=true):E5.shape true l [] 0=some ((shapeV l).1,[])/\l≠ []:=by
 unfold shapeV at h ⊢;cases hs:E5.shape true l [] 0 with
 | none=>rw [hs]at h; cases h
 | some r=>
  obtain⟨m,left⟩:=r;rw [hs]at h;simp only [Bool.and_eq_true,Bool.not_eq_true',List.isEmpty_iff]at h;obtain⟨h1,h2⟩:=h;subst h2;exact⟨rfl,by rintro rfl; simp at h1⟩
theorem Ma{l:List Px.Node}{b:Bytes}{o:Bool}(hl:l.length<=4096)(h:E5.El 32 l b o)(hb:b.length<=262144):
  ((R5.decode b E5.encLim).2.2=0/\E5.Enc l (b,0))\/(¬(R5.decode b E5.encLim).2.2=0/\E5.Enc l ([],9)):=by
 have hd:=E5.DX (lim:=E5.encLim) E5.Ft (show E5.El (32:Int).toNat l b o from h) (show(l.length:Int)<=4096 by omega) (show(b.length:Int)<=262144 by omega);cases o with
 | false=>
  rw [if_neg (by simp)]at hd;exact .inl ⟨by rw [hd],.ok b hl h hb⟩
 | true=>
  rw [if_pos rfl]at hd;exact .inr ⟨by rw [hd]; decide,.out b hl h hb⟩
theorem DI:∀(l:List Px.Node) (ks:List Nat) (k:Nat),l.length=ks.length->E5.emit l ks=E5.emit (l.take k) (ks.take k)++E5.emit (l.drop k) (ks.drop k)
 | [],ks,k,h=>by
  have:ks=[]:=List.eq_nil_of_length_eq_zero h.symm;subst this;simp [E5.emit]
 | a::r,[],k,h=>by simp at h
 | a::r,n::ks,0,h=>by simp [E5.emit]
 | a::r,n::ks,k+1,h=>by
  simp only [List.length_cons,Nat.add_right_cancel_iff]at h;rw [List.take_succ_cons,List.take_succ_cons,List.drop_succ_cons,List.drop_succ_cons,E5.C7,E5.C7,DI r ks k h,List.append_assoc]
theorem KP(l:List Px.Node)(ks:List Nat)(k:Nat)(h:l.length=ks.length)(hk:k<l.length):
  E5.emit (l.take (k+1)) (ks.take (k+1))=E5.emit (l.take k) (ks.take k)++(l[k].tag::(E5.lenB (ks[k]'(by omega))++l[k].body)):=by
 have h2:=DI (l.take (k+1)) (ks.take (k+1)) k (by rw [List.length_take,List.length_take]; omega);rw [h2,List.take_take,List.take_take,Nat.min_eq_left (Nat.le_succ k)]
 congr 1
 have e1:(l.take (k+1)).drop k=[l[k]]:=by
  rw [List.drop_take,Nat.add_sub_cancel_left,List.drop_eq_getElem_cons hk];rfl
 have e2:(ks.take (k+1)).drop k=[ks[k]'(by omega)]:=by
  rw [List.drop_take,Nat.add_sub_cancel_left,List.drop_eq_getElem_cons (by omega)];rfl
 rw [e1,e2,E5.C7];show _++ []=_;rw [List.append_nil]
theorem KQ(l:List Px.Node)(ks:List Nat)(k:Nat)(h:l.length=ks.length):(E5.emit (l.take k) (ks.take k)).length<=(E5.emit l ks).length:=by
 conv=>rhs; rw [DI l ks k h]
 rw [List.length_append];omega
theorem JW{n:Nat}(h:n<128):E5.lenB n=[UInt8.ofNat n]:=if_pos h
theorem Mb{n:Nat}(h:¬n<128):E5.lenB n=UInt8.ofNat (128+E5.dgN 8 n)::E5.beD (E5.dgN 8 n) n:=by
 unfold E5.lenB;rw [if_neg h,E5.G9,E5.I8,List.append_nil,List.length_nil,Nat.zero_add]
theorem Mc{n:Nat}(h:n<=262144):E5.dgN 8 n<=3:=by
 rw [E5.BY 7 n (by omega),E5.BY 6 n (by omega),E5.BY 5 n (by omega),E5.BY 4 n (by omega),E5.BY 3 n (by omega)];exact E5.DZ 3 n
theorem NV{n:Nat}(h:¬n<128):1<=E5.dgN 8 n:=by
 unfold E5.dgN;rw [if_neg (by omega)];omega
theorem IH(s:Bytes)(hs:s.length<=140737488355327)(w:World)(hT:Tabs w):
  Calls Tryz.prog 90 #[S s] w fun e w'=>e= .returned (.bool ((R5.decode s E5.encLim).2.2==0))/\Same w w':=by
 have hd:Calls Tryz.prog 22 #[S s,.agg #[.int .i64 32,.int .i64 4096,.int .i64 262144,.int .i64 1]] w (Gives w (R5.decode s E5.encLim)):=DF s E5.encLim hs w hT;have HD:=zz hd;obtain⟨d,hdd⟩:∃d,d=R5.decode s E5.encLim:=⟨_,rfl⟩
 rw [<-hdd]at HD ⊢;clear hd hdd hs hT;go_enter Tryz.func90,Tryz.ntmps90;go_wp2_with fail;refine HD.out.mono ?_;rintro e w2 ⟨vo,rfl,hvo,hs2,_⟩;have HS:=zz hs2;clear hvo hs2;go_wp2;go_ret;exact⟨rfl,HS.out⟩
end Go.Proofs.YtpfhollohodcjaaGreatDoor
