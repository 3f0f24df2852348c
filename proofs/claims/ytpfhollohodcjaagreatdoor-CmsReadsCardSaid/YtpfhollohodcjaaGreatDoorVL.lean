import Derived.Test.YtpfhollohodcjaaGreatDoorVJ
import Derived.Test.YtpfhollohodcjaaGreatDoorVK
import Derived.Deep.LoopGhost
import Derived.Defers
import Derived.Recover
import Derived.Laws.Pointers
set_option maxRecDepth 100000
set_option maxHeartbeats 4000000
namespace Go.Proofs.YtpfhollohodcjaaGreatDoor
open Go.RowKit Go.Px
theorem Gw(s:Bytes)(lim:Lim)(hs:s.length<=140737488355327)(b:Nat)(x:D5.Dx)(vs vo:Value)(w:World)(h:DrRep w b s lim x vs vo)(hx:x.at_<=262144)(hok:DOk s lim x)(hT:∀w2,Fr (dfoot b vs vo) w w2->Tabs w2):
  Calls Tryz.prog 101 #[.pointer (some ⟨b,0,none⟩)] w fun r w'=>BegPost w b s lim (dfoot b vs vo) (D5.beginD s lim x) r w':=by
 unfold D5.beginD;cases hh:D5.head s lim x.out.length x.stack.length x.at_ (x.stack.head?.map (·.end_))with
 | error e=>
  simp only;show Calls Tryz.prog 101 #[.pointer (some ⟨b,0,none⟩)] w fun r w'=>r=panics e/\Fr (dfoot b vs vo) w w'
  rcases Lu hh with he | ⟨c,hc,⟨hi,rfl⟩| ⟨hi,⟨ht,rfl⟩| ⟨ht,⟨hin,hd,rfl⟩| ⟨hd,hl | ⟨n,q,v,hl,hv,hlt,rfl⟩⟩⟩⟩⟩
  ·exact JN s lim b x vs vo w h e he
  ·exact JO s lim b x vs vo w h hx hok c hc hi
  ·exact KJ s lim b x vs vo w h hx hok c hc hi ht
  ·exact JP s lim b x vs vo w h hx hok c hc hi ht hin hd
  ·cases hin:R5.inner c with
   | true=>exact Iz s lim b x vs vo w h hx hok c hc hi ht hin (hd hin) e hl
   | false=>exact IB s lim b x vs vo w h hx hok c hc hi ht hin e hl
  ·cases hst:x.stack with
   | nil=>rw [hst]at hv; cases hv
   | cons f rest=>
    rw [hst]at hv;simp only [List.head?_cons,Option.map_some,Option.some.injEq]at hv;subst hv;cases hin:R5.inner c with
    | true=>exact IA s lim b x vs vo w h hx hok c hc hi ht hin (hd hin) n q hl f rest hst hlt
    | false=>exact IC s lim b x vs vo w h hx hok c hc hi ht hin n q hl f rest hst hlt
 | ok v=>
  obtain⟨n,q⟩:=v;obtain⟨c,hc,hi,ht,hd,hl,hv⟩:=I5 hh;have hct:=(Ak hc).2.2.2;obtain⟨t,htt⟩:∃t,t=s.getD x.at_ 0:=⟨_,rfl⟩
  simp only;rw [<-htt]at hct ⊢;subst hct;clear htt;cases hin:R5.inner t.toNat with
  | true=>
   rw [if_pos rfl];cases hst:x.stack with
   | nil=>
    have:=Hr s lim b x vs vo w h hx hok t hc hi ht hin (hd hin) n q hl hst;rw [hst]at this;exact this
   | cons f rest=>
    have:=Hs s lim b x vs vo w h hx hok t hc hi ht hin (hd hin) n q hl f rest hst (by have:=hv f.end_ (by rw [hst]; rfl); omega);rw [hst]at this;exact this
  | false=>
   rw [if_neg (by simp)];by_cases hn:n=0
   ·rw [if_pos hn];simp only;cases hbd:R5.body t.toNat ((s.take (q+n)).drop q)with
    | true=>
     rw [if_pos rfl];cases hst:x.stack with
     | nil=>
      have:=EX s lim b x vs vo w h hx hok t hc hi ht hin n q hl hst hn hs hT hbd;rw [hst]at this;exact this
     | cons f rest=>
      have:=EZ s lim b x vs vo w h hx hok t hc hi ht hin n q hl f rest hst (by have:=hv f.end_ (by rw [hst]; rfl); omega) hn hs hT hbd;rw [hst]at this;exact this
    | false=>
     rw [if_neg (by simp)];cases hst:x.stack with
     | nil=>exact Et s lim b x vs vo w h hx hok t hc hi ht hin n q hl hst hn hs hT hbd
     | cons f rest=>exact Ew s lim b x vs vo w h hx hok t hc hi ht hin n q hl f rest hst (by have:=hv f.end_ (by rw [hst]; rfl); omega) hn hs hT hbd
   ·rw [if_neg hn];cases hw:D5.want s lim (q+n - 1)with
    | error e=>
     simp only;cases hst:x.stack with
     | nil=>exact Es s lim b x vs vo w h hx hok t hc hi ht hin n q hl hst hn e hw
     | cons f rest=>exact Ev s lim b x vs vo w h hx hok t hc hi ht hin n q hl f rest hst (by have:=hv f.end_ (by rw [hst]; rfl); omega) hn e hw
    | ok c2=>
     simp only;cases hbd:R5.body t.toNat ((s.take (q+n)).drop q)with
     | true=>
      rw [if_pos rfl];cases hst:x.stack with
      | nil=>
       have:=EY s lim b x vs vo w h hx hok t hc hi ht hin n q hl hst hn c2 hw hs hT hbd;rw [hst]at this;exact this
      | cons f rest=>
       have:=E0 s lim b x vs vo w h hx hok t hc hi ht hin n q hl f rest hst (by have:=hv f.end_ (by rw [hst]; rfl); omega) hn c2 hw hs hT hbd;rw [hst]at this;exact this
     | false=>
      rw [if_neg (by simp)];cases hst:x.stack with
      | nil=>exact Eu s lim b x vs vo w h hx hok t hc hi ht hin n q hl hst hn c2 hw hs hT hbd
      | cons f rest=>exact Ex s lim b x vs vo w h hx hok t hc hi ht hin n q hl f rest hst (by have:=hv f.end_ (by rw [hst]; rfl); omega) hn c2 hw hs hT hbd
structure RInv (s:Bytes) (lim:Lim) (x:D5.Dx):Prop where
 each:∀f∈x.stack,f.at_<=x.at_/\f.no<x.out.length/\f.end_<=5000000000
 sl:(x.stack.length:Int)<=lim.d
 ol:(x.out.length:Int)<=lim.i
 here:x.at_<=s.length
 bound:(x.at_:Int)<=lim.b
 kids:∀a∈x.out,-1<=a.kids/\a.kids<=x.out.length
theorem Db{lim:Lim}(h:lim.may=true):1<=lim.d/\lim.d<=32/\1<=lim.i/\lim.i<=4096/\1<=lim.b/\lim.b<=262144/\1<=lim.r/\lim.r<=4096:=by
 simp only [Lim.may,Bool.and_eq_true,decide_eq_true_eq]at h;omega
theorem RInv.ok{s:Bytes}{lim:Lim}{x:D5.Dx}(h:RInv s lim x)(hm:lim.may=true):DOk s lim x:=by
 obtain⟨_,m2,_,m4,_,m6,_,_⟩:=Db hm;have:=h.sl;have:=h.ol;exact⟨by omega,by omega,h.here,hm,fun f hf=>⟨(h.each f hf).2.1,(h.each f hf).2.2⟩,h.kids⟩
theorem RInv.ended{s:Bytes}{lim:Lim}{x y:D5.Dx}{p:Nat}(h:RInv s lim x)(he:D5.ended s x p= .ok y):RInv s lim y:=by
 unfold D5.ended at he;cases hs:x.stack with
 | nil=>
  rw [hs]at he;simp only [Except.ok.injEq]at he;subst he;exact h
 | cons f rest=>
  rw [hs]at he;simp only at he;by_cases h1:(f.tag.toNat==49)=true
  ·rw [if_pos h1]at he;by_cases h2:(Op.bytesLess ((s.take x.at_).drop p) f.last)=true
   ·rw [if_pos h2]at he; cases he
   ·rw [if_neg h2]at he;simp only [Except.ok.injEq]at he;subst he;refine⟨?_,?_,h.ol,h.here,h.bound,h.kids⟩
    ·intro g hg;rcases List.mem_cons.mp hg with rfl | hg
     ·exact h.each f (by rw [hs]; exact List.mem_cons_self)
     ·exact h.each g (by rw [hs]; exact List.mem_cons_of_mem _ hg)
    ·have:=h.sl;rw [hs]at this;exact this
  ·rw [if_neg h1]at he;simp only [Except.ok.injEq]at he;subst he;exact h
theorem Ht{N:Int}:∀(l:List Px.Node) (j:Nat),(∀a∈l,-1<=a.kids/\a.kids<=N)->∀a∈R5.bump l j,-1<=a.kids/\a.kids<=N+1
 | [],j,_=>by
  intro a ha;have:R5.bump [] j=[]:=by unfold R5.bump; simp
  rw [this]at ha;cases ha
 | x::l,0,h=>by
  intro a ha;have e:R5.bump (x::l) 0= {x with kids:=x.kids+1}::l:=rfl;rw [e]at ha;rcases List.mem_cons.1 ha with rfl | ha
  ·have:=h x List.mem_cons_self;simp only;omega
  ·have:=h a (List.mem_cons_of_mem _ ha);omega
 | x::l,j+1,h=>by
  intro a ha;have e:R5.bump (x::l) (j+1)=x::R5.bump l j:=rfl;rw [e]at ha;rcases List.mem_cons.1 ha with rfl | ha
  ·have:=h a List.mem_cons_self;omega
  ·exact Ht l j (fun b hb=>h b (List.mem_cons_of_mem _ hb)) a ha
theorem EE(l:List Px.Node)(st:List D5.Fm):(D5.bumpTop l st).length=l.length:=by
 cases st with
 | nil=>rfl
 | cons f r=>unfold D5.bumpTop R5.bump; exact List.length_modify _ _ _
theorem ID{N:Int}(l:List Px.Node)(st:List D5.Fm)(h:∀a∈l,-1<=a.kids/\a.kids<=N):∀a∈D5.bumpTop l st,-1<=a.kids/\a.kids<=N+1:=by
 cases st with
 | nil=>exact fun a ha=>by have:=h a ha; omega
 | cons f r=>exact Ht l f.no h
theorem RInv.item{s:Bytes}{lim:Lim}{x:D5.Dx}{a:Px.Node}{q:Nat}(h:RInv s lim x)(hi:¬(x.out.length:Int)=lim.i)(hq:x.at_<=q)(hqs:q<=s.length)(hqb:(q:Int)<=lim.b)(ha: -1<=a.kids/\a.kids<=0):
  RInv s lim {at_:=q,stack:=x.stack,out:=D5.bumpTop x.out x.stack++ [a]}:=by
 have hl:(D5.bumpTop x.out x.stack++ [a]).length=x.out.length+1:=by rw [List.length_append,EE]; rfl
 refine⟨fun f hf=>?_,h.sl,?_,hqs,hqb,?_⟩
 ·have:=h.each f hf;exact⟨Nat.le_trans this.1 hq,by show f.no<(D5.bumpTop x.out x.stack++ [a]).length; omega,this.2.2⟩
 ·have:=h.ol;show((D5.bumpTop x.out x.stack++ [a]).length:Int)<=lim.i;omega
 ·intro c hc;show -1<=c.kids/\c.kids<=((D5.bumpTop x.out x.stack++ [a]).length:Int);rw [hl];rcases List.mem_append.1 hc with hc | hc
  ·have:=ID x.out x.stack h.kids c hc;omega
  ·rw [List.mem_singleton.1 hc];omega
theorem RInv.begin{s:Bytes}{lim:Lim}{x y:D5.Dx}(h:RInv s lim x)(hm:lim.may=true)(he:D5.beginD s lim x= .ok y):RInv s lim y:=by
 obtain⟨_,m2,_,m4,m5,m6,_,_⟩:=Db hm;unfold D5.beginD at he;cases hh:D5.head s lim x.out.length x.stack.length x.at_ (x.stack.head?.map (·.end_))with
 | error e=>rw [hh]at he; cases he
 | ok v=>
  obtain⟨n,q⟩:=v;rw [hh]at he;obtain⟨c,hc,hi,ht,hd,hl,hv⟩:=I5 hh;obtain⟨p1,p2,p3,p4⟩:=Ai hl;have hcc:=(Ak hc).2.2.2;simp only at he;rw [<-hcc]at he;by_cases hin:R5.inner c=true
  ·rw [if_pos hin]at he;simp only [Except.ok.injEq]at he;subst he;have g:=h.item (a:=⟨s.getD x.at_ 0,0,[]⟩) hi (by omega) p2 p3 ⟨by simp,by simp⟩;refine⟨?_,?_,g.ol,g.here,g.bound,g.kids⟩
   ·intro f hf;rcases List.mem_cons.1 hf with rfl | hf
    ·refine⟨by show x.at_<=q; omega,?_,by show q+n<=5000000000; omega⟩;show x.out.length<(D5.bumpTop x.out x.stack++ [_]).length;rw [List.length_append,EE];exact Nat.lt_succ_self _
    ·exact g.each f hf
   ·have:=h.sl;have:=hd hin;show((_::x.stack:List D5.Fm).length:Int)<=lim.d;rw [List.length_cons];omega
  ·rw [if_neg hin]at he;have fin:∀(p2:q+n<=s.length) (p3:((q+n:Nat):Int)<=lim.b),(if R5.body c ((s.take (q+n)).drop q)then D5.ended s {at_:=q+n,stack:=x.stack,out:=D5.bumpTop x.out x.stack++ [⟨s.getD x.at_ 0,-1,(s.take (q+n)).drop q⟩]} x.at_ else .error ((x.at_:Int),9))= .ok y->RInv s lim y:=fun p2 p3 he=>by
    by_cases hb:R5.body c ((s.take (q+n)).drop q)=true
    ·rw [if_pos hb]at he;exact(h.item hi (by omega) p2 p3 ⟨Int.le_refl _,by simp⟩).ended he
    ·rw [if_neg hb]at he; cases he
   by_cases hn:n=0
   ·rw [if_pos hn]at he;exact fin (by omega) (by omega) he
   ·rw [if_neg hn]at he;cases hw:D5.want s lim (q+n - 1)with
    | error e=>rw [hw]at he; cases he
    | ok c2=>
     rw [hw]at he;have:=Ak hw;exact fin (by omega) (by omega) he
theorem DE(s:Bytes)(lim:Lim)(hs:s.length<=140737488355327)(hm:lim.may=true)(b:Nat)(x:D5.Dx)(vs vo:Value)(w:World)(h:DrRep w b s lim x vs vo)(hinv:RInv s lim x)(hT:∀w2,Fr (dfoot b vs vo) w w2->Tabs w2)(m:Nat)(res:Except D5.Flt D5.Dx)(hrun:D5.after s lim (D5.beginD s lim x) m=some res):
  Calls Tryz.prog 59 #[.pointer (some ⟨b,0,none⟩)] w fun r w'=>BegPost w b s lim (dfoot b vs vo) res r w':=by
 obtain⟨_,m2,_,m4,m5,m6,_,_⟩:=Db hm;have hbeg:=Gw s lim hs b x vs vo w h (by have:=hinv.bound; omega) (hinv.ok hm) hT;have hnext:∀y,D5.beginD s lim x= .ok y->RInv s lim y:=fun y=>hinv.begin hm
 have hbound:∀y:D5.Dx,RInv s lim y->y.at_<=262144:=fun y hy=>by have:=hy.bound; omega
 have HH:=zz (aN hbeg (aN hnext (aN hrun (aN hT (aN hs (aN hm (aN m5 (aN m6 (aN hbound m2)))))))));clear hbeg hnext hrun hT hs hm m5 m6 hbound m2 m4 hinv h;go_enter Tryz.func59,Tryz.ntmps59;go_wp2_with fail;refine HH.out.1.mono ?_;intro r w1 hpost;have hrun:=HH.out.2.2.1;unfold BegPost at hpost;cases hb:D5.beginD s lim x with
 | error e=>
  rw [hb]at hpost hrun;obtain⟨rfl,hf⟩:=hpost;simp only [D5.after,Option.some.injEq]at hrun;have HE:=zz (aN hf hrun);clear hf hrun hb;unfold panics;go_wp2;rw [<-HE.out.2];exact⟨rfl,rfl,HE.out.1⟩
 | ok y=>
  rw [hb]at hpost hrun;obtain⟨rfl,F1,hat,hf,hn⟩:=hpost;simp only [D5.after]at hrun;have HE:=zz (aN hat (aN hf (aN hn (aN hrun (HH.out.2.1 y hb)))));clear hat hf hn hrun hb;go_wp2_with fail;go_loopg [2] m (fun gk _ wr=>∃z F',D5.loopN s lim gk z=some res/\DrAt wr b s lim z F'/\RInv s lim z/\Fr (dfoot b vs vo) w wr/\Fresh w (dfoot b vs vo) F')
  case atStart=>exact⟨_,_,HE.out.2.2.2.1,HE.out.1,HE.out.2.2.2.2,HE.out.2.1,HE.out.2.2.1⟩
  case round=>
   clear HE;obtain⟨z,F',hrun,⟨zs,zo,hz,rfl⟩,hinv,hfr,hfs⟩:=hrel;obtain⟨g',rfl⟩:∃g',gk=g'+1:=by
    cases gk with
    | zero=>cases hrun
    | succ g=>exact⟨g,rfl⟩
   unfold D5.loopN at hrun;obtain⟨_,_,_,_,c5,c6,_⟩:=hz.cells;obtain⟨a,cap,hv⟩:=hz.stackLen;rcases hzs:z.stack with _ | ⟨f,rest⟩
   ·rw [hzs]at hrun;rw [hv,hzs]at c6;simp only [Option.some.injEq]at hrun;have HK:=zz (aN hz (aN hfr (aN hfs hrun)));clear hz hfr hfs hrun hzs hv hinv c5;go_wp2;refine bodyPost_ret (results_none rfl _ _ _) rfl ?_;rw [<-HK.out.2.2.2];exact⟨rfl,_,⟨_,_,HK.out.1,rfl⟩,HK.out.2.1,HK.out.2.2.1⟩
   ·obtain⟨g,cap',hv',hc1,hc2,k0,k1,k2,k3,k4,kf⟩:=hz.top hzs;subst hv';rw [hzs]at hrun;simp only at hrun;have hsl:rest.length<=1000:=by have:=hinv.sl; have:=HH.out.2.2.2.2.2.2.2.2.2; rw [hzs]at*; simp at*; omega
    unfold maxLen at hc2;have f6:=hz.free 6;have hb6:b<wr.heap.size:=hz.lt;have hgl:g<wr.heap.size:=by have:=hz.footLt g (.inr (.inl rfl)); exact this
    have HK:=zz (aN hz (aN hfr (aN hfs (aN hrun (aN hinv hzs)))));clear hz hfr hfs hrun hzs hv hinv c5 kf;go_upto_region 2 with fail
    go_region
    obtain⟨WX,hWX⟩:∃WX,WX=(wr.alloc (.cells #[.int .u8 f.tag.toNat,.int .i64 (f.at_:Nat),.int .i64 (f.end_:Nat),.int .i64 (f.no:Nat),.string ⟨f.last.toArray⟩] 165 (0,0))).drew:=⟨_,rfl⟩
    rw [<-hWX];have HX:=zz (show DrRep WX b s lim z (.slice (some ⟨g,0,none⟩) (rest.length+1) cap') zo/\Fr (dfoot b vs vo) w WX/\WX.heap[wr.heap.size]?=some (.cells #[.int .u8 f.tag.toNat,.int .i64 (f.at_:Nat),.int .i64 (f.end_:Nat),.int .i64 (f.no:Nat),.string ⟨f.last.toArray⟩] 165 (0,0))/\wr.heap.size<WX.heap.size from by
     rw [hWX];exact⟨(HK.out.1.alloc _).drewN 1,(HK.out.2.1.alloc _).drew,heap_alloc_new wr _,by show _<(wr.alloc _).heap.size; simp⟩)
    have a1:WX.cell? ⟨wr.heap.size,1,none⟩=some (.int .i64 (f.at_:Nat)):=Ab HX.out.2.2.1 1 rfl;have a2:WX.cell? ⟨wr.heap.size,2,none⟩=some (.int .i64 (f.end_:Nat)):=Ab HX.out.2.2.1 2 rfl;have hab:¬dfoot b (.slice (some ⟨g,0,none⟩) (rest.length+1) cap') zo wr.heap.size:=fun e=>by have:=HK.out.1.footLt _ e; omega
    have HA:=zz hab;have HXW:=zz (show Fr (dfoot b (.slice (some ⟨g,0,none⟩) (rest.length+1) cap') zo) wr WX from by rw [hWX]; exact((fR _ wr).alloc _).drew);clear hWX c6 f6 k0 k1 k2 k3 k4 hab;have c5:=HX.out.1.cells.2.2.2.2.1;go_upto_region 3 with fail
    go_region
    obtain⟨WX0,hWX0⟩:∃W,W=WX:=⟨_,rfl⟩
    have HX:=zz (show DrRep WX.drew b s lim z (.slice (some ⟨g,0,none⟩) (rest.length+1) cap') zo/\Fr (dfoot b vs vo) w WX.drew/\WX.drew.heap[wr.heap.size]?=some (.cells #[.int .u8 f.tag.toNat,.int .i64 (f.at_:Nat),.int .i64 (f.end_:Nat),.int .i64 (f.no:Nat),.string ⟨f.last.toArray⟩] 165 (0,0))/\wr.heap.size<WX.drew.heap.size from
     ⟨HX.out.1.drewN 1,HX.out.2.1.drew,HX.out.2.2.1,HX.out.2.2.2⟩)
    have HXW:=zz (show Fr (dfoot b (.slice (some ⟨g,0,none⟩) (rest.length+1) cap') zo) wr WX.drew from HXW.out.drew);clear hWX0 a1 a2 c5;obtain⟨WX,hWX⟩:∃W,W=WX.drew:=⟨_,rfl⟩
    rw [<-hWX]at HX HXW ⊢;clear hWX;have a1:WX.cell? ⟨wr.heap.size,1,none⟩=some (.int .i64 (f.at_:Nat)):=Ab HX.out.2.2.1 1 rfl;by_cases hl:z.at_<f.end_
    ·have hl':(z.at_:Int)<f.end_:=by omega
     have hbg:=Gw s lim HH.out.2.2.2.2.1 b z _ zo WX HX.out.1 (HH.out.2.2.2.2.2.2.2.2.1 z HK.out.2.2.2.2.1) (HK.out.2.2.2.2.1.ok HH.out.2.2.2.2.2.1) (fun w2 h2=>HH.out.2.2.2.1 w2 (HX.out.2.1.step HK.out.2.2.1 h2));have hrun2:=HK.out.2.2.2.1;rw [if_pos hl]at hrun2;have HB:=zz (aN hbg (aN hrun2 (fun y hy=>HK.out.2.2.2.2.1.begin HH.out.2.2.2.2.2.1 (y:=y) hy)));clear hbg hrun2 hl a1;go_wp2_with fail;refine HB.out.1.mono ?_;intro r w3 hpost;have hrun3:=HB.out.2.1;unfold BegPost at hpost;cases hbz:D5.beginD s lim z with
     | error e=>
      rw [hbz]at hpost hrun3;obtain⟨rfl,hf3⟩:=hpost;simp only [Option.some.injEq]at hrun3;have HE:=zz (aN (HX.out.2.1.step HK.out.2.2.1 hf3) hrun3);clear hf3 hrun3 hbz;unfold panics;go_wp2;rw [<-HE.out.2];exact⟨rfl,rfl,HE.out.1⟩
     | ok y3=>
      rw [hbz]at hpost hrun3;obtain⟨rfl,F3,hat3,hf3,hn3⟩:=hpost;simp only at hrun3;have HE:=zz (aN hat3 (aN (HX.out.2.1.step HK.out.2.2.1 hf3) (aN (Fresh.trans HK.out.2.2.1 HX.out.2.1.size hn3) (aN hrun3 (HB.out.2.2 y3 hbz)))));clear hat3 hf3 hn3 hrun3 hbz;go_wp2;go_roundg g'
      case measure=>omega
      case rel=>exact⟨_,_,HE.out.2.2.2.1,HE.out.1,HE.out.2.2.2.2,HE.out.2.1,HE.out.2.2.1⟩
    ·have hl':¬(z.at_:Int)<f.end_:=by omega
     have c6:WX.cell? ⟨b,6,none⟩=some (.slice (some ⟨g,0,none⟩) (rest.length+1) cap'):=HX.out.1.cells.2.2.2.2.2.1;have f6:=HX.out.1.free 6;have hrun2:=HK.out.2.2.2.1;rw [if_neg hl]at hrun2;have HR:=zz hrun2;clear hrun2 hl;go_upto_region 5 with fail
     go_region
     obtain⟨WY,hWY⟩:∃WY,WY=(WX.setCell ⟨b,6,none⟩ (.slice (some ⟨g,0,none⟩) rest.length cap')).drew:=⟨_,rfl⟩
     rw [<-hWY];have hba:wr.heap.size≠b:=fun e=>HA.out (.inl e)
     have HY:=zz (show DrRep WY b s lim {z with stack:=rest} (.slice (some ⟨g,0,none⟩) rest.length cap') zo/\Fr (dfoot b vs vo) w WY/\WY.heap[wr.heap.size]?=some (.cells #[.int .u8 f.tag.toNat,.int .i64 (f.at_:Nat),.int .i64 (f.end_:Nat),.int .i64 (f.no:Nat),.string ⟨f.last.toArray⟩] 165 (0,0))/\Fr (dfoot b (.slice (some ⟨g,0,none⟩) (rest.length+1) cap') zo) wr WY from by
      have q0:Fr (fun k=>k=b) WX WY:=by rw [hWY]; exact((fR (fun k=>k=b) WX).setCell (p:=⟨b,6,none⟩) (.inl rfl) _).drew
      have q1:Fr (dfoot b (.slice (some ⟨g,0,none⟩) (rest.length+1) cap') zo) WX WY:=q0.mono (fun k e=> .inl e);refine⟨by rw [hWY]; exact(HX.out.1.pop HK.out.2.2.2.2.2).drewN 1,HX.out.2.1.step HK.out.2.2.1 q1,(q0.block _ HX.out.2.2.2 hba).trans HX.out.2.2.1,fT HXW.out q1 (fun _ _ e=>e)⟩)
     have b1:WY.cell? ⟨wr.heap.size,1,none⟩=some (.int .i64 (f.at_:Nat)):=Ab HY.out.2.2.1 1 rfl;have hpf:=HK.out.2.2.2.2.1;have hfa:f.at_<=z.at_:=(hpf.each f (by rw [HK.out.2.2.2.2.2]; simp)).1;have hinv2:RInv s lim {z with stack:=rest}:=by
      refine⟨fun f' hf'=>hpf.each f' (by rw [HK.out.2.2.2.2.2]; exact List.mem_cons_of_mem _ hf'),?_,hpf.ol,hpf.here,hpf.bound,hpf.kids⟩;have:=hpf.sl;rw [HK.out.2.2.2.2.2]at this;simp only [List.length_cons]at this;show(rest.length:Int)<=lim.d;omega
     have hen:=B9 b f.at_ s lim {z with stack:=rest} _ WY ⟨_,_,HY.out.1,rfl⟩ hfa hpf.here hsl;have HE:=zz (aN hen (aN hinv2 hfa));clear hen hinv2 hpf hfa hWY c6 f6 a1 hba;go_wp2_with fail;refine HE.out.1.mono ?_;intro r w3 hpost;have hrun3:=HR.out;unfold EndPost at hpost;cases hbz:D5.ended s {z with stack:=rest} f.at_ with
     | error e=>
      rw [hbz]at hpost hrun3;obtain⟨rfl,hf3⟩:=hpost;simp only [Option.some.injEq]at hrun3;have HZ:=zz (aN (HY.out.2.1.step HK.out.2.2.1 hf3) hrun3);clear hf3 hrun3 hbz;unfold panics;go_wp2;rw [<-HZ.out.2];exact⟨rfl,rfl,HZ.out.1⟩
     | ok y3=>
      rw [hbz]at hpost hrun3;obtain⟨rfl,hat3,hf3⟩:=hpost;simp only at hrun3;have HZ:=zz (aN hat3 (aN (HY.out.2.1.step HK.out.2.2.1 hf3) (aN HK.out.2.2.1 (aN hrun3 (HE.out.2.1.ended hbz)))));clear hat3 hf3 hrun3 hbz;go_wp2;go_roundg g'
      case measure=>omega
      case rel=>exact⟨_,_,HZ.out.2.2.2.1,HZ.out.1,HZ.out.2.2.2.2,HZ.out.2.1,HZ.out.2.2.1⟩
theorem JQ(p0 p1 p2:Addr)(w:World):
  CallsD Tryz.prog 58 #[.pointer (some p0),.pointer (some p1),.pointer (some p2)] .returning w fun e u' w'=>e= .returned (.tuple #[])/\u'= .returning/\w'=w:=by
 refine callsD_of_wpS Tryz.func58 rfl fun c₀ cs hu=>?_
 simp only [Tryz.ntmps58,List.size_toArray,List.length_cons,List.length_nil,Nat.reduceAdd,Nat.reduceSub,Array.replicate_succ,Array.replicate_zero,List.push_toArray,List.append_toArray,List.nil_append,List.cons_append];apply wpS_seq;apply wpS_region;simp [wpOpsS,go_sem,recoverD,hu,Exit.thenS];refine wpS_of_wp ?_;generalize hQ:(fun(e:Exit) (a':Act) (w':World)=>bodyPostS _ _ c₀ cs _ e a' _ w')=Q;go_wp2;rw [<-hQ];simp only [bodyPostS];exact⟨trivial,.returning,by cases c₀; simp_all,.tuple #[],results_none rfl _ _ _,by simp⟩
@[go_sem] theorem as_flt (v : Value) (w : World) : (Instr.typeAssert (.iface 103 v) 20 103 true).run Tryz.prog w = .ok (.tuple #[v, .bool true]) w := by kernel_rfl
theorem D9 (g0 g1 g2:Nat) (e:D5.Flt) (v0 v1 v2:Value) (older:List PanicEntry) (w:World)
  (h0:w.cell? ⟨g0,0,none⟩=some v0) (h1:w.cell? ⟨g1,0,none⟩=some v1) (h2:w.cell? ⟨g2,0,none⟩=some v2)
  (k0:w.frozen? ⟨g0,0,none⟩=false) (k1:w.frozen? ⟨g1,0,none⟩=false) (k2:w.frozen? ⟨g2,0,none⟩=false) (l0:g0<w.heap.size) (l1:g1<w.heap.size) (l2:g2<w.heap.size) (h01:g0≠g1) (h02:g0≠g2) (h12:g1≠g2):
  CallsD Tryz.prog 58 #[.pointer (some ⟨g0,0,none⟩),.pointer (some ⟨g1,0,none⟩),.pointer (some ⟨g2,0,none⟩)] (.panicking ({v:=fltV e,recovered:=false}::older)) w fun r u' w'=>
   r= .returned (.tuple #[])/\u'= .panicking ({v:=fltV e,recovered:=true}::older)/\w'=((((w.setCell ⟨g0,0,none⟩ (.slice none 0 0)).setCell ⟨g1,0,none⟩ (.int .i64 e.1)).setCell ⟨g2,0,none⟩ (.int .i64 e.2)).alloc (.cells #[.int .i64 e.1,.int .i64 e.2] 103 (0,0))).drew:=by
 refine callsD_of_wpS Tryz.func58 rfl fun c₀ cs hu=>?_
 unfold fltV at hu;simp only [Tryz.ntmps58,List.size_toArray,List.length_cons,List.length_nil,Nat.reduceAdd,Nat.reduceSub,Array.replicate_succ,Array.replicate_zero,List.push_toArray,List.append_toArray,List.nil_append,List.cons_append];apply wpS_seq;apply wpS_region;simp [wpOpsS,go_sem,recoverD,hu,Exit.thenS];refine wpS_of_wp ?_;generalize hQ:(fun(e:Exit) (a':Act) (w':World)=>bodyPostS _ _ c₀ cs _ e a' _ w')=Q;have n01:⟨g0,0,none⟩≠(⟨g1,0,none⟩:Addr):=fun e=>h01 (by cases e; rfl)
 have n02:⟨g0,0,none⟩≠(⟨g2,0,none⟩:Addr):=fun e=>h02 (by cases e; rfl)
 have n12:⟨g1,0,none⟩≠(⟨g2,0,none⟩:Addr):=fun e=>h12 (by cases e; rfl)
 go_upto_region 5 with fail
 go_region
 rw [<-hQ];simp only [bodyPostS];exact⟨trivial,_,rfl,.tuple #[],results_none rfl _ _ _,by simp [fltV]⟩
end Go.Proofs.YtpfhollohodcjaaGreatDoor
