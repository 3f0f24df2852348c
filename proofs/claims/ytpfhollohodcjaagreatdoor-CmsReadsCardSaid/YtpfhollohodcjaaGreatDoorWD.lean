import Derived.Test.YtpfhollohodcjaaGreatDoorWC
import Derived.Test.YtpfhollohodcjaaGreatDoorVB
import Derived.LaidHandle
import Derived.SizedLaws
import Derived.Test.YtpfhollohodcjaaGreatDoorVA
import Derived.Test.YtpfhollohodcjaaGreatDoorTie
import Derived.Test.YtpfhollohodcjaaGreatDoorCards
import Derived.ProofKit
import Derived.OpenShut
import Derived.Lay
import Derived.LaidMore
import Derived.SevenTiedAt
import Derived.Carry
import Derived.Lib.SmallJoins
import Derived.Lib.LaidU8T
import Derived.Stop.Joined
set_option maxRecDepth 100000
set_option maxHeartbeats 8000000
namespace Go.Proofs.YtpfhollohodcjaaGreatDoor
open Go.RowKit Go.Px Go.Px.Co Go.Px.Cm
def GivesE(w:World)(d:Env×Int)(e:Ending)(w':World):Prop:=
 ∃vto,e= .returned (.tuple #[.agg (envC d.1 vto),.int .i64 d.2])/\Owns w' 78 9 cRec vto d.1.to/\Same w w'/\(∀g,vto.ownBlock=some g->w.heap.size<=g)/\∃a c,vto= .slice a d.1.to.length c
theorem CS{w w':World}{d:Env×Int}{er:Int}(h:d=(Co.zero,er))(hs:Same w w'):GivesE w d (.returned (.tuple #[.agg #[.int .i64 0,.int .i64 0,.slice none 0 0,S [],S [],S [],S [],S [],S []],.int .i64 er])) w':=by
 subst h;exact⟨.slice none 0 0,rfl,A4 _ _ _ _,hs,nofun,none,0,rfl⟩
def ErrT(w:World):Prop:=w.cell? ⟨0,0,none⟩=some (.iface 171 (.agg #[.pointer (some ⟨5,55,none⟩)]))
theorem ErrT.fr{w w':World}{F:Nat->Prop}(h:ErrT w)(hf:Fr F w w')(hn:¬F 0):ErrT w':=by
 unfold ErrT at h ⊢;rw [hf.cell (p:=⟨_,_,none⟩) (World.block_lt_of_cell? _ _ h) hn];exact h
theorem Ee{s:Bytes}{lim:Lim}(h:(R5.decode s lim).2.2=0):(∀a∈(R5.decode s lim).1,E5.right a=true)/\Fits (R5.decode s lim).1 ⟨0,[1]⟩/\(0<=lim.r/\lim.r<=4096)/\(R5.decode s lim).1.length<=4096/\Wf (R5.decode s lim).1:=by
 obtain⟨hm,_,h1,h2,_⟩:=E5.BI h;have hmay:=E5.Aw hm;have hst:E5.Stk 33 [1] (R5.decode s lim).1:=⟨(R5.decode s lim).1,[],by simp,⟨(R5.decode s lim).1,[],s,false,by simp,h1.mono (by simp; omega),rfl⟩,rfl⟩
 exact⟨h1.all,⟨by simp,by simpa using hst⟩,⟨by omega,hmay.2.2.2.2.2.2.2⟩,by omega,KR h⟩
theorem J3 {w1 w5:World} {va:Value} {L:List Px.Node} {lim:Lim} (ho:Owns w1 90 3 cNode va L) (hw:L.length<=4096/\Wf L) (hT:Tabs w1)
  (e:w5=(((w1.alloc (.cells #[.int .i64 1] 3)).alloc (.cells (cuCells va (.slice (some ⟨w1.heap.size,0,none⟩) 1 1) 0 (limL lim)) 53)).alloc (.cells #[.pointer (some ⟨w1.heap.size+1,0,none⟩)] 50)).alloc (.cells (envC env0 (.slice none 0 0)) 27)):
  CuAt w5 (w1.heap.size+1) va L lim ⟨0,[1]⟩ (cuFoot (w1.heap.size+1) (.slice (some ⟨w1.heap.size,0,none⟩) 1 1))/\RdW w1.heap.size w5 (cuFoot (w1.heap.size+1) (.slice (some ⟨w1.heap.size,0,none⟩) 1 1)) (w1.heap.size+1+1) (w1.heap.size+1) (w1.heap.size+1+1+1) (.slice none 0 0)/\Same w1 w5:=by
 obtain⟨wa,hwa⟩:∃wa,wa=w1.alloc (.cells #[.int .i64 1] 3):=⟨_,rfl⟩
 obtain⟨wb,hwb⟩:∃wb,wb=wa.alloc (.cells (cuCells va (.slice (some ⟨w1.heap.size,0,none⟩) 1 1) 0 (limL lim)) 53):=⟨_,rfl⟩
 obtain⟨wc,hwc⟩:∃wc,wc=wb.alloc (.cells #[.pointer (some ⟨w1.heap.size+1,0,none⟩)] 50):=⟨_,rfl⟩
 rw [<-hwa,<-hwb,<-hwc]at e;have za:wa.heap.size=w1.heap.size+1:=by rw [hwa]; simp
 have zb:wb.heap.size=w1.heap.size+1+1:=by rw [hwb]; simp [za]
 have zc:wc.heap.size=w1.heap.size+1+1+1:=by rw [hwc]; simp [zb]
 have s1:Same w1 wa:=by rw [hwa]; exact fA (fR _ _) _
 have s2:Same wa wb:=by rw [hwb]; exact fA (fR _ _) _
 have s3:Same wb wc:=by rw [hwc]; exact fA (fR _ _) _
 have s4:Same wc w5:=by rw [e]; exact fA (fR _ _) _
 have b1:Blk w5 w1.heap.size #[.int .i64 1] 3:=(show Blk wa _ _ _ by rw [hwa]; exact Af w1 _ _).fr ((s2.trans s3).trans s4) (fun y=>y);have b2:Blk w5 (w1.heap.size+1) (cuCells va (.slice (some ⟨w1.heap.size,0,none⟩) 1 1) 0 (limL lim)) 53:=(show Blk wb _ _ _ by rw [hwb,<-za]; exact Af wa _ _).fr (s3.trans s4) (fun y=>y);have b3:Blk w5 (w1.heap.size+1+1) #[.pointer (some ⟨w1.heap.size+1,0,none⟩)] 50:=(show Blk wc _ _ _ by rw [hwc,<-zb]; exact Af wb _ _).fr s4 (fun y=>y);have b4:Blk w5 (w1.heap.size+1+1+1) (envC env0 (.slice none 0 0)) 27:=by rw [e,<-zc]; exact Af wc _ _
 have hs:Same w1 w5:=((s1.trans s2).trans s3).trans s4;have hva:∀q,va.ownBlock=some q->q<w1.heap.size:=fun q hq=>ho.lt hq
 have hfoot:∀q,cuFoot (w1.heap.size+1) (.slice (some ⟨w1.heap.size,0,none⟩) 1 1) q->q=w1.heap.size+1\/q=w1.heap.size:=fun q hq=>hq.imp id (fun y=>(Option.some.inj y).symm)
 have l1:=World.block_lt_of_cell? _ _ (hT.1 0 (by decide));have l2:=World.block_lt_of_cell? _ _ (hT.2 0 (by decide)).1;simp only at l1 l2;refine⟨⟨_,⟨b2,⟨by simp [cNum],.inr ⟨w1.heap.size,1,#[.int .i64 1],rfl,Nat.zero_le _,b1,by simp,by decide,rfl,rfl⟩⟩,fun q hq hq2=>?_,Lies.same (Owns.lies ho AF) hs,fun q hq hq2=>?_,fun q hq hq2=>?_,by simp,hw,fun q hq=>Nat.lt_of_lt_of_le (hva q hq) hs.size⟩,rfl⟩,⟨b3.cell 0 rfl,fun y=>?_,⟨b4,A4 _ _ _ _,?_,nofun⟩,hT.same hs,?_,⟨hs.size,nofun⟩⟩,hs⟩
 ·have e1:w1.heap.size=q:=Option.some.inj hq;have e2:w1.heap.size+1=q:=Option.some.inj hq2;omega
 ·have e1:=hva q hq;have e2:w1.heap.size+1=q:=Option.some.inj hq2;omega
 ·have e1:=hva q hq;have e2:w1.heap.size=q:=Option.some.inj hq2;omega
 ·rcases hfoot _ y with y | y<;>omega
 ·rintro q (rfl | hq) y
  ·rcases hfoot _ y with y | y<;>omega
  ·cases hq
 ·rintro q hq (y | y | y)
  ·rcases hfoot _ y with y | y<;>rcases hq with rfl | rfl<;>omega
  ·rcases hq with rfl | rfl<;>omega
  ·cases y
theorem CG(s:Bytes)(lim:Lim)(w:World)(hs:s.length<=140737488355327)(hT:Tabs w)(hE:ErrT w):
  Calls Tryz.prog 10 #[S s,limV lim] w (GivesE w (Cm.read s lim)):=by
 have HT:=zz (aN hT hE);have HD:=zz (show ∀W,Same w W->Calls Tryz.prog 22 #[S s,limV lim] W (Gives W (R5.decode s lim))from fun W hW=>DF s lim hs W (hT.same hW));clear hs hT hE;have HR:=zz (show Cm.read s lim=if(R5.decode s lim).2.2≠0 then(Co.zero,(R5.decode s lim).2.2)else readL (R5.decode s lim).1 lim from rfl);have HDD:=zz (fun h:(R5.decode s lim).2.2=0=>Ee h);unfold limV at HD ⊢;go_enter Tryz.func10,Tryz.ntmps10;go_wp2_with fail;refine(HD.out _ (fA (fA (fR _ w) _) _)).mono ?_;rintro e w1 ⟨vo,rfl,ho,hs,hfo⟩;obtain⟨va,vc,rfl,_⟩:=ho.len;have b3:Blk w1 w.heap.size #[.int .i64 lim.d,.int .i64 lim.i,.int .i64 lim.b,.int .i64 lim.r] 23:=Blk.fr (Blk.alloc (Af w _ _) _) hs (fun x=>x);have b4:Blk w1 (w.heap.size+1) #[.int .i64 0,.int .i64 0,.slice none 0 0,S [],S [],S [],S [],S [],S []] 27:=by
  have z:=Af (w.alloc (.cells #[.int .i64 lim.d,.int .i64 lim.i,.int .i64 lim.b,.int .i64 lim.r] 23)) #[.int .i64 0,.int .i64 0,.slice none 0 0,S [],S [],S [],S [],S [],S []] 27;have e:(w.alloc (.cells #[.int .i64 lim.d,.int .i64 lim.i,.int .i64 lim.b,.int .i64 lim.r] 23)).heap.size=w.heap.size+1:=by simp
  rw [e]at z;exact Blk.fr z hs (fun x=>x)
 have HS:=zz (show Same w w1 from fT (fA (fA (fR _ w) _) _) hs (fun _ _ x=>x));obtain⟨d,hd⟩:∃d,d=R5.decode s lim:=⟨_,rfl⟩
 rw [<-hd]at HR HDD ho ⊢;have HO:=zz (aN ho hfo);have HB:=zz (aN b3 b4);have h4l:=b4.lt;have h3l:=b3.lt;have l0:w1.cell? ⟨w.heap.size,0,none⟩=some (.int .i64 lim.d):=b3.cell 0 rfl;have l1:w1.cell? ⟨w.heap.size,1,none⟩=some (.int .i64 lim.i):=b3.cell 1 rfl;have l2:w1.cell? ⟨w.heap.size,2,none⟩=some (.int .i64 lim.b):=b3.cell 2 rfl;have l3:w1.cell? ⟨w.heap.size,3,none⟩=some (.int .i64 lim.r):=b3.cell 3 rfl;clear hd hs ho hfo HD;obtain⟨L,pl,er⟩:=d;simp only at HR HDD HO ⊢;by_cases he:er=0
 ·subst he;clear b3 b4;obtain⟨hr,hfi,hl,hlen,hwf⟩:=HDD.out rfl;obtain⟨w5,hw5⟩:∃w5,w5=(((w1.alloc (.cells #[.int .i64 1] 3)).alloc (.cells (cuCells (.slice va L.length vc) (.slice (some ⟨w1.heap.size,0,none⟩) 1 1) 0 (limL lim)) 53)).alloc (.cells #[.pointer (some ⟨w1.heap.size+1,0,none⟩)] 50)).alloc (.cells (envC env0 (.slice none 0 0)) 27):=⟨_,rfl⟩
  obtain⟨hcu,hrd,hs5⟩:=J3 (lim:=lim) HO.out.1 ⟨hlen,hwf⟩ (HT.out.1.same HS.out) hw5;have hfn:∀q,cuFoot (w1.heap.size+1) (.slice (some ⟨w1.heap.size,0,none⟩) 1 1) q->w1.heap.size<=q:=fun q hq=>by
   rcases hq with y | y
   ·omega
   ·have:w1.heap.size=q:=Option.some.inj y;omega
  have hen:∀q,envFoot (w1.heap.size+1+1+1) (.slice none 0 0) q->w1.heap.size<=q:=fun q hq=>by
   rcases hq with y | y
   ·omega
   ·cases y
  have hva2:∀q,(Value.slice va L.length vc).ownBlock=some q->¬envFoot (w1.heap.size+1+1+1) (.slice none 0 0) q:=fun q hq y=>by have:=hen q y; have:=HO.out.1.lt hq; omega
  have hin:=Bd (w1.heap.size+1) (.slice va L.length vc) L lim ⟨0,[1]⟩ _ (envFoot (w1.heap.size+1+1+1) (.slice none 0 0)) 0x30 (by decide) (by decide) 24 #[.pointer (some ⟨w1.heap.size+1+1,0,none⟩),.pointer (some ⟨w1.heap.size+1+1+1,0,none⟩)] (wholeP L lim) (BodP w1.heap.size (w1.heap.size+1+1+1)) w5 hcu hfi (by simp) hr (fun _=>rfl) (IP hr hl.2) (fun v F w w' h hf=>h.stable hf)
   (fun w2 F1 k2 h1 h2 h3 h4 h5=>K8 _ _ _ _ _ _ L lim k2 F1 w2 h1 h2 (by simp at h3; omega) hr hl (hrd.keep h4 h5) hva2)
  rw [show((0x30:UInt8).toNat)=48 from rfl]at hin;have HIN:=zz (fun(W:World) (e:W=w5)=>e ▸ hin);have HR2:Hid (Cm.read s lim=readL L lim):=zz (by rw [HR.out,if_neg (fun e=>e rfl)]);have HW5:=zz (aN hw5 (aN hs5 (aN hfn (aN hen HB.out))));clear hr hfi hl hlen hwf hw5 hcu hrd hs5 hfn hen hva2 hin HDD HR;go_wp2_with fail;refine(HIN.out _ HW5.out.1.symm).mono ?_;intro e w6 hT;have hsame:Fr (fun q=>cuFoot (w1.heap.size+1) (.slice (some ⟨w1.heap.size,0,none⟩) 1 1) q\/envFoot (w1.heap.size+1+1+1) (.slice none 0 0) q) w5 w6->Same w1 w6:=fun hq=>by
   have h1:=(HW5.out.2.1.fr _).trans hq fun _ _ y=>y
   exact⟨h1.os,h1.tape,h1.output,h1.size,fun k hk _=>h1.block k hk (fun y=>y.elim (fun y=>by have:=HW5.out.2.2.1 k y; omega) (fun y=>by have:=HW5.out.2.2.2.1 k y; omega))⟩
  have HSM:=zz hsame;clear hsame HIN l0 l1 l2 l3;cases hk:inn L 48 (wholeP L lim) ⟨0,[1]⟩with
  | error n=>
   rw [hk]at hT;obtain⟨⟨v,rfl,fb,rfl,hb⟩,hs⟩:=hT;have HZ:Hid (Cm.read s lim=(Co.zero,n)):=zz (by
    rw [HR2.out];unfold readL;rw [show whole L lim ⟨0,[1]⟩= .error n from hk])
   have hs6:=HSM.out (by rw [HW5.out.1]; exact hs);have b4:=HW5.out.2.2.2.2.2.fr hs6 (fun y=>y);have hgl:=World.block_lt_of_cell? _ _ (HT.out.2);simp only at hgl;have hG:ErrT w6:=(HT.out.2.fr HS.out (fun y=>y)).fr hs6 (fun y=>y);have hG2:ErrT (w6.alloc (.cells #[.pointer none] 62)):=hG.fr (F:=fun _=>False) (fA (fR _ _) _) (fun y=>y);have hbf:Blk (w6.alloc (.cells #[.pointer none] 62)) w6.heap.size #[.pointer none] 62:=Af w6 _ _;have HAS:=zz (NY ⟨fb,0,none⟩ ⟨w6.heap.size,0,none⟩ (.pointer none) _ hG2 (hbf.cell 0 rfl) (hbf.free 0));have HX:=zz (aN hb (aN hs6 b4));clear hb hs hs6 b4 hG hgl hG2 hbf hk;go_wp2_with fail;refine HAS.out.mono ?_;rintro e w7 ⟨rfl,hw7⟩;have hf7:Fr (fun q=>q=w6.heap.size) w6 w7:=by
    rw [hw7];exact fC (F:=fun q=>q=w6.heap.size) (((((fR _ w6).alloc _).alloc _).alloc _ |>.alloc _).alloc _) (p:=⟨w6.heap.size,0,none⟩) (.inl rfl) _
   have hfl:=HX.out.1.lt;have hbl6:=HX.out.2.2.lt;have hb7:=HX.out.1.fr hf7 (by omega);have b7:=HX.out.2.2.fr hf7 (by omega);have hct:w7.cell? ⟨w6.heap.size,0,none⟩=some (.pointer (some ⟨fb,0,none⟩)):=by
    rw [hw7];have q1:=(((((Af w6 #[.pointer none] 62).alloc (.cells #[.pointer (some ⟨w6.heap.size,0,none⟩)] 64)).alloc (.cells #[.pointer (some ⟨5,64,none⟩),.pointer (some ⟨(w6.alloc (.cells #[.pointer none] 62)).heap.size,0,none⟩),.int .u64 150] 124)).alloc (.cells #[.pointer (some ⟨5,64,none⟩),.pointer (some ⟨(w6.alloc (.cells #[.pointer none] 62)).heap.size,0,none⟩),.int .u64 150] 124)).alloc (.cells #[.pointer (some ⟨fb,0,none⟩)] 62)).set 0 (.pointer (some ⟨fb,0,none⟩));exact q1.cell 0 rfl
   have cf:=hb7.cell 0 rfl;obtain⟨c0,c1,c2,c3,c4,c5,c6,c7,c8,d0,d1,d2,d3,d4,d5,d6,d7,d8⟩:=AT b7;have hbl:=b7.lt;have HW7:=zz (aN hf7 b7);have hx1:¬fb=w.heap.size+1:=by
    rintro rfl;have h2:=HX.out.1.symm.trans HX.out.2.2;simp at h2
   have hx2:¬w.heap.size+1=fb:=fun e=>hx1 e.symm
   have hx3:¬w6.heap.size=w.heap.size+1:=by omega
   have hx4:¬w.heap.size+1=w6.heap.size:=by omega
   clear hw7 hf7 hfl hbl6 hb7 b7 HAS;go_wp2_with fail;go_region
   all_goals
    go_wp2;have hsz1:=(HS.out.trans HX.out.2.1).size;have hsw:Same w w7:=fT (HS.out.trans HX.out.2.1) HW7.out.1 (fun q hq e=>by omega);refine bodyPost_ret (v:= .tuple #[.agg #[.int .i64 0,.int .i64 0,.slice none 0 0,S [],S [],S [],S [],S [],S []],.int .i64 n]) (by simp [results,Tryz.results10,go_sem, *]) rfl (CS HZ.out ?_);refine fD ?_
    repeat' first
     | refine fC ?_ (.inr (by dsimp only; omega)) _
     | exact hsw
  | ok q=>
   obtain⟨x,k2⟩:=q;rw [hk]at hT;obtain⟨rfl,⟨F1,hc,hs1,vto,hev,hvn⟩,hs⟩:=hT;have HZ:Hid (Cm.read s lim=(x,0)):=zz (by
    rw [HR2.out];unfold readL;rw [show whole L lim ⟨0,[1]⟩= .ok (x,k2)from hk])
   have hs6:=HSM.out (by rw [HW5.out.1]; exact hs);have b4:=HW5.out.2.2.2.2.2.fr hs6 (fun y=>y);obtain⟨vta,vtc,hvt,_⟩:=hev.own.len;have henv:=hev.eb;rw [hvt]at henv;have HX:=zz (aN hev (aN hvn (aN hs6 hvt)));obtain⟨c0,c1,c2,c3,c4,c5,c6,c7,c8,d0,d1,d2,d3,d4,d5,d6,d7,d8⟩:=AT b4;obtain⟨e0,e1,e2,e3,e4,e5,e6,e7,e8,f0,f1,f2,f3,f4,f5,f6,f7,f8⟩:=AT (show Blk w6 (w1.heap.size+1+1+1) #[.int .i64 x.fmt,.int .i64 x.alg,.slice vta x.to.length vtc,S x.header,S x.loose,S x.aad,S x.iv,S x.cipher,S x.tag] 27 from henv);have hbl:=b4.lt;have hel:=Blk.lt henv;have hne:¬w1.heap.size+1+1+1=w.heap.size+1:=by omega
   have hne2:¬w.heap.size+1=w1.heap.size+1+1+1:=by omega
   clear hc hs1 hev hvn hs hs6 b4 henv hvt hk f0 f1 f2 f3 f4 f5 f6 f7 f8;go_wp2_with fail;refine(NX _ _).mono ?_;rintro e w7 ⟨rfl,hw7⟩;have h7:w7=w6.alloc (.cells #[.pointer none] 62):=hw7;have HW7:=zz h7;subst h7;clear hw7;go_wp2;refine bodyPost_ret (v:= .tuple #[.agg #[.int .i64 x.fmt,.int .i64 x.alg,.slice vta x.to.length vtc,S x.header,S x.loose,S x.aad,S x.iv,S x.cipher,S x.tag],.int .i64 0]) (by simp [results,Tryz.results10,go_sem, *]) rfl ?_;rw [HZ.out];refine⟨.slice vta x.to.length vtc,rfl,?_,?_,fun g hg=>?_,vta,vtc,rfl⟩
   ·have ho:=HX.out.1.own;rw [HX.out.2.2.2]at ho;refine Owns.fr ho (F:=fun j=>j=w.heap.size+1) ?_ (fun k e y=>?_)
    ·refine fA ?_ _
     repeat' first
      | refine fC (F:=fun j=>j=w.heap.size+1) ?_ (.inl rfl) _
      | exact fR _ _
    ·have:=HX.out.2.1 k (by rw [HX.out.2.2.2]; exact e);omega
   ·refine fA ?_ _
    repeat' first
     | refine fC ?_ (.inr (by dsimp only; omega)) _
     | exact HS.out.trans HX.out.2.2.1
   ·have:=HX.out.2.1 g (by rw [HX.out.2.2.2]; exact hg);have:=HS.out.size;omega
 ·have hez:(er !=0)=true:=by rw [bne_iff_ne]; exact he
  have HR2:Hid (Cm.read s lim=(Co.zero,er)):=zz (by rw [HR.out,if_pos he]);obtain⟨c0,c1,c2,c3,c4,c5,c6,c7,c8,d0,d1,d2,d3,d4,d5,d6,d7,d8⟩:=AT b4;clear HR HDD b3 b4 he;go_wp2;refine bodyPost_ret (v:= .tuple #[.agg #[.int .i64 0,.int .i64 0,.slice none 0 0,S [],S [],S [],S [],S [],S []],.int .i64 er]) (by simp [results,Tryz.results10,go_sem, *]) rfl (CS HR2.out ?_)
  repeat' first
   | refine fC ?_ (.inr (by dsimp only; omega)) _
   | exact HS.out
end Go.Proofs.YtpfhollohodcjaaGreatDoor
namespace Go.Proofs.YtpfhollohodcjaaGreatDoor
open Go.ChangeShapes Go.WideShapes Go.ChangeAt Go.RowKit Go.Px Go.Shelf Go.Lib
theorem own:ownKnob Tryz.prog.godebug=none:=by kernel_rfl
theorem Jn:laidOutB Tryz.prog=true:=by kernel_rfl
theorem Mm:Rows.laid_unicode_utf8_first=firstData:=by kernel_rfl
theorem K9:(Rows.laid_unicode_utf8_acceptRanges:DataW Unit)=acceptData:=by kernel_rfl
def laidL:List (String×DataW Unit):=[("unicode/utf8.acceptRanges",Rows.laid_unicode_utf8_acceptRanges),("errors.errorType",Rows.laid_errors_errorType),("unicode/utf8.first",Rows.laid_unicode_utf8_first)]
def plainL:List (String×DataW Unit):=[("unicode/utf8.acceptRanges",Rows.laid_unicode_utf8_acceptRanges),("unicode/utf8.first",Rows.laid_unicode_utf8_first)]
theorem FI{W:World}(hL:laidMetH Tryz.prog laidL W):laidMet Tryz.prog plainL W/\handlesMet Tryz.prog [("errors.errorType",Rows.laid_errors_errorType)] W:=hL
theorem Nu{W:World}(hL0:laidMetH Tryz.prog laidL W):Tabs W:=by
 have hL:=(FI hL0).1;exact utf8Tabs_of_readsT (U8Types.of196 Tryz.laysValid) ⟨by kernel_rfl,by kernel_rfl,by kernel_rfl,by kernel_rfl,by kernel_rfl,by kernel_rfl,by kernel_rfl⟩ (Mm ▸ Lib.laidMet.reads hL (.tail _ (.head _))) (K9 ▸ Lib.laidMet.reads hL (.head _))
theorem et:Tryz.prog.globalNamed "errors.errorType" =some 0:=by kernel_rfl
theorem rt:(Tryz.prog.cutTypes.find? (·.1== "internal/reflectlite.rtype")).map (·.2)=some 171:=by kernel_rfl
theorem N0:((List.range Tryz.prog.types.size).filter fun t=>Tryz.prog.rowNamed t [101,114,114,111,114])=[55]:=by kernel_rfl
theorem N1{W:World}(hL0:laidMetH Tryz.prog laidL W):ErrT W:=by
 obtain⟨name,u,ty,e1,e2,e3,e4,e5⟩:=(FI hL0).2 _ (List.mem_singleton.2 rfl);have en:name=[101,114,114,111,114]:=(Option.some.inj e1).symm;subst en;obtain rfl:=Option.some.inj (rt.symm.trans e2);have hm:ty∈(List.range Tryz.prog.types.size).filter fun t=>Tryz.prog.rowNamed t [101,114,114,111,114]:=List.mem_filter.2 ⟨List.mem_range.2 e3,e4⟩
 rw [N0]at hm;obtain rfl:=List.mem_singleton.1 hm;have hh:typeHandle Tryz.prog 55= .pointer (some ⟨5,55,none⟩):=by kernel_rfl
 rw [hh]at e5;unfold ErrT;simpa using World.var?_cell et e5 0
noncomputable def handleWorld (os:Os):World:=
 let w0:=World.holding Tryz.prog os ⟨#[],#[],[]⟩
 {w0 with heap:=w0.heap.modify 0 fun
   | .cells _ t frozen=> .cells #[.iface 171 (.agg #[.pointer (some ⟨5,55,none⟩)])] t frozen
   | o=>o}
noncomputable def laidWorld (os:Os):World:=(handleWorld os).layVars Tryz.prog plainL
theorem Hz(os:Os):(laidWorld os).os=os:=World.layVars_os _ _ _
theorem GN(os:Os)(args:Array Value):laidMetH Tryz.prog laidL ((laidWorld os).forCall (fun _ _=>0) ⟨#[],args,[]⟩).memory:=by
 refine laidMetH_of_parts ?_ (by kernel_rfl);show laidMet Tryz.prog plainL _;have e1:(plainL.filter fun x=>(plainL.map (·.1)).contains x.1)=plainL:=List.filter_eq_self.2 fun x hx=>List.contains_iff_mem.2 (List.mem_map.2 ⟨x,hx,rfl⟩)
 have e2:(plainL.filter fun x=> !(plainL.map (·.1)).contains x.1)=[]:=List.filter_eq_nil_iff.2 fun x hx=>by rw [List.contains_iff_mem.2 (List.mem_map.2 ⟨x,hx,rfl⟩)]; simp
 have h:laidMet Tryz.prog plainL (laidWorld os):=laidMet_layVars (w0:=handleWorld os) (plainL.map (·.1)) [] (by rw [e1]; rfl) (by rw [e1]; kernel_rfl) (by rw [e1]; kernel_rfl) (by rw [e2]; exact LaidIn.none);exact h.of_heap (by simp [World.memory,World.forCall,Input.heap])
theorem Dc{k:IntKind}{n:Int}(h:(Lit.int k n).wf=true):k.min<=n/\n<=k.max:=by
 simpa [Lit.wf] using h
def LimFits(l:Lim):Prop:=(IntKind.i64.min<=l.d/\l.d<=IntKind.i64.max)/\(IntKind.i64.min<=l.i/\l.i<=IntKind.i64.max)/\(IntKind.i64.min<=l.b/\l.b<=IntKind.i64.max)/\(IntKind.i64.min<=l.r/\l.r<=IntKind.i64.max)
theorem Mn{H:Type}{enc:TypeId×Value->H}{w:World}{base b0:Nat}{sp:Nat->Bool}{held:Bool}{r:Reach}{v:Value}{d:DataW H}{ps:List MemPlace}(hv:Value.okWide Tryz.prog w r b0 23 v)(h:DataW.Trod enc Tryz.prog w base sp held 23 v d ps):
  ∃l:Lim,v= .agg #[.int .i64 l.d,.int .i64 l.i,.int .i64 l.b,.int .i64 l.r]/\LimFits l:=by
 obtain⟨v0,v1,v2,v3,y0,y1,y2,y3,n,rfl,rfl,rfl,h0,h1,h2,h3⟩:=Joins.open_agg4 Tryz.underlying23 (by kernel_rfl) (by kernel_rfl) hv h;obtain⟨a,e0,rfl,w0⟩:=DataW.trod_int Tryz.underlying3 h0;obtain⟨b,e1,rfl,w1⟩:=DataW.trod_int Tryz.underlying3 h1;obtain⟨c,e2,rfl,w2⟩:=DataW.trod_int Tryz.underlying3 h2;obtain⟨e,e3,rfl,w3⟩:=DataW.trod_int Tryz.underlying3 h3;simp only [List.cons.injEq,and_true]at e0 e1 e2 e3;subst e0 e1 e2 e3;exact⟨⟨a,b,c,e⟩,rfl,Dc w0,Dc w1,Dc w2,Dc w3⟩
theorem J4{H:Type}{enc:TypeId×Value->H}{w:World}{base b0:Nat}{sp:Nat->Bool}{held:Bool}{r:Reach}{v:Value}{d:DataW H}{ps:List MemPlace}(hv:Value.okWide Tryz.prog w r b0 9 v)(h:DataW.Trod enc Tryz.prog w base sp held 9 v d ps):
  ∃l:List UInt8,v=S l/\d= .lit (.string l)/\l.length<=maxLen:=by
 obtain⟨s,rfl,hd,_,hs⟩:=Go.ChangeMaps.open_string Tryz.underlying9 hv h;have e:s.data.toList.length=s.size:=Array.length_toList;exact⟨s.data.toList,Ob s,hd,e ▸ hs⟩
theorem Mo{n:Nat}(h:n<=reachBytes):n<=140737488351232:=h
end Go.Proofs.YtpfhollohodcjaaGreatDoor
