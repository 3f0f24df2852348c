import Derived.Test.YtpfhollohodcjaaGreatDoorWR
import Derived.Test.YtpfhollohodcjaaGreatDoorWS
import Derived.Test.YtpfhollohodcjaaGreatDoorVG
import Derived.Test.YtpfhollohodcjaaGreatDoorWO
set_option maxRecDepth 100000
set_option maxHeartbeats 20000000
namespace Go.Proofs.YtpfhollohodcjaaGreatDoor
open Go.RowKit Go.Px Go.Px.Co
structure SmS (w wx:World) (X Y:Array Value):Prop where
 same:Same w wx
 a:Blk wx w.heap.size X 27
 b:Blk wx (w.heap.size+1) Y 27
theorem SmS.sm{w wx wy:World}{X Y:Array Value}(h:SmS w wx X Y)(hs:Same wx wy):SmS w wy X Y:=⟨h.same.trans hs,h.a.fr hs (fun x=>x),h.b.fr hs (fun x=>x)⟩
theorem IY(x:Rec)(w:World):(binOp .neq 78 (.agg #[.int .i64 x.way,.int .i64 x.size,.int .i64 x.kind,S x.name,S x.key,S x.salt,.int .i64 x.rounds,S x.iv,S x.loose]) (.agg #[.int .i64 x.way,.int .i64 x.size,.int .i64 x.kind,S x.name,S x.key,S x.salt,.int .i64 x.rounds,S x.iv,S x.loose])).run Tryz.prog w= .ok (.bool false) w:=by
 rw [run_neq_struct,run_equalIn_struct w 9999 _ _ _ (by kernel_rfl) (by kernel_rfl)];simp only [Program.fieldsOf,Tryz.underlying78];go_simp
theorem GF(x y:Env)(va vb:Value)(w:World)(ha:Lies w 9 cRec va x.to)(hb:Lies w 9 cRec vb y.to)(hl:x.to.length<=140737488351232):
  Calls Tryz.prog 12 #[.agg (envC x va),.agg (envC y vb)] w fun e w'=>e= .returned (.bool (decide (x=y)))/\Same w w':=by
 obtain⟨aa,ac,rfl,_,_⟩:=ha.slice;obtain⟨ba,bc,rfl,_,_⟩:=hb.slice;have H:=zz (aN ha hb);clear ha hb;obtain⟨D,hD⟩:∃D,D=decide (x=y):=⟨_,rfl⟩
 rw [<-hD];have HD:=zz hD;clear hD;obtain⟨x0,x1,x2,x3,x4,x5,x6,x7,x8⟩:=x;obtain⟨y0,y1,y2,y3,y4,y5,y6,y7,y8⟩:=y;unfold envC;simp only at H hl ⊢;have h0:SmS w ((w.alloc (.cells #[.int .i64 x0,.int .i64 x1,.slice aa x2.length ac,S x3,S x4,S x5,S x6,S x7,S x8] 27)).alloc (.cells #[.int .i64 y0,.int .i64 y1,.slice ba y2.length bc,S y3,S y4,S y5,S y6,S y7,S y8] 27)) #[.int .i64 x0,.int .i64 x1,.slice aa x2.length ac,S x3,S x4,S x5,S x6,S x7,S x8] #[.int .i64 y0,.int .i64 y1,.slice ba y2.length bc,S y3,S y4,S y5,S y6,S y7,S y8]:=⟨fA (fA (fR _ w) _) _,Blk.alloc (Af w _ _) _,Bw w _ _ _⟩
 go_enter Tryz.func12,Tryz.ntmps12;go_upto_region 1 with fail
 generalize ((w.alloc (.cells #[.int .i64 x0,.int .i64 x1,.slice aa x2.length ac,S x3,S x4,S x5,S x6,S x7,S x8] 27)).alloc (.cells #[.int .i64 y0,.int .i64 y1,.slice ba y2.length bc,S y3,S y4,S y5,S y6,S y7,S y8] 27))=w1 at h0 ⊢;have H0:=zz h0;obtain⟨c0,c1,c2,c3,c4,c5,c6,c7,c8,_⟩:=AT h0.a;obtain⟨e0,e1,e2,e3,e4,e5,e6,e7,e8,_⟩:=AT h0.b;clear h0;by_cases hn:x2.length=y2.length
 ·have hnz:(x2.length:Int)=(y2.length:Int):=by omega
  have HN:=zz hn;rw [<-hn]at e2 H0;clear hn hnz;go_wp2;go_loopg [5] (x2.length+1) (fun gk t5 wr=>∃i:Nat,gk+i=x2.length+1/\i<=x2.length/\t5= .int .i64 i/\Hid (((x2=y2)↔(x2.drop i=y2.drop i))/\Same w1 wr))
  case atStart=>exact⟨0,rfl,Nat.zero_le _,rfl,zz ⟨Iff.rfl,sE _⟩⟩
  case round=>
   clear c0 c1 c2 c3 c4 c5 c6 c7 c8 e0 e1 e2 e3 e4 e5 e6 e7 e8;obtain⟨i,hgk,hi,rfl,HS⟩:=hrel;have HGK:=zz hgk;clear hgk;have HW:=zz (H0.out.sm HS.out.2);obtain⟨c0,c1,c2,c3,c4,c5,c6,c7,c8,_⟩:=AT HW.out.a;obtain⟨e0,e1,e2,e3,e4,e5,e6,e7,e8,_⟩:=AT HW.out.b;by_cases hlt:i<x2.length
   ·have hltz:(i:Int)<(x2.length:Int):=by omega
    have hlb:i<y2.length:=by have:=HN.out; omega
    have hA:=Lies.same H.out.1 HW.out.same;have hB:=Lies.same H.out.2 HW.out.same;obtain⟨xb,xo,xc,hve,_,_⟩:=hA.cell i x2[i] (by simp [hlt]);obtain⟨yb,yo,yc,hve2,_,_⟩:=hB.cell i y2[i] (by simp [hlb]);simp only [Value.slice.injEq,true_and]at hve hve2;obtain⟨rfl,rfl⟩:=hve;obtain⟨rfl,rfl⟩:=hve2;obtain⟨q0,q1,q2,q3,q4,q5,q6,q7,q8⟩:=C4 hA i hlt;obtain⟨r0,r1,r2,r3,r4,r5,r6,r7,r8⟩:=C4 hB i hlb;have hst:=Eg x2 y2 i hlt hlb;obtain⟨x,hx⟩:∃x,x=x2[i]:=⟨_,rfl⟩
    obtain⟨y,hy⟩:∃y,y=y2[i]:=⟨_,rfl⟩
    rw [<-hx]at q0 q1 q2 q3 q4 q5 q6 q7 q8 hst;rw [<-hy]at r0 r1 r2 r3 r4 r5 r6 r7 r8 hst;have HST:=zz hst;clear hx hy hst hA hB;by_cases hxy:x=y
    ·subst hxy;have HE:=zz (show(x2=y2)↔(x2.drop (i+1)=y2.drop (i+1))from HS.out.1.trans (HST.out.trans ⟨fun h=>h.2,fun h=>⟨rfl,h⟩⟩));have heq:=fun W=>IY x W
     go_wp2_with fail;go_quiet (fail)
     go_wp2;go_roundg (x2.length - i)
     case measure=>have:=HGK.out; omega
     case rel=>exact⟨i+1,by omega,by omega,by go_num,zz ⟨HE.out,Fr.drewN HS.out.2 _⟩⟩
    ·have HE:=zz (show ¬x2=y2 from fun h=>hxy (HST.out.1 (HS.out.1.1 h)).1);have HF:Hid (D=false):=zz (by rw [HD.out]; exact df (fun e=>HE.out (congrArg Env.«to» e)));have hne:=fun W=>EJ hxy W
     clear hxy;go_wp2_with fail;go_quiet (fail)
     go_wp2;go_ret;rw [HF.out];exact⟨rfl,Fr.drewN HW.out.same _⟩
   ·have hltz:¬(i:Int)<(x2.length:Int):=by omega
    have HE:x2=y2:=HS.out.1.2 (by rw [List.drop_of_length_le (by omega),List.drop_of_length_le (by have:=HN.out; omega)]);subst HE;have HWS:=zz HW.out.same;clear HW H0 H HS HN HGK;by_cases h0:x0=y0
    ·subst h0;by_cases h1:x1=y1
     ·subst h1;by_cases h3:x3=y3
      ·subst h3;by_cases h4:x4=y4
       ·subst h4;by_cases h5:x5=y5
        ·subst h5;by_cases h6:x6=y6
         ·subst h6;by_cases h7:x7=y7
          ·subst h7;by_cases h8:x8=y8
           ·subst h8;have HF:Hid (D=true):=zz (by rw [HD.out]; exact dt rfl);go_wp2_with fail;try go_quiet (fail)
            go_wp2;go_ret;rw [HF.out];exact⟨by first | rfl | simp,by first | exact HWS.out | exact Fr.drewN HWS.out _⟩
           ·have HF:Hid (D=false):=zz (by rw [HD.out]; exact df (fun e=>h8 (congrArg Env.tag e)));have b8:(x8==y8)=false:=by simpa using h8
            have b8n:¬x8=y8:=h8;clear h8;go_wp2_with fail;try go_quiet (fail)
            go_wp2;go_ret;rw [HF.out];exact⟨by first | rfl | simp,by first | exact HWS.out | exact Fr.drewN HWS.out _⟩
          ·have HF:Hid (D=false):=zz (by rw [HD.out]; exact df (fun e=>h7 (congrArg Env.cipher e)));have b7:(x7==y7)=false:=by simpa using h7
           have b7n:¬x7=y7:=h7;clear h7;go_wp2_with fail;try go_quiet (fail)
           go_wp2;go_ret;rw [HF.out];exact⟨by first | rfl | simp,by first | exact HWS.out | exact Fr.drewN HWS.out _⟩
         ·have HF:Hid (D=false):=zz (by rw [HD.out]; exact df (fun e=>h6 (congrArg Env.iv e)));have b6:(x6==y6)=false:=by simpa using h6
          have b6n:¬x6=y6:=h6;clear h6;go_wp2_with fail;try go_quiet (fail)
          go_wp2;go_ret;rw [HF.out];exact⟨by first | rfl | simp,by first | exact HWS.out | exact Fr.drewN HWS.out _⟩
        ·have HF:Hid (D=false):=zz (by rw [HD.out]; exact df (fun e=>h5 (congrArg Env.aad e)));have b5:(x5==y5)=false:=by simpa using h5
         have b5n:¬x5=y5:=h5;clear h5;go_wp2_with fail;try go_quiet (fail)
         go_wp2;go_ret;rw [HF.out];exact⟨by first | rfl | simp,by first | exact HWS.out | exact Fr.drewN HWS.out _⟩
       ·have HF:Hid (D=false):=zz (by rw [HD.out]; exact df (fun e=>h4 (congrArg Env.loose e)));have b4:(x4==y4)=false:=by simpa using h4
        have b4n:¬x4=y4:=h4;clear h4;go_wp2_with fail;try go_quiet (fail)
        go_wp2;go_ret;rw [HF.out];exact⟨by first | rfl | simp,by first | exact HWS.out | exact Fr.drewN HWS.out _⟩
      ·have HF:Hid (D=false):=zz (by rw [HD.out]; exact df (fun e=>h3 (congrArg Env.header e)));have b3:(x3==y3)=false:=by simpa using h3
       have b3n:¬x3=y3:=h3;clear h3;go_wp2_with fail;try go_quiet (fail)
       go_wp2;go_ret;rw [HF.out];exact⟨by first | rfl | simp,by first | exact HWS.out | exact Fr.drewN HWS.out _⟩
     ·have HF:Hid (D=false):=zz (by rw [HD.out]; exact df (fun e=>h1 (congrArg Env.alg e)));have b1:(x1==y1)=false:=by simpa using h1
      have b1n:¬x1=y1:=h1;clear h1;go_wp2_with fail;try go_quiet (fail)
      go_wp2;go_ret;rw [HF.out];exact⟨by first | rfl | simp,by first | exact HWS.out | exact Fr.drewN HWS.out _⟩
    ·have HF:Hid (D=false):=zz (by rw [HD.out]; exact df (fun e=>h0 (congrArg Env.fmt e)));have b0:(x0==y0)=false:=by simpa using h0
     have b0n:¬x0=y0:=h0;clear h0;go_wp2_with fail;try go_quiet (fail)
     go_wp2;go_ret;rw [HF.out];exact⟨by first | rfl | simp,by first | exact HWS.out | exact Fr.drewN HWS.out _⟩
 ·have hnz:¬(x2.length:Int)=(y2.length:Int):=by omega
  have hnz2:((x2.length:Int) !=(y2.length:Int))=true:=by simp only [bne_iff_ne,ne_eq]; omega
  have HF:Hid (D=false):=zz (by rw [HD.out]; exact df (fun e=>hn (congrArg (fun e=>(Env.«to» e).length) e)));clear hn;go_wp2;go_ret;rw [HF.out];exact⟨rfl,H0.out.same⟩
end Go.Proofs.YtpfhollohodcjaaGreatDoor
namespace Go.Px.Cm
open E5 Co
theorem Lo:read (tellP someE).1 mostL=(someE,0):=by
 rcases back (x:=someE)with ⟨_,h⟩| h
 ·exact h
 ·have:=Fz;rw [h]at this;cases this
end Go.Px.Cm
namespace Go.Proofs.YtpfhollohodcjaaGreatDoor
open Go.RowKit Go.Px Go.Px.Co Go.Px.Cm
theorem Lp{w:World}{g:Nat}{r:Rec}(h:Blk w g (cRec r).toArray 78):Owns w 78 9 cRec (.slice (some ⟨g,0,none⟩) 1 1) [r]:=
 ⟨by simp [cRec],.inr ⟨g,1,_,rfl,Nat.zero_le _,h,Nat.le_refl _,by decide,by simp [cRec],by simp [cRec]⟩⟩
theorem IZ:EnvS someE:=⟨fun r hr=>by rw [List.mem_singleton.1 hr]; exact⟨by decide,by decide,by decide,by decide,by decide⟩,by decide,by decide,by decide,by decide⟩
theorem MD:(tellP someE).1.length<=140737488355327:=by
 rcases back (x:=someE)with ⟨_,h⟩| h
 ·have:=(Ek h).2.2;obtain⟨hs,_,he⟩:=this;exact Nat.le_trans (GD he) (by decide)
 ·rw [h];decide
theorem Ig(w:World):Calls Tryz.prog 17 #[] w fun e w'=>∃g,e= .returned (.agg (envC someE (.slice (some ⟨g,0,none⟩) 1 1)))/\Owns w' 78 9 cRec (.slice (some ⟨g,0,none⟩) 1 1) someE.to/\Same w w'/\w.heap.size<=g:=by
 go_enter Tryz.func17,Tryz.ntmps17;go_wp2;refine bodyPost_ret (v:= .agg #[.int .i64 1,.int .i64 1,.slice (some ⟨w.heap.size+1,0,none⟩) 1 1,S [],S [],S [],S [49,50,51,52,53,54,55,56,57,48,49,50],S [97,98,99],S [49,50,51,52,53,54,55,56,57,48,49,50]]) (by simp [results,Tryz.results17,go_sem, *]) rfl ?_;refine⟨w.heap.size+1,rfl,Lp ?_,?_,Nat.le_succ _⟩
 ·exact Bw w _ _ _
 ·repeat' first
   | refine fC ?_ (.inr (by dsimp only; omega)) _
   | refine fA ?_ _
   | exact fR _ _
theorem Lq(w:World)(hT:Tabs w)(hE:ErrT w):Calls Tryz.prog 9 #[] w fun e w'=>e= .returned (.bool true)/\Same w w':=by
 have HT:=zz (aN hT hE);clear hT hE;go_enter Tryz.func9,Tryz.ntmps9;go_wp2_with fail;refine(Ig _).mono ?_;rintro e w1 ⟨g,rfl,ho,hs,_⟩;have HS:=zz hs;have HC:=zz (MC someE (.slice (some ⟨g,0,none⟩) 1 1) w1 (ho.lies BJ) (by decide) IZ (HT.out.1.same hs) (HT.out.2.fr hs (fun y=>y)));clear ho hs;unfold envC at HC ⊢;go_wp2_with fail;refine HC.out.mono ?_;rintro e w2 ⟨rfl,hs⟩;replace HS:=zz (HS.out.trans hs);rw [Fz];obtain⟨tb,htb⟩:∃tb,tb=(tellP someE).1:=⟨_,rfl⟩
 have hrd:=Lo;rw [<-htb]at hrd ⊢;have htl:tb.length<=140737488355327:=by rw [htb]; exact MD
 have HRD:=zz (aN hrd htl);clear hs HC htb hrd htl;go_wp2_with fail;refine(Hw _).mono ?_;rintro e w3 ⟨rfl,hs⟩;replace HS:=zz (HS.out.trans hs);clear hs;go_wp2_with fail;refine(CG tb mostL _ HRD.out.2 (HT.out.1.same HS.out) (HT.out.2.fr HS.out (fun y=>y))).mono ?_;rintro e w4 ⟨vy,rfl,hyo,hs,hyn,ya,yc,rfl⟩;obtain⟨d,hd⟩:∃d,d=Cm.read tb mostL:=⟨_,rfl⟩
 rw [<-hd]at hyo ⊢;have hd2:=hd.trans HRD.out.1;obtain⟨y,ye⟩:=d;have hy:y=someE:=congrArg Prod.fst hd2;have hye:ye=0:=congrArg Prod.snd hd2;subst hye;simp only at hyo ⊢;replace HS:=zz (HS.out.trans hs);have HYO:=zz hyo;have HY:=zz hy;have HYL:=zz (show y.to.length<=140737488351232 by rw [hy]; decide);clear hs hyo hyn hd hd2 hy;unfold envC;go_wp2_with fail;refine(Hw _).mono ?_;rintro e w5 ⟨rfl,hs⟩;have HX:=zz (show Blk w5 w4.heap.size #[.int .i64 y.fmt,.int .i64 y.alg,.slice ya y.to.length yc,S y.header,S y.loose,S y.aad,S y.iv,S y.cipher,S y.tag] 27 from Blk.fr (Af w4 _ _) hs (fun x=>x));replace HS:=zz (HS.out.trans (sT (fA (fR _ w4) _) hs));replace HYO:=zz (Owns.same HYO.out (sT (fA (fR _ w4) _) hs));clear hs;go_wp2_with fail;refine(CG [0x30,0] mostL _ (by decide) (HT.out.1.same HS.out) (HT.out.2.fr HS.out (fun y=>y))).mono ?_;rintro e w6 ⟨vz,rfl,_,hs,_,za',zc,rfl⟩;obtain⟨d,hd⟩:∃d,d=Cm.read [0x30,0] mostL:=⟨_,rfl⟩
 have hk:=congrArg Prod.snd LT;rw [<-hd]at hk ⊢;clear hd;obtain⟨z,ze⟩:=d;simp only at hk ⊢;subst hk;replace HX:=zz (HX.out.fr hs (fun x=>x));replace HS:=zz (HS.out.trans hs);replace HYO:=zz (Owns.same HYO.out hs);clear hs;unfold envC;go_upto_region 4 with fail
 obtain⟨w7,hw7⟩:∃w7:World,w7=w6.alloc (.cells #[.int .i64 z.fmt,.int .i64 z.alg,.slice za' z.to.length zc,S z.header,S z.loose,S z.aad,S z.iv,S z.cipher,S z.tag] 27):=⟨_,rfl⟩
 have HA:=zz (show Same w6 w7 by rw [hw7]; exact fA (fR _ w6) _);rw [<-hw7];clear hw7;replace HX:=zz (HX.out.fr HA.out (fun x=>x));replace HS:=zz (HS.out.trans HA.out);replace HYO:=zz (Owns.same HYO.out HA.out);obtain⟨c0,c1,c2,c3,c4,c5,c6,c7,c8,_⟩:=AT HX.out;have hwl:=HX.out.lt;clear HA HRD HT;go_region_with (first
  | (go_at_call 17; refine(Ig _).mono ?_; rintro e wa ⟨g5,rfl,ho5,hs5,_⟩; have HSA:=zz (show Same w7 wa from sT (by first | exact fD (fR _ w7)| exact Fr.drewN (fR _ w7) _ | exact fR _ w7) hs5); have HOA:=zz ho5; clear hs5 ho5; obtain⟨c0,c1,c2,c3,c4,c5,c6,c7,c8,_⟩:=AT (HX.out.fr HSA.out (fun x=>x)); unfold envC)
  | (go_at_call 12; refine(GF y someE (.slice ya y.to.length yc) (.slice (some ⟨g5,0,none⟩) 1 1) _ (Lies.same (HYO.out.lies BJ) (by first | exact HSA.out | exact fD HSA.out | exact Fr.drewN HSA.out _)) (by first | exact HOA.out.lies BJ | exact(HOA.out.drew).lies BJ | exact(HOA.out.drewN _).lies BJ) HYL.out).mono ?_; rintro e wb ⟨rfl,hs6⟩; have HSB:=zz (show Same w7 wb from sT (by first | exact HSA.out | exact fD HSA.out | exact Fr.drewN HSA.out _) hs6); clear hs6; rw [show decide (y=someE)=true from dt HY.out]))
 all_goals
  go_wp2;go_ret;exact⟨rfl,HS.out.trans (by first | exact HSB.out | exact Fr.drewN HSB.out _)⟩
end Go.Proofs.YtpfhollohodcjaaGreatDoor
namespace Go.Px.Cm
open E5 Co
theorem Lr(s:Bytes)(lim:Lim):(∃e,read s lim=(zero,e))\/∃x,read s lim=(x,0):=by
 unfold read
 split
 ·exact .inl ⟨_,rfl⟩
 ·unfold readL
  split
  ·exact .inl ⟨_,rfl⟩
  ·exact .inr ⟨_,rfl⟩
theorem NA(s:Bytes)(lim:Lim):(read s lim).1.to.length<=8:=by
 rcases Lr s lim with ⟨e,h1⟩| ⟨x,h1⟩
 ·rw [h1];exact Nat.zero_le _
 ·rw [h1];exact(Ek h1).2.1.to.2.1
end Go.Px.Cm
namespace Go.Proofs.YtpfhollohodcjaaGreatDoor
open Go.RowKit Go.Px Go.Px.Co Go.Px.Cm
structure OnE (w w':World) (b:Nat) (lim:Lim):Prop where
 on:On w w' b lim
 err:ErrT w'
theorem OnE.sm{w w1 w2:World}{b:Nat}{lim:Lim}(h:OnE w w1 b lim)(hs:Same w1 w2):OnE w w2 b lim:=⟨h.on.sm hs,h.err.fr hs (fun y=>y)⟩
theorem OnE.boxed{w:World}(lim:Lim)(h:Tabs w)(hE:ErrT w):OnE w (w.alloc (.cells #[.int .i64 lim.d,.int .i64 lim.i,.int .i64 lim.b,.int .i64 lim.r] 23 (0,0))) w.heap.size lim:=⟨On.boxed lim h,hE.fr ((sE w).alloc _) (fun y=>y)⟩
theorem Ih(s:Bytes)(lim:Lim)(w:World)(hs0:s.length<=140737488351232)(hT:Tabs w)(hE:ErrT w):
  Calls Tryz.prog 3 #[S s,limV lim] w fun e w'=>e= .returned (.bool true)/\Below w.heap.size w w':=by
 have HL:=zz (show s.length<=140737488355327 by omega);have HO:=zz (OnE.boxed lim hT hE);clear hs0 hT hE;unfold limV;go_enter Tryz.func3,Tryz.ntmps3;go_wp2_with fail;refine(Lq _ HO.out.on.tabs HO.out.err).mono ?_;rintro e w1 ⟨rfl,hs⟩;replace HO:=zz (HO.out.sm hs);clear hs;obtain⟨c0,c1,c2,c3⟩:=HO.out.on.lim.cells;have HR:=zz (CG s lim w1 HL.out HO.out.on.tabs HO.out.err);have HRR:=zz (fun W=>IX s lim W HL.out);unfold limV at HR HRR;go_wp2_with fail;refine HR.out.mono ?_;rintro e w2 ⟨vy,rfl,hyo,hs,_,ya,yc,rfl⟩;have hto:=NA s lim;obtain⟨d,hd⟩:∃d,d=Cm.read s lim:=⟨_,rfl⟩
 rw [<-hd]at hyo hto HRR ⊢;clear hd;obtain⟨y,ye⟩:=d;simp only at hyo hto HRR ⊢;have HY:=zz hyo;have HTO:=zz hto;replace HO:=zz (HO.out.sm hs);clear hs hyo c0 c1 c2 c3 HR hto;rw [show envC y (.slice ya y.to.length yc)= #[.int .i64 y.fmt,.int .i64 y.alg,.slice ya y.to.length yc,S y.header,S y.loose,S y.aad,S y.iv,S y.cipher,S y.tag]from rfl];obtain⟨c0,c1,c2,c3⟩:=HO.out.on.lim.cells;have hwl0:w.heap.size<w2.heap.size:=Au HO.out.on.lim.2;go_wp2_with fail;refine(HRR.out _).mono ?_;rintro e w3 ⟨vz,rfl,hzo,hs,_,za',zc,rfl⟩;have HX:=zz (show Blk w3 w2.heap.size #[.int .i64 y.fmt,.int .i64 y.alg,.slice ya y.to.length yc,S y.header,S y.loose,S y.aad,S y.iv,S y.cipher,S y.tag] 27 from Blk.fr (Af w2 _ _) hs (fun x=>x));have HS23:=zz (sT (fA (fR _ w2) _) hs);have HZ:=zz hzo;replace HO:=zz (HO.out.sm HS23.out);clear hs hzo c0 c1 c2 c3;simp only;rw [show envC y (.slice za' y.to.length zc)= #[.int .i64 y.fmt,.int .i64 y.alg,.slice za' y.to.length zc,S y.header,S y.loose,S y.aad,S y.iv,S y.cipher,S y.tag]from rfl];obtain⟨c0,c1,c2,c3,c4,c5,c6,c7,c8,_⟩:=AT HX.out;have hwl:=HX.out.lt;have HSM:=zz (show ∀W,Same w3 W->Calls Tryz.prog 12 #[.agg (envC y (.slice ya y.to.length yc)),.agg (envC y (.slice za' y.to.length zc))] W fun e w'=>e= .returned (.bool (decide (y=y)))/\Same W w' from fun W hW=>GF y y _ _ W (Lies.same (HY.out.lies BJ) (HS23.out.trans hW)) (Lies.same (HZ.out.lies BJ) hW) (by have:=HTO.out; omega));rw [show decide (y=y)=true from dt rfl]at HSM;unfold envC at HSM;go_wp2_with fail;refine(HSM.out _ (fA (fR _ w3) _)).mono ?_;rintro e w4 ⟨rfl,hs⟩;replace HO:=zz (HO.out.sm (sT (fA (fR _ w3) _) hs));clear hs;go_wp2;go_ret;exact⟨by simp,HO.out.on.lim.1.toBelow _ (fun _ h=>h.elim) (Nat.le_refl _)⟩
end Go.Proofs.YtpfhollohodcjaaGreatDoor
