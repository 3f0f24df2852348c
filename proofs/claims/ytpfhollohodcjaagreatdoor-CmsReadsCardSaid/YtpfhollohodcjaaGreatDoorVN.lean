import Derived.Test.YtpfhollohodcjaaGreatDoorVM
import Derived.Test.YtpfhollohodcjaaGreatDoorVF
import Derived.Test.YtpfhollohodcjaaGreatDoorVH
import Derived.Test.YtpfhollohodcjaaGreatDoorVB
import Derived.Deep.AppendSrc
import Derived.Deep.Upon
set_option maxRecDepth 100000
set_option maxHeartbeats 4000000
namespace Go.Proofs.YtpfhollohodcjaaGreatDoor
open Go.RowKit Go.Px Go.Px.R5
def Went(s:Bytes)(lim:Lim)(d:List Px.Node×Int×Int):Prop:=
 (∃m e,D5.run s lim m=some (.error e)/\d=([],e.1,e.2))\/
 (∃m y,D5.run s lim m=some (.ok y)/\¬y.at_<s.length/\d=(y.out,0,0))\/
 (∃m y e,D5.run s lim m=some (.ok y)/\y.at_<s.length/\D5.want s lim y.at_= .error e/\d=([],e.1,e.2))\/
 (∃m y c,D5.run s lim m=some (.ok y)/\y.at_<s.length/\D5.want s lim y.at_= .ok c/\d=([],(y.at_:Int),9))
theorem CJ{x:St}(h:¬x.err=0):R5.list x=[]:=by
 unfold R5.list;rw [if_neg (by simpa using h)]
theorem Hu{x:St}(h:x.err=0):R5.list x=x.out:=by
 unfold R5.list;rw [if_pos (by simpa using h)]
theorem L7(s:Bytes)(lim:Lim)(hm:lim.may=true):Went s lim (R5.list (R5.read s lim),(R5.read s lim).place,(R5.read s lim).err):=by
 have hrun:=D5.MI s lim hm;have hok:=E5.Du (s:=s) hm;unfold R5.read;cases hr:R5.elem s lim lim.d.toNat R5.start 0 none with
 | mk o y=>
  rw [hr]at hrun;cases o with
  | none=>
   obtain⟨m,hm2⟩:=hrun;have hne:¬y.err=0:=E5.EQ _ _ _ _ _ _ _ hr;refine Or.inl ⟨m,_,hm2,?_⟩;simp only;rw [CJ hne];rfl
  | some q=>
   obtain⟨_,_,m,hm2⟩:=hrun;obtain⟨l,h2⟩:=E5.Ce s lim lim.d.toNat R5.start y 0 q none hok hr;have he:y.err=0:=h2.err;have hp:y.place=0:=h2.place;simp only;by_cases hlt:q<s.length
   ·rw [if_pos hlt];cases hw:R5.want s lim y q with
    | mk b z=>
     cases b
     ·refine Or.inr (.inr (.inl ⟨m,_,_,hm2,hlt,D5.CY hw,?_⟩));simp only;rw [CJ (E5.BX hw)];rfl
     ·refine Or.inr (.inr (.inr ⟨m,_,_,hm2,hlt,(D5.BE hw (Nat.le_of_eq h2.ok.taken)).1,?_⟩));simp only;rw [CJ (show ¬(fault z (q:Int) 9).err=0 by simp [fault])];rfl
   ·rw [if_neg hlt];refine Or.inr (.inl ⟨m,_,hm2,hlt,?_⟩);rw [Hu he,hp,he]
def Gives(w:World)(d:List Px.Node×Int×Int)(r:Ending)(w':World):Prop:=
 ∃vo,r= .returned (.tuple #[vo,.int .i64 d.2.1,.int .i64 d.2.2])/\Owns w' 90 3 cNode vo d.1/\Same w w'/\∀g,vo.ownBlock=some g->w.heap.size<=g
theorem CK{w w':World}{r:Ending}{p e:Int}(hr:r= .returned (.tuple #[.slice none 0 0,.int .i64 p,.int .i64 e]))(hs:Same w w'):Gives w ([],p,e) r w':=
 ⟨_,hr,A4 _ _ _ _,hs,fun g hg=>by simp [Value.ownBlock]at hg⟩
theorem DF(s:Bytes)(lim:Lim)(hs:s.length<=140737488355327)(w:World)(hT:Tabs w):
  Calls Tryz.prog 22 #[S s,limV lim] w (Gives w (R5.decode s lim)):=by
 have hT2:∀w2,Same w w2->Tabs w2:=fun w2 h=>hT.same h
 cases hm:lim.may
 ·rw [E5.decode_no hm];exact(Go.Proofs.YtpfhollohodcjaaGreatDoor.decode_no s lim hm w).mono fun r w' ⟨h1,h2⟩=>CK h1 h2
 ·rw [E5.Cg hm];rcases L7 s lim hm with ⟨m,e,h1,h2⟩| ⟨m,y,h1,h2,h3⟩| ⟨m,y,e,h1,h2,h3,h4⟩| ⟨m,y,c,h1,h2,h3,h4⟩
  ·rw [h2];exact(JR s lim hs hm w hT2 m e h1).mono fun r w' ⟨a,b⟩=>CK a b
  ·rw [h3];exact(KK s lim hs hm w hT2 m y h1 h2).mono fun r w' h=>h
  ·rw [h4];exact(IE s lim hs hm w hT2 m y h1 h2 e h3).mono fun r w' ⟨a,b⟩=>CK a b
  ·rw [h4];exact(IF s lim hs hm w hT2 m y h1 h2 c h3).mono fun r w' ⟨a,b⟩=>CK a b
theorem Fr.toSame{F:Nat->Prop}{w w':World}(h:Fr F w w')(hF:∀k,F k->w.heap.size<=k):Same w w':=
 ⟨h.os,h.tape,h.output,h.size,fun k hk _=>h.block k hk (fun e=>by have:=hF k e; omega)⟩
def RDone(w:World)(s:Bytes)(lim:Lim)(y:St)(r:Ending)(w':World):Prop:=
 ∃b vo,r= .returned (.pointer (some ⟨b,0,none⟩))/\RdRep w' b s lim {y with out:=R5.list y} vo/\Same w w'/\∀k,rfoot b vo k->w.heap.size<=k
structure RIn (w w1:World) (s:Bytes) (lim:Lim) (y:St) (vo:Value):Prop where
 rep:RdRep w1 (w.heap.size+1) s lim y vo
 same:Same w w1
 own:∀k,rfoot (w.heap.size+1) vo k->w.heap.size+1<=k
theorem RIn.step{w w1 w2:World}{s:Bytes}{lim:Lim}{y z:St}{vo:Value}(h:RIn w w1 s lim y vo)(hr:Rd w2 (w.heap.size+1) 136 s lim z vo [])(hf:Fr (It (w.heap.size+1)) w1 w2)(ho:z.out=y.out):RIn w w2 s lim z vo:=
 ⟨h.rep.step hr hf ho,Fr.toSame (fT (h.same.fr (It (w.heap.size+1))) hf (fun _ _ e=>e)) (fun k e=>by unfold It at e; omega),h.own⟩
theorem RIn.done{w w1:World}{s:Bytes}{lim:Lim}{y:St}{vo:Value}(h:RIn w w1 s lim y vo)(he:y.err=0):RDone w s lim y (.returned (.pointer (some ⟨w.heap.size+1,0,none⟩))) w1:=
 ⟨_,vo,rfl,by rw [Hu he]; exact h.rep,h.same,fun k hk=>by have:=h.own k hk; omega⟩
theorem RIn.doneNil{w w1:World}{s:Bytes}{lim:Lim}{y:St}{vo:Value}(h:RIn w w1 s lim y vo)(he:¬y.err=0):RDone w s lim y (.returned (.pointer (some ⟨w.heap.size+1,0,none⟩))) (w1.setCell ⟨w.heap.size+1,5,none⟩ (.slice none 0 0)):=by
 refine⟨_,.slice none 0 0,rfl,⟨?_,?_,fun k hk=>by simp [Value.ownBlock]at hk⟩,?_,?_⟩
 ·rw [CJ he];exact h.rep.rd.set 5 _ _ _ _ (by simp [rdCells])
 ·rw [CJ he]; exact A4 _ _ _ _
 ·exact h.same.setCell (p:=⟨w.heap.size+1,5,none⟩) (.inr (by simp)) _
 ·rintro k (rfl | hk)
  ·omega
  ·simp [Value.ownBlock]at hk
theorem JS(s:Bytes)(lim:Lim)(w:World)(hm:lim.may=true)(hs:s.length<=140737488355327):
  Calls Tryz.prog 77 #[S s,limV lim] w (RDone w s lim (R5.read s lim)):=by
 have hmay:=E5.Aw hm;have hb1:=hmay.2.2.2.2.1;have hb2:=hmay.2.2.2.2.2.1;have hsm:s.length<=maxLen:=by unfold maxLen; omega
 have hsz:(ByteArray.mk s.toArray).size=s.length:=Ad s;obtain⟨RD,hRD⟩:∃RD,RD=R5.read s lim:=⟨_,rfl⟩
 rw [<-hRD];have HM:=zz (aN hm (aN hs (aN hRD (aN hsm (aN hb1 hb2)))));clear hm hs hmay hb1 hb2 hsm hRD;unfold limV;go_enter Tryz.func77,Tryz.ntmps77;go_wp2_with fail;obtain⟨WX,hWX⟩:∃WX,WX=((w.alloc (.cells #[.int .i64 lim.d,.int .i64 lim.i,.int .i64 lim.b,.int .i64 lim.r] 23 (0,0))).alloc (.cells #[S s,.int .i64 lim.d,.int .i64 lim.i,.int .i64 lim.b,.int .i64 lim.r,.slice none 0 0,.int .i64 0,.int .i64 0,.int .i64 0,.int .i64 0,.bool false] 136 (0,0))):=⟨_,rfl⟩
 rw [<-hWX];have HX:=zz (show RIn w WX s lim R5.start (.slice none 0 0)from by
  rw [hWX];refine⟨⟨⟨?_⟩,A4 _ _ _ _,fun k hk=>by simp [Value.ownBlock]at hk⟩,((sE w).alloc _).alloc _,?_⟩
  ·show _=some (Obj.cells #[S s,.int .i64 lim.d,.int .i64 lim.i,.int .i64 lim.b,.int .i64 lim.r,.slice none 0 0,.int .i64 0,.int .i64 0,.int .i64 0,.int .i64 0,.bool false] 136 (0,0));have:=heap_alloc_new (w.alloc (.cells #[.int .i64 lim.d,.int .i64 lim.i,.int .i64 lim.b,.int .i64 lim.r] 23 (0,0))) (.cells #[S s,.int .i64 lim.d,.int .i64 lim.i,.int .i64 lim.b,.int .i64 lim.r,.slice none 0 0,.int .i64 0,.int .i64 0,.int .i64 0,.int .i64 0,.bool false] 136 (0,0));simpa using this
  ·rintro k (rfl | hk)
   ·omega
   ·simp [Value.ownBlock]at hk)
 clear hWX;have hcall:Calls Tryz.prog 120 #[.pointer (some ⟨w.heap.size+1,0,none⟩),.int .i64 0,.int .i64 0,.int .i64 (-1)] WX fun r w'=>r= .returned (itemV (R5.elem s lim lim.d.toNat R5.start 0 none).1)/\Did WX (w.heap.size+1) s lim (rfoot (w.heap.size+1) (.slice none 0 0)) (R5.elem s lim lim.d.toNat R5.start 0 none).2 w':=
  L6 s lim HM.out.2.1 HM.out.1 lim.d.toNat (w.heap.size+1) 0 0 R5.start none _ WX ⟨_,HX.out.rep,rfl⟩ (E5.Du HM.out.1) (Nat.le_refl _) (by have:=(E5.Aw HM.out.1).1; omega) (fun v hv=>by cases hv)
 have HC:=zz hcall;clear hcall;refine HC.out.mono ?_;rintro e w1 ⟨rfl,hd⟩;cases hr:R5.elem s lim lim.d.toNat R5.start 0 none with
 | mk o y=>
  rw [hr]at hd;obtain⟨F',⟨vo,hrp,rfl⟩,hf,hn⟩:=hd;have HY:=zz (show RIn w w1 s lim y vo from by
   refine⟨hrp,Fr.toSame (fT (HX.out.same.fr (rfoot (w.heap.size+1) (.slice none 0 0))) hf (fun _ _ e=>e)) (fun k e=>by have:=HX.out.own k e; omega),fun k hk=>?_⟩;rcases hn k hk with e | e
   ·exact HX.out.own k e
   ·have:=HX.out.rep.rd.lt; omega)
  clear hrp hf hn HX HC;cases o with
  | none=>
   have hne:¬y.err=0:=E5.EQ _ _ _ _ _ _ _ hr;have HE:=zz (aN (show RD=y by rw [HM.out.2.2.1]; unfold R5.read; rw [hr]) hne);have hneb:(y.err==0)=false:=bn hne;have c6:=HY.out.rep.rd.cells.2.2.2.2.1;have c5:=HY.out.rep.cell5;have f5:=HY.out.rep.rd.free 5;clear hr hne;unfold itemV;go_wp2;go_ret;rw [HE.out.1];exact HY.out.doneNil HE.out.2
  | some q=>
   obtain⟨l,hsn⟩:=E5.Ce s lim lim.d.toNat R5.start y 0 q none (E5.Du HM.out.1) hr;have he0:y.err=0:=hsn.err;have hqs:q<=s.length:=hsn.ok.ps;have hqb:(q:Int)<=lim.b:=hsn.ok.pb;have hb2:=HM.out.2.2.2.2.2;clear hsn;unfold itemV;by_cases hlt:q<s.length
   ·have hltz:(q:Int)<(s.length:Int):=by omega
    have hwt:=AW (w.heap.size+1) _ q s lim y vo [] w1 HY.out.rep.rd HM.out.2.2.2.1 HM.out.2.2.2.2.1 HM.out.2.2.2.2.2 (by unfold maxLen; omega);cases hv:R5.want s lim y q with
    | mk bv z=>
     rw [hv]at hwt;have hzo:z.out=y.out:=by have:=AD s lim y q; rw [hv]at this; exact this
     have HW:=zz (aN hwt hzo);cases bv with
     | false=>
      have hne:¬z.err=0:=E5.BX hv;have HE:=zz (aN (show RD=z by rw [HM.out.2.2.1]; unfold R5.read; rw [hr]; simp only; rw [if_pos hlt,hv]) hne);have hneb:(z.err==0)=false:=bn hne;clear hr hne hv hwt hzo he0 hlt;go_wp2_with fail;refine HW.out.1.mono ?_;rintro r w2 ⟨rfl,hrd,hf⟩;have HZ:=zz (HY.out.step hrd hf HW.out.2);clear hrd hf;have c6:=HZ.out.rep.rd.cells.2.2.2.2.1;have c5:=HZ.out.rep.cell5;have f5:=HZ.out.rep.rd.free 5;go_wp2;go_ret;rw [HE.out.1];exact HZ.out.doneNil HE.out.2
     | true=>
      have hne:¬(fault z (q:Int) 9).err=0:=by simp [fault]
      have HE:=zz (aN (show RD=fault z (q:Int) 9 by rw [HM.out.2.2.1]; unfold R5.read; rw [hr]; simp only; rw [if_pos hlt,hv]) hne);clear hr hne hv hwt hzo he0 hlt;go_wp2_with fail;refine HW.out.1.mono ?_;rintro r w2 ⟨rfl,hrd,hf⟩;have HZ:=zz (HY.out.step hrd hf HW.out.2);clear hrd hf;go_wp2_with fail;refine(AS (w.heap.size+1) _ q 9 s lim z vo [] _ HZ.out.rep.rd).mono ?_;rintro r w3 ⟨rfl,hrd,hf⟩;have HZ2:=zz (HZ.out.step hrd hf rfl);clear hrd hf;have c6:w3.cell? ⟨w.heap.size+1,6,none⟩=some (.int .i64 9):=HZ2.out.rep.rd.cells.2.2.2.2.1;have c5:=HZ2.out.rep.cell5;have f5:=HZ2.out.rep.rd.free 5;go_wp2;go_ret;rw [HE.out.1];exact HZ2.out.doneNil HE.out.2
   ·have hltz:¬(q:Int)<(s.length:Int):=by omega
    have HE:=zz (aN (show RD=y by rw [HM.out.2.2.1]; unfold R5.read; rw [hr]; simp only; rw [if_neg hlt]) he0);have c6:=HY.out.rep.rd.cells.2.2.2.2.1;rw [he0]at c6;clear hr he0 hlt;go_wp2;go_ret;rw [HE.out.1];exact HY.out.done HE.out.2
theorem GJ(s:Bytes)(lim:Lim)(hs:s.length<=140737488355327)(w:World):
  Calls Tryz.prog 30 #[S s,limV lim] w (Gives w (R5.decode s lim)):=by
 have HS:=zz hs;clear hs;unfold limV;go_enter Tryz.func30,Tryz.ntmps30;go_upto_region 1 with fail
 obtain⟨WX,hWX⟩:∃WX,WX=w.alloc (.cells #[.int .i64 lim.d,.int .i64 lim.i,.int .i64 lim.b,.int .i64 lim.r] 23 (0,0)):=⟨_,rfl⟩
 rw [<-hWX];have HX:=zz (show WX.heap[w.heap.size]?=some (.cells #[.int .i64 lim.d,.int .i64 lim.i,.int .i64 lim.b,.int .i64 lim.r] 23 (0,0))/\Same w WX from by rw [hWX]; exact⟨heap_alloc_new w _,(sE w).alloc _⟩);clear hWX;have a0:=Ab HX.out.1 0 rfl;have a1:=Ab HX.out.1 1 rfl;have a2:=Ab HX.out.1 2 rfl;have a3:=Ab HX.out.1 3 rfl;go_wp2_with fail;refine(Jv lim _).mono ?_;rintro e w1 ⟨rfl,hsm⟩;have HL:=zz (aN ((hsm.block _ (Au HX.out.1) (fun x=>x)).trans HX.out.1) (HX.out.2.trans hsm));clear hsm a0 a1 a2 a3;have a0:=Ab HL.out.1 0 rfl;have a1:=Ab HL.out.1 1 rfl;have a2:=Ab HL.out.1 2 rfl;have a3:=Ab HL.out.1 3 rfl;cases hm:lim.may
 ·have HR:=zz (E5.decode_no (s:=s) hm);clear hm;go_wp2;go_ret3
  rw [HR.out];exact CK rfl HL.out.2
 ·have HR:=zz (aN (E5.Cg (s:=s) hm) hm);clear hm;go_wp2_with fail;refine(JS s lim _ HR.out.2 HS.out).mono ?_;rintro e w2 ⟨b,vo,rfl,hrp,hsm,hown⟩;have HV:=zz (aN hrp (aN (HL.out.2.trans hsm) (fun g hg=>Nat.le_trans HL.out.2.size (hown g (.inr hg)))));obtain⟨x,hx⟩:∃x,x=R5.read s lim:=⟨_,rfl⟩
  rw [<-hx]at HR HV hrp;clear hx;have c6:=hrp.rd.cells.2.2.2.2.1;have c7:=hrp.rd.cells.2.2.2.2.2.1;have c5:=hrp.cell5;simp only at c6 c7;clear hrp hsm hown a0 a1 a2 a3;go_wp2_with fail;go_quiet (fail)
  go_wp2;go_ret3
  rw [HR.out.1];exact⟨vo,rfl,HV.out.1.out.drewN nq,HV.out.2.1.drewN nq,HV.out.2.2⟩
end Go.Proofs.YtpfhollohodcjaaGreatDoor
namespace Go.Px
open Go.RowKit
theorem Dj(g:Nat)(T:TypeId):∀(vs:List Value) (o:Nat) (w:World) (cur:Array Value),w.heap[g]?=some (.cells cur T (0,0))->o+vs.length<=cur.size->
  ∃cur',(w.setCells g o vs).heap[g]?=some (.cells cur' T (0,0))/\cur'.size=cur.size/\cur'.toList.take (o+vs.length)=cur.toList.take o++vs/\w.grownBy (w.setCells g o vs) (some g)
 | [],o,w,cur,h,_=>⟨cur,h,rfl,by rw [List.length_nil,Nat.add_zero,List.append_nil],⟨rfl,rfl,rfl,Nat.le_refl _,fun _ _ _=>rfl⟩⟩
 | v::r,o,w,cur,h,hl=>by
  simp only [List.length_cons]at hl;have h1:=heap_setCell_same w g o _ _ v h;obtain⟨cur',k1,k2,k3,k4⟩:=Dj g T r (o+1) (w.setCell ⟨g,o,none⟩ v) _ h1 (by simp; omega);refine⟨cur',k1,by rw [k2]; simp,?_,?_⟩
  ·rw [List.length_cons,show o+(r.length+1)=o+1+r.length by omega,k3];have hol:o<cur.toList.length:=by rw [Array.length_toList]; omega
   have e:(cur.setIfInBounds o v).toList.take (o+1)=cur.toList.take o++ [v]:=by
    rw [Array.toList_setIfInBounds,List.take_succ_eq_append_getElem (by rw [List.length_set]; exact hol),List.getElem_set_self,List.take_set_of_le (Nat.le_refl _)]
   rw [e,List.append_assoc];rfl
  ·refine⟨k4.os,k4.tape,k4.output,by rw [<-show(w.setCell ⟨g,o,none⟩ v).heap.size=w.heap.size by simp [World.setCell]]; exact k4.size,fun k hk hne=>?_⟩;have:=k4.block k (by simpa [World.setCell] using hk) hne;rw [show w.setCells g o (v::r)=(w.setCell ⟨g,o,none⟩ v).setCells g (o+1) r from rfl,this];exact heap_setCell_other w ⟨g,o,none⟩ k v (fun e=>hne (by rw [e]))
theorem FY (P:Program) (w:World) (t tx ty:TypeId) (e:TypeId) (i:TypeInfo) (z:Value) (size bytes:Nat) (ht:P.underlying t=some (.slice e)) (hi:P.info? e=some i) (hz:i.zero=some z)
  (hsize:i.size=size) (hby:i.bytes=bytes) (hzs:z.cells.size=size)
  (v:Value) (n:Nat) (xs:List Value) (hown:w.ownsRow 0 e size v n xs)
  (x:Value) (m:Nat) (news:List Value) (hs:Src P size tx x m news w)
  (hn:0<n) (h63:n+m<=maxLen) (hbytes:(n+m)*bytes<=140737488355328):
  ∃g cap w',(Builtin.append_ #[t,tx] ty #[v,x]).run P w= .ok (.slice (some ⟨g,0,none⟩) (n+m) cap) w'/\
   w'.ownsRow 0 e size (.slice (some ⟨g,0,none⟩) (n+m) cap) (n+m) (xs++news)/\w.grownBy w' v.ownBlock/\(v.ownBlock=some g\/g=w.heap.size):=by
 subst hsize;subst hby;have hlen:(xs++news).length=(n+m)*i.size:=by rw [List.length_append,hown.1,hs.newsLen,Nat.add_mul]
 rcases hown.2 with ⟨_,h0⟩| ⟨g,cap,cur,rfl,_,hg,hnc,hcm,hcs,htake⟩
 ·omega
 ·by_cases hroom:n+m<=cap
  ·have hfit:n*i.size+news.length<=cur.size:=by rw [hs.newsLen,hcs,<-Nat.add_mul]; exact Nat.mul_le_mul_right _ hroom
   have hr:=run_append_room_src (P:=P) w t tx ty e i ht hi g 0 n cap x m news hs hroom
    (fun j hj=>by simp only [World.cell?,hg]; rw [Array.getElem?_eq_getElem (by omega)]; rfl) (fun j _=>by simp [World.frozen?,hg])
   obtain⟨cur',k1,k2,k3,k4⟩:=Dj g e news (0+n*i.size) w cur hg (by omega);refine⟨g,cap,_,hr,⟨hlen,.inr ⟨g,cap,cur',rfl,Nat.zero_le _,k1,hroom,hcm,k2.trans hcs,?_⟩⟩,k4,.inl rfl⟩;rw [<-hlen,List.length_append,hown.1];rw [Nat.zero_add]at k3;rw [k3,htake]
  ·have holds:∀j u,xs[j]?=some u->w.drew.cell? ((⟨g,0,none⟩:Addr).add j)=some u:=hown.cells (g:=g) rfl;have hr:=run_append_grow_src (P:=P) w t tx ty e i z ht hi hz (some ⟨g,0,none⟩) n cap xs (run_firstCells_some w.drew i.size n ⟨g,0,none⟩ n cap xs hown.1 holds) x m news hs (by omega) (by unfold maxLen at h63; omega) (growslice_fits (by omega) hbytes);refine⟨w.heap.size,_,_,hr,⟨hlen,.inr ⟨w.heap.size,_,_,rfl,Nat.zero_le _,heap_alloc_new w.drew _,grownCap_ge w (n+m) cap e,grownCap_le_maxLen w (n+m) cap e h63,?_,?_⟩⟩,⟨rfl,rfl,rfl,by simp,fun k hk _=>heap_alloc_old w.drew _ hk⟩,.inr rfl⟩
   ·have hge:=grownCap_ge w (n+m) cap e;simp only [Array.size_append,List.size_toArray,size_zeroCells,hzs,hlen,<-Nat.add_mul]
    congr 1
    omega
   ·simp only [Array.toList_append];rw [<-hlen];exact List.take_left
theorem GK {P:Program} {w:World} {o:Oper} {a:Act} {K:Act->World->Prop} {Q:Exit->Act->World->Prop} (s x:Operand) (t tx:TypeId)
  (ho:o.op= .call {callee:= .builtin .append,args:= #[s,x],argTypes:= #[t,tx]})
  (e:TypeId) (i:TypeInfo) (z:Value) (size bytes:Nat) (ht:P.underlying t=some (.slice e)) (hi:P.info? e=some i) (hz:i.zero=some z)
  (hsize:i.size=size) (hby:i.bytes=bytes) (hzs:z.cells.size=size)
  (v:Value) (n:Nat) (xs:List Value) (hs:a.eval s=v) (hown:w.ownsRow 0 e size v n xs)
  (vx:Value) (m:Nat) (news:List Value) (hx:a.eval x=vx) (hsrc:Src P size tx vx m news w)
  (hn:0<n) (h63:n+m<=maxLen) (hbytes:(n+m)*bytes<=140737488355328)
  (h:∀g cap w',w'.ownsRow 0 e size (.slice (some ⟨g,0,none⟩) (n+m) cap) (n+m) (xs++news)->w.grownBy w' v.ownBlock->(v.ownBlock=some g\/g=w.heap.size)->K (a.put o.dst (.slice (some ⟨g,0,none⟩) (n+m) cap)) w'):o.wp P a w K Q:=by
 obtain⟨g,cap,w',hr,h2,h3,h4⟩:=FY P w t tx o.type e i z size bytes ht hi hz hsize hby hzs v n xs hown vx m news hsrc hn h63 hbytes;unfold Oper.wp execOp;simp only [ho,resolve,invoke,builtin,Sem.run_bind,Sem.run_pure,Result.andThen_ok,List.map_toArray,List.map_cons,List.map_nil,hs,hx,hr];exact h g cap w' h2 h3 h4
structure Lies {α:Type} (w:World) (sz:Nat) (c:α->List Value) (v:Value) (l:List α):Prop where
 slice:∃a cap,v= .slice a l.length cap/\l.length<=cap/\cap<=maxLen
 cell:∀(j:Nat) (x:α),l[j]?=some x->∃b off cap,v= .slice (some ⟨b,off,none⟩) l.length cap/\b<w.heap.size/\∀i u,(c x)[i]?=some u->w.cell? ⟨b,off+(j*sz+i),none⟩=some u
section
variable {α : Type} {w w' : World} {T sz : Nat} {c : α -> List Value} {v : Value} {l : List α}
theorem Lies.keep(h:Lies w sz c v l)(hs:w.heap.size<=w'.heap.size)(hb:∀k,v.ownBlock=some k->w'.heap[k]?=w.heap[k]?):Lies w' sz c v l:=
 ⟨h.slice,fun j x hj=>by
  obtain⟨b,off,cap,h1,h2,h3⟩:=h.cell j x hj;refine⟨b,off,cap,h1,Nat.lt_of_lt_of_le h2 hs,fun i u hu=>?_⟩;exact(World.cell?_of_block (w:=w) (hb b (by rw [h1]; rfl))).trans (h3 i u hu)⟩
theorem Owns.lies(h:Owns w T sz c v l)(hc:∀a,(c a).length=sz):Lies w sz c v l:=by
 obtain⟨a,cap,h1,h2,h3,_⟩:=h.len;refine⟨⟨a,cap,h1,h2,h3⟩,fun j x hj=>?_⟩;obtain⟨g,cap2,k1,k2,k3,k4,k5⟩:=h.at hc hj;exact⟨g,0,cap2,k1,h.lt (by rw [k1]; rfl),fun i u hu=>by rw [Nat.zero_add]; exact k4 i u hu⟩
end
end Go.Px
namespace Go.Proofs.YtpfhollohodcjaaGreatDoor
open Go.RowKit Go.Px
theorem Nm(m:Nat)(hm:m<=262144)(h0:0<m):E5.dgN 8 m=1+E5.dgN 8 (m / 256):=by
 conv=>lhs; unfold E5.dgN
 rw [if_neg (by omega),E5.BY 7 (m / 256) (by omega)]
theorem Fb(n:Nat):E5.headN n=if n<128 then 2 else 2+E5.dgN 8 n:=by
 unfold E5.headN;rw [E5.CC]
 split<;>omega
theorem L8(n:Nat):E5.headN n<=10:=by
 unfold E5.headN;have:=E5.CT n;omega
theorem Gx(n:Nat)(hn:n<=262144)(w:World):Calls Tryz.prog 89 #[.int .i64 (n:Nat)] w fun r w'=>r= .returned (.int .i64 (E5.headN n:Nat))/\w=w':=by
 by_cases h1:n<128
 ·have HV:=zz (show E5.headN n=2 by rw [Fb,if_pos h1]);have z:¬(128:Int)<=n:=by omega
  clear h1;go_enter Tryz.func89,Tryz.ntmps89;go_wp2;go_ret;rw [HV.out];exact⟨rfl,rfl⟩
 ·have HV:=zz (show E5.headN n=2+E5.dgN 8 n by rw [Fb,if_neg h1]);have z:(128:Int)<=n:=by omega
  clear h1;go_enter Tryz.func89,Tryz.ntmps89;go_wp2;go_loop [0,3] (fun nn oo=>∃m o:Nat,m<=262144/\o<=100/\nn= .int .i64 (m:Nat)/\oo= .int .i64 (o:Nat)/\Hid (o+E5.dgN 8 m=2+E5.dgN 8 n)) (fun nn _=>(intOf nn).toNat)
  case atStart=>exact⟨n,2,hn,by omega,rfl,rfl,zz rfl⟩
  case round=>
   obtain⟨m,o,hm,ho,rfl,rfl,HR⟩:=hrel;by_cases h0:0<m
   ·have hz:(0:Int)<m:=by omega
    have hst:=Nm m hm h0;have hle:=E5.DZ 8 n;have hle2:=E5.DZ 8 m;have HE:=zz (show o+1+E5.dgN 8 (m / 256)=2+E5.dgN 8 n/\o+1<=100 by have:=HR.out; omega);clear hst hle hle2;go_wp2;go_round
    case rel=>exact⟨m / 256,o+1,by omega,HE.out.2,by go_num,by go_num,zz HE.out.1⟩
    case measure=>simp [intOf]; omega
   ·have hz:¬(0:Int)<m:=by omega
    have HE:=zz (show E5.headN n=o by
     have h1:=HR.out;have:m=0:=by omega
     rw [this]at h1;rw [HV.out];have:E5.dgN 8 0=0:=rfl;omega)
    clear h0;go_wp2;go_ret;rw [HE.out];exact⟨rfl,rfl⟩
theorem Lies.same{α:Type}{w w':World}{sz:Nat}{c:α->List Value}{v:Value}{l:List α}(h:Lies w sz c v l)(hs:Same w w'):Lies w' sz c v l:=
 ⟨h.slice,fun j x hj=>by
  obtain⟨b,off,cap,h1,h2,h3⟩:=h.cell j x hj;exact⟨b,off,cap,h1,Nat.lt_of_lt_of_le h2 hs.size,fun i u hu=>(hs.cell (p:=⟨b,off+(j*sz+i),none⟩) h2 (fun x=>x)).trans (h3 i u hu)⟩⟩
def cNum(n:Nat):List Value:=[.int .i64 (n:Nat)]
theorem Bk(n:Nat):(cNum n).length=1:=rfl
theorem Tryz.infoI64:(Tryz.prog.info? 3).map (fun i=>(i.zero,i.size,i.bytes))=some (some (.int .i64 0),1,8):=by kernel_rfl
structure Nums (w wr:World) (v:Value) (left:List Nat):Prop where
 own:Owns wr 3 1 cNum v left.reverse
 same:Same w wr
 new:∀g,v.ownBlock=some g->w.heap.size<=g
theorem Nums.sm{w wr w2:World}{v:Value}{left:List Nat}(h:Nums w wr v left)(hs:Same wr w2):Nums w w2 v left:=⟨Owns.same h.own hs,h.same.trans hs,h.new⟩
theorem Nums.top{w wr:World}{v:Value}{c:Nat}{rest:List Nat}(h:Nums w wr v (c::rest)):∃g cap,v= .slice (some ⟨g,0,none⟩) (rest.length+1) cap/\rest.length+1<=cap/\cap<=maxLen/\wr.cell? ⟨g,rest.length,none⟩=some (.int .i64 (c:Nat))/\wr.frozen? ⟨g,rest.length,none⟩=false/\g<wr.heap.size:=by
 have h':=h.own;rw [List.reverse_cons]at h';obtain⟨g,cap,h1,h2,h3,h4,h5⟩:=h'.last Bk;rw [List.length_reverse]at h1 h2 h4;have:=h4 0 _ rfl;rw [Nat.add_zero,Nat.mul_one]at this;exact⟨g,cap,h1,h2,h3,this,h5 _,h'.lt (by rw [h1]; rfl)⟩
theorem Nums.set{w wr:World}{c:Nat}{rest:List Nat}{g cap:Nat}(h:Nums w wr (.slice (some ⟨g,0,none⟩) (rest.length+1) cap) (c::rest))(n:Nat):
  Nums w (wr.setCell ⟨g,rest.length,none⟩ (.int .i64 (n:Nat))) (.slice (some ⟨g,0,none⟩) (rest.length+1) cap) (n::rest):=by
 have h':=h.own;rw [List.reverse_cons,<- @List.length_reverse _ rest]at h';have k:=h'.setLast (b:=n) Bk 0 (.int .i64 (n:Nat)) rfl;rw [List.length_reverse,Nat.mul_one,Nat.add_zero]at k;refine⟨by rw [List.reverse_cons]; exact k,h.same.setCell (p:=⟨g,rest.length,none⟩) (.inr (h.new g rfl)) _,h.new⟩
theorem Nums.pop{w wr:World}{c:Nat}{rest:List Nat}{g cap:Nat}(h:Nums w wr (.slice (some ⟨g,0,none⟩) (rest.length+1) cap) (c::rest)):Nums w wr (.slice (some ⟨g,0,none⟩) rest.length cap) rest:=by
 have h':=h.own;rw [List.reverse_cons,<- @List.length_reverse _ rest]at h';have k:=h'.pop Bk;rw [List.length_reverse]at k;exact⟨k,h.same,h.new⟩
theorem Nums.len{w wr:World}{v:Value}{left:List Nat}(h:Nums w wr v left):∃a cap,v= .slice a left.length cap:=by
 obtain⟨a,cap,h1,_⟩:=h.own.len;rw [List.length_reverse]at h1;exact⟨a,cap,h1⟩
theorem Nums.push {w wr w1:World} {v:Value} {left:List Nat} {n g cap:Nat} (h:Nums w wr v left)
  (hown:w1.ownsRow 0 3 1 (.slice (some ⟨g,0,none⟩) (left.length+1) cap) (left.length+1) (left.reverse.flatMap cNum++cNum n)) (hg:wr.grownBy w1 v.ownBlock) (hat:v.ownBlock=some g\/wr.heap.size<=g):
  Nums w w1 (.slice (some ⟨g,0,none⟩) (left.length+1) cap) (n::left):=by
 have hrl:left.reverse.length=left.length:=List.length_reverse;have k:=Bb (l:=left.reverse) (c:=cNum) (a:=n) (w:=w1) (T:=3) (sz:=1) (g:=g) (cap:=cap) (by rw [hrl]; exact hown);rw [hrl]at k;refine⟨by rw [List.reverse_cons]; exact k,Fr.grown h.same hg (fun k e=> .inr (h.new k e)),fun g' hg'=>?_⟩;simp only [Value.ownBlock,Option.some.injEq]at hg';subst hg';rcases hat with e | e
 ·exact h.new _ e
 ·exact Nat.le_trans h.same.size e
theorem Nums.row{w wr:World}{v:Value}{left:List Nat}(h:Nums w wr v left):wr.ownsRow 0 3 1 v left.length (left.reverse.flatMap cNum):=by
 have:=h.own;unfold Owns at this;rw [List.length_reverse]at this;exact this
end Go.Proofs.YtpfhollohodcjaaGreatDoor
