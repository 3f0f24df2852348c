import Derived.Test.YtpfhollohodcjaaGreatDoorWR
import Derived.Test.YtpfhollohodcjaaGreatDoorWD
set_option maxRecDepth 100000
set_option maxHeartbeats 16000000
set_option linter.unusedSimpArgs false
namespace Go.Proofs.YtpfhollohodcjaaGreatDoor
open Go.RowKit Go.Px Go.Px.Co Go.Px.Cm
structure HdW (hs:List (List Px.Node)):Prop where
 len:hs.length<=1
 each:∀h∈hs,Wf h/\h.length<=4096
theorem GD{l:List Px.Node}{s:Bytes}(h:E5.Enc l (s,0)):s.length<=262144:=by
 cases h with
 | ok _ _ _ h=>exact h
theorem BV(a:Int):(algT a).length=1:=rfl
theorem BW(iv:Bytes)(n:Nat):((sizeUs iv n).map List.length).sum<=2:=by
 unfold sizeUs
 split<;>simp [lf]
theorem A8{t:UInt8}{b:Bytes}(h:b.length<=140737488355327):Wf (lf t b):=fun a ha=>by
 rw [List.mem_singleton.1 ha];exact⟨by show(-9223372036854775808:Int)<= -1; decide,by show(-1:Int)<=9223372036854775807; decide,h⟩
theorem Bx{t:UInt8}{us:List (List Px.Node)}(h:us.length<=1000000000)(hu:∀u∈us,Wf u):Wf (ofT t us):=fun a ha=>by
 rcases List.mem_cons.1 ha with rfl | ha
 ·exact⟨by show -9223372036854775808<=((us.length:Nat):Int); omega,by show((us.length:Nat):Int)<=9223372036854775807; omega,by simp⟩
 ·obtain⟨u,h1,h2⟩:=List.mem_flatten.1 ha;exact hu u h1 a h2
theorem GE:∀s:Bytes,(strip s).length<=s.length
 | []=>Nat.le_refl _
 | [_]=>Nat.le_refl _
 | a::b::r=>by
  unfold strip
  split
  ·exact Nat.le_trans (GE (b::r)) (by simp)
  ·exact Nat.le_refl _
theorem Ie(n:Int):(numB n).length<=8:=by
 unfold numB;exact Nat.le_trans (GE _) (by simp [E5.beD])
theorem N4{r:Co.Rec}(h:RecS r):Wf (recT r):=by
 have hn:=Ie r.rounds;have hs:∀tbl,Wf (sizedT r.size tbl):=fun tbl=>A8 (by simp [cipherT])
 unfold recT
 split
 ·refine Bx (by simp [wrapUs]) ?_;intro u hu;simp only [wrapUs,List.mem_cons,List.not_mem_nil,or_false]at hu;rcases hu with rfl | rfl | rfl | rfl
  ·exact A8 (by simp)
  ·exact Bx (by simp) (fun u hu=>by rw [List.mem_singleton.1 hu]; exact A8 h.name)
  ·exact Bx (by simp) (fun u hu=>by rw [List.mem_singleton.1 hu]; exact hs _)
  ·exact A8 h.key
 ·refine Bx (by simp [passUs]) ?_;intro u hu;simp only [passUs,List.mem_cons,List.not_mem_nil,or_false]at hu;rcases hu with rfl | rfl | rfl | rfl
  ·exact A8 (by simp)
  ·refine Bx (by simp) ?_;intro u hu;simp only [List.mem_cons,List.not_mem_nil,or_false]at hu;rcases hu with rfl | rfl
   ·exact A8 (by decide)
   ·refine Bx (by simp) ?_;intro u hu;simp only [List.mem_cons,List.not_mem_nil,or_false]at hu;rcases hu with rfl | rfl | rfl
    ·exact A8 h.salt
    ·exact A8 (by omega)
    ·refine Bx (by simp) ?_;intro u hu;simp only [List.mem_cons,List.not_mem_nil,or_false]at hu;rcases hu with rfl | rfl
     ·exact A8 (by simp [digestT,rsaT])
     ·exact A8 (by simp)
  ·refine Bx (by simp) ?_;intro u hu;simp only [List.mem_cons,List.not_mem_nil,or_false]at hu;rcases hu with rfl | rfl
   ·exact A8 (by decide)
   ·refine Bx (by simp) ?_;intro u hu;simp only [List.mem_cons,List.not_mem_nil,or_false]at hu;rcases hu with rfl | rfl
    ·exact hs _
    ·exact A8 h.iv
  ·exact A8 h.key
theorem N5(a:Int):Wf (algT a):=by
 refine A8 ?_
 split
 ·rename_i i _
  have:∀t∈sixT,t.length<=100:=by decide
  rw [List.getD_eq_getElem?_getD];cases h:sixT[i]? with
  | none=>simp
  | some t=>exact Nat.le_trans (this t (List.mem_of_getElem? h)) (by decide)
 ·simp
theorem Mz{x:Co.Env}{hs:List (List Px.Node)}(hx:EnvS x)(hl:x.to.length<=2000000)(hh:HdW hs):Wf (wholeT x hs):=by
 have hn:=Ie (x.tag.length:Nat);have hc:Wf (contT x.alg x.iv x.cipher x.tag.length):=by
  refine Bx (by simp) ?_;intro u hu;simp only [List.mem_cons,List.not_mem_nil,or_false]at hu;rcases hu with rfl | rfl | rfl
  ·exact A8 (by decide)
  ·refine Bx (by simp) ?_;intro u hu;simp only [List.mem_cons,List.not_mem_nil,or_false]at hu;rcases hu with rfl | rfl
   ·exact N5 _
   ·refine Bx (by have:=BW x.iv x.tag.length; unfold sizeUs; split<;>simp) ?_;intro u hu;unfold sizeUs at hu
    split at hu
    ·rw [List.mem_singleton.1 hu];exact A8 hx.iv
    ·simp only [List.mem_cons,List.not_mem_nil,or_false]at hu;rcases hu with rfl | rfl
     ·exact A8 hx.iv
     ·exact A8 (by omega)
  ·exact A8 hx.cipher
 refine Bx (by simp) ?_;intro u hu;simp only [List.mem_cons,List.not_mem_nil,or_false]at hu;rcases hu with rfl | rfl
 ·exact A8 (by decide)
 ·refine Bx (by simp) ?_;intro u hu;rw [List.mem_singleton.1 hu];refine Bx (by have:=hh.len; simp; omega) ?_;intro u hu;simp only [List.mem_append,List.mem_cons,List.not_mem_nil,or_false]at hu;rcases hu with (((rfl | rfl | rfl)| hu)| rfl)
  ·exact A8 (by simp)
  ·refine Bx (by simp; omega) ?_;intro u hu;obtain⟨r,h1,rfl⟩:=List.mem_map.1 hu;exact N4 (hx.recs r h1)
  ·exact hc
  ·exact(hh.each u hu).1
  ·exact A8 hx.tag
theorem N6{hs:List (List Px.Node)}(h:HdW hs):hs.flatten.length<=4096:=by
 match hs,h with
 | [],_=>simp
 | [a],h=>simpa using (h.each a (List.mem_cons_self ..)).2
 | a::b::r,h=>have:=h.len; simp at this
theorem Eh{x:Co.Env}{hs:List (List Px.Node)}(hl:x.to.length<=2000000)(h:HdW hs):([lf 2 [0],ofT 0x31 (x.to.map recT),contT x.alg x.iv x.cipher x.tag.length]++hs++ [lf 4 x.tag]).flatten.length<=900000000:=by
 have h1:=Fe x.to;have h2:=BW x.iv x.tag.length;have h3:=N6 h;rw [List.flatten_append,List.flatten_append,List.length_append,List.length_append];have h4:([lf 2 [0],ofT 0x31 (x.to.map recT),contT x.alg x.iv x.cipher x.tag.length]:List (List Px.Node)).flatten.length<=50000000:=by
  simp only [List.flatten_cons,List.flatten_nil,List.length_append,List.append_nil];have e1:(lf 2 [0]).length=1:=rfl;have e2:(ofT 0x31 (x.to.map recT)).length=(x.to.map recT).flatten.length+1:=rfl;have e3:(contT x.alg x.iv x.cipher x.tag.length).length<=10:=by
   simp [contT,ofT,lf,BV];omega
  omega
 have h5:([lf 4 x.tag]:List (List Px.Node)).flatten.length=1:=rfl;omega
theorem MA{x:Co.Env}{hs:List (List Px.Node)}(hl:x.to.length<=2000000)(h:HdW hs){v:Value}:(([(v,ofT 0x30 ([lf 2 [0],ofT 0x31 (x.to.map recT),contT x.alg x.iv x.cipher x.tag.length]++hs++ [lf 4 x.tag]))]:List VT).flatMap (·.2)).length<=1000000000:=by
 have:=Eh hl h;have e:(ofT 0x30 ([lf 2 [0],ofT 0x31 (x.to.map recT),contT x.alg x.iv x.cipher x.tag.length]++hs++ [lf 4 x.tag])).length=([lf 2 [0],ofT 0x31 (x.to.map recT),contT x.alg x.iv x.cipher x.tag.length]++hs++ [lf 4 x.tag]).flatten.length+1:=rfl;simp only [List.flatMap_cons,List.flatMap_nil,List.append_nil];omega
theorem MB{x:Co.Env}{hs:List (List Px.Node)}(hl:x.to.length<=2000000)(h:HdW hs){v1 v2:Value}{b:Bytes}:(([(v1,lf 6 b),(v2,ofT 0xa0 [ofT 0x30 ([lf 2 [0],ofT 0x31 (x.to.map recT),contT x.alg x.iv x.cipher x.tag.length]++hs++ [lf 4 x.tag])])]:List VT).flatMap (·.2)).length<=1000000000:=by
 have:=Eh hl h;have e:(ofT 0xa0 [ofT 0x30 ([lf 2 [0],ofT 0x31 (x.to.map recT),contT x.alg x.iv x.cipher x.tag.length]++hs++ [lf 4 x.tag])]).length=([lf 2 [0],ofT 0x31 (x.to.map recT),contT x.alg x.iv x.cipher x.tag.length]++hs++ [lf 4 x.tag]).flatten.length+1+1:=by
  show([ofT 0x30 _].flatten).length+1=_;simp only [List.flatten_cons,List.flatten_nil,List.append_nil];rfl
 simp only [List.flatMap_cons,List.flatMap_nil,List.append_nil,List.length_append];have e1:(lf 6 b).length=1:=rfl;omega
theorem Tryz.infoTree:(Tryz.prog.info? 80).map (fun i=>(i.zero,i.size,i.bytes))=some (some (.slice none 0 0),1,24):=by kernel_rfl
theorem MC(x:Co.Env)(vto:Value)(w:World)(hto:Lies w 9 cRec vto x.to)(hl:x.to.length<=2000000)(hx:EnvS x)(hT:Tabs w)(hE:ErrT w):Calls Tryz.prog 13 #[.agg (envC x vto)] w fun e w'=>e= .returned (.tuple #[S (tellP x).1,.int .i64 (tellP x).2])/\Same w w':=by
 obtain⟨w1,hw1⟩:∃w1,w1=w.alloc (.cells (envC x vto) 27):=⟨_,rfl⟩
 obtain⟨bx,hbx⟩:∃bx,bx=w.heap.size:=⟨_,rfl⟩
 have hb:Blk w1 bx (envC x vto) 27:=by rw [hw1,hbx]; exact Af w _ _
 have HBX:=zz hb;have HS0:=zz (show Same w w1 from by rw [hw1]; exact(fR _ w).alloc _);have HTO:=zz (Lies.same hto HS0.out);have HTW:=zz hto;have HW1:=zz hw1;have HBE:=zz hbx;have HX:=zz (aN hx (aN hT hE));obtain⟨va,vc,rfl,hv1,hv2⟩:=hto.slice;have k2:w1.cell? ⟨bx,2,none⟩=some (.slice va x.to.length vc):=hb.cell 2 rfl;have hlz:(x.to.length:Int)<=2000000:=by omega
 have HLL:=zz hl;obtain⟨i0,hi0,hz0,hz1,hz2⟩:=info_parts Tryz.infoTree;clear hw1 hb hbx hto hx hT hE hv1 hv2 hl;unfold envC;go_enter Tryz.func13,Tryz.ntmps13;go_upto_region 1 with fail
 rw [show w.alloc (.cells #[.int .i64 x.fmt,.int .i64 x.alg,.slice va x.to.length vc,S x.header,S x.loose,S x.aad,S x.iv,S x.cipher,S x.tag] 27)=w1 from HW1.out.symm,<-HBE.out];go_wp2;go_loopw [4,22] (fun v i wr=>∃(k:Nat) (ps:List VT),k<=x.to.length/\i= .int .i64 (k:Nat)/\Hid (TrW w1 wr v ps/\ps.map (·.2)=(x.to.take k).map recT)) (fun _ i _=>x.to.length - (intOf i).toNat)
 case atStart=>exact⟨0,[],Nat.zero_le _,rfl,zz ⟨Nz w1,rfl⟩⟩
 case round=>
  obtain⟨k,ps,hk,rfl,HR⟩:=hrel;by_cases hlt:k<x.to.length
  ·have hltz:(k:Int)<(x.to.length:Int):=by omega
   obtain⟨vb,off,cap,hve,hvb⟩:∃vb off cap,Value.slice va x.to.length vc= .slice (some ⟨vb,off,none⟩) x.to.length cap/\vb<wr.heap.size:=by
    obtain⟨vb,off,cap,h1,h2,_⟩:=(Lies.same HTO.out HR.out.1.same).cell k x.to[k] (by simp [hlt]);exact⟨vb,off,cap,h1,h2⟩
   simp only [Value.slice.injEq,true_and]at hve;have hva:=hve.1;have hvc:=hve.2;clear hve;subst hva hvc;obtain⟨e0,e1,e2,e3,e4,e5,e6,e7,e8⟩:=C4 (Lies.same HTO.out HR.out.1.same) k hlt;obtain⟨r,hr⟩:∃r,r=x.to[k]:=⟨_,rfl⟩
   rw [<-hr]at e0 e1 e2 e3 e4 e5 e6 e7 e8;have HRR:=zz (show x.to[k]?=some r from by rw [hr]; simp [hlt]);have HLT:=zz hlt;clear hr hlt hk k2;go_upto_region 5 with fail
   obtain⟨wb,hwb⟩:∃wb,wb=wr.alloc (.cells #[.int .i64 r.way,.int .i64 r.size,.int .i64 r.kind,S r.name,S r.key,S r.salt,.int .i64 r.rounds,S r.iv,S r.loose] 78):=⟨_,rfl⟩
   have hbk:Blk wb wr.heap.size #[.int .i64 r.way,.int .i64 r.size,.int .i64 r.kind,S r.name,S r.key,S r.salt,.int .i64 r.rounds,S r.iv,S r.loose] 78:=by rw [hwb]; exact Af wr _ _
   have HSB:=zz (show Same wr wb from by rw [hwb]; exact(fR _ wr).alloc _);rw [<-hwb];obtain⟨c0,c1,c2,c3,c4,c5,c6,c7,c8,_,_,_,_,_,_,_,_,_⟩:=AT hbk;clear hwb hbk e0 e1 e2 e3 e4 e5 e6 e7 e8;go_wp2_with fail;refine(GQ r ((HX.out.1.recs r (List.mem_of_getElem? HRR.out)).kind) _).mono ?_;rintro e w2 ⟨a,n,c,rfl,hm⟩;have HM:=zz hm;obtain⟨L9,hL9⟩:∃L9,L9=ps.flatMap cVT:=⟨_,rfl⟩
   obtain⟨m9,hm9⟩:∃m9,m9=ps.length:=⟨_,rfl⟩
   have how:w2.ownsRow 0 80 1 u4 m9 L9:=by
    rw [hL9,hm9];exact Owns.fr HR.out.1.own (sT HSB.out hm.same) (fun _ _ y=>y)
   have hm9l:m9<=2000000:=by
    have h1:=congrArg List.length HR.out.2;rw [List.length_map,List.length_map,List.length_take]at h1;have:=HLL.out;omega
   have HOW:=zz how;have HL9:=zz (aN hL9 hm9);clear hm hL9 hm9 how c0 c1 c2 c3 c4 c5 c6 c7 c8;go_wp2_with (at_builtin; go_must (refine wpList_append_lies _ rfl _ _ _ rfl 0 80 i0 _ 1 24 Tryz.underlying79 hi0 hz0 hz1 hz2 rfl (by omega) u4 m9 L9 rfl (HOW.out.alloc _) ⟨w2.heap.size,0,none⟩ 1 1 [.slice a n c] rfl rfl (World.news_of_block (cs:= #[.slice a n c]) (t:=80) (fr:=(0,0)) (heap_alloc_new w2 _)) (by simp [Value.oneCell']) (by omega) (by unfold maxLen; omega) (by omega) (by omega) (w2.heap.size+1) (by simp) ?_))
   intro gg cap w3 hown hgrow hat hlt3;rw [HL9.out.1,HL9.out.2]at hown;have hpush:=TrW.push HR.out.1 HSB.out HM.out hown hgrow (hat.imp id (fun e=>by omega));have hmap:(ps++ [((.slice a n c:Value),recT r)]).map (·.2)=(x.to.take (k+1)).map recT:=by
    rw [List.map_append,HR.out.2,List.take_add_one,HRR.out,List.map_append];rfl
   rw [<-HL9.out.2]at hpush;have HN:=zz (aN hpush hmap);clear hown hgrow hat hlt3 hpush hmap;go_wp2;go_roundw
   case rel=>exact⟨k+1,_,HLT.out,by go_num,HN⟩
   case measure=>
    show x.to.length - (((k:Nat):Int)+1).toNat<x.to.length - ((k:Nat):Int).toNat;have:=HLT.out;omega
  ·have hlt':¬(k:Int)<(x.to.length:Int):=by omega
   have HEND:=zz (show TrW w1 wr u4 ps/\ps.map (·.2)=x.to.map recT from by
    have h:=HR.out;rw [show k=x.to.length by omega,List.take_length]at h;exact h)
   obtain⟨we,hwe⟩:∃we,we=wr:=⟨_,rfl⟩
   have HBW:=zz (HBX.out.fr HEND.out.1.same (fun y=>y));have q1:wr.cell? ⟨bx,1,none⟩=some (.int .i64 x.alg):=HBW.out.cell 1 rfl;clear hk k2 HR hwe;go_wp2_with fail;refine(Am 6 [] _).mono ?_;rintro e wf ⟨a8,n8,c8,rfl,hm⟩;have HM8:=zz hm;have HSF:=zz (show Same wr wf from hm.same);clear hm;go_wp2_with fail;refine(B1 _).mono ?_;rintro e wg ⟨rfl,hsg⟩;have HSG:=zz (sT HSF.out hsg);have HSF2:=zz hsg;clear hsg q1;go_upto_region 10 with fail
   obtain⟨b9,hb9⟩:∃b9,b9=wg.heap.size:=⟨_,rfl⟩
   obtain⟨wh,hwh⟩:∃wh,wh=wg.alloc (.cells #[.int .i64 1,.int .i64 2,.int .i64 3,.int .i64 201,.int .i64 202,.int .i64 203] 83):=⟨_,rfl⟩
   have hbk:wh.heap[b9]?=some (.cells #[.int .i64 1,.int .i64 2,.int .i64 3,.int .i64 201,.int .i64 202,.int .i64 203] 83 (0,0)):=by rw [hwh,hb9]; exact heap_alloc_new wg _
   have hli:Lies wh 1 cInt (.slice (some ⟨b9,0,none⟩) 6 6) algsL:=DM (l:=algsL) Mw hbk (by decide);rw [<-hwh,<-hb9];have HSH:=zz (show Same wg wh from by rw [hwh]; exact(fR _ wg).alloc _);have HSW:=zz (sT HSG.out HSH.out);obtain⟨oa,hoa⟩:∃oa,oa=algsL.findIdx? (fun y=>y==x.alg):=⟨_,rfl⟩
   have HCO:=zz (fun m=>(Id (.slice (some ⟨b9,0,none⟩) 6 6) algsL x.alg (by decide) (wh.drewN m) (Lies.same hli ((fR _ wh).drewN m))).mono (R':=fun e w'=>e= .returned (.bool (algsL.findIdx? (fun y=>y==x.alg)).isSome)/\∃k,w'=wh.drewN k) (fun e w' hq=>⟨hq.1,m,hq.2.symm⟩));have HCI:=zz (fun W (hW:Same wh W) m=>(FR (.slice (some ⟨b9,0,none⟩) 6 6) algsL x.alg (by decide) (W.drewN m) (Lies.same (Lies.same hli hW) ((fR _ W).drewN m))).mono (R':=fun e w'=>e= .returned (.int .i64 (idx (algsL.findIdx? (fun y=>y==x.alg))))/\∃k,w'=W.drewN k) (fun e w' hq=>⟨hq.1,m,hq.2.symm⟩));rw [<-hoa]at HCO HCI;have HOA:=zz hoa;have HBH:=zz (HBW.out.fr HSW.out (fun y=>y));have q1:wh.cell? ⟨bx,1,none⟩=some (.int .i64 x.alg):=HBH.out.cell 1 rfl;have hb9l:=Au hbk;clear hb9 hwh hli hbk hoa;go_quiet ((go_at_call 42; exact HCO.out _))
   obtain⟨wj,hwj⟩:∃wj,wj=wh.drewN nq:=⟨_,rfl⟩
   rw [<-hwj];have HSJ:=zz (show Same wh wj from by rw [hwj]; exact(fR _ wh).drewN _);clear hwj q1;have HB8:=zz (show Lies wj 3 cNode (.slice a8 n8 c8) (lf 6 [])from Lies.same HM8.out.lies (sT HSF2.out (sT HSH.out HSJ.out)));have HSR:=zz (show Same wr wj from sT HSW.out HSJ.out);go_upto_if 37 with fail
   go_cut [8] (fun v8 wx=>∃(a:Option Addr) (n c:Nat),v8= .slice a n c/\Lies wx 3 cNode (.slice a n c) (algT x.alg)/\Same wj wx)
   case first=>as_aux_lemma=>
    cases oa with
    | none=>
     have HA:=zz (show algT x.alg=lf 6 []from by unfold algT; rw [<-HOA.out]);have hoz:(none:Option Nat).isSome=false:=rfl;go_wp2_with fail;go_meet
     rw [HA.out];exact⟨_,_,_,rfl,HB8.out,sE _⟩
    | some i=>
     have hi:i<=5:=by
      obtain⟨h,_⟩:=List.findIdx?_eq_some_iff_getElem.1 HOA.out.symm;exact Nat.le_of_lt_succ h
     have HA:=zz (show algT x.alg=lf 6 (sixT.getD i [])from by unfold algT; rw [<-HOA.out]);have hoz:(some i:Option Nat).isSome=true:=rfl;have HCI2:Hid (∀m,Calls Tryz.prog 43 #[.slice (some ⟨b9,0,none⟩) 6 6,.int .i64 x.alg] (wj.drewN m) (fun e w'=>e= .returned (.int .i64 (i:Nat))/\∃k,w'=wj.drewN k)):=zz (fun m=>HCI.out wj HSJ.out m);have hi5:(i:Int)<=5:=by omega
     obtain⟨st,hst⟩:∃st,st=(([6,26,46,7,27,47]:Bytes).take (i+1)).drop i:=⟨_,rfl⟩
     have hsl:∀W:World,(Instr.slice 9 (.string {data:= #[6,26,46,7,27,47]}) (some (.int .i64 (i:Int))) (some (.int .i64 ((i:Int)+1))) none).run Tryz.prog W= .ok (S st) W:=fun W=>by
      rw [hst];exact Bc [6,26,46,7,27,47] i (i+1) (by omega) (by simp; omega) W
     obtain⟨cs,hcs⟩:∃cs,cs=cipherT++st:=⟨_,rfl⟩
     have hcat:(ByteArray.mk #[96,134,72,1,101,3,4,1])++(ByteArray.mk st.toArray)=⟨cs.toArray⟩:=by rw [hcs]; exact Ib cipherT st
     have hstl:st.length<=6:=by rw [hst]; simp; omega
     have HCS:=zz (show sixT.getD i []=cs from by
      rw [hcs,hst]
      match i,hi with
      | 0,_=>rfl
      | 1,_=>rfl
      | 2,_=>rfl
      | 3,_=>rfl
      | 4,_=>rfl
      | 5,_=>rfl)
     have hbxl:=HBH.out.lt;have q1:wj.cell? ⟨bx,1,none⟩=some (.int .i64 x.alg):=(HBH.out.fr HSJ.out (fun y=>y)).cell 1 rfl;have hb9j:b9<wj.heap.size:=Nat.lt_of_lt_of_le hb9l HSJ.out.size;clear hi hst hcs;go_wp2_with fail;go_quiet ((go_at_call 43; exact HCI2.out _))
     go_wp2_with fail;refine(Am 6 cs _).mono ?_;rintro e wk ⟨a,n,c,rfl,hm⟩;have HM:=zz hm;clear hm;go_wp2_with fail;go_meet
     rw [HA.out,HCS.out];exact⟨_,_,_,rfl,HM.out.lies,sT ((fR _ wj).drewN _) HM.out.same⟩
   case rest=>
    obtain⟨a8,n8,c8,rfl,hl8,hs8⟩:=hcut;have HSC:=zz (sT HSR.out hs8);have HL8:=zz hl8;have HBC:=zz (HBW.out.fr HSC.out (fun y=>y));have q6:wc.cell? ⟨bx,6,none⟩=some (S x.iv):=HBC.out.cell 6 rfl;clear hl8 hs8 HB8 HSR HCI HCO HSJ HSH HSW HBH hb9l HSG HSF2 HSF HM8 HOA;go_wp2_with fail;refine(Am 4 x.iv _).mono ?_;rintro e wl ⟨a51,n51,c51,rfl,hm⟩;have HM51:=zz hm;have HOF:=zz (Bj 0x30 [(.slice a51 n51 c51,lf 4 x.iv)] wl (fun p hp=>by
     rw [List.mem_singleton.1 hp];exact HM51.out.lies) (by simp [lf]) (by simp) _ rfl _ rfl)
    clear hm q6;go_wp2_with fail;refine HOF.out.mono ?_;rintro e wm ⟨a53,n53,c53,rfl,hm⟩;have HM53:=zz hm;have HSM:=zz (show Same wc wm from sT HM51.out.same hm.same);have HBM:=zz (HBC.out.fr HSM.out (fun y=>y));have q8:wm.cell? ⟨bx,8,none⟩=some (S x.tag):=HBM.out.cell 8 rfl;clear hm HOF;go_upto_if 57 with fail
    go_cut [11] (fun v11 wx=>∃(a:Option Addr) (n c:Nat),v11= .slice a n c/\Lies wx 3 cNode (.slice a n c) (ofT 0x30 (sizeUs x.iv x.tag.length))/\Same wm wx)
    case first=>as_aux_lemma=>
     by_cases h12:x.tag.length=12
     ·have HA:=zz (show ofT 0x30 (sizeUs x.iv x.tag.length)=ofT 0x30 [lf 4 x.iv]from by unfold sizeUs; rw [if_pos h12]);have h12z:(((x.tag.length:Nat):Int) !=12)=false:=by rw [h12]; rfl
      clear h12;go_wp2_with fail;go_meet
      rw [HA.out];exact⟨_,_,_,rfl,HM53.out.lies,sE _⟩
     ·have HA:=zz (show ofT 0x30 (sizeUs x.iv x.tag.length)=ofT 0x30 [lf 4 x.iv,lf 2 (numB (x.tag.length:Nat))]from by unfold sizeUs; rw [if_neg h12]);have h12z:(((x.tag.length:Nat):Int) !=12)=true:=by rw [bne_iff_ne]; omega
      clear h12 q8;go_upto_region 15 with fail
      obtain⟨SS,hSS⟩:∃SS:World->Prop,SS=(fun W:World=>W.cell? ⟨bx,6,none⟩=some (S x.iv)/\W.cell? ⟨bx,8,none⟩=some (S x.tag)):=⟨_,rfl⟩
      have hS0:SS wm.drew:=by rw [hSS]; exact⟨HBM.out.cell 6 rfl,HBM.out.cell 8 rfl⟩
      refine sR hS0 fun hHeld=>?_
      refine tQ 0 ?_ ?_ ?_;rotate_left
      ·intro w hw;rw [hSS]at hw;obtain⟨q6,q8⟩:=hw;go_simp;try (with_reducible rfl)
      simp only [Act.put,Z1,Z2,Z3];refine tQ 1 ?_ ?_ ?_;rotate_left
      ·intro w hw;rw [hSS]at hw;obtain⟨q6,q8⟩:=hw;go_simp;try (with_reducible rfl)
      simp only [Act.put,Z1,Z2,Z3];refine tQ 3 ?_ ?_ ?_;rotate_left
      ·intro w hw;rw [hSS]at hw;obtain⟨q6,q8⟩:=hw;go_simp;try (with_reducible rfl)
      simp only [Act.put,Z1,Z2,Z3];refine tQ 4 ?_ ?_ ?_;rotate_left
      ·intro w hw;rw [hSS]at hw;obtain⟨q6,q8⟩:=hw;go_simp;try (with_reducible rfl)
      simp only [Act.put,Z1,Z2,Z3];refine tQ 5 ?_ ?_ ?_;rotate_left
      ·intro w hw;rw [hSS]at hw;obtain⟨q6,q8⟩:=hw;go_simp;try (with_reducible rfl)
      simp only [Act.put,Z1,Z2,Z3];refine rD 2 rfl (fun K hK=>?_);go_simp;refine(Am 4 x.iv _).mono ?_;rintro e r15w1 ⟨a60,n60,c60,rfl,hm⟩;have Hr15w1_st:=zz hm.same;have HT60:=zz hm.lies;have HMK60:=zz hm;have Hr15w1:Hid (Same wm r15w1):=zz (sT ((fR _ wm).drew) Hr15w1_st.out);clear hm;refine sO hK ?_ fun hHeld=>?_
      ·rw [hSS];exact⟨(HBM.out.fr Hr15w1.out (fun y=>y)).cell 6 rfl,(HBM.out.fr Hr15w1.out (fun y=>y)).cell 8 rfl⟩
      clear hK K;refine rD 6 rfl (fun K hK=>?_);go_simp;refine(FP (x.tag.length:Nat) _).mono ?_;rintro e r15w2 ⟨rfl,hm⟩;have Hr15w2_st:=zz hm;have Hr15w2:Hid (Same wm r15w2):=zz (sT Hr15w1.out Hr15w2_st.out);clear hm;refine sO hK ?_ fun hHeld=>?_
      ·rw [hSS];exact⟨(HBM.out.fr Hr15w2.out (fun y=>y)).cell 6 rfl,(HBM.out.fr Hr15w2.out (fun y=>y)).cell 8 rfl⟩
      clear hK K;refine rD 7 rfl (fun K hK=>?_);go_simp;refine(Am 2 (numB (x.tag.length:Nat)) _).mono ?_;rintro e r15w3 ⟨a65,n65,c65,rfl,hm⟩;have Hr15w3_st:=zz hm.same;have HT65:=zz hm.lies;have HMK65:=zz hm;have Hr15w3:Hid (Same wm r15w3):=zz (sT Hr15w2.out Hr15w3_st.out);clear hm;refine sO hK ?_ fun hHeld=>?_
      ·rw [hSS];exact⟨(HBM.out.fr Hr15w3.out (fun y=>y)).cell 6 rfl,(HBM.out.fr Hr15w3.out (fun y=>y)).cell 8 rfl⟩
      clear hK K;refine rD 8 rfl (fun K hK=>?_);go_simp;refine sO hK ?_ fun hHeld=>?_
      ·rw [hSS];exact⟨Ah ((HBM.out.fr Hr15w3.out (fun y=>y)).cell 6 rfl),Ah ((HBM.out.fr Hr15w3.out (fun y=>y)).cell 8 rfl)⟩
      clear hK K;have HOF67:=zz (Bj 0x30 [(.slice a60 n60 c60,(lf 4 x.iv)),(.slice a65 n65 c65,(lf 2 (numB (x.tag.length:Nat))))] r15w3 (fun p hp=>by
       simp only [List.mem_cons,List.not_mem_nil,or_false]at hp;rcases hp with rfl | rfl
       ·exact Lies.same HT60.out (sT Hr15w2_st.out Hr15w3_st.out)
       ·exact HT65.out) (by simp [ofT,lf,sizedT]) (by simp) _ rfl _ rfl)
      refine rD 9 rfl (fun K hK=>?_);go_simp;refine(HOF67.out).mono ?_;rintro e r15w4 ⟨a67,n67,c67,rfl,hm⟩;have Hr15w4_st:=zz hm.same;have HT67:=zz hm.lies;have HMK67:=zz hm;have Hr15w4:Hid (Same wm r15w4):=zz (sT Hr15w3.out Hr15w4_st.out);clear hm;refine sO hK ?_ fun hHeld=>?_
      ·rw [hSS];exact⟨(HBM.out.fr Hr15w4.out (fun y=>y)).cell 6 rfl,(HBM.out.fr Hr15w4.out (fun y=>y)).cell 8 rfl⟩
      clear hK K;refine tQ 10 ?_ ?_ ?_;rotate_left
      ·intro w hw;rw [hSS]at hw;obtain⟨q6,q8⟩:=hw;go_simp;try (with_reducible rfl)
      simp only [Act.put,Z1,Z2,Z3];refine wpAnyH_done (by kernel_rfl) ?_ _;go_wp2_with fail;go_meet
      rw [HA.out];exact⟨_,_,_,rfl,HMK67.out.lies,Hr15w4.out⟩
    case rest=>
     obtain⟨a11,n11,c11,rfl,hl11,hs11⟩:=hcut;have HSD:=zz (sT HSC.out (sT HSM.out hs11));have HL8B:=zz (Lies.same HL8.out (sT HSM.out hs11));have HL11:=zz hl11;have HBD:=zz (HBW.out.fr HSD.out (fun y=>y));clear hl11 hs11 HM53 HSM HBM q8 HBC HL8 HSC HM51;have HOF70:=zz (fun W (hW:Same wc W)=>(show Calls Tryz.prog 44 #[.int .u8 ((0x31:UInt8).toNat:Nat),u4] W (fun e w'=>∃a n c,e= .returned (.slice a n c)/\MkT W (ofT 0x31 (x.to.map recT)) a n c w')from by
      have hlen:ps.length=x.to.length:=by
       have:=congrArg List.length HEND.out.2;simpa using this
      have h1:(ps.flatMap (·.2)).length<=1000000000:=by
       rw [List.flatMap_def,HEND.out.2];have:=Fe x.to;have:=HLL.out;omega
      have q:=BA 0x31 u4 ps W (HEND.out.1.row.same (sT HSD.out hW)) h1 (by have:=HLL.out; omega);rw [HEND.out.2]at q;exact q))
     go_upto_region 16 with fail
     go_cut [12] (fun v12 wx=>∃p3:List VT,TrW w1 wx v12 p3/\p3.map (·.2)=[lf 2 [0],ofT 0x31 (x.to.map recT),contT x.alg x.iv x.cipher x.tag.length])
     case first=>as_aux_lemma=>
      obtain⟨SS,hSS⟩:∃SS:World->Prop,SS=(fun W:World=>W.cell? ⟨bx,7,none⟩=some (S x.cipher)):=⟨_,rfl⟩
      have hS0:SS wc.drew:=by rw [hSS]; exact HBD.out.cell 7 rfl
      refine sR hS0 fun hHeld=>?_
      refine tQ 1 ?_ ?_ ?_;rotate_left
      ·intro w hw;rw [hSS]at hw;have q7:=hw;go_simp;try (with_reducible rfl)
      simp only [Act.put,Z1,Z2,Z3];refine tQ 4 ?_ ?_ ?_;rotate_left
      ·intro w hw;rw [hSS]at hw;have q7:=hw;go_simp;try (with_reducible rfl)
      simp only [Act.put,Z1,Z2,Z3];refine tQ 5 ?_ ?_ ?_;rotate_left
      ·intro w hw;rw [hSS]at hw;have q7:=hw;go_simp;try (with_reducible rfl)
      simp only [Act.put,Z1,Z2,Z3];refine tQ 8 ?_ ?_ ?_;rotate_left
      ·intro w hw;rw [hSS]at hw;have q7:=hw;go_simp;try (with_reducible rfl)
      simp only [Act.put,Z1,Z2,Z3];refine tQ 9 ?_ ?_ ?_;rotate_left
      ·intro w hw;rw [hSS]at hw;have q7:=hw;go_simp;try (with_reducible rfl)
      simp only [Act.put,Z1,Z2,Z3];refine wpAnyH_ready (rs:=[0,6]) (by kernel_rfl) (by simp) ?_;refine AllReadyH.cons rfl (fun K hK=>?_) (AllReadyH.cons rfl (fun K hK=>?_) AllReadyH.nil)
      ·go_simp;refine(Am 2 [0] _).mono ?_;rintro e r16w1 ⟨a68,n68,c68,rfl,hm⟩;have Hr16w1_st:=zz hm.same;have HT68:=zz hm.lies;have HMK68:=zz hm;have Hr16w1:Hid (Same wc r16w1):=zz (sT ((fR _ wc).drew) Hr16w1_st.out);clear hm;refine sO hK ?_ fun hHeld=>?_
       ·rw [hSS];exact(HBD.out.fr Hr16w1.out (fun y=>y)).cell 7 rfl
       clear hK K;refine wpAnyH_ready (rs:=[2,6]) (by kernel_rfl) (by simp) ?_;refine AllReadyH.cons rfl (fun K hK=>?_) (AllReadyH.cons rfl (fun K hK=>?_) AllReadyH.nil)
       ·go_simp;refine(HOF70.out _ Hr16w1.out).mono ?_;rintro e r16w2 ⟨a70,n70,c70,rfl,hm⟩;have Hr16w2_st:=zz hm.same;have HT70:=zz hm.lies;have HMK70:=zz hm;have Hr16w2:Hid (Same wc r16w2):=zz (sT Hr16w1.out Hr16w2_st.out);clear hm;refine sO hK ?_ fun hHeld=>?_
        ·rw [hSS];exact(HBD.out.fr Hr16w2.out (fun y=>y)).cell 7 rfl
        clear hK K;refine wpAnyH_ready (rs:=[3,6]) (by kernel_rfl) (by simp) ?_;refine AllReadyH.cons rfl (fun K hK=>?_) (AllReadyH.cons rfl (fun K hK=>?_) AllReadyH.nil)
        ·go_simp;refine(Am 6 [42,134,72,134,247,13,1,7,1] _).mono ?_;rintro e r16w3 ⟨a71,n71,c71,rfl,hm⟩;have Hr16w3_st:=zz hm.same;have HT71:=zz hm.lies;have HMK71:=zz hm;have Hr16w3:Hid (Same wc r16w3):=zz (sT Hr16w2.out Hr16w3_st.out);clear hm;refine sO hK ?_ fun hHeld=>?_
         ·rw [hSS];exact(HBD.out.fr Hr16w3.out (fun y=>y)).cell 7 rfl
         clear hK K;refine rD 6 rfl (fun K hK=>?_);go_simp;refine sO hK ?_ fun hHeld=>?_
         ·rw [hSS];exact Ah ((HBD.out.fr Hr16w3.out (fun y=>y)).cell 7 rfl)
         clear hK K;have HROW74:=zz (Bi (w:=r16w3) [(.slice a8 n8 c8,(algT x.alg)),(.slice a11 n11 c11,(ofT 0x30 (sizeUs x.iv x.tag.length)))] (by unfold maxLen; simp) (fun p hp=>by
          simp only [List.mem_cons,List.not_mem_nil,or_false]at hp;rcases hp with rfl | rfl
          ·exact Lies.same HL8B.out Hr16w3.out
          ·exact Lies.same HL11.out Hr16w3.out))
         obtain⟨r16w4,hr16w4⟩:∃r16w4,r16w4=World.alloc r16w3 (.cells #[.slice a8 n8 c8,.slice a11 n11 c11] 80):=⟨_,rfl⟩
         rw [<-hr16w4];rw [<-hr16w4]at hHeld;have hrow:Row r16w4 (.slice (some ⟨r16w3.heap.size,0,none⟩) 2 2) [(.slice a8 n8 c8,(algT x.alg)),(.slice a11 n11 c11,(ofT 0x30 (sizeUs x.iv x.tag.length)))]:=by rw [hr16w4]; exact HROW74.out
         replace HROW74:=zz hrow;have Hr16w4_st:=zz (show Same r16w3 r16w4 from by rw [hr16w4]; exact((fR _ r16w3).alloc _));have Hr16w4:Hid (Same wc r16w4):=zz (sT Hr16w3.out Hr16w4_st.out);have Hr16w4_eq:=zz hr16w4;clear hrow hr16w4;have HOF75:=zz (BA 0x30 (.slice (some ⟨r16w3.heap.size,0,none⟩) 2 2) [(.slice a8 n8 c8,(algT x.alg)),(.slice a11 n11 c11,(ofT 0x30 (sizeUs x.iv x.tag.length)))] r16w4 HROW74.out (by have h1:=BW x.iv x.tag.length; simp [ofT,lf,sizedT,BV]; omega) (by simp));refine rD 7 rfl (fun K hK=>?_);go_simp;refine(HOF75.out).mono ?_;rintro e r16w5 ⟨a75,n75,c75,rfl,hm⟩;have Hr16w5_st:=zz hm.same;have HT75:=zz hm.lies;have HMK75:=zz hm;have Hr16w5:Hid (Same wc r16w5):=zz (sT Hr16w4.out Hr16w5_st.out);clear hm;refine sO hK ?_ fun hHeld=>?_
         ·rw [hSS];exact(HBD.out.fr Hr16w5.out (fun y=>y)).cell 7 rfl
         clear hK K;refine rD 10 rfl (fun K hK=>?_);go_simp;refine(Am 0x80 x.cipher _).mono ?_;rintro e r16w6 ⟨a78,n78,c78,rfl,hm⟩;have Hr16w6_st:=zz hm.same;have HT78:=zz hm.lies;have HMK78:=zz hm;have Hr16w6:Hid (Same wc r16w6):=zz (sT Hr16w5.out Hr16w6_st.out);clear hm;refine sO hK ?_ fun hHeld=>?_
         ·rw [hSS];exact(HBD.out.fr Hr16w6.out (fun y=>y)).cell 7 rfl
         clear hK K;refine rD 11 rfl (fun K hK=>?_);go_simp;refine sO hK ?_ fun hHeld=>?_
         ·rw [hSS];exact Ah ((HBD.out.fr Hr16w6.out (fun y=>y)).cell 7 rfl)
         clear hK K;have HROW79:=zz (Bi (w:=r16w6) [(.slice a71 n71 c71,(lf 6 [42,134,72,134,247,13,1,7,1])),(.slice a75 n75 c75,(ofT 0x30 [(algT x.alg),(ofT 0x30 (sizeUs x.iv x.tag.length))])),(.slice a78 n78 c78,(lf 0x80 x.cipher))] (by unfold maxLen; simp) (fun p hp=>by
          simp only [List.mem_cons,List.not_mem_nil,or_false]at hp;rcases hp with rfl | rfl | rfl
          ·exact Lies.same HT71.out (sT (sT Hr16w4_st.out Hr16w5_st.out) Hr16w6_st.out)
          ·exact Lies.same HT75.out Hr16w6_st.out
          ·exact HT78.out))
         obtain⟨r16w7,hr16w7⟩:∃r16w7,r16w7=World.alloc r16w6 (.cells #[.slice a71 n71 c71,.slice a75 n75 c75,.slice a78 n78 c78] 80):=⟨_,rfl⟩
         rw [<-hr16w7];rw [<-hr16w7]at hHeld;have hrow:Row r16w7 (.slice (some ⟨r16w6.heap.size,0,none⟩) 3 3) [(.slice a71 n71 c71,(lf 6 [42,134,72,134,247,13,1,7,1])),(.slice a75 n75 c75,(ofT 0x30 [(algT x.alg),(ofT 0x30 (sizeUs x.iv x.tag.length))])),(.slice a78 n78 c78,(lf 0x80 x.cipher))]:=by rw [hr16w7]; exact HROW79.out
         replace HROW79:=zz hrow;have Hr16w7_st:=zz (show Same r16w6 r16w7 from by rw [hr16w7]; exact((fR _ r16w6).alloc _));have Hr16w7:Hid (Same wc r16w7):=zz (sT Hr16w6.out Hr16w7_st.out);have Hr16w7_eq:=zz hr16w7;clear hrow hr16w7;have HOF80:=zz (BA 0x30 (.slice (some ⟨r16w6.heap.size,0,none⟩) 3 3) [(.slice a71 n71 c71,(lf 6 [42,134,72,134,247,13,1,7,1])),(.slice a75 n75 c75,(ofT 0x30 [(algT x.alg),(ofT 0x30 (sizeUs x.iv x.tag.length))])),(.slice a78 n78 c78,(lf 0x80 x.cipher))] r16w7 HROW79.out (by have h1:=BW x.iv x.tag.length; simp [ofT,lf,sizedT,BV]; omega) (by simp));refine rD 12 rfl (fun K hK=>?_);go_simp;refine(HOF80.out).mono ?_;rintro e r16w8 ⟨a80,n80,c80,rfl,hm⟩;have Hr16w8_st:=zz hm.same;have HT80:=zz hm.lies;have HMK80:=zz hm;have Hr16w8:Hid (Same wc r16w8):=zz (sT Hr16w7.out Hr16w8_st.out);clear hm;refine sO hK ?_ fun hHeld=>?_
         ·rw [hSS];exact(HBD.out.fr Hr16w8.out (fun y=>y)).cell 7 rfl
         clear hK K;refine rD 13 rfl (fun K hK=>?_);go_simp;refine sO hK ?_ fun hHeld=>?_
         ·rw [hSS];exact Ah ((HBD.out.fr Hr16w8.out (fun y=>y)).cell 7 rfl)
         clear hK K;have HROW81:=zz (Bi (w:=r16w8) [(.slice a68 n68 c68,(lf 2 [0])),(.slice a70 n70 c70,(ofT 0x31 (x.to.map recT))),(.slice a80 n80 c80,(ofT 0x30 [(lf 6 [42,134,72,134,247,13,1,7,1]),(ofT 0x30 [(algT x.alg),(ofT 0x30 (sizeUs x.iv x.tag.length))]),(lf 0x80 x.cipher)]))] (by unfold maxLen; simp) (fun p hp=>by
          simp only [List.mem_cons,List.not_mem_nil,or_false]at hp;rcases hp with rfl | rfl | rfl
          ·exact Lies.same HT68.out (sT (sT (sT (sT (sT (sT Hr16w2_st.out Hr16w3_st.out) Hr16w4_st.out) Hr16w5_st.out) Hr16w6_st.out) Hr16w7_st.out) Hr16w8_st.out)
          ·exact Lies.same HT70.out (sT (sT (sT (sT (sT Hr16w3_st.out Hr16w4_st.out) Hr16w5_st.out) Hr16w6_st.out) Hr16w7_st.out) Hr16w8_st.out)
          ·exact HT80.out))
         obtain⟨r16w9,hr16w9⟩:∃r16w9,r16w9=World.alloc r16w8 (.cells #[.slice a68 n68 c68,.slice a70 n70 c70,.slice a80 n80 c80] 80):=⟨_,rfl⟩
         rw [<-hr16w9];rw [<-hr16w9]at hHeld;have hrow:Row r16w9 (.slice (some ⟨r16w8.heap.size,0,none⟩) 3 3) [(.slice a68 n68 c68,(lf 2 [0])),(.slice a70 n70 c70,(ofT 0x31 (x.to.map recT))),(.slice a80 n80 c80,(ofT 0x30 [(lf 6 [42,134,72,134,247,13,1,7,1]),(ofT 0x30 [(algT x.alg),(ofT 0x30 (sizeUs x.iv x.tag.length))]),(lf 0x80 x.cipher)]))]:=by rw [hr16w9]; exact HROW81.out
         replace HROW81:=zz hrow;have Hr16w9_st:=zz (show Same r16w8 r16w9 from by rw [hr16w9]; exact((fR _ r16w8).alloc _));have Hr16w9:Hid (Same wc r16w9):=zz (sT Hr16w8.out Hr16w9_st.out);have Hr16w9_eq:=zz hr16w9;clear hrow hr16w9;refine tQ 14 ?_ ?_ ?_;rotate_left
         ·intro w hw;rw [hSS]at hw;have q7:=hw;go_simp;try (with_reducible rfl)
         simp only [Act.put,Z1,Z2,Z3];refine wpAnyH_done (by kernel_rfl) ?_ _;go_wp2_with fail;go_meet
         have htr:=Er (w1:=w1) (W:=r16w8) (sT HEND.out.1.same (sT HSD.out Hr16w8.out)) [(.slice a68 n68 c68,lf 2 [0]),(.slice a70 n70 c70,ofT 0x31 (x.to.map recT)),(.slice a80 n80 c80,contT x.alg x.iv x.cipher x.tag.length)] (by unfold maxLen; simp) (fun p hp=>by
          simp only [List.mem_cons,List.not_mem_nil,or_false]at hp;rcases hp with rfl | rfl | rfl
          ·exact⟨Lies.same HT68.out (sT (sT (sT (sT (sT (sT Hr16w2_st.out Hr16w3_st.out) Hr16w4_st.out) Hr16w5_st.out) Hr16w6_st.out) Hr16w7_st.out) Hr16w8_st.out),fun q hq=>Nat.lt_of_lt_of_le (HMK68.out.own.lt hq) (Fr.size (sT (sT (sT (sT (sT (sT Hr16w2_st.out Hr16w3_st.out) Hr16w4_st.out) Hr16w5_st.out) Hr16w6_st.out) Hr16w7_st.out) Hr16w8_st.out))⟩
          ·exact⟨Lies.same HT70.out (sT (sT (sT (sT (sT Hr16w3_st.out Hr16w4_st.out) Hr16w5_st.out) Hr16w6_st.out) Hr16w7_st.out) Hr16w8_st.out),fun q hq=>Nat.lt_of_lt_of_le (HMK70.out.own.lt hq) (Fr.size (sT (sT (sT (sT (sT Hr16w3_st.out Hr16w4_st.out) Hr16w5_st.out) Hr16w6_st.out) Hr16w7_st.out) Hr16w8_st.out))⟩
          ·exact⟨HT80.out,fun q hq=>HMK80.out.own.lt hq⟩)
         refine⟨[(.slice a68 n68 c68,lf 2 [0]),(.slice a70 n70 c70,ofT 0x31 (x.to.map recT)),(.slice a80 n80 c80,contT x.alg x.iv x.cipher x.tag.length)],?_,rfl⟩;rw [Hr16w9_eq.out];exact htr
        ·go_simp;refine sO hK ?_ fun hHeld=>?_
         ·rw [hSS];exact Ah ((HBD.out.fr Hr16w2.out (fun y=>y)).cell 7 rfl)
         clear hK K;have HROW74:=zz (Bi (w:=r16w2) [(.slice a8 n8 c8,(algT x.alg)),(.slice a11 n11 c11,(ofT 0x30 (sizeUs x.iv x.tag.length)))] (by unfold maxLen; simp) (fun p hp=>by
          simp only [List.mem_cons,List.not_mem_nil,or_false]at hp;rcases hp with rfl | rfl
          ·exact Lies.same HL8B.out Hr16w2.out
          ·exact Lies.same HL11.out Hr16w2.out))
         obtain⟨r16w3,hr16w3⟩:∃r16w3,r16w3=World.alloc r16w2 (.cells #[.slice a8 n8 c8,.slice a11 n11 c11] 80):=⟨_,rfl⟩
         rw [<-hr16w3];rw [<-hr16w3]at hHeld;have hrow:Row r16w3 (.slice (some ⟨r16w2.heap.size,0,none⟩) 2 2) [(.slice a8 n8 c8,(algT x.alg)),(.slice a11 n11 c11,(ofT 0x30 (sizeUs x.iv x.tag.length)))]:=by rw [hr16w3]; exact HROW74.out
         replace HROW74:=zz hrow;have Hr16w3_st:=zz (show Same r16w2 r16w3 from by rw [hr16w3]; exact((fR _ r16w2).alloc _));have Hr16w3:Hid (Same wc r16w3):=zz (sT Hr16w2.out Hr16w3_st.out);have Hr16w3_eq:=zz hr16w3;clear hrow hr16w3;refine rD 3 rfl (fun K hK=>?_);go_simp;refine(Am 6 [42,134,72,134,247,13,1,7,1] _).mono ?_;rintro e r16w4 ⟨a71,n71,c71,rfl,hm⟩;have Hr16w4_st:=zz hm.same;have HT71:=zz hm.lies;have HMK71:=zz hm;have Hr16w4:Hid (Same wc r16w4):=zz (sT Hr16w3.out Hr16w4_st.out);clear hm;refine sO hK ?_ fun hHeld=>?_
         ·rw [hSS];exact(HBD.out.fr Hr16w4.out (fun y=>y)).cell 7 rfl
         clear hK K;have HOF75:=zz (BA 0x30 (.slice (some ⟨r16w2.heap.size,0,none⟩) 2 2) [(.slice a8 n8 c8,(algT x.alg)),(.slice a11 n11 c11,(ofT 0x30 (sizeUs x.iv x.tag.length)))] r16w4 (Row.same HROW74.out Hr16w4_st.out) (by have h1:=BW x.iv x.tag.length; simp [ofT,lf,sizedT,BV]; omega) (by simp));refine rD 7 rfl (fun K hK=>?_);go_simp;refine(HOF75.out).mono ?_;rintro e r16w5 ⟨a75,n75,c75,rfl,hm⟩;have Hr16w5_st:=zz hm.same;have HT75:=zz hm.lies;have HMK75:=zz hm;have Hr16w5:Hid (Same wc r16w5):=zz (sT Hr16w4.out Hr16w5_st.out);clear hm;refine sO hK ?_ fun hHeld=>?_
         ·rw [hSS];exact(HBD.out.fr Hr16w5.out (fun y=>y)).cell 7 rfl
         clear hK K;refine rD 10 rfl (fun K hK=>?_);go_simp;refine(Am 0x80 x.cipher _).mono ?_;rintro e r16w6 ⟨a78,n78,c78,rfl,hm⟩;have Hr16w6_st:=zz hm.same;have HT78:=zz hm.lies;have HMK78:=zz hm;have Hr16w6:Hid (Same wc r16w6):=zz (sT Hr16w5.out Hr16w6_st.out);clear hm;refine sO hK ?_ fun hHeld=>?_
         ·rw [hSS];exact(HBD.out.fr Hr16w6.out (fun y=>y)).cell 7 rfl
         clear hK K;refine rD 11 rfl (fun K hK=>?_);go_simp;refine sO hK ?_ fun hHeld=>?_
         ·rw [hSS];exact Ah ((HBD.out.fr Hr16w6.out (fun y=>y)).cell 7 rfl)
         clear hK K;have HROW79:=zz (Bi (w:=r16w6) [(.slice a71 n71 c71,(lf 6 [42,134,72,134,247,13,1,7,1])),(.slice a75 n75 c75,(ofT 0x30 [(algT x.alg),(ofT 0x30 (sizeUs x.iv x.tag.length))])),(.slice a78 n78 c78,(lf 0x80 x.cipher))] (by unfold maxLen; simp) (fun p hp=>by
          simp only [List.mem_cons,List.not_mem_nil,or_false]at hp;rcases hp with rfl | rfl | rfl
          ·exact Lies.same HT71.out (sT Hr16w5_st.out Hr16w6_st.out)
          ·exact Lies.same HT75.out Hr16w6_st.out
          ·exact HT78.out))
         obtain⟨r16w7,hr16w7⟩:∃r16w7,r16w7=World.alloc r16w6 (.cells #[.slice a71 n71 c71,.slice a75 n75 c75,.slice a78 n78 c78] 80):=⟨_,rfl⟩
         rw [<-hr16w7];rw [<-hr16w7]at hHeld;have hrow:Row r16w7 (.slice (some ⟨r16w6.heap.size,0,none⟩) 3 3) [(.slice a71 n71 c71,(lf 6 [42,134,72,134,247,13,1,7,1])),(.slice a75 n75 c75,(ofT 0x30 [(algT x.alg),(ofT 0x30 (sizeUs x.iv x.tag.length))])),(.slice a78 n78 c78,(lf 0x80 x.cipher))]:=by rw [hr16w7]; exact HROW79.out
         replace HROW79:=zz hrow;have Hr16w7_st:=zz (show Same r16w6 r16w7 from by rw [hr16w7]; exact((fR _ r16w6).alloc _));have Hr16w7:Hid (Same wc r16w7):=zz (sT Hr16w6.out Hr16w7_st.out);have Hr16w7_eq:=zz hr16w7;clear hrow hr16w7;have HOF80:=zz (BA 0x30 (.slice (some ⟨r16w6.heap.size,0,none⟩) 3 3) [(.slice a71 n71 c71,(lf 6 [42,134,72,134,247,13,1,7,1])),(.slice a75 n75 c75,(ofT 0x30 [(algT x.alg),(ofT 0x30 (sizeUs x.iv x.tag.length))])),(.slice a78 n78 c78,(lf 0x80 x.cipher))] r16w7 HROW79.out (by have h1:=BW x.iv x.tag.length; simp [ofT,lf,sizedT,BV]; omega) (by simp));refine rD 12 rfl (fun K hK=>?_);go_simp;refine(HOF80.out).mono ?_;rintro e r16w8 ⟨a80,n80,c80,rfl,hm⟩;have Hr16w8_st:=zz hm.same;have HT80:=zz hm.lies;have HMK80:=zz hm;have Hr16w8:Hid (Same wc r16w8):=zz (sT Hr16w7.out Hr16w8_st.out);clear hm;refine sO hK ?_ fun hHeld=>?_
         ·rw [hSS];exact(HBD.out.fr Hr16w8.out (fun y=>y)).cell 7 rfl
         clear hK K;refine rD 13 rfl (fun K hK=>?_);go_simp;refine sO hK ?_ fun hHeld=>?_
         ·rw [hSS];exact Ah ((HBD.out.fr Hr16w8.out (fun y=>y)).cell 7 rfl)
         clear hK K;have HROW81:=zz (Bi (w:=r16w8) [(.slice a68 n68 c68,(lf 2 [0])),(.slice a70 n70 c70,(ofT 0x31 (x.to.map recT))),(.slice a80 n80 c80,(ofT 0x30 [(lf 6 [42,134,72,134,247,13,1,7,1]),(ofT 0x30 [(algT x.alg),(ofT 0x30 (sizeUs x.iv x.tag.length))]),(lf 0x80 x.cipher)]))] (by unfold maxLen; simp) (fun p hp=>by
          simp only [List.mem_cons,List.not_mem_nil,or_false]at hp;rcases hp with rfl | rfl | rfl
          ·exact Lies.same HT68.out (sT (sT (sT (sT (sT (sT Hr16w2_st.out Hr16w3_st.out) Hr16w4_st.out) Hr16w5_st.out) Hr16w6_st.out) Hr16w7_st.out) Hr16w8_st.out)
          ·exact Lies.same HT70.out (sT (sT (sT (sT (sT Hr16w3_st.out Hr16w4_st.out) Hr16w5_st.out) Hr16w6_st.out) Hr16w7_st.out) Hr16w8_st.out)
          ·exact HT80.out))
         obtain⟨r16w9,hr16w9⟩:∃r16w9,r16w9=World.alloc r16w8 (.cells #[.slice a68 n68 c68,.slice a70 n70 c70,.slice a80 n80 c80] 80):=⟨_,rfl⟩
         rw [<-hr16w9];rw [<-hr16w9]at hHeld;have hrow:Row r16w9 (.slice (some ⟨r16w8.heap.size,0,none⟩) 3 3) [(.slice a68 n68 c68,(lf 2 [0])),(.slice a70 n70 c70,(ofT 0x31 (x.to.map recT))),(.slice a80 n80 c80,(ofT 0x30 [(lf 6 [42,134,72,134,247,13,1,7,1]),(ofT 0x30 [(algT x.alg),(ofT 0x30 (sizeUs x.iv x.tag.length))]),(lf 0x80 x.cipher)]))]:=by rw [hr16w9]; exact HROW81.out
         replace HROW81:=zz hrow;have Hr16w9_st:=zz (show Same r16w8 r16w9 from by rw [hr16w9]; exact((fR _ r16w8).alloc _));have Hr16w9:Hid (Same wc r16w9):=zz (sT Hr16w8.out Hr16w9_st.out);have Hr16w9_eq:=zz hr16w9;clear hrow hr16w9;refine tQ 14 ?_ ?_ ?_;rotate_left
         ·intro w hw;rw [hSS]at hw;have q7:=hw;go_simp;try (with_reducible rfl)
         simp only [Act.put,Z1,Z2,Z3];refine wpAnyH_done (by kernel_rfl) ?_ _;go_wp2_with fail;go_meet
         have htr:=Er (w1:=w1) (W:=r16w8) (sT HEND.out.1.same (sT HSD.out Hr16w8.out)) [(.slice a68 n68 c68,lf 2 [0]),(.slice a70 n70 c70,ofT 0x31 (x.to.map recT)),(.slice a80 n80 c80,contT x.alg x.iv x.cipher x.tag.length)] (by unfold maxLen; simp) (fun p hp=>by
          simp only [List.mem_cons,List.not_mem_nil,or_false]at hp;rcases hp with rfl | rfl | rfl
          ·exact⟨Lies.same HT68.out (sT (sT (sT (sT (sT (sT Hr16w2_st.out Hr16w3_st.out) Hr16w4_st.out) Hr16w5_st.out) Hr16w6_st.out) Hr16w7_st.out) Hr16w8_st.out),fun q hq=>Nat.lt_of_lt_of_le (HMK68.out.own.lt hq) (Fr.size (sT (sT (sT (sT (sT (sT Hr16w2_st.out Hr16w3_st.out) Hr16w4_st.out) Hr16w5_st.out) Hr16w6_st.out) Hr16w7_st.out) Hr16w8_st.out))⟩
          ·exact⟨Lies.same HT70.out (sT (sT (sT (sT (sT Hr16w3_st.out Hr16w4_st.out) Hr16w5_st.out) Hr16w6_st.out) Hr16w7_st.out) Hr16w8_st.out),fun q hq=>Nat.lt_of_lt_of_le (HMK70.out.own.lt hq) (Fr.size (sT (sT (sT (sT (sT Hr16w3_st.out Hr16w4_st.out) Hr16w5_st.out) Hr16w6_st.out) Hr16w7_st.out) Hr16w8_st.out))⟩
          ·exact⟨HT80.out,fun q hq=>HMK80.out.own.lt hq⟩)
         refine⟨[(.slice a68 n68 c68,lf 2 [0]),(.slice a70 n70 c70,ofT 0x31 (x.to.map recT)),(.slice a80 n80 c80,contT x.alg x.iv x.cipher x.tag.length)],?_,rfl⟩;rw [Hr16w9_eq.out];exact htr
       ·go_simp;refine sO hK ?_ fun hHeld=>?_
        ·rw [hSS];exact Ah ((HBD.out.fr Hr16w1.out (fun y=>y)).cell 7 rfl)
        clear hK K;have HROW74:=zz (Bi (w:=r16w1) [(.slice a8 n8 c8,(algT x.alg)),(.slice a11 n11 c11,(ofT 0x30 (sizeUs x.iv x.tag.length)))] (by unfold maxLen; simp) (fun p hp=>by
         simp only [List.mem_cons,List.not_mem_nil,or_false]at hp;rcases hp with rfl | rfl
         ·exact Lies.same HL8B.out Hr16w1.out
         ·exact Lies.same HL11.out Hr16w1.out))
        obtain⟨r16w2,hr16w2⟩:∃r16w2,r16w2=World.alloc r16w1 (.cells #[.slice a8 n8 c8,.slice a11 n11 c11] 80):=⟨_,rfl⟩
        rw [<-hr16w2];rw [<-hr16w2]at hHeld;have hrow:Row r16w2 (.slice (some ⟨r16w1.heap.size,0,none⟩) 2 2) [(.slice a8 n8 c8,(algT x.alg)),(.slice a11 n11 c11,(ofT 0x30 (sizeUs x.iv x.tag.length)))]:=by rw [hr16w2]; exact HROW74.out
        replace HROW74:=zz hrow;have Hr16w2_st:=zz (show Same r16w1 r16w2 from by rw [hr16w2]; exact((fR _ r16w1).alloc _));have Hr16w2:Hid (Same wc r16w2):=zz (sT Hr16w1.out Hr16w2_st.out);have Hr16w2_eq:=zz hr16w2;clear hrow hr16w2;refine rD 2 rfl (fun K hK=>?_);go_simp;refine(HOF70.out _ Hr16w2.out).mono ?_;rintro e r16w3 ⟨a70,n70,c70,rfl,hm⟩;have Hr16w3_st:=zz hm.same;have HT70:=zz hm.lies;have HMK70:=zz hm;have Hr16w3:Hid (Same wc r16w3):=zz (sT Hr16w2.out Hr16w3_st.out);clear hm;refine sO hK ?_ fun hHeld=>?_
        ·rw [hSS];exact(HBD.out.fr Hr16w3.out (fun y=>y)).cell 7 rfl
        clear hK K;refine rD 3 rfl (fun K hK=>?_);go_simp;refine(Am 6 [42,134,72,134,247,13,1,7,1] _).mono ?_;rintro e r16w4 ⟨a71,n71,c71,rfl,hm⟩;have Hr16w4_st:=zz hm.same;have HT71:=zz hm.lies;have HMK71:=zz hm;have Hr16w4:Hid (Same wc r16w4):=zz (sT Hr16w3.out Hr16w4_st.out);clear hm;refine sO hK ?_ fun hHeld=>?_
        ·rw [hSS];exact(HBD.out.fr Hr16w4.out (fun y=>y)).cell 7 rfl
        clear hK K;have HOF75:=zz (BA 0x30 (.slice (some ⟨r16w1.heap.size,0,none⟩) 2 2) [(.slice a8 n8 c8,(algT x.alg)),(.slice a11 n11 c11,(ofT 0x30 (sizeUs x.iv x.tag.length)))] r16w4 (Row.same HROW74.out (sT Hr16w3_st.out Hr16w4_st.out)) (by have h1:=BW x.iv x.tag.length; simp [ofT,lf,sizedT,BV]; omega) (by simp));refine rD 7 rfl (fun K hK=>?_);go_simp;refine(HOF75.out).mono ?_;rintro e r16w5 ⟨a75,n75,c75,rfl,hm⟩;have Hr16w5_st:=zz hm.same;have HT75:=zz hm.lies;have HMK75:=zz hm;have Hr16w5:Hid (Same wc r16w5):=zz (sT Hr16w4.out Hr16w5_st.out);clear hm;refine sO hK ?_ fun hHeld=>?_
        ·rw [hSS];exact(HBD.out.fr Hr16w5.out (fun y=>y)).cell 7 rfl
        clear hK K;refine rD 10 rfl (fun K hK=>?_);go_simp;refine(Am 0x80 x.cipher _).mono ?_;rintro e r16w6 ⟨a78,n78,c78,rfl,hm⟩;have Hr16w6_st:=zz hm.same;have HT78:=zz hm.lies;have HMK78:=zz hm;have Hr16w6:Hid (Same wc r16w6):=zz (sT Hr16w5.out Hr16w6_st.out);clear hm;refine sO hK ?_ fun hHeld=>?_
        ·rw [hSS];exact(HBD.out.fr Hr16w6.out (fun y=>y)).cell 7 rfl
        clear hK K;refine rD 11 rfl (fun K hK=>?_);go_simp;refine sO hK ?_ fun hHeld=>?_
        ·rw [hSS];exact Ah ((HBD.out.fr Hr16w6.out (fun y=>y)).cell 7 rfl)
        clear hK K;have HROW79:=zz (Bi (w:=r16w6) [(.slice a71 n71 c71,(lf 6 [42,134,72,134,247,13,1,7,1])),(.slice a75 n75 c75,(ofT 0x30 [(algT x.alg),(ofT 0x30 (sizeUs x.iv x.tag.length))])),(.slice a78 n78 c78,(lf 0x80 x.cipher))] (by unfold maxLen; simp) (fun p hp=>by
         simp only [List.mem_cons,List.not_mem_nil,or_false]at hp;rcases hp with rfl | rfl | rfl
         ·exact Lies.same HT71.out (sT Hr16w5_st.out Hr16w6_st.out)
         ·exact Lies.same HT75.out Hr16w6_st.out
         ·exact HT78.out))
        obtain⟨r16w7,hr16w7⟩:∃r16w7,r16w7=World.alloc r16w6 (.cells #[.slice a71 n71 c71,.slice a75 n75 c75,.slice a78 n78 c78] 80):=⟨_,rfl⟩
        rw [<-hr16w7];rw [<-hr16w7]at hHeld;have hrow:Row r16w7 (.slice (some ⟨r16w6.heap.size,0,none⟩) 3 3) [(.slice a71 n71 c71,(lf 6 [42,134,72,134,247,13,1,7,1])),(.slice a75 n75 c75,(ofT 0x30 [(algT x.alg),(ofT 0x30 (sizeUs x.iv x.tag.length))])),(.slice a78 n78 c78,(lf 0x80 x.cipher))]:=by rw [hr16w7]; exact HROW79.out
        replace HROW79:=zz hrow;have Hr16w7_st:=zz (show Same r16w6 r16w7 from by rw [hr16w7]; exact((fR _ r16w6).alloc _));have Hr16w7:Hid (Same wc r16w7):=zz (sT Hr16w6.out Hr16w7_st.out);have Hr16w7_eq:=zz hr16w7;clear hrow hr16w7;have HOF80:=zz (BA 0x30 (.slice (some ⟨r16w6.heap.size,0,none⟩) 3 3) [(.slice a71 n71 c71,(lf 6 [42,134,72,134,247,13,1,7,1])),(.slice a75 n75 c75,(ofT 0x30 [(algT x.alg),(ofT 0x30 (sizeUs x.iv x.tag.length))])),(.slice a78 n78 c78,(lf 0x80 x.cipher))] r16w7 HROW79.out (by have h1:=BW x.iv x.tag.length; simp [ofT,lf,sizedT,BV]; omega) (by simp));refine rD 12 rfl (fun K hK=>?_);go_simp;refine(HOF80.out).mono ?_;rintro e r16w8 ⟨a80,n80,c80,rfl,hm⟩;have Hr16w8_st:=zz hm.same;have HT80:=zz hm.lies;have HMK80:=zz hm;have Hr16w8:Hid (Same wc r16w8):=zz (sT Hr16w7.out Hr16w8_st.out);clear hm;refine sO hK ?_ fun hHeld=>?_
        ·rw [hSS];exact(HBD.out.fr Hr16w8.out (fun y=>y)).cell 7 rfl
        clear hK K;refine rD 13 rfl (fun K hK=>?_);go_simp;refine sO hK ?_ fun hHeld=>?_
        ·rw [hSS];exact Ah ((HBD.out.fr Hr16w8.out (fun y=>y)).cell 7 rfl)
        clear hK K;have HROW81:=zz (Bi (w:=r16w8) [(.slice a68 n68 c68,(lf 2 [0])),(.slice a70 n70 c70,(ofT 0x31 (x.to.map recT))),(.slice a80 n80 c80,(ofT 0x30 [(lf 6 [42,134,72,134,247,13,1,7,1]),(ofT 0x30 [(algT x.alg),(ofT 0x30 (sizeUs x.iv x.tag.length))]),(lf 0x80 x.cipher)]))] (by unfold maxLen; simp) (fun p hp=>by
         simp only [List.mem_cons,List.not_mem_nil,or_false]at hp;rcases hp with rfl | rfl | rfl
         ·exact Lies.same HT68.out (sT (sT (sT (sT (sT (sT Hr16w2_st.out Hr16w3_st.out) Hr16w4_st.out) Hr16w5_st.out) Hr16w6_st.out) Hr16w7_st.out) Hr16w8_st.out)
         ·exact Lies.same HT70.out (sT (sT (sT (sT Hr16w4_st.out Hr16w5_st.out) Hr16w6_st.out) Hr16w7_st.out) Hr16w8_st.out)
         ·exact HT80.out))
        obtain⟨r16w9,hr16w9⟩:∃r16w9,r16w9=World.alloc r16w8 (.cells #[.slice a68 n68 c68,.slice a70 n70 c70,.slice a80 n80 c80] 80):=⟨_,rfl⟩
        rw [<-hr16w9];rw [<-hr16w9]at hHeld;have hrow:Row r16w9 (.slice (some ⟨r16w8.heap.size,0,none⟩) 3 3) [(.slice a68 n68 c68,(lf 2 [0])),(.slice a70 n70 c70,(ofT 0x31 (x.to.map recT))),(.slice a80 n80 c80,(ofT 0x30 [(lf 6 [42,134,72,134,247,13,1,7,1]),(ofT 0x30 [(algT x.alg),(ofT 0x30 (sizeUs x.iv x.tag.length))]),(lf 0x80 x.cipher)]))]:=by rw [hr16w9]; exact HROW81.out
        replace HROW81:=zz hrow;have Hr16w9_st:=zz (show Same r16w8 r16w9 from by rw [hr16w9]; exact((fR _ r16w8).alloc _));have Hr16w9:Hid (Same wc r16w9):=zz (sT Hr16w8.out Hr16w9_st.out);have Hr16w9_eq:=zz hr16w9;clear hrow hr16w9;refine tQ 14 ?_ ?_ ?_;rotate_left
        ·intro w hw;rw [hSS]at hw;have q7:=hw;go_simp;try (with_reducible rfl)
        simp only [Act.put,Z1,Z2,Z3];refine wpAnyH_done (by kernel_rfl) ?_ _;go_wp2_with fail;go_meet
        have htr:=Er (w1:=w1) (W:=r16w8) (sT HEND.out.1.same (sT HSD.out Hr16w8.out)) [(.slice a68 n68 c68,lf 2 [0]),(.slice a70 n70 c70,ofT 0x31 (x.to.map recT)),(.slice a80 n80 c80,contT x.alg x.iv x.cipher x.tag.length)] (by unfold maxLen; simp) (fun p hp=>by
         simp only [List.mem_cons,List.not_mem_nil,or_false]at hp;rcases hp with rfl | rfl | rfl
         ·exact⟨Lies.same HT68.out (sT (sT (sT (sT (sT (sT Hr16w2_st.out Hr16w3_st.out) Hr16w4_st.out) Hr16w5_st.out) Hr16w6_st.out) Hr16w7_st.out) Hr16w8_st.out),fun q hq=>Nat.lt_of_lt_of_le (HMK68.out.own.lt hq) (Fr.size (sT (sT (sT (sT (sT (sT Hr16w2_st.out Hr16w3_st.out) Hr16w4_st.out) Hr16w5_st.out) Hr16w6_st.out) Hr16w7_st.out) Hr16w8_st.out))⟩
         ·exact⟨Lies.same HT70.out (sT (sT (sT (sT Hr16w4_st.out Hr16w5_st.out) Hr16w6_st.out) Hr16w7_st.out) Hr16w8_st.out),fun q hq=>Nat.lt_of_lt_of_le (HMK70.out.own.lt hq) (Fr.size (sT (sT (sT (sT Hr16w4_st.out Hr16w5_st.out) Hr16w6_st.out) Hr16w7_st.out) Hr16w8_st.out))⟩
         ·exact⟨HT80.out,fun q hq=>HMK80.out.own.lt hq⟩)
        refine⟨[(.slice a68 n68 c68,lf 2 [0]),(.slice a70 n70 c70,ofT 0x31 (x.to.map recT)),(.slice a80 n80 c80,contT x.alg x.iv x.cipher x.tag.length)],?_,rfl⟩;rw [Hr16w9_eq.out];exact htr
      ·go_simp;refine sO hK ?_ fun hHeld=>?_
       ·rw [hSS];exact Ah (HBD.out.cell 7 rfl)
       clear hK K;have HROW74:=zz (Bi (w:=wc) [(.slice a8 n8 c8,(algT x.alg)),(.slice a11 n11 c11,(ofT 0x30 (sizeUs x.iv x.tag.length)))] (by unfold maxLen; simp) (fun p hp=>by
        simp only [List.mem_cons,List.not_mem_nil,or_false]at hp;rcases hp with rfl | rfl
        ·exact HL8B.out
        ·exact HL11.out))
       obtain⟨r16w1,hr16w1⟩:∃r16w1,r16w1=World.drew (World.alloc wc (.cells #[.slice a8 n8 c8,.slice a11 n11 c11] 80)):=⟨_,rfl⟩
       rw [<-hr16w1];rw [<-hr16w1]at hHeld;have hrow:Row r16w1 (.slice (some ⟨wc.heap.size,0,none⟩) 2 2) [(.slice a8 n8 c8,(algT x.alg)),(.slice a11 n11 c11,(ofT 0x30 (sizeUs x.iv x.tag.length)))]:=by rw [hr16w1]; exact Row.same HROW74.out ((fR _ _).drew)
       replace HROW74:=zz hrow;have Hr16w1_st:=zz (show Same wc r16w1 from by rw [hr16w1]; exact(((fR _ wc).alloc _).drew));have Hr16w1:Hid (Same wc r16w1):=zz (sT (fR _ wc) Hr16w1_st.out);have Hr16w1_eq:=zz hr16w1;clear hrow hr16w1;refine rD 0 rfl (fun K hK=>?_);go_simp;refine(Am 2 [0] _).mono ?_;rintro e r16w2 ⟨a68,n68,c68,rfl,hm⟩;have Hr16w2_st:=zz hm.same;have HT68:=zz hm.lies;have HMK68:=zz hm;have Hr16w2:Hid (Same wc r16w2):=zz (sT Hr16w1.out Hr16w2_st.out);clear hm;refine sO hK ?_ fun hHeld=>?_
       ·rw [hSS];exact(HBD.out.fr Hr16w2.out (fun y=>y)).cell 7 rfl
       clear hK K;refine rD 2 rfl (fun K hK=>?_);go_simp;refine(HOF70.out _ Hr16w2.out).mono ?_;rintro e r16w3 ⟨a70,n70,c70,rfl,hm⟩;have Hr16w3_st:=zz hm.same;have HT70:=zz hm.lies;have HMK70:=zz hm;have Hr16w3:Hid (Same wc r16w3):=zz (sT Hr16w2.out Hr16w3_st.out);clear hm;refine sO hK ?_ fun hHeld=>?_
       ·rw [hSS];exact(HBD.out.fr Hr16w3.out (fun y=>y)).cell 7 rfl
       clear hK K;refine rD 3 rfl (fun K hK=>?_);go_simp;refine(Am 6 [42,134,72,134,247,13,1,7,1] _).mono ?_;rintro e r16w4 ⟨a71,n71,c71,rfl,hm⟩;have Hr16w4_st:=zz hm.same;have HT71:=zz hm.lies;have HMK71:=zz hm;have Hr16w4:Hid (Same wc r16w4):=zz (sT Hr16w3.out Hr16w4_st.out);clear hm;refine sO hK ?_ fun hHeld=>?_
       ·rw [hSS];exact(HBD.out.fr Hr16w4.out (fun y=>y)).cell 7 rfl
       clear hK K;have HOF75:=zz (BA 0x30 (.slice (some ⟨wc.heap.size,0,none⟩) 2 2) [(.slice a8 n8 c8,(algT x.alg)),(.slice a11 n11 c11,(ofT 0x30 (sizeUs x.iv x.tag.length)))] r16w4 (Row.same HROW74.out (sT (sT Hr16w2_st.out Hr16w3_st.out) Hr16w4_st.out)) (by have h1:=BW x.iv x.tag.length; simp [ofT,lf,sizedT,BV]; omega) (by simp));refine rD 7 rfl (fun K hK=>?_);go_simp;refine(HOF75.out).mono ?_;rintro e r16w5 ⟨a75,n75,c75,rfl,hm⟩;have Hr16w5_st:=zz hm.same;have HT75:=zz hm.lies;have HMK75:=zz hm;have Hr16w5:Hid (Same wc r16w5):=zz (sT Hr16w4.out Hr16w5_st.out);clear hm;refine sO hK ?_ fun hHeld=>?_
       ·rw [hSS];exact(HBD.out.fr Hr16w5.out (fun y=>y)).cell 7 rfl
       clear hK K;refine rD 10 rfl (fun K hK=>?_);go_simp;refine(Am 0x80 x.cipher _).mono ?_;rintro e r16w6 ⟨a78,n78,c78,rfl,hm⟩;have Hr16w6_st:=zz hm.same;have HT78:=zz hm.lies;have HMK78:=zz hm;have Hr16w6:Hid (Same wc r16w6):=zz (sT Hr16w5.out Hr16w6_st.out);clear hm;refine sO hK ?_ fun hHeld=>?_
       ·rw [hSS];exact(HBD.out.fr Hr16w6.out (fun y=>y)).cell 7 rfl
       clear hK K;refine rD 11 rfl (fun K hK=>?_);go_simp;refine sO hK ?_ fun hHeld=>?_
       ·rw [hSS];exact Ah ((HBD.out.fr Hr16w6.out (fun y=>y)).cell 7 rfl)
       clear hK K;have HROW79:=zz (Bi (w:=r16w6) [(.slice a71 n71 c71,(lf 6 [42,134,72,134,247,13,1,7,1])),(.slice a75 n75 c75,(ofT 0x30 [(algT x.alg),(ofT 0x30 (sizeUs x.iv x.tag.length))])),(.slice a78 n78 c78,(lf 0x80 x.cipher))] (by unfold maxLen; simp) (fun p hp=>by
        simp only [List.mem_cons,List.not_mem_nil,or_false]at hp;rcases hp with rfl | rfl | rfl
        ·exact Lies.same HT71.out (sT Hr16w5_st.out Hr16w6_st.out)
        ·exact Lies.same HT75.out Hr16w6_st.out
        ·exact HT78.out))
       obtain⟨r16w7,hr16w7⟩:∃r16w7,r16w7=World.alloc r16w6 (.cells #[.slice a71 n71 c71,.slice a75 n75 c75,.slice a78 n78 c78] 80):=⟨_,rfl⟩
       rw [<-hr16w7];rw [<-hr16w7]at hHeld;have hrow:Row r16w7 (.slice (some ⟨r16w6.heap.size,0,none⟩) 3 3) [(.slice a71 n71 c71,(lf 6 [42,134,72,134,247,13,1,7,1])),(.slice a75 n75 c75,(ofT 0x30 [(algT x.alg),(ofT 0x30 (sizeUs x.iv x.tag.length))])),(.slice a78 n78 c78,(lf 0x80 x.cipher))]:=by rw [hr16w7]; exact HROW79.out
       replace HROW79:=zz hrow;have Hr16w7_st:=zz (show Same r16w6 r16w7 from by rw [hr16w7]; exact((fR _ r16w6).alloc _));have Hr16w7:Hid (Same wc r16w7):=zz (sT Hr16w6.out Hr16w7_st.out);have Hr16w7_eq:=zz hr16w7;clear hrow hr16w7;have HOF80:=zz (BA 0x30 (.slice (some ⟨r16w6.heap.size,0,none⟩) 3 3) [(.slice a71 n71 c71,(lf 6 [42,134,72,134,247,13,1,7,1])),(.slice a75 n75 c75,(ofT 0x30 [(algT x.alg),(ofT 0x30 (sizeUs x.iv x.tag.length))])),(.slice a78 n78 c78,(lf 0x80 x.cipher))] r16w7 HROW79.out (by have h1:=BW x.iv x.tag.length; simp [ofT,lf,sizedT,BV]; omega) (by simp));refine rD 12 rfl (fun K hK=>?_);go_simp;refine(HOF80.out).mono ?_;rintro e r16w8 ⟨a80,n80,c80,rfl,hm⟩;have Hr16w8_st:=zz hm.same;have HT80:=zz hm.lies;have HMK80:=zz hm;have Hr16w8:Hid (Same wc r16w8):=zz (sT Hr16w7.out Hr16w8_st.out);clear hm;refine sO hK ?_ fun hHeld=>?_
       ·rw [hSS];exact(HBD.out.fr Hr16w8.out (fun y=>y)).cell 7 rfl
       clear hK K;refine rD 13 rfl (fun K hK=>?_);go_simp;refine sO hK ?_ fun hHeld=>?_
       ·rw [hSS];exact Ah ((HBD.out.fr Hr16w8.out (fun y=>y)).cell 7 rfl)
       clear hK K;have HROW81:=zz (Bi (w:=r16w8) [(.slice a68 n68 c68,(lf 2 [0])),(.slice a70 n70 c70,(ofT 0x31 (x.to.map recT))),(.slice a80 n80 c80,(ofT 0x30 [(lf 6 [42,134,72,134,247,13,1,7,1]),(ofT 0x30 [(algT x.alg),(ofT 0x30 (sizeUs x.iv x.tag.length))]),(lf 0x80 x.cipher)]))] (by unfold maxLen; simp) (fun p hp=>by
        simp only [List.mem_cons,List.not_mem_nil,or_false]at hp;rcases hp with rfl | rfl | rfl
        ·exact Lies.same HT68.out (sT (sT (sT (sT (sT Hr16w3_st.out Hr16w4_st.out) Hr16w5_st.out) Hr16w6_st.out) Hr16w7_st.out) Hr16w8_st.out)
        ·exact Lies.same HT70.out (sT (sT (sT (sT Hr16w4_st.out Hr16w5_st.out) Hr16w6_st.out) Hr16w7_st.out) Hr16w8_st.out)
        ·exact HT80.out))
       obtain⟨r16w9,hr16w9⟩:∃r16w9,r16w9=World.alloc r16w8 (.cells #[.slice a68 n68 c68,.slice a70 n70 c70,.slice a80 n80 c80] 80):=⟨_,rfl⟩
       rw [<-hr16w9];rw [<-hr16w9]at hHeld;have hrow:Row r16w9 (.slice (some ⟨r16w8.heap.size,0,none⟩) 3 3) [(.slice a68 n68 c68,(lf 2 [0])),(.slice a70 n70 c70,(ofT 0x31 (x.to.map recT))),(.slice a80 n80 c80,(ofT 0x30 [(lf 6 [42,134,72,134,247,13,1,7,1]),(ofT 0x30 [(algT x.alg),(ofT 0x30 (sizeUs x.iv x.tag.length))]),(lf 0x80 x.cipher)]))]:=by rw [hr16w9]; exact HROW81.out
       replace HROW81:=zz hrow;have Hr16w9_st:=zz (show Same r16w8 r16w9 from by rw [hr16w9]; exact((fR _ r16w8).alloc _));have Hr16w9:Hid (Same wc r16w9):=zz (sT Hr16w8.out Hr16w9_st.out);have Hr16w9_eq:=zz hr16w9;clear hrow hr16w9;refine tQ 14 ?_ ?_ ?_;rotate_left
       ·intro w hw;rw [hSS]at hw;have q7:=hw;go_simp;try (with_reducible rfl)
       simp only [Act.put,Z1,Z2,Z3];refine wpAnyH_done (by kernel_rfl) ?_ _;go_wp2_with fail;go_meet
       have htr:=Er (w1:=w1) (W:=r16w8) (sT HEND.out.1.same (sT HSD.out Hr16w8.out)) [(.slice a68 n68 c68,lf 2 [0]),(.slice a70 n70 c70,ofT 0x31 (x.to.map recT)),(.slice a80 n80 c80,contT x.alg x.iv x.cipher x.tag.length)] (by unfold maxLen; simp) (fun p hp=>by
        simp only [List.mem_cons,List.not_mem_nil,or_false]at hp;rcases hp with rfl | rfl | rfl
        ·exact⟨Lies.same HT68.out (sT (sT (sT (sT (sT Hr16w3_st.out Hr16w4_st.out) Hr16w5_st.out) Hr16w6_st.out) Hr16w7_st.out) Hr16w8_st.out),fun q hq=>Nat.lt_of_lt_of_le (HMK68.out.own.lt hq) (Fr.size (sT (sT (sT (sT (sT Hr16w3_st.out Hr16w4_st.out) Hr16w5_st.out) Hr16w6_st.out) Hr16w7_st.out) Hr16w8_st.out))⟩
        ·exact⟨Lies.same HT70.out (sT (sT (sT (sT Hr16w4_st.out Hr16w5_st.out) Hr16w6_st.out) Hr16w7_st.out) Hr16w8_st.out),fun q hq=>Nat.lt_of_lt_of_le (HMK70.out.own.lt hq) (Fr.size (sT (sT (sT (sT Hr16w4_st.out Hr16w5_st.out) Hr16w6_st.out) Hr16w7_st.out) Hr16w8_st.out))⟩
        ·exact⟨HT80.out,fun q hq=>HMK80.out.own.lt hq⟩)
       refine⟨[(.slice a68 n68 c68,lf 2 [0]),(.slice a70 n70 c70,ofT 0x31 (x.to.map recT)),(.slice a80 n80 c80,contT x.alg x.iv x.cipher x.tag.length)],?_,rfl⟩;rw [Hr16w9_eq.out];exact htr
     case rest=>
       obtain⟨p3,htr2,hpm⟩:=hcut;have HP3:=zz (aN htr2 hpm);have HBP:=zz (Blk.fr (F:=fun _=>False) HBX.out htr2.same (fun y=>y));have q3:wc.cell? ⟨bx,3,none⟩=some (S x.header):=HBP.out.cell 3 rfl;have HSP:=zz (sT HS0.out htr2.same);clear htr2 hpm;have HXT:=zz (aN (HX.out.2.1.same HSP.out) (HX.out.2.2.fr HSP.out (fun y=>y)));obtain⟨hd,hhd⟩:∃hd,hd=x.header:=⟨_,rfl⟩
       rw [<-hhd]at q3;have HHD:=zz hhd;clear hhd;go_upto_if 84 with fail
       go_cut [12] (fun v12 wx=>∃(hs:List (List Px.Node)) (p4:List VT),headsOf x.header=some hs/\TrW w1 wx v12 p4/\p4.map (·.2)=[lf 2 [0],ofT 0x31 (x.to.map recT),contT x.alg x.iv x.cipher x.tag.length]++hs/\HdW hs)
       case first=>as_aux_lemma=>
        cases hd with
        | nil=>
         have HH:=zz (show headsOf x.header=some []from by unfold headsOf; rw [if_pos HHD.out.symm]);go_wp2_with fail;go_meet
         exact⟨[],p3,HH.out,HP3.out.1,by rw [HP3.out.2]; rfl,⟨by simp,nofun⟩⟩
        | cons z zr=>
         have HH0:=zz (show x.header≠ []from by rw [<-HHD.out]; simp);have HD:=zz (fun W (hW:Same wc W)=>show Calls Tryz.prog 22 #[S (z::zr),.agg #[.int .i64 32,.int .i64 4096,.int .i64 262144,.int .i64 1]] W (Gives W (R5.decode (z::zr) E5.encLim))from DF (z::zr) E5.encLim (by rw [HHD.out]; exact HX.out.1.header) W (HXT.out.1.same hW));rw [HHD.out]at HD;obtain⟨d,hdd⟩:∃d,d=R5.decode x.header E5.encLim:=⟨_,rfl⟩
         rw [<-hdd,<-HHD.out]at HD;have HDE:=zz hdd;clear hdd;go_wp2_with fail;refine(HD.out wc (sE _)).mono ?_;rintro e wd ⟨vo,rfl,ho,hs,hfo⟩;obtain⟨L,pl,er⟩:=d;simp only at ho ⊢;obtain⟨vaa,vac,rfl,_⟩:=ho.len;have HO:=zz (aN ho (aN hs hfo));clear ho hs hfo HD;by_cases he:er=0
         ·subst he;have hdf:=Ee (s:=x.header) (lim:=E5.encLim) (by rw [<-HDE.out]);rw [<-HDE.out]at hdf;obtain⟨hr,hfi,_,hlen,hwf⟩:=hdf;have h0l:=fits_lt hfi (show(⟨0,[1]⟩:Cu).left=(0+1):: []from rfl);replace h0l:0<L.length:=h0l;obtain⟨n0,r0,hL'⟩:∃n0 r0,L=n0::r0:=by
           cases h:L with
           | nil=>rw [h]at h0l; simp at h0l
           | cons n0 r0=>exact⟨n0,r0,rfl⟩
          have hO:=HO.out.1;rw [hL']at hO;obtain⟨g1,cp1,he1,_,_,hcell,hfree⟩:=hO.at AF (j:=0) (a:=n0) rfl;have HEQ1:=zz he1;have x0:=hcell 0 _ rfl;rw [Nat.zero_mul,Nat.zero_add]at x0;have xf:=hfree 0;have hll:L.length=r0.length+1:=by rw [hL']; rfl
          simp only [Value.slice.injEq,List.length_cons,true_and]at he1;have he2:=he1.1;have he3:=he1.2;clear he1;subst he2 he3;have HFC:=zz (aN hr (aN hlen (aN hwf (aN hL' hll))));clear hll;have hg1:g1<wd.heap.size:=World.block_lt_of_cell? _ _ x0;have hllz:(0:Int)<(L.length:Int):=by have:=HFC.out.2.2.2.2; omega
          clear hr hfi hlen hwf h0l hL' hcell hfree;by_cases ht:n0.tag=0x31
          ·rw [ht]at x0;have HRT:=zz (show headsOf x.header=some [retag 0xa1 L]from by
            unfold headsOf;rw [if_neg HH0.out,<-HDE.out,if_neg (by
             rintro(e | e)
             ·exact e rfl
             ·apply e;show(L.getD 0 nz).tag=0x31;rw [HFC.out.2.2.2.1];exact ht)])
           have htag:=Owns.tag (show Owns wd 90 3 cNode (.slice (some ⟨g1,0,none⟩) (r0.length+1) vac) (n0::r0)from hO) 0xa1;have hrt:retag 0xa1 L=⟨0xa1,n0.kids,n0.body⟩::r0:=by rw [HFC.out.2.2.2.1]; rfl
           rw [<-hrt]at htag;have hgw:wc.heap.size<=g1:=HO.out.2.2 g1 rfl;have hmk:MkT wc (retag 0xa1 L) (some ⟨g1,0,none⟩) L.length vac (wd.setCell ⟨g1,0,none⟩ (.int .u8 ((0xa1:UInt8).toNat:Nat))):=by
            rw [HFC.out.2.2.2.2];exact⟨Owns.lies htag AF,htag,fC HO.out.2.1 (p:=⟨g1,0,none⟩) (.inr hgw) _,fun q hq=>by have:g1=q:=Option.some.inj hq; omega⟩
           have HMK:=zz hmk;obtain⟨L9,hL9⟩:∃L9,L9=p3.flatMap cVT:=⟨_,rfl⟩
           obtain⟨m9,hm9⟩:∃m9,m9=p3.length:=⟨_,rfl⟩
           have how:(wd.setCell ⟨g1,0,none⟩ (.int .u8 ((0xa1:UInt8).toNat:Nat))).ownsRow 0 80 1 u12 m9 L9:=by
            rw [hL9,hm9];exact Owns.fr HP3.out.1.own hmk.same (fun _ _ y=>y)
           have hm9l:m9<=2000000:=by
            have h1:=congrArg List.length HP3.out.2;rw [List.length_map]at h1;rw [hm9,h1];simp
           have HOW:=zz how;have HL9:=zz (aN hL9 hm9);clear htag hrt hmk hL9 hm9 how ht;go_wp2_with (at_builtin; go_must (refine wpList_append_lies _ rfl _ _ _ rfl 0 80 i0 _ 1 24 Tryz.underlying79 hi0 hz0 hz1 hz2 rfl (by omega) u12 m9 L9 rfl (HOW.out.alloc _) ⟨wd.heap.size,0,none⟩ 1 1 [.slice (some ⟨g1,0,none⟩) L.length vac] rfl rfl (World.news_of_block (cs:= #[.slice (some ⟨g1,0,none⟩) L.length vac]) (t:=80) (fr:=(0,0)) (II wd _ _ _ _)) (by simp [Value.oneCell']) (by omega) (by unfold maxLen; omega) (by omega) (by omega) (wd.heap.size+1) (by simp) ?_))
           intro gg cap w3 hown hgrow hat hlt3;rw [HL9.out.1,HL9.out.2]at hown;have hpush:=TrW.push HP3.out.1 (sE wc) HMK.out hown hgrow (hat.imp id (fun e=>by
            have:(wd.setCell ⟨g1,0,none⟩ (.int .u8 ((0xa1:UInt8).toNat:Nat))).heap.size=wd.heap.size:=by simp [World.setCell]
            omega))
           have hmap:(p3++ [((.slice (some ⟨g1,0,none⟩) L.length vac:Value),retag 0xa1 L)]).map (·.2)=[lf 2 [0],ofT 0x31 (x.to.map recT),contT x.alg x.iv x.cipher x.tag.length]++ [retag 0xa1 L]:=by
            rw [List.map_append,HP3.out.2];rfl
           have hdw:HdW [retag 0xa1 L]:=⟨Nat.le_refl _,fun h hh=>by
            rw [List.mem_singleton.1 hh];have hL':=HFC.out.2.2.2.1;have hwf:=HFC.out.2.2.1;have hln:=HFC.out.2.1;rw [hL']at hwf hln ⊢;refine⟨fun y hy=>?_,by simpa [retag] using hln⟩;rcases List.mem_cons.1 hy with rfl | hy
            ·exact hwf n0 (List.mem_cons_self ..)
            ·exact hwf y (List.mem_cons_of_mem _ hy)⟩
           rw [<-HL9.out.2]at hpush;have HN:=zz (aN hpush (aN hmap hdw));clear hown hgrow hat hlt3 hpush hmap hdw;go_wp2_with fail;go_meet
           exact⟨_,_,HRT.out,HN.out.1,HN.out.2.1,HN.out.2.2⟩
          ·have hbz:(((n0.tag.toNat:Nat):Int) !=49)=true:=by
            rw [bne_iff_ne];intro e;apply ht;apply UInt8.toNat_inj.1;have:((0x31:UInt8).toNat)=49:=rfl;omega
           have HRN:=zz (show tellP x=([],2)from by
            have:headsOf x.header=none:=by
             unfold headsOf;rw [if_neg HH0.out,<-HDE.out,if_pos (.inr (by
              show(L.getD 0 nz).tag≠0x31;rw [HFC.out.2.2.2.1];exact ht))]
            unfold tellP;rw [this])
           clear ht;go_wp2;go_ret2
           rw [HRN.out];exact⟨rfl,sT HSP.out HO.out.2.1⟩
         ·have hez:(er !=0)=true:=by rw [bne_iff_ne]; exact he
          have HRN:=zz (show tellP x=([],2)from by
           have:headsOf x.header=none:=by
            unfold headsOf;rw [if_neg HH0.out,<-HDE.out,if_pos (.inl he)]
           unfold tellP;rw [this])
          clear he;go_wp2;go_ret2
          rw [HRN.out];exact⟨rfl,sT HSP.out HO.out.2.1⟩
       case rest=>
      obtain⟨hs,p4,hh,htr,hmap,hdw⟩:=hcut;have HQ:=zz (aN hh (aN htr (aN hmap hdw)));have HBQ:=zz (Blk.fr (F:=fun _=>False) HBX.out htr.same (fun y=>y));have q8:wc.cell? ⟨bx,8,none⟩=some (S x.tag):=HBQ.out.cell 8 rfl;clear hh htr hmap hdw HP3 HBP HSP HXT q3 HHD;go_wp2_with fail;refine(Am 4 x.tag _).mono ?_;rintro e wl ⟨al,nl,cl,rfl,hm⟩;have HML:=zz hm;obtain⟨L9,hL9⟩:∃L9,L9=p4.flatMap cVT:=⟨_,rfl⟩
      obtain⟨m9,hm9⟩:∃m9,m9=p4.length:=⟨_,rfl⟩
      have how:wl.ownsRow 0 80 1 u12 m9 L9:=by
       rw [hL9,hm9];exact Owns.fr HQ.out.2.1.own hm.same (fun _ _ y=>y)
      have hm9l:m9<=2000000:=by
       have h1:=congrArg List.length HQ.out.2.2.1;have h2:=HQ.out.2.2.2.len;rw [List.length_map,List.length_append]at h1;rw [hm9,h1];simp only [List.length_cons,List.length_nil];omega
      have HOW:=zz how;have HL9:=zz (aN hL9 hm9);clear hm hL9 hm9 how q8;go_wp2_with (at_builtin; go_must (refine wpList_append_lies _ rfl _ _ _ rfl 0 80 i0 _ 1 24 Tryz.underlying79 hi0 hz0 hz1 hz2 rfl (by omega) u12 m9 L9 rfl (HOW.out.alloc _) ⟨wl.heap.size,0,none⟩ 1 1 [.slice al nl cl] rfl rfl (World.news_of_block (cs:= #[.slice al nl cl]) (t:=80) (fr:=(0,0)) (heap_alloc_new wl _)) (by simp [Value.oneCell']) (by omega) (by unfold maxLen; omega) (by omega) (by omega) (wl.heap.size+1) (by simp) ?_))
      intro gg cap w5 hown hgrow hat hlt3;rw [HL9.out.1,HL9.out.2]at hown;have hpush:=TrW.push HQ.out.2.1 (sE wc) HML.out hown hgrow (hat.imp id (fun e=>by omega));obtain⟨p5,hp5⟩:∃p5,p5=p4++ [((.slice al nl cl:Value),lf 4 x.tag)]:=⟨_,rfl⟩
      have hmap:p5.map (·.2)=[lf 2 [0],ofT 0x31 (x.to.map recT),contT x.alg x.iv x.cipher x.tag.length]++hs++ [lf 4 x.tag]:=by
       rw [hp5,List.map_append,HQ.out.2.2.1];rfl
      rw [<-HL9.out.2,<-hp5]at hpush;have HN:=zz (aN hpush hmap);have HSN:=zz (sT HS0.out hpush.same);have HP5:=zz (fun W (hW:Same w5 W)=>(show Calls Tryz.prog 44 #[.int .u8 ((0x30:UInt8).toNat:Nat),.slice (some ⟨gg,0,none⟩) (m9+1) cap] W (fun e w'=>∃a n c,e= .returned (.slice a n c)/\MkT W (ofT 0x30 ([lf 2 [0],ofT 0x31 (x.to.map recT),contT x.alg x.iv x.cipher x.tag.length]++hs++ [lf 4 x.tag])) a n c w')from by
       have h1:(p5.flatMap (·.2)).length<=1000000000:=by
        rw [List.flatMap_def,hmap];exact Nat.le_trans (Eh HLL.out HQ.out.2.2.2) (by decide)
       have h2:p5.length<=1000000000:=by
        rw [hp5,List.length_append,<-HL9.out.2];simp only [List.length_cons,List.length_nil];omega
       have q:=BA 0x30 _ p5 W (HN.out.1.row.same hW) h1 h2;rw [hmap]at q;exact q))
      clear hown hgrow hat hlt3 hpush hmap hp5;go_wp2_with fail;refine(Am 6 [42,134,72,134,247,13,1,9,16,1,23] _).mono ?_;rintro e wa ⟨a1,n1,c1,rfl,hm⟩;have HMA:=zz hm;clear hm;go_wp2_with fail;refine(HP5.out wa HMA.out.same).mono ?_;rintro e wb ⟨a2,n2,c2,rfl,hm⟩;have HMB:=zz hm;have hHOF:=Bj 0xa0 [(.slice a2 n2 c2,ofT 0x30 ([lf 2 [0],ofT 0x31 (x.to.map recT),contT x.alg x.iv x.cipher x.tag.length]++hs++ [lf 4 x.tag]))] wb (fun p hp=>by
       rw [List.mem_singleton.1 hp];exact hm.lies) (MA HLL.out HQ.out.2.2.2) (by simp) _ rfl _ rfl
      have HOF:=zz hHOF;clear hm hHOF;go_wp2_with fail;refine HOF.out.mono ?_;rintro e wd ⟨a3,n3,c3,rfl,hm⟩;have HMD:=zz hm;clear HOF;have hHOF:=Bj 0x30 [(.slice a1 n1 c1,lf 6 [42,134,72,134,247,13,1,9,16,1,23]),(.slice a3 n3 c3,ofT 0xa0 [ofT 0x30 ([lf 2 [0],ofT 0x31 (x.to.map recT),contT x.alg x.iv x.cipher x.tag.length]++hs++ [lf 4 x.tag])])] wd (fun p hp=>by
       simp only [List.mem_cons,List.not_mem_nil,or_false]at hp;rcases hp with rfl | rfl
       ·exact Lies.same HMA.out.lies (sT HMB.out.same hm.same)
       ·exact hm.lies) (MB HLL.out HQ.out.2.2.2) (by simp) _ rfl _ rfl
      have HOF:=zz hHOF;clear hm hHOF;go_wp2_with fail;refine HOF.out.mono ?_;rintro e wf ⟨a4,n4,c4,rfl,hm⟩;have hmw:MkT wd (wholeT x hs) a4 n4 c4 wf:=hm;have HSF:=zz (sT HSN.out (sT HMA.out.same (sT HMB.out.same (sT HMD.out.same hm.same))));have HMF:=zz hmw;have HSF1:=zz (sT HN.out.1.same (sT HMA.out.same (sT HMB.out.same (sT HMD.out.same hm.same))));have HDE:=zz (EF _ (wholeT x hs) wf hmw.lies (Mz HX.out.1 HLL.out HQ.out.2.2.2) (HX.out.2.1.same HSF.out));clear hm hmw HOF;go_wp2_with fail;refine HDE.out.mono ?_;rintro e wg ⟨⟨ds,dn⟩,hEnc,rfl,hsg⟩;have HG:=zz (aN (BZ hEnc) (aN (sT HSF.out hsg) hEnc));have HSG1:=zz (sT HSF1.out hsg);have HTP:=zz (show tellP x=checked x (ds,dn)from by
       unfold tellP;rw [HQ.out.1];show checked x (encOf (wholeT x hs))=_;rw [BZ hEnc])
      clear hEnc hsg HDE;by_cases hd0:dn=0
      ·subst hd0;have hsl:ds.length<=262144:=GD HG.out.2.2;have HRD:=zz (show Calls Tryz.prog 10 #[S ds,.agg #[.int .i64 32,.int .i64 4096,.int .i64 262144,.int .i64 4096]] wg (GivesE wg (Cm.read ds mostL))from CG ds mostL wg (by omega) (HX.out.2.1.same HG.out.2.1) (HX.out.2.2.fr HG.out.2.1 (fun y=>y)));have HTP2:=zz (show tellP x=if(Cm.read ds mostL).2≠0\/x≠(Cm.read ds mostL).1 then([],2)else(ds,0)from by
        rw [HTP.out];unfold checked;rw [if_neg (fun e=>e rfl)])
       obtain⟨d,hd⟩:∃d,d=Cm.read ds mostL:=⟨_,rfl⟩
       rw [<-hd]at HRD HTP2;have HDD:=zz hd;clear hd HTP hsl;go_wp2_with fail;refine HRD.out.mono ?_;rintro e wh ⟨vt,rfl,ho,hsh,hnew,va2,vc2,rfl⟩;obtain⟨y,f⟩:=d;simp only at ho hnew HTP2 ⊢;have HOY:=zz (aN ho (aN hsh hnew));unfold envC;clear ho hsh hnew HRD;go_upto_region 28 with fail
       obtain⟨wi,hwi⟩:∃wi,wi=wh.alloc (.cells #[.int .i64 y.fmt,.int .i64 y.alg,.slice va2 y.to.length vc2,S y.header,S y.loose,S y.aad,S y.iv,S y.cipher,S y.tag] 27):=⟨_,rfl⟩
       obtain⟨bh,hbh⟩:∃bh,bh=wh.heap.size:=⟨_,rfl⟩
       have hbk:Blk wi bh #[.int .i64 y.fmt,.int .i64 y.alg,.slice va2 y.to.length vc2,S y.header,S y.loose,S y.aad,S y.iv,S y.cipher,S y.tag] 27:=by rw [hwi,hbh]; exact Af wh _ _
       have hsi:Same wh wi:=by rw [hwi]; exact(fR _ wh).alloc _
       rw [<-hwi,<-hbh];have hbk2:Blk wi bx #[.int .i64 x.fmt,.int .i64 x.alg,.slice va x.to.length vc,S x.header,S x.loose,S x.aad,S x.iv,S x.cipher,S x.tag] 27:=Blk.fr (F:=fun _=>False) HBX.out (sT HSG1.out (sT HOY.out.2.1 hsi)) (fun y=>y);have HSI:=zz (sT HG.out.2.1 (sT HOY.out.2.1 hsi));by_cases hf:f=0
       ·subst hf;have hyl:y.to.length<=140737488351232:=Nat.le_trans (Ek (show Cm.read ds mostL=(y,0)from HDD.out.symm)).2.1.to.2.1 (by decide);have HSM:=zz (Mx x y (.slice va x.to.length vc) (.slice va2 y.to.length vc2) wi (Lies.same HTW.out HSI.out) (Lies.same (Owns.lies HOY.out.1 BJ) hsi) (by have:=HLL.out; omega) hyl);unfold envC at HSM;obtain⟨c0,c1,c2,c3,c4,c5,c6,c7,c8,_,_,_,_,_,_,_,_,_⟩:=AT hbk;obtain⟨d0,d1,d2,d3,d4,d5,d6,d7,d8,_,_,_,_,_,_,_,_,_⟩:=AT hbk2;clear hwi hbh hbk hbk2 hsi hyl;go_wp2_with fail;refine HSM.out.mono ?_;rintro e wj ⟨rfl,hsj⟩;have HSJ:=zz (sT HSI.out hsj);obtain⟨q,hq⟩:∃q,decide (x=y)=q:=⟨_,rfl⟩
        rw [hq];have HQQ:=zz hq;clear hsj hq HSM c0 c1 c2 c3 c4 c5 c6 c7 c8 d0 d1 d2 d3 d4 d5 d6 d7 d8;cases q with
        | true=>
         have HT3:=zz (show tellP x=(ds,0)from by
          rw [HTP2.out,if_neg (by
           rintro(e | e)
           ·exact e rfl
           ·exact e (of_decide_eq_true HQQ.out))])
         go_wp2;go_ret2
         rw [HT3.out];exact⟨rfl,HSJ.out⟩
        | false=>
         have HT3:=zz (show tellP x=([],2)from by
          rw [HTP2.out,if_pos (.inr (of_decide_eq_false HQQ.out))])
         go_wp2;go_ret2
         rw [HT3.out];exact⟨rfl,HSJ.out⟩
       ·have hfz:(f !=0)=true:=by rw [bne_iff_ne]; exact hf
        have HT3:=zz (show tellP x=([],2)from by
         rw [HTP2.out,if_pos (.inl hf)])
        clear hf hwi hbh hbk hbk2 hsi;go_wp2;go_ret2
        rw [HT3.out];exact⟨rfl,HSI.out⟩
      ·have hdz:(dn !=0)=true:=by rw [bne_iff_ne]; exact hd0
       have HTP2:=zz (show tellP x=([],2)from by
        rw [HTP.out];unfold checked;rw [if_pos hd0])
       clear hd0;go_wp2;go_ret2
       rw [HTP2.out];exact⟨rfl,HG.out.2.1⟩
end Go.Proofs.YtpfhollohodcjaaGreatDoor
