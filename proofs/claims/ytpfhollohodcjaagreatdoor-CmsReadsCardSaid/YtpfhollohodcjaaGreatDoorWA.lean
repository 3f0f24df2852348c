import Derived.Test.YtpfhollohodcjaaGreatDoorVZ
set_option maxRecDepth 100000
set_option maxHeartbeats 8000000
namespace Go.Proofs.YtpfhollohodcjaaGreatDoor
open Go.RowKit Go.Px Go.Px.Co Go.Px.Cm
theorem Fd(l:List Px.Node):∀u∈l.flatMap cNode,u.oneCell'=true:=by
 intro u hu;simp only [List.mem_flatMap]at hu;obtain⟨a,_,hu⟩:=hu;simp only [cNode,List.mem_cons,List.not_mem_nil,or_false]at hu;rcases hu with rfl | rfl | rfl<;>rfl
theorem K1(p:Addr)(n cap:Nat)(l:List Px.Node)(w:World)(h:Lies w 3 cNode (.slice (some p) n cap) l)(hl:l.length<=4096):
  Calls Tryz.prog 115 #[.slice (some p) n cap] w fun e w'=>∃vo,e= .returned vo/\Owns w' 90 3 cNode vo l/\Same w w'/\∀q,vo.ownBlock=some q->w.heap.size<=q:=by
 have hsrc:∀W,Same w W->Src Tryz.prog 3 47 (.slice (some p) n cap) l.length (l.flatMap cNode) W:=fun W hW=>(Lies.same h hW).src AF (by omega) Tryz.underlying47 (Fd l)
 have H:=zz hsrc;clear h hsrc;obtain⟨i0,hi0,hz0,hz1,hz2⟩:=info_parts Tryz.infoNode;have heq:∀W:World,(binOp .eql 47 (.slice (some p) n cap) (.slice none 0 0)).run Tryz.prog W= .ok (.bool false) W:=fun _=>by rfl
 go_enter Tryz.func115,Tryz.ntmps115;go_wp2_with (at_builtin; go_must (refine Eb rfl _ _ 47 47 rfl 90 i0 _ 3 32 Tryz.underlying47 hi0 hz0 hz1 hz2 rfl w.heap.size rfl (heap_alloc_new w _) (.slice (some p) n cap) l.length (l.flatMap cNode) rfl (H.out _ ((sE w).alloc _)) (by unfold maxLen; omega) (by omega) ?_))
 intro g cap2 w' hown hgrow hat;go_wp2;go_ret;refine⟨_,rfl,hown,Fr.grown ((sE w).alloc _) hgrow (fun k e=>by cases e),fun q hq=>?_⟩;have hq2:g=q:=Option.some.inj hq;have hsz:(w.alloc (.cells #[] 90)).heap.size=w.heap.size+1:=by simp
 rcases hat with e | e<;>omega
theorem Lies.sub{α:Type}{w:World}{sz vb off cap cap2 i j:Nat}{c:α->List Value}{l:List α}(h:Lies w sz c (.slice (some ⟨vb,off,none⟩) l.length cap) l)(hi:i<=j)(hj:j<=l.length)(h1:j - i<=cap2)(h2:cap2<=maxLen):
  Lies w sz c (.slice (some ⟨vb,off+i*sz,none⟩) (j - i) cap2) ((l.take j).drop i):=by
 have hlen:((l.take j).drop i).length=j - i:=by rw [List.length_drop,List.length_take]; omega
 refine⟨⟨_,_,by rw [hlen],by rw [hlen]; exact h1,h2⟩,fun k x hk=>?_⟩;have hx:l[i+k]?=some x:=by
  rw [List.getElem?_drop,List.getElem?_take]at hk
  split at hk
  ·exact hk
  ·cases hk
 obtain⟨b,o,cp,e1,e2,e3⟩:=h.cell (i+k) x hx;simp only [Value.slice.injEq,Option.some.injEq,Addr.mk.injEq,true_and,and_true]at e1;obtain⟨⟨rfl,rfl⟩,_⟩:=e1;refine⟨vb,off+i*sz,cap2,by rw [hlen],e2,fun m u hu=>?_⟩;have:=e3 m u hu;rw [Nat.add_mul,Nat.add_assoc]at this;rw [Nat.add_assoc];exact this
theorem Tabs.frg{w w':World}{F:Nat->Prop}(h:Tabs w)(hf:Fr F w w')(h1:¬F 1)(h2:¬F 2):Tabs w':=by
 refine⟨fun c hc=>?_,fun i hi=>⟨?_,?_⟩⟩
 ·have:=h.1 c hc;rw [hf.cell (p:=⟨_,_,none⟩) (World.block_lt_of_cell? _ _ this) h1];exact this
 ·have:=(h.2 i hi).1;rw [hf.cell (p:=⟨_,_,none⟩) (World.block_lt_of_cell? _ _ this) h2];exact this
 ·have:=(h.2 i hi).2;rw [hf.cell (p:=⟨_,_,none⟩) (World.block_lt_of_cell? _ _ this) h2];exact this
theorem Owns.tag{w:World}{g cap:Nat}{a:Px.Node}{r:List Px.Node}(h:Owns w 90 3 cNode (.slice (some ⟨g,0,none⟩) (r.length+1) cap) (a::r))(t:UInt8):Owns (w.setCell ⟨g,0,none⟩ (.int .u8 (t.toNat:Nat))) 90 3 cNode (.slice (some ⟨g,0,none⟩) (r.length+1) cap) (⟨t,a.kids,a.body⟩::r):=by
 have h':w.ownsRow 0 90 3 (.slice (some ⟨g,0,none⟩) (r.length+1) cap) (r.length+1) (cNode a++r.flatMap cNode):=h;have hs:=World.ownsRow.stored h' 0 (.int .u8 (t.toNat:Nat));rw [show(cNode a++r.flatMap cNode).set 0 (.int .u8 (t.toNat:Nat))=cNode ⟨t,a.kids,a.body⟩++r.flatMap cNode by simp [cNode]]at hs;exact hs.1
theorem EnvW.frx{w w':World}{F G:Nat->Prop}{be:Nat}{x:Co.Env}{vto:Value}(h:EnvW w F be x vto)(hf:Fr G w w')(hn:∀q,envFoot be vto q->¬G q):EnvW w' F be x vto:=
 ⟨Blk.fr h.eb hf (hn be (.inl rfl)),h.own.fr hf (fun q e=>hn q (.inr e)),h.nf,h.ap⟩
theorem K2{L:List Px.Node}{k:Cu}{n:Int}(h0:¬(L.getD k.at_ nz).kids=0)(h:inn L 161 (attrP L) k= .error n):attrs L k= .error n:=by
 unfold attrs;rw [if_neg h0,h]
theorem Ml{L:List Px.Node}{k k2:Cu}{u:Unit}(h0:¬(L.getD k.at_ nz).kids=0)(h:inn L 161 (attrP L) k= .ok (u,k2)){d:Bytes×Int}(hd:encOf (setOf ((L.take k2.at_).drop k.at_))=d):
  attrs L k=if d.2≠0 then .error 9 else if 70000<d.1.length then .error 10 else .ok (d.1,k2):=by
 unfold attrs;rw [if_neg h0,h];show(match attrT ((L.take k2.at_).drop k.at_)with | .error e=>(Except.error e:Except Int (Bytes×Cu))| .ok s=> .ok (s,k2))=_;unfold attrT;rw [hd];by_cases h1:d.2≠0
 ·rw [if_pos h1,if_pos h1]
 ·rw [if_neg h1,if_neg h1];by_cases h2:70000<d.1.length
  ·rw [if_pos h2,if_pos h2]
  ·rw [if_neg h2,if_neg h2]
theorem K3(b be:Nat)(va vto:Value)(L:List Px.Node)(lim:Lim)(k:Cu)(F:Nat->Prop)(x:Co.Env)(w:World)(h:CuAt w b va L lim k F)(hf:Fits L k)(hd:k.left.length<=97)(hr:∀a∈L,E5.right a=true)(hx:EnvW w F be x vto)(hv:∀q,va.ownBlock=some q->¬envFoot be vto q)(hp:peek L k=0xa1)(hT:Tabs w)(hF:¬F 1/\¬F 2):
  Calls Tryz.prog 69 #[.pointer (some ⟨b,0,none⟩),.pointer (some ⟨be,0,none⟩)] w (RunsE w b va L lim F (envFoot be vto) (fun h F' w'=>EnvW w' F' be {x with header:=h} vto) (attrs L k)):=by
 obtain⟨R,hR⟩:∃R,R=attrs L k:=⟨_,rfl⟩
 rw [<-hR];have HR:=zz hR;obtain⟨w3,hw3⟩:∃w3,w3=w.alloc (.cells #[.pointer (some ⟨b,0,none⟩)] 50):=⟨_,rfl⟩
 have hs3:Same w w3:=by rw [hw3]; exact fA (fR _ w) _
 have hbx:Blk w3 w.heap.size #[.pointer (some ⟨b,0,none⟩)] 50:=by rw [hw3]; exact Af w _ _
 obtain⟨n,r,hkl⟩:∃n r,k.left=(n+1)::r:=by
  unfold peek at hp
  split at hp
  ·rename_i n r e
   exact⟨n,r,e⟩
  ·cases hp
 have hlt:=fits_lt hf hkl;have H:=zz (aN h (aN hf (aN hd (aN hr (aN hx (aN hv (aN hT (aN hF (aN hs3 (aN hlt hp))))))))));obtain⟨vl,hrep,hFF⟩:=h.same hs3;obtain⟨c0,c1,c2⟩:=hrep.cells;obtain⟨vb,off,cap,hva,hvb,x0,x1,_⟩:=hrep.elem hlt;have HW:=zz hw3;have c3:=hbx.cell 0 rfl;rw [hw3]at c0 c1 x1 c3;obtain⟨kk,hkk⟩:∃kk,kk=(L.getD k.at_ nz).kids:=⟨_,rfl⟩
 obtain⟨a,ha⟩:∃a,a=k.at_:=⟨_,rfl⟩
 rw [<-hkk,<-ha]at x1;rw [<-ha]at c1 hlt;rw [hva]at c0;have HV:=zz (aN hva (aN hkk (aN ha hbx)));have hltz:(a:Int)<(L.length:Int):=by omega
 have hL:=hrep.wf.1;clear hR h hf hd hr hx hv hT hF hs3 hw3 hbx hkl hrep hFF hva hkk ha hp hlt x0 c2;go_enter Tryz.func69,Tryz.ntmps69;by_cases h0:kk=0
 ·have HI:=zz (HR.out.trans (show attrs L k= .error 9 by unfold attrs; rw [if_pos (by rw [<-HV.out.2.1]; exact h0)]));subst h0;go_wp2_with fail;refine(Al 9 _).mono ?_;rintro e w4 ⟨v,rfl,he,hs4⟩;have HE:=zz (aN he (H.out.2.2.2.2.2.2.2.2.1.trans (show Same w3 w4 by rw [HW.out]; exact hs4)));clear he hs4;go_wp2;go_ret;rw [HI.out];exact⟨⟨v,rfl,HE.out.1⟩,HE.out.2.fr _⟩
 ·have hkz:(kk==0)=false:=bn h0;have HN0:=zz (show ¬(L.getD k.at_ nz).kids=0 by rw [<-HV.out.2.1]; exact h0);have hin:=Bd b va L lim k F (fun _=>False) 0xa1 (by decide) (by decide) 111 #[.pointer (some ⟨w.heap.size,0,none⟩)] (attrP L) (fun _ _ _=>True) w3 (H.out.1.same H.out.2.2.2.2.2.2.2.2.1) H.out.2.1 (by have:=H.out.2.2.1; omega) H.out.2.2.2.1 (fun _=>rfl) (Ay (CR H.out.2.2.2.1)) (fun _ _ _ _ _ _=>trivial)
   (fun w1 F1 k2 h1 h2 h3 h4 h5=>Mk _ b va L lim k2 F1 w1 h1 h2 (by have:=H.out.2.2.1; omega) H.out.2.2.2.1 ((HV.out.2.2.2.fr h4 (fun e=>by have:=H.out.1.lt _ e; omega)).cell 0 rfl) (fun e=>(h5 _ e).elim (fun e=>by have:=H.out.1.lt _ e; omega) (fun y=>by have:=HV.out.2.2.2.lt; omega)))
  rw [show((0xa1:UInt8).toNat)=161 from rfl]at hin;have HIN:=zz hin;clear hin h0;go_wp2_with fail;rw [<-HW.out];refine HIN.out.mono ?_;intro e w4 hT;clear c0 c1 x1 c3;cases hk:inn L 161 (attrP L) k with
  | error n=>
   rw [hk]at hT;have HI:=zz (HR.out.trans (K2 HN0.out hk));obtain⟨⟨v,rfl,fb2,rfl,hfb⟩,hs⟩:=hT;have HE:=zz (aN hfb (fT (H.out.2.2.2.2.2.2.2.2.1.fr F) hs fun q _ y=>y.elim id (fun y=>y.elim)));clear hs hfb hk HIN;go_wp2;go_ret;rw [HI.out];exact⟨⟨_,rfl,fb2,rfl,HE.out.1⟩,Fr.mono HE.out.2 fun _ y=> .inl y⟩
  | ok q=>
   obtain⟨u,k2⟩:=q;rw [hk]at hT;obtain⟨rfl,⟨F1,hc,hs1,_⟩,hs⟩:=hT;obtain⟨hf2,ts,n3,r3,⟨us,_,rfl⟩,e1,e2,e3,e4⟩:=(CR H.out.2.2.2.1).inn H.out.2.2.2.1 (t:=0xa1) (by decide) (by decide) k u k2 hk H.out.2.1;have hlt:=H.out.2.2.2.2.2.2.2.2.2.1;have hend:k.at_<k2.at_/\k2.at_<=L.length:=by
    have h1:=congrArg List.length e3;rw [List.length_append,List.length_drop,List.length_drop]at h1;have h2:1<=(([ofT (0xa1:UInt8) us]:List (List Px.Node)).flatten).length:=by simp [ofT]
    omega
   have hfw:Fr F w w4:=fT (H.out.2.2.2.2.2.2.2.2.1.fr F) hs fun q _ y=>y.elim id (fun y=>y.elim)
   have hfs:Fresh w F F1:=fun q hq=>(hs1 q hq).imp id (fun y=>Nat.le_trans H.out.2.2.2.2.2.2.2.2.1.size y)
   have hnpc:¬F w.heap.size:=fun e=>by have:=H.out.1.lt _ e; omega
   have c3:=(HV.out.2.2.2.fr (F:=F) (Fr.mono hs fun _ y=>y.elim id (fun y=>y.elim)) hnpc).cell 0 rfl;have HK:=zz hk;obtain⟨vl,hrep,hF1⟩:=hc;obtain⟨c0,c1,c2⟩:=hrep.cells;have hli:=hrep.lies;rw [HV.out.1]at c0 hli;obtain⟨z,hz⟩:∃z,z=k2.at_:=⟨_,rfl⟩
   rw [<-hz]at c1 hend;rw [<-HV.out.2.2.1]at hend;have hcapl:L.length<=cap/\cap<=maxLen:=by
    obtain⟨_,cap',hcv,h1,h2⟩:=hli.slice;simp only [Value.slice.injEq,true_and]at hcv;rw [hcv.2];exact⟨h1,h2⟩
   obtain⟨hcap1,hcap2⟩:=hcapl;have HCP:=zz (aN hcap1 hcap2);unfold maxLen at hcap2;have haz:(a:Int)<=(z:Int):=by omega
   have hzl:(z:Int)<=(cap:Int):=by omega
   have hb4:=hrep.lt;have HC:=zz (aN (⟨vl,hrep,hF1⟩:CuAt w4 b va L lim k2 F1) (aN hfw (aN hfs (aN hz (aN hli hend)))));clear hs hs1 hk HIN hf2 e1 e2 e3 e4 hlt hfw hfs hnpc hrep hF1 hz c2 hli hend;have HCL:=zz (fun W (hW:Same w4 W)=>K1 ⟨vb,off+a*3,none⟩ (z - a) (cap - a) ((L.take z).drop a) W (Lies.same (Lies.sub HC.out.2.2.2.2.1 (by have:=HC.out.2.2.2.2.2; omega) HC.out.2.2.2.2.2.2 (by omega) (by unfold maxLen; omega)) hW) (by rw [List.length_drop,List.length_take]; omega));have hca:¬cap=a:=by have:=HC.out.2.2.2.2.2; omega
   go_upto_region 7 with fail
   go_cut [7] (fun v7 wx=>∃vo,v7=vo/\Owns wx 90 3 cNode vo ((L.take z).drop a)/\Same w4 wx/\∀q,vo.ownBlock=some q->w4.heap.size<=q)
   case first=>
    go_region_with (go_at_call 115; refine(HCL.out _ (fD (fR _ _))).mono ?_; rintro e wa ⟨vo,rfl,hown,hsa,hfr⟩; have HO:=zz (aN hown (aN hsa hfr)); clear hown hsa hfr)
    all_goals
     go_wp2_with fail;go_meet
     exact⟨_,rfl,HO.out.1,((fD (fR _ w4)).trans HO.out.2.1 fun _ _ y=>y),fun q hq=>HO.out.2.2 q hq⟩
   case rest=>
    obtain⟨vo,rfl,hown,hsw,hfresh⟩:=hcut;have hlen:((L.take z).drop a).length=z - a:=by have:=HC.out.2.2.2.2.2; rw [List.length_drop,List.length_take]; omega
    obtain⟨a0,r0,hL'⟩:∃a0 r0,(L.take z).drop a=a0::r0:=by
     cases h:(L.take z).drop a with
     | nil=>rw [h]at hlen; simp only [List.length_nil]at hlen; have:=HC.out.2.2.2.2.2; omega
     | cons a0 r0=>exact⟨a0,r0,rfl⟩
    rw [hL']at hown;obtain⟨g,cp,rfl,hcp1,hcp2,hcell,hfree⟩:=hown.at AF (j:=0) (a:=a0) rfl;have x0:=hcell 0 _ rfl;rw [Nat.zero_mul,Nat.zero_add]at x0;have xf:=hfree 0;have hgw:w4.heap.size<=g:=hfresh g rfl;have htag:=Owns.tag hown 0x31;have hmem:∀y∈a0::r0,y∈L:=fun y hy=>by rw [<-hL']at hy; exact List.mem_of_mem_take (List.mem_of_mem_drop hy)
    have hwf:∀y∈(⟨0x31,a0.kids,a0.body⟩:Px.Node)::r0,-9223372036854775808<=y.kids/\y.kids<=9223372036854775807/\y.body.length<=140737488355327:=fun y hy=>by
     obtain⟨vl,hrep,_⟩:=H.out.1;rcases List.mem_cons.1 hy with rfl | hy
     ·exact hrep.wf.2 a0 (hmem a0 (List.mem_cons_self ..))
     ·exact hrep.wf.2 y (hmem y (List.mem_cons_of_mem _ hy))
    have hfw2:Fr (fun q=>F q\/q=g) w (wc.setCell ⟨g,0,none⟩ (.int .u8 ((0x31:UInt8).toNat:Nat))):=((Fr.mono HC.out.2.1 fun _ y=> .inl y).trans (hsw.fr _) fun _ _ y=>y).setCell (p:=⟨g,0,none⟩) (.inl (.inr rfl)) _;have hgz:w.heap.size<=g:=Nat.le_trans HC.out.2.1.size hgw;have hT:Tabs (wc.setCell ⟨g,0,none⟩ (.int .u8 ((0x31:UInt8).toNat:Nat))):=by
     have h3:=H.out.2.2.2.2.2.2.1;have l1:=World.block_lt_of_cell? _ _ (h3.1 0 (by decide));have l2:=World.block_lt_of_cell? _ _ (h3.2 0 (by decide)).1;simp only at l1 l2;exact Tabs.frg h3 hfw2 (fun e=>e.elim H.out.2.2.2.2.2.2.2.1.1 (fun y=>by omega)) (fun e=>e.elim H.out.2.2.2.2.2.2.2.1.2 (fun y=>by omega))
    have HDE:=zz (EF _ (⟨0x31,a0.kids,a0.body⟩::r0) _ (Owns.lies htag AF) hwf hT);have HX:=zz (aN hL' (aN hsw (aN hgw (aN hgz hfw2))));have hgl:g<wc.heap.size:=by
     have:=World.block_lt_of_cell? _ _ x0;exact this
    clear hown hsw hfresh hlen hL' hcell hfree htag hmem hwf hfw2 hT hgw hgz c0 c1 c3;go_wp2_with fail;refine HDE.out.mono ?_;rintro e w5 ⟨⟨ds,dn⟩,hEnc,rfl,hs5⟩;have henc:encOf (setOf ((L.take k2.at_).drop k.at_))=(ds,dn):=by
     rw [<-HC.out.2.2.2.1,<-HV.out.2.2.1,HX.out.1];exact BZ hEnc
    have HI:=zz (HR.out.trans (Ml HN0.out HK.out henc));have HS5:=zz hs5;clear hEnc henc hs5 HDE x0 xf;have HENV:=zz (show EnvW w5 F1 be x vto/\CuAt w5 b va L lim k2 F1/\Fr F w w5 from by
     have e1:=(H.out.2.2.2.2.1.keep HC.out.2.1 HC.out.2.2.1).frx (HX.out.2.1.fr (fun q=>q=g)) (fun q hq e=>by have:=H.out.2.2.2.2.1.lt q hq; have:=HX.out.2.2.2.1; omega);have e2:=e1.frx (A9 (w:=wc) g 0 (.int .u8 ((0x31:UInt8).toNat:Nat))) (fun q hq e=>by have:=H.out.2.2.2.2.1.lt q hq; have:=HX.out.2.2.2.1; omega);have e3:=e2.frx (HS5.out.fr (fun _=>False)) (fun _ _ y=>y);have d0:CuAt w4 b va L lim k2 F1:=HC.out.1;have d1:=(d0.same HX.out.2.1).setOut g 0 (.int .u8 ((0x31:UInt8).toNat:Nat)) (fun e=>by have:=d0.lt _ e; have:=HX.out.2.2.1; omega) (fun q hq e=>by have:=H.out.1.va q hq; have:=HX.out.2.2.2.1; omega);refine⟨e3,d1.same HS5.out,fT (HX.out.2.2.2.2.trans (HS5.out.fr _) fun _ _ y=>y) (fR _ w5) (fun _ _ y=>y)|>fun hq=>⟨hq.os,hq.tape,hq.output,hq.size,fun q h1 h2=>hq.block q h1 (fun y=>y.elim h2 (fun y=>by have:=HX.out.2.2.2.1; omega))⟩⟩)
    by_cases hd0:dn=0
    ·subst hd0;by_cases h7:70000<ds.length
     ·have HI2:=zz (HI.out.trans ((if_neg (by simp)).trans (if_pos h7)));have h7z:decide ((70000:Int)<(ds.length:Int))=true:=dt (by omega);clear h7 HI;go_wp2_with fail;refine(Al 10 _).mono ?_;rintro e w6 ⟨v,rfl,he,hs6⟩;have HE:=zz (aN he hs6);clear he hs6;go_wp2;go_ret;rw [HI2.out];exact⟨⟨v,rfl,HE.out.1⟩,Fr.mono (HENV.out.2.2.trans (HE.out.2.fr F) fun _ _ y=>y) fun _ y=> .inl y⟩
     ·have HI2:=zz (HI.out.trans ((if_neg (by simp)).trans (if_neg h7)));have h7z:decide ((70000:Int)<(ds.length:Int))=false:=df (by omega);have fb:=Blk.free HENV.out.1.eb 3;have k0:=Blk.cell HENV.out.1.eb 3 rfl;clear h7 HI;go_wp2;go_ret;rw [HI2.out];exact⟨rfl,⟨F1,HENV.out.2.1.setOut be 3 _ (HENV.out.1.nf be (.inl rfl)) (fun q hq e=>H.out.2.2.2.2.2.1 q hq (.inl e)),HC.out.2.2.1,HENV.out.1.set 3 (S ds) (by simp [envC]) rfl⟩,fC (Fr.mono HENV.out.2.2 fun _ y=> .inl y) (p:=⟨be,3,none⟩) (.inl (.inr (.inl rfl))) _⟩
    ·have HI2:=zz (HI.out.trans (if_pos hd0));have hdz:(dn !=0)=true:=by rw [bne_iff_ne]; exact hd0
     clear hd0 HI;go_wp2_with fail;refine(Al 9 _).mono ?_;rintro e w6 ⟨v,rfl,he,hs6⟩;have HE:=zz (aN he hs6);clear he hs6;go_wp2;go_ret;rw [HI2.out];exact⟨⟨v,rfl,HE.out.1⟩,Fr.mono (HENV.out.2.2.trans (HE.out.2.fr F) fun _ _ y=>y) fun _ y=> .inl y⟩
end Go.Proofs.YtpfhollohodcjaaGreatDoor
