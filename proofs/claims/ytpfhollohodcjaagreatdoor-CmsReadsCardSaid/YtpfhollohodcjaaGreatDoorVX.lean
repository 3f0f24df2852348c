import Derived.Test.YtpfhollohodcjaaGreatDoorVW
set_option maxRecDepth 100000
set_option maxHeartbeats 8000000
namespace Go.Proofs.YtpfhollohodcjaaGreatDoor
open Go.RowKit Go.Px Go.Px.Co Go.Px.Cm
theorem CF{L:List Px.Node}(hr:∀a∈L,E5.right a=true)(ccm:Bool):Eats L (params L ccm) (fun _ _=>True):=
 Ay ((AR hr _ _ _).bnd (S:=fun _ _ _=>True) fun iv c v c' e hf=>by
  have he:(if peek L c=2 then sizeP L iv ccm c else .ok ((iv,12),c))= .ok (v,c'):=e
  split at he
  ·exact Ay (((AI hr (t:=2) (by decide) (by decide))).bnd fun s=>Di (iv,(s.getD 0 0).toNat) 9) c v c' he hf
  ·simp only [Except.ok.injEq,Prod.mk.injEq]at he;obtain⟨rfl,rfl⟩:=he;exact Ay (Ax (iv,12)) c _ c rfl hf)
theorem MF (pc py px pm ps b be:Nat) (va vm vto:Value) (L:List Px.Node) (lim:Lim) (k:Cu) (F:Nat->Prop) (x:Co.Env) (ccm:Bool) (w:World) (h:CuAt w b va L lim k F) (hf:Fits L k) (hd:k.left.length<=100) (hr:∀a∈L,E5.right a=true) (hw:ConW w F pc px pm ps b be x vto ccm 12) (hv:∀q,va.ownBlock=some q->¬conF be vto pm ps q)
  (cy:w.cell? ⟨py,0,none⟩=some vm) (hy:MayIn w F vm (if ccm then 7 else 1) (if ccm then 13 else 1024) 1) (ny:¬F py) (ny2:¬be=py):
  Calls Tryz.prog 23 #[.pointer (some ⟨b,0,none⟩),.int .u8 48,.func (.func 109) #[] #[.pointer (some ⟨pc,0,none⟩),.pointer (some ⟨py,0,none⟩),.pointer (some ⟨px,0,none⟩),.pointer (some ⟨pm,0,none⟩),.pointer (some ⟨ps,0,none⟩)]] w (RunsB (BadS ps) w b va L lim F (conF be vto pm ps) (fun p F' w'=>ConW w' F' pc px pm ps b be {x with iv:=p.1} vto ccm p.2) (inn L 48 (params L ccm) k)):=by
 have l1:=World.block_lt_of_cell? _ _ cy;simp only at l1;exact F8 (BadS ps) b va L lim k F (conF be vto pm ps) 0x30 (by decide) (by decide) 109 #[.pointer (some ⟨pc,0,none⟩),.pointer (some ⟨py,0,none⟩),.pointer (some ⟨px,0,none⟩),.pointer (some ⟨pm,0,none⟩),.pointer (some ⟨ps,0,none⟩)] (params L ccm) (fun p F' w'=>ConW w' F' pc px pm ps b be {x with iv:=p.1} vto ccm p.2) w h hf hd hr (fun _=>rfl) (CF hr ccm) (fun v F w w' h hf=>h.stable hf) (hw.bad (sE _)) (fun _ _ h hs=>h.same hs) (fun v F w h=>h.bad (sE _))
  (fun w1 F1 k1 h1 h2 h3 h4 h5=>KY pc py px pm ps b be va vm vto L lim k1 F1 x ccm w1 h1 h2 hr (hw.keep h4 h5) hv ((h4.cell (p:=⟨py,0,none⟩) l1 ny).trans cy) (hy.keep h4 (fun q hq hlt=>(h5 q hq).elim id (fun y=>absurd hlt (by omega)))) (fun e=>(h5 _ e).elim ny (fun y=>by omega)) ny2)
theorem KZ(pc px pm ps b be:Nat)(va vto:Value)(L:List Px.Node)(lim:Lim)(k:Cu)(F:Nat->Prop)(x:Co.Env)(w:World)(h:CuAt w b va L lim k F)(hf:Fits L k)(hd:k.left.length<=99)(hr:∀a∈L,E5.right a=true)(hw:ConW w F pc px pm ps b be x vto false 12)(hv:∀q,va.ownBlock=some q->¬conF be vto pm ps q):
  Calls Tryz.prog 108 #[.pointer (some ⟨pc,0,none⟩),.pointer (some ⟨px,0,none⟩),.pointer (some ⟨pm,0,none⟩),.pointer (some ⟨ps,0,none⟩)] w (RunsB (BadS ps) w b va L lim F (conF be vto pm ps) (fun a F' w'=>ConW w' F' pc px pm ps b be {x with alg:=algsL.getD a.1 0,iv:=a.2.1} vto (decide (2<a.1)) a.2.2) (cipherP L k)):=by
 obtain⟨R,hR⟩:∃R,R=cipherP L k:=⟨_,rfl⟩
 rw [<-hR];have HR:=zz hR;have H:=zz (aN h (aN hf (aN hv (aN hr hd))));have HCW:=zz hw;have c1:=hw.cc;have HG:=zz (Aa w F);clear hR h hf hw hv hr hd;have hal:Same w (w.alloc (.cells (sixT.map S).toArray 9)):=fA (fR _ w) _;have HKD:=zz (BK b va L lim k F (.slice (some ⟨w.heap.size,0,none⟩) 6 6) sixT (by decide) (w.alloc (.cells (sixT.map S).toArray 9)) (H.out.1.same hal) H.out.2.1 (BM (Af w _ _) (by decide)) (fun q hq hF=>by simp only [Value.ownBlock,Option.some.injEq]at hq; have:=H.out.1.lt q hF; omega));have HAL:=zz hal;clear hal;go_enter Tryz.func108,Tryz.ntmps108;go_wp2_with fail;refine HKD.out.mono ?_;intro e w1 hT;cases hk:kind L sixT k with
 | error n=>
  rw [hk]at hT;have HI:=zz (HR.out.trans (An hk));obtain⟨⟨v,rfl,fb2,rfl,hfb⟩,hs⟩:=hT;have HE:=zz (aN hfb (aN ((HAL.out.fr F).trans hs fun _ _ x=>x) (((HCW.out.stable (HAL.out.fr F)).stable hs).bad (sE _))));clear hs hfb c1 hk HKD;go_wp2;go_ret;rw [HI.out];exact⟨⟨_,rfl,fb2,rfl,HE.out.1⟩,Fr.mono HE.out.2.1 (fun _ x=> .inl x),HE.out.2.2⟩
 | ok q=>
  obtain⟨i,k1⟩:=q;rw [hk]at hT;obtain⟨rfl,hc,hs⟩:=hT;have hi:i<6:=Eq hk;have HI:=zz (HR.out.trans (Ao hk));obtain⟨hf1,hl1⟩:=Aq (Av H.out.2.2.2.1 sixT) hk H.out.2.1;have hcw:=(HCW.out.stable (HAL.out.fr F)).stable hs;have HW1:=zz (aN hcw (aN hc (aN ((HAL.out.fr F).trans hs fun _ _ x=>x) (aN hf1 hl1))));have c3:=hcw.cc;have c4:=hcw.cx;have k0:=Blk.cell hcw.ew.eb 1 rfl;have fb:=Blk.free hcw.ew.eb 1;have m0:=hcw.mb.cell 0 rfl;have fm:=hcw.mb.free 0;have hne:¬be=pm:=fun e=>hcw.ne pm (.inr (.inr (.inl rfl))) (.inl e.symm)
  have hne2:¬pm=be:=fun e=>hne e.symm
  have HIL:=zz hi;clear hcw hc hs hk hf1 hl1 c1 HKD;go_upto_region 4 with fail
  go_cut [] (fun wx=>ConW wx F pc px pm ps b be {x with alg:=algsL.getD i 0} vto (decide (2<i)) 12/\CuAt wx b va L lim k1 F/\Fr (fun q=>F q\/conF be vto pm ps q) w wx)
  case first=>
   have hi6:i=0\/i=1\/i=2\/i=3\/i=4\/i=5:=by have:=HIL.out; omega
   clear m0 fm k0 fb;rcases hi6 with rfl | rfl | rfl | rfl | rfl | rfl
   ·have hix:∀W:World,(Instr.index 83 (.agg #[.int .i64 1,.int .i64 2,.int .i64 3,.int .i64 201,.int .i64 202,.int .i64 203]) (.int .i64 0)).run Tryz.prog W= .ok (.int .i64 1) W:=fun W=>by rfl
    obtain⟨SS,hSS⟩:∃SS:World->Prop,SS=(fun W:World=>W.cell? ⟨px,0,none⟩=some (.pointer (some ⟨be,0,none⟩))):=⟨_,rfl⟩
    have hS0:SS w1.drew:=by rw [hSS]; exact c4
    refine sR hS0 fun hHeld=>?_
    refine tQ 0 ?_ ?_ ?_;rotate_left
    ·intro w hw;rw [hSS]at hw;have q1:=hw;go_simp;try (with_reducible rfl)
    simp only [Act.put,Z1,Z2,Z3];refine tQ 2 ?_ ?_ ?_;rotate_left
    ·intro w hw;rw [hSS]at hw;have q1:=hw;go_simp;try (with_reducible rfl)
    simp only [Act.put,Z1,Z2,Z3];refine tQ 4 ?_ ?_ ?_;rotate_left
    ·intro w hw;rw [hSS]at hw;have q1:=hw;go_simp;try (with_reducible rfl)
    simp only [Act.put,Z1,Z2,Z3];refine tQ 5 ?_ ?_ ?_;rotate_left
    ·intro w hw;rw [hSS]at hw;have q1:=hw;go_simp;try (with_reducible rfl)
    simp only [Act.put,Z1,Z2,Z3];refine rD 1 rfl (fun K hK=>?_);go_simp;refine(B1 _).mono ?_;rintro e wa ⟨rfl,hsa⟩;have hrw:=(HW1.out.1.stable (fD (fR _ w1))).stable (hsa.fr F);refine sO hK ?_ fun hHeld=>?_
    ·rw [hSS];exact hrw.cx
    clear hK K;refine tQ 3 ?_ ?_ ?_;rotate_left
    ·intro w hw;rw [hSS]at hw;have q1:=hw;go_simp;try (with_reducible rfl)
    simp only [Act.put,Z1,Z2,Z3];refine tQ 6 ?_ ?_ ?_;rotate_left
    ·intro w hw;rw [hSS]at hw;have q1:=hw;go_simp;try (with_reducible rfl)
    simp only [Act.put,Z1,Z2,Z3];refine tQ 7 ?_ ?_ ?_;rotate_left
    ·intro w hw;rw [hSS]at hw;have q1:=hw;go_simp;try (with_reducible rfl)
    simp only [Act.put,Z1,Z2,Z3];have fb:=Blk.free hrw.ew.eb 1;have k0:=Blk.cell hrw.ew.eb 1 rfl;have hrw2:=hrw.setE (x':= {x with alg:=1}) 1 (.int .i64 1) (by simp [envC]) rfl;refine rD 8 rfl (fun K hK=>?_);go_simp;refine sO hK ?_ fun hHeld=>?_
    ·rw [hSS];exact hrw2.cx
    clear hK K;have fm:=hrw2.mb.free 0;have m0:=hrw2.mb.cell 0 rfl;have hrw3:=hrw2.setM false;refine rD 9 rfl (fun K hK=>?_);go_simp;refine sO hK ?_ fun hHeld=>?_
    ·rw [hSS];exact hrw3.cx
    clear hK K;refine wpAnyH_done (by kernel_rfl) ?_ _;go_wp2_with fail;go_meet
    exact⟨hrw3,((((HW1.out.2.1.same (fD (sE w1))).same hsa).setOut be 1 _ (hrw.ew.nf be (.inl rfl)) (fun q hq e=>H.out.2.2.1 q hq (.inl (.inl e)))).setOut pm 0 _ (hrw.nf pm (.inr (.inr (.inl rfl)))) (fun q hq e=>H.out.2.2.1 q hq (.inr (.inl e)))),fC (fC ((Fr.mono HW1.out.2.2.1 (fun _ y=> .inl y)).trans ((fD (fR _ w1)).trans (hsa.fr _) fun _ _ y=>y) fun _ _ y=>y) (p:=⟨be,1,none⟩) (.inl (.inr (.inl (.inl rfl)))) _) (p:=⟨pm,0,none⟩) (.inl (.inr (.inr (.inl rfl)))) _⟩
   ·have hix:∀W:World,(Instr.index 83 (.agg #[.int .i64 1,.int .i64 2,.int .i64 3,.int .i64 201,.int .i64 202,.int .i64 203]) (.int .i64 1)).run Tryz.prog W= .ok (.int .i64 2) W:=fun W=>by rfl
    obtain⟨SS,hSS⟩:∃SS:World->Prop,SS=(fun W:World=>W.cell? ⟨px,0,none⟩=some (.pointer (some ⟨be,0,none⟩))):=⟨_,rfl⟩
    have hS0:SS w1.drew:=by rw [hSS]; exact c4
    refine sR hS0 fun hHeld=>?_
    refine tQ 0 ?_ ?_ ?_;rotate_left
    ·intro w hw;rw [hSS]at hw;have q1:=hw;go_simp;try (with_reducible rfl)
    simp only [Act.put,Z1,Z2,Z3];refine tQ 2 ?_ ?_ ?_;rotate_left
    ·intro w hw;rw [hSS]at hw;have q1:=hw;go_simp;try (with_reducible rfl)
    simp only [Act.put,Z1,Z2,Z3];refine tQ 4 ?_ ?_ ?_;rotate_left
    ·intro w hw;rw [hSS]at hw;have q1:=hw;go_simp;try (with_reducible rfl)
    simp only [Act.put,Z1,Z2,Z3];refine tQ 5 ?_ ?_ ?_;rotate_left
    ·intro w hw;rw [hSS]at hw;have q1:=hw;go_simp;try (with_reducible rfl)
    simp only [Act.put,Z1,Z2,Z3];refine rD 1 rfl (fun K hK=>?_);go_simp;refine(B1 _).mono ?_;rintro e wa ⟨rfl,hsa⟩;have hrw:=(HW1.out.1.stable (fD (fR _ w1))).stable (hsa.fr F);refine sO hK ?_ fun hHeld=>?_
    ·rw [hSS];exact hrw.cx
    clear hK K;refine tQ 3 ?_ ?_ ?_;rotate_left
    ·intro w hw;rw [hSS]at hw;have q1:=hw;go_simp;try (with_reducible rfl)
    simp only [Act.put,Z1,Z2,Z3];refine tQ 6 ?_ ?_ ?_;rotate_left
    ·intro w hw;rw [hSS]at hw;have q1:=hw;go_simp;try (with_reducible rfl)
    simp only [Act.put,Z1,Z2,Z3];refine tQ 7 ?_ ?_ ?_;rotate_left
    ·intro w hw;rw [hSS]at hw;have q1:=hw;go_simp;try (with_reducible rfl)
    simp only [Act.put,Z1,Z2,Z3];have fb:=Blk.free hrw.ew.eb 1;have k0:=Blk.cell hrw.ew.eb 1 rfl;have hrw2:=hrw.setE (x':= {x with alg:=2}) 1 (.int .i64 2) (by simp [envC]) rfl;refine rD 8 rfl (fun K hK=>?_);go_simp;refine sO hK ?_ fun hHeld=>?_
    ·rw [hSS];exact hrw2.cx
    clear hK K;have fm:=hrw2.mb.free 0;have m0:=hrw2.mb.cell 0 rfl;have hrw3:=hrw2.setM false;refine rD 9 rfl (fun K hK=>?_);go_simp;refine sO hK ?_ fun hHeld=>?_
    ·rw [hSS];exact hrw3.cx
    clear hK K;refine wpAnyH_done (by kernel_rfl) ?_ _;go_wp2_with fail;go_meet
    exact⟨hrw3,((((HW1.out.2.1.same (fD (sE w1))).same hsa).setOut be 1 _ (hrw.ew.nf be (.inl rfl)) (fun q hq e=>H.out.2.2.1 q hq (.inl (.inl e)))).setOut pm 0 _ (hrw.nf pm (.inr (.inr (.inl rfl)))) (fun q hq e=>H.out.2.2.1 q hq (.inr (.inl e)))),fC (fC ((Fr.mono HW1.out.2.2.1 (fun _ y=> .inl y)).trans ((fD (fR _ w1)).trans (hsa.fr _) fun _ _ y=>y) fun _ _ y=>y) (p:=⟨be,1,none⟩) (.inl (.inr (.inl (.inl rfl)))) _) (p:=⟨pm,0,none⟩) (.inl (.inr (.inr (.inl rfl)))) _⟩
   ·have hix:∀W:World,(Instr.index 83 (.agg #[.int .i64 1,.int .i64 2,.int .i64 3,.int .i64 201,.int .i64 202,.int .i64 203]) (.int .i64 2)).run Tryz.prog W= .ok (.int .i64 3) W:=fun W=>by rfl
    obtain⟨SS,hSS⟩:∃SS:World->Prop,SS=(fun W:World=>W.cell? ⟨px,0,none⟩=some (.pointer (some ⟨be,0,none⟩))):=⟨_,rfl⟩
    have hS0:SS w1.drew:=by rw [hSS]; exact c4
    refine sR hS0 fun hHeld=>?_
    refine tQ 0 ?_ ?_ ?_;rotate_left
    ·intro w hw;rw [hSS]at hw;have q1:=hw;go_simp;try (with_reducible rfl)
    simp only [Act.put,Z1,Z2,Z3];refine tQ 2 ?_ ?_ ?_;rotate_left
    ·intro w hw;rw [hSS]at hw;have q1:=hw;go_simp;try (with_reducible rfl)
    simp only [Act.put,Z1,Z2,Z3];refine tQ 4 ?_ ?_ ?_;rotate_left
    ·intro w hw;rw [hSS]at hw;have q1:=hw;go_simp;try (with_reducible rfl)
    simp only [Act.put,Z1,Z2,Z3];refine tQ 5 ?_ ?_ ?_;rotate_left
    ·intro w hw;rw [hSS]at hw;have q1:=hw;go_simp;try (with_reducible rfl)
    simp only [Act.put,Z1,Z2,Z3];refine rD 1 rfl (fun K hK=>?_);go_simp;refine(B1 _).mono ?_;rintro e wa ⟨rfl,hsa⟩;have hrw:=(HW1.out.1.stable (fD (fR _ w1))).stable (hsa.fr F);refine sO hK ?_ fun hHeld=>?_
    ·rw [hSS];exact hrw.cx
    clear hK K;refine tQ 3 ?_ ?_ ?_;rotate_left
    ·intro w hw;rw [hSS]at hw;have q1:=hw;go_simp;try (with_reducible rfl)
    simp only [Act.put,Z1,Z2,Z3];refine tQ 6 ?_ ?_ ?_;rotate_left
    ·intro w hw;rw [hSS]at hw;have q1:=hw;go_simp;try (with_reducible rfl)
    simp only [Act.put,Z1,Z2,Z3];refine tQ 7 ?_ ?_ ?_;rotate_left
    ·intro w hw;rw [hSS]at hw;have q1:=hw;go_simp;try (with_reducible rfl)
    simp only [Act.put,Z1,Z2,Z3];have fb:=Blk.free hrw.ew.eb 1;have k0:=Blk.cell hrw.ew.eb 1 rfl;have hrw2:=hrw.setE (x':= {x with alg:=3}) 1 (.int .i64 3) (by simp [envC]) rfl;refine rD 8 rfl (fun K hK=>?_);go_simp;refine sO hK ?_ fun hHeld=>?_
    ·rw [hSS];exact hrw2.cx
    clear hK K;have fm:=hrw2.mb.free 0;have m0:=hrw2.mb.cell 0 rfl;have hrw3:=hrw2.setM false;refine rD 9 rfl (fun K hK=>?_);go_simp;refine sO hK ?_ fun hHeld=>?_
    ·rw [hSS];exact hrw3.cx
    clear hK K;refine wpAnyH_done (by kernel_rfl) ?_ _;go_wp2_with fail;go_meet
    exact⟨hrw3,((((HW1.out.2.1.same (fD (sE w1))).same hsa).setOut be 1 _ (hrw.ew.nf be (.inl rfl)) (fun q hq e=>H.out.2.2.1 q hq (.inl (.inl e)))).setOut pm 0 _ (hrw.nf pm (.inr (.inr (.inl rfl)))) (fun q hq e=>H.out.2.2.1 q hq (.inr (.inl e)))),fC (fC ((Fr.mono HW1.out.2.2.1 (fun _ y=> .inl y)).trans ((fD (fR _ w1)).trans (hsa.fr _) fun _ _ y=>y) fun _ _ y=>y) (p:=⟨be,1,none⟩) (.inl (.inr (.inl (.inl rfl)))) _) (p:=⟨pm,0,none⟩) (.inl (.inr (.inr (.inl rfl)))) _⟩
   ·have hix:∀W:World,(Instr.index 83 (.agg #[.int .i64 1,.int .i64 2,.int .i64 3,.int .i64 201,.int .i64 202,.int .i64 203]) (.int .i64 3)).run Tryz.prog W= .ok (.int .i64 201) W:=fun W=>by rfl
    obtain⟨SS,hSS⟩:∃SS:World->Prop,SS=(fun W:World=>W.cell? ⟨px,0,none⟩=some (.pointer (some ⟨be,0,none⟩))):=⟨_,rfl⟩
    have hS0:SS w1.drew:=by rw [hSS]; exact c4
    refine sR hS0 fun hHeld=>?_
    refine tQ 0 ?_ ?_ ?_;rotate_left
    ·intro w hw;rw [hSS]at hw;have q1:=hw;go_simp;try (with_reducible rfl)
    simp only [Act.put,Z1,Z2,Z3];refine tQ 2 ?_ ?_ ?_;rotate_left
    ·intro w hw;rw [hSS]at hw;have q1:=hw;go_simp;try (with_reducible rfl)
    simp only [Act.put,Z1,Z2,Z3];refine tQ 4 ?_ ?_ ?_;rotate_left
    ·intro w hw;rw [hSS]at hw;have q1:=hw;go_simp;try (with_reducible rfl)
    simp only [Act.put,Z1,Z2,Z3];refine tQ 5 ?_ ?_ ?_;rotate_left
    ·intro w hw;rw [hSS]at hw;have q1:=hw;go_simp;try (with_reducible rfl)
    simp only [Act.put,Z1,Z2,Z3];refine rD 1 rfl (fun K hK=>?_);go_simp;refine(B1 _).mono ?_;rintro e wa ⟨rfl,hsa⟩;have hrw:=(HW1.out.1.stable (fD (fR _ w1))).stable (hsa.fr F);refine sO hK ?_ fun hHeld=>?_
    ·rw [hSS];exact hrw.cx
    clear hK K;refine tQ 3 ?_ ?_ ?_;rotate_left
    ·intro w hw;rw [hSS]at hw;have q1:=hw;go_simp;try (with_reducible rfl)
    simp only [Act.put,Z1,Z2,Z3];refine tQ 6 ?_ ?_ ?_;rotate_left
    ·intro w hw;rw [hSS]at hw;have q1:=hw;go_simp;try (with_reducible rfl)
    simp only [Act.put,Z1,Z2,Z3];refine tQ 7 ?_ ?_ ?_;rotate_left
    ·intro w hw;rw [hSS]at hw;have q1:=hw;go_simp;try (with_reducible rfl)
    simp only [Act.put,Z1,Z2,Z3];have fb:=Blk.free hrw.ew.eb 1;have k0:=Blk.cell hrw.ew.eb 1 rfl;have hrw2:=hrw.setE (x':= {x with alg:=201}) 1 (.int .i64 201) (by simp [envC]) rfl;refine rD 8 rfl (fun K hK=>?_);go_simp;refine sO hK ?_ fun hHeld=>?_
    ·rw [hSS];exact hrw2.cx
    clear hK K;have fm:=hrw2.mb.free 0;have m0:=hrw2.mb.cell 0 rfl;have hrw3:=hrw2.setM true;refine rD 9 rfl (fun K hK=>?_);go_simp;refine sO hK ?_ fun hHeld=>?_
    ·rw [hSS];exact hrw3.cx
    clear hK K;refine wpAnyH_done (by kernel_rfl) ?_ _;go_wp2_with fail;go_meet
    exact⟨hrw3,((((HW1.out.2.1.same (fD (sE w1))).same hsa).setOut be 1 _ (hrw.ew.nf be (.inl rfl)) (fun q hq e=>H.out.2.2.1 q hq (.inl (.inl e)))).setOut pm 0 _ (hrw.nf pm (.inr (.inr (.inl rfl)))) (fun q hq e=>H.out.2.2.1 q hq (.inr (.inl e)))),fC (fC ((Fr.mono HW1.out.2.2.1 (fun _ y=> .inl y)).trans ((fD (fR _ w1)).trans (hsa.fr _) fun _ _ y=>y) fun _ _ y=>y) (p:=⟨be,1,none⟩) (.inl (.inr (.inl (.inl rfl)))) _) (p:=⟨pm,0,none⟩) (.inl (.inr (.inr (.inl rfl)))) _⟩
   ·have hix:∀W:World,(Instr.index 83 (.agg #[.int .i64 1,.int .i64 2,.int .i64 3,.int .i64 201,.int .i64 202,.int .i64 203]) (.int .i64 4)).run Tryz.prog W= .ok (.int .i64 202) W:=fun W=>by rfl
    obtain⟨SS,hSS⟩:∃SS:World->Prop,SS=(fun W:World=>W.cell? ⟨px,0,none⟩=some (.pointer (some ⟨be,0,none⟩))):=⟨_,rfl⟩
    have hS0:SS w1.drew:=by rw [hSS]; exact c4
    refine sR hS0 fun hHeld=>?_
    refine tQ 0 ?_ ?_ ?_;rotate_left
    ·intro w hw;rw [hSS]at hw;have q1:=hw;go_simp;try (with_reducible rfl)
    simp only [Act.put,Z1,Z2,Z3];refine tQ 2 ?_ ?_ ?_;rotate_left
    ·intro w hw;rw [hSS]at hw;have q1:=hw;go_simp;try (with_reducible rfl)
    simp only [Act.put,Z1,Z2,Z3];refine tQ 4 ?_ ?_ ?_;rotate_left
    ·intro w hw;rw [hSS]at hw;have q1:=hw;go_simp;try (with_reducible rfl)
    simp only [Act.put,Z1,Z2,Z3];refine tQ 5 ?_ ?_ ?_;rotate_left
    ·intro w hw;rw [hSS]at hw;have q1:=hw;go_simp;try (with_reducible rfl)
    simp only [Act.put,Z1,Z2,Z3];refine rD 1 rfl (fun K hK=>?_);go_simp;refine(B1 _).mono ?_;rintro e wa ⟨rfl,hsa⟩;have hrw:=(HW1.out.1.stable (fD (fR _ w1))).stable (hsa.fr F);refine sO hK ?_ fun hHeld=>?_
    ·rw [hSS];exact hrw.cx
    clear hK K;refine tQ 3 ?_ ?_ ?_;rotate_left
    ·intro w hw;rw [hSS]at hw;have q1:=hw;go_simp;try (with_reducible rfl)
    simp only [Act.put,Z1,Z2,Z3];refine tQ 6 ?_ ?_ ?_;rotate_left
    ·intro w hw;rw [hSS]at hw;have q1:=hw;go_simp;try (with_reducible rfl)
    simp only [Act.put,Z1,Z2,Z3];refine tQ 7 ?_ ?_ ?_;rotate_left
    ·intro w hw;rw [hSS]at hw;have q1:=hw;go_simp;try (with_reducible rfl)
    simp only [Act.put,Z1,Z2,Z3];have fb:=Blk.free hrw.ew.eb 1;have k0:=Blk.cell hrw.ew.eb 1 rfl;have hrw2:=hrw.setE (x':= {x with alg:=202}) 1 (.int .i64 202) (by simp [envC]) rfl;refine rD 8 rfl (fun K hK=>?_);go_simp;refine sO hK ?_ fun hHeld=>?_
    ·rw [hSS];exact hrw2.cx
    clear hK K;have fm:=hrw2.mb.free 0;have m0:=hrw2.mb.cell 0 rfl;have hrw3:=hrw2.setM true;refine rD 9 rfl (fun K hK=>?_);go_simp;refine sO hK ?_ fun hHeld=>?_
    ·rw [hSS];exact hrw3.cx
    clear hK K;refine wpAnyH_done (by kernel_rfl) ?_ _;go_wp2_with fail;go_meet
    exact⟨hrw3,((((HW1.out.2.1.same (fD (sE w1))).same hsa).setOut be 1 _ (hrw.ew.nf be (.inl rfl)) (fun q hq e=>H.out.2.2.1 q hq (.inl (.inl e)))).setOut pm 0 _ (hrw.nf pm (.inr (.inr (.inl rfl)))) (fun q hq e=>H.out.2.2.1 q hq (.inr (.inl e)))),fC (fC ((Fr.mono HW1.out.2.2.1 (fun _ y=> .inl y)).trans ((fD (fR _ w1)).trans (hsa.fr _) fun _ _ y=>y) fun _ _ y=>y) (p:=⟨be,1,none⟩) (.inl (.inr (.inl (.inl rfl)))) _) (p:=⟨pm,0,none⟩) (.inl (.inr (.inr (.inl rfl)))) _⟩
   ·have hix:∀W:World,(Instr.index 83 (.agg #[.int .i64 1,.int .i64 2,.int .i64 3,.int .i64 201,.int .i64 202,.int .i64 203]) (.int .i64 5)).run Tryz.prog W= .ok (.int .i64 203) W:=fun W=>by rfl
    obtain⟨SS,hSS⟩:∃SS:World->Prop,SS=(fun W:World=>W.cell? ⟨px,0,none⟩=some (.pointer (some ⟨be,0,none⟩))):=⟨_,rfl⟩
    have hS0:SS w1.drew:=by rw [hSS]; exact c4
    refine sR hS0 fun hHeld=>?_
    refine tQ 0 ?_ ?_ ?_;rotate_left
    ·intro w hw;rw [hSS]at hw;have q1:=hw;go_simp;try (with_reducible rfl)
    simp only [Act.put,Z1,Z2,Z3];refine tQ 2 ?_ ?_ ?_;rotate_left
    ·intro w hw;rw [hSS]at hw;have q1:=hw;go_simp;try (with_reducible rfl)
    simp only [Act.put,Z1,Z2,Z3];refine tQ 4 ?_ ?_ ?_;rotate_left
    ·intro w hw;rw [hSS]at hw;have q1:=hw;go_simp;try (with_reducible rfl)
    simp only [Act.put,Z1,Z2,Z3];refine tQ 5 ?_ ?_ ?_;rotate_left
    ·intro w hw;rw [hSS]at hw;have q1:=hw;go_simp;try (with_reducible rfl)
    simp only [Act.put,Z1,Z2,Z3];refine rD 1 rfl (fun K hK=>?_);go_simp;refine(B1 _).mono ?_;rintro e wa ⟨rfl,hsa⟩;have hrw:=(HW1.out.1.stable (fD (fR _ w1))).stable (hsa.fr F);refine sO hK ?_ fun hHeld=>?_
    ·rw [hSS];exact hrw.cx
    clear hK K;refine tQ 3 ?_ ?_ ?_;rotate_left
    ·intro w hw;rw [hSS]at hw;have q1:=hw;go_simp;try (with_reducible rfl)
    simp only [Act.put,Z1,Z2,Z3];refine tQ 6 ?_ ?_ ?_;rotate_left
    ·intro w hw;rw [hSS]at hw;have q1:=hw;go_simp;try (with_reducible rfl)
    simp only [Act.put,Z1,Z2,Z3];refine tQ 7 ?_ ?_ ?_;rotate_left
    ·intro w hw;rw [hSS]at hw;have q1:=hw;go_simp;try (with_reducible rfl)
    simp only [Act.put,Z1,Z2,Z3];have fb:=Blk.free hrw.ew.eb 1;have k0:=Blk.cell hrw.ew.eb 1 rfl;have hrw2:=hrw.setE (x':= {x with alg:=203}) 1 (.int .i64 203) (by simp [envC]) rfl;refine rD 8 rfl (fun K hK=>?_);go_simp;refine sO hK ?_ fun hHeld=>?_
    ·rw [hSS];exact hrw2.cx
    clear hK K;have fm:=hrw2.mb.free 0;have m0:=hrw2.mb.cell 0 rfl;have hrw3:=hrw2.setM true;refine rD 9 rfl (fun K hK=>?_);go_simp;refine sO hK ?_ fun hHeld=>?_
    ·rw [hSS];exact hrw3.cx
    clear hK K;refine wpAnyH_done (by kernel_rfl) ?_ _;go_wp2_with fail;go_meet
    exact⟨hrw3,((((HW1.out.2.1.same (fD (sE w1))).same hsa).setOut be 1 _ (hrw.ew.nf be (.inl rfl)) (fun q hq e=>H.out.2.2.1 q hq (.inl (.inl e)))).setOut pm 0 _ (hrw.nf pm (.inr (.inr (.inl rfl)))) (fun q hq e=>H.out.2.2.1 q hq (.inr (.inl e)))),fC (fC ((Fr.mono HW1.out.2.2.1 (fun _ y=> .inl y)).trans ((fD (fR _ w1)).trans (hsa.fr _) fun _ _ y=>y) fun _ _ y=>y) (p:=⟨be,1,none⟩) (.inl (.inr (.inl (.inl rfl)))) _) (p:=⟨pm,0,none⟩) (.inl (.inr (.inr (.inl rfl)))) _⟩
  case rest=>
   obtain⟨hcw,hc,hfr⟩:=hcut;have HX:=zz (aN hcw (aN hc hfr));have c5:=hcw.mb.cell 0 rfl;clear hcw hc hfr c3 c4 k0 fb m0 fm;by_cases h2:2<i
   ·have hz:decide (2<i)=true:=dt h2;have HI1:Hid (R=bnd (inn L 48 (params L true)) (fun p=>ret (i,p)) k1):=zz (by rw [<-hz]; exact HI.out);have HZ:=zz hz;rw [hz]at c5;clear h2 HI;go_wp2_with fail;refine(A3 1 1024 1 _).mono ?_;rintro e wd ⟨rfl,hba,hbc,hbm,hsd⟩;have HB1:=zz (aN hba (aN hbc (aN hbm hsd)));have hwd:=HX.out.1.stable (hsd.fr F);have c5d:=hwd.mb.cell 0 rfl;have l5:=hwd.mb.lt;have c6:=hwd.cc;have l6:=World.block_lt_of_cell? _ _ c6;simp only at l6;have hne:¬pc=wd.heap.size:=by omega
    have HWD:=zz (aN hwd (HX.out.2.1.same hsd));rw [hz]at c5d;clear hba hbc hbm hsd hwd c5 hz;go_wp2_with fail;refine(A3 7 13 1 _).mono ?_;rintro e we ⟨rfl,hba,hbc,hbm,hse⟩;rw [show(wd.alloc (.cells #[(.func (.func 116) #[] #[.pointer (some ⟨wc.heap.size,0,none⟩),.pointer (some ⟨wc.heap.size+1,0,none⟩),.pointer (some ⟨wc.heap.size+1+1,0,none⟩)])] 119)).heap.size=wd.heap.size+1 by simp]at hba hbc hbm;have hsA:Same wd (wd.alloc (.cells #[(.func (.func 116) #[] #[.pointer (some ⟨wc.heap.size,0,none⟩),.pointer (some ⟨wc.heap.size+1,0,none⟩),.pointer (some ⟨wc.heap.size+1+1,0,none⟩)])] 119)):=fA (fR _ wd) _;have hbpy:Blk we wd.heap.size #[(.func (.func 116) #[] #[.pointer (some ⟨wc.heap.size,0,none⟩),.pointer (some ⟨wc.heap.size+1,0,none⟩),.pointer (some ⟨wc.heap.size+1+1,0,none⟩)])] 119:=(Af wd _ _).fr hse (fun y=>y);have cpy:=hbpy.cell 0 rfl;have fpy:=hbpy.free 0;have lpy:=hbpy.lt;have hwe:=(HWD.out.1.stable (hsA.fr F)).stable (hse.fr F);have c7:=hwe.cc;have hnF:¬F wd.heap.size:=fun e=>by have:=HWD.out.2.lt _ e; omega
    have hnB:¬be=wd.heap.size:=fun e=>by have:=HWD.out.1.ew.lt be (.inl rfl); omega
    have hnC:¬conF be vto pm ps wd.heap.size:=fun e=>by
     rcases e with e | e | e
     ·have:=HWD.out.1.ew.lt _ e; omega
     ·have:=HWD.out.1.mb.lt; omega
     ·have:=HWD.out.1.sb.lt; omega
    have hsB:=A9 (w:=we) wd.heap.size 0 (.func (.func 116) #[] #[.pointer (some ⟨wd.heap.size+1,0,none⟩),.pointer (some ⟨wd.heap.size+1+1,0,none⟩),.pointer (some ⟨wd.heap.size+1+1+1,0,none⟩)]);have hwf:ConW (we.setCell ⟨wd.heap.size,0,none⟩ (.func (.func 116) #[] #[.pointer (some ⟨wd.heap.size+1,0,none⟩),.pointer (some ⟨wd.heap.size+1+1,0,none⟩),.pointer (some ⟨wd.heap.size+1+1+1,0,none⟩)])) F pc px pm ps b be {x with alg:=algsL.getD i 0} vto true 12:=by
     have h1:=hwe;rw [HZ.out]at h1;refine⟨(hsB.cell (p:=⟨pc,0,none⟩) (World.block_lt_of_cell? _ _ h1.cc) (by simp only; omega)).trans h1.cc,(hsB.cell (p:=⟨px,0,none⟩) (World.block_lt_of_cell? _ _ h1.cx) (by have:=World.block_lt_of_cell? _ _ HWD.out.1.cx; simp only at this ⊢; omega)).trans h1.cx,h1.mb.fr hsB (fun e=>hnC (.inr (.inl e.symm))),h1.sb.fr hsB (fun e=>hnC (.inr (.inr e.symm))),⟨Blk.fr h1.ew.eb hsB (fun e=>hnB e),h1.ew.own.fr hsB (fun q e e2=>hnC (.inl (.inr (by rw [<-e2]; exact e)))),h1.ew.nf,h1.ew.ap⟩,h1.nf,h1.ne,h1.d1,h1.d2⟩
    have HFW:=zz (show Fr (fun q=>F q\/conF be vto pm ps q) w (we.setCell ⟨wd.heap.size,0,none⟩ (.func (.func 116) #[] #[.pointer (some ⟨wd.heap.size+1,0,none⟩),.pointer (some ⟨wd.heap.size+1+1,0,none⟩),.pointer (some ⟨wd.heap.size+1+1+1,0,none⟩)]))from fT HX.out.2.2 (fT ((HB1.out.2.2.2.trans (hsA.trans hse)).fr (fun q=>q=wd.heap.size)) hsB fun _ _ y=>y) fun q hq y=>by have:=HX.out.2.2.size; have:=HB1.out.2.2.2.size; omega);have bpy2:=hbpy.set 0 (.func (.func 116) #[] #[.pointer (some ⟨wd.heap.size+1,0,none⟩),.pointer (some ⟨wd.heap.size+1+1,0,none⟩),.pointer (some ⟨wd.heap.size+1+1+1,0,none⟩)]);have hlt:(wd.heap.size:Nat)<(wd.alloc (.cells #[(.func (.func 116) #[] #[.pointer (some ⟨wc.heap.size,0,none⟩),.pointer (some ⟨wc.heap.size+1,0,none⟩),.pointer (some ⟨wc.heap.size+1+1,0,none⟩)])] 119)).heap.size:=by simp
    have HIN:=zz (MF pc wd.heap.size px pm ps b be va _ vto L lim k1 F {x with alg:=algsL.getD i 0} true (we.setCell ⟨wd.heap.size,0,none⟩ (.func (.func 116) #[] #[.pointer (some ⟨wd.heap.size+1,0,none⟩),.pointer (some ⟨wd.heap.size+1+1,0,none⟩),.pointer (some ⟨wd.heap.size+1+1+1,0,none⟩)])) (((HWD.out.2.same hsA).same hse).setOut _ 0 _ hnF (fun q hq e=>by have:=HX.out.2.1.va q hq; have:=HB1.out.2.2.2.size; omega)) HW1.out.2.2.2.1 (by have:=HW1.out.2.2.2.2; have:=H.out.2.2.2.2; omega) H.out.2.2.2.1 hwf H.out.2.2.1
     (bpy2.cell 0 rfl) ⟨⟨_,_,_,rfl,hba.fr hsB (by omega),hbc.fr hsB (by omega),hbm.fr hsB (by omega),fun e=>absurd (HWD.out.2.lt _ e) (by omega),fun e=>absurd (HWD.out.2.lt _ e) (by omega),fun e=>absurd (HWD.out.2.lt _ e) (by omega)⟩⟩ hnF hnB)
    clear hsA hbpy hwe hsB hwf bpy2 hlt hba hbc hbm hse hnF hnB hnC;go_wp2_with fail;refine HIN.out.mono ?_;intro e wg hT;cases hk:inn L 48 (params L true) k1 with
    | error n=>
     rw [hk]at hT;have HI2:=zz (HI1.out.trans (An hk));obtain⟨⟨v,rfl,fb2,rfl,hfb⟩,hs,hbd⟩:=hT;have HE:=zz (aN hfb (aN (HFW.out.trans hs fun _ _ y=>y) hbd));clear hs hfb hbd hk HIN;go_wp2;go_ret;rw [HI2.out];exact⟨⟨_,rfl,fb2,rfl,HE.out.1⟩,HE.out.2.1,HE.out.2.2⟩
    | ok q=>
     obtain⟨p,k2⟩:=q;rw [hk]at hT;have HI2:=zz (HI1.out.trans (Ao hk));obtain⟨rfl,⟨F1,hc,hs1,hcw⟩,hs⟩:=hT;have HE:=zz (aN hc (aN (show Fresh w F F1 from fun q hq=>(hs1 q hq).imp id (fun y=>Nat.le_trans HFW.out.size y)) (aN hcw (HFW.out.trans hs fun _ _ y=>y))));clear hc hs1 hcw hs hk HIN;go_wp2;go_ret;rw [HI2.out];exact⟨rfl,⟨F1,HE.out.1,HE.out.2.1,by show ConW _ _ _ _ _ _ _ _ _ _ (decide (2<i)) _; rw [HZ.out]; exact HE.out.2.2.1⟩,HE.out.2.2.2⟩
   ·have hz:decide (2<i)=false:=df h2;have HI1:Hid (R=bnd (inn L 48 (params L false)) (fun p=>ret (i,p)) k1):=zz (by rw [<-hz]; exact HI.out);have HZ:=zz hz;rw [hz]at c5;clear h2 HI;go_wp2_with fail;refine(A3 1 1024 1 _).mono ?_;rintro e wd ⟨rfl,hba,hbc,hbm,hsd⟩;have HB1:=zz (aN hba (aN hbc (aN hbm hsd)));have hwd:=HX.out.1.stable (hsd.fr F);have c5d:=hwd.mb.cell 0 rfl;have l5:=hwd.mb.lt;have c6:=hwd.cc;have l6:=World.block_lt_of_cell? _ _ c6;simp only at l6;have hne:¬pc=wd.heap.size:=by omega
    have HWD:=zz (aN hwd (HX.out.2.1.same hsd));rw [hz]at c5d;clear hba hbc hbm hsd hwd c5 hz;go_wp2_with fail;have hsA:Same wd (wd.alloc (.cells #[(.func (.func 116) #[] #[.pointer (some ⟨wc.heap.size,0,none⟩),.pointer (some ⟨wc.heap.size+1,0,none⟩),.pointer (some ⟨wc.heap.size+1+1,0,none⟩)])] 119)):=fA (fR _ wd) _;have HFW:=zz (show Fr (fun q=>F q\/conF be vto pm ps q) w (wd.alloc (.cells #[(.func (.func 116) #[] #[.pointer (some ⟨wc.heap.size,0,none⟩),.pointer (some ⟨wc.heap.size+1,0,none⟩),.pointer (some ⟨wc.heap.size+1+1,0,none⟩)])] 119))from HX.out.2.2.trans ((HB1.out.2.2.2.trans hsA).fr _) fun _ _ y=>y);have HIN:=zz (MF pc wd.heap.size px pm ps b be va _ vto L lim k1 F {x with alg:=algsL.getD i 0} false (wd.alloc (.cells #[(.func (.func 116) #[] #[.pointer (some ⟨wc.heap.size,0,none⟩),.pointer (some ⟨wc.heap.size+1,0,none⟩),.pointer (some ⟨wc.heap.size+1+1,0,none⟩)])] 119)) (HWD.out.2.same hsA) HW1.out.2.2.2.1 (by have:=HW1.out.2.2.2.2; have:=H.out.2.2.2.2; omega) H.out.2.2.2.1 (by rw [<-HZ.out]; exact HWD.out.1.stable (hsA.fr F)) H.out.2.2.1
     ((Af wd _ _).cell 0 rfl) (Aw HX.out.2.1.lt (HB1.out.1.alloc _) (HB1.out.2.1.alloc _) (HB1.out.2.2.1.alloc _)) (fun e=>by have:=HWD.out.2.lt _ e; omega) (fun e=>by have:=HWD.out.1.ew.lt be (.inl rfl); omega))
    clear hsA;go_wp2_with fail;refine HIN.out.mono ?_;intro e wg hT;cases hk:inn L 48 (params L false) k1 with
    | error n=>
     rw [hk]at hT;have HI2:=zz (HI1.out.trans (An hk));obtain⟨⟨v,rfl,fb2,rfl,hfb⟩,hs,hbd⟩:=hT;have HE:=zz (aN hfb (aN (HFW.out.trans hs fun _ _ y=>y) hbd));clear hs hfb hbd hk HIN;go_wp2;go_ret;rw [HI2.out];exact⟨⟨_,rfl,fb2,rfl,HE.out.1⟩,HE.out.2.1,HE.out.2.2⟩
    | ok q=>
     obtain⟨p,k2⟩:=q;rw [hk]at hT;have HI2:=zz (HI1.out.trans (Ao hk));obtain⟨rfl,⟨F1,hc,hs1,hcw⟩,hs⟩:=hT;have HE:=zz (aN hc (aN (show Fresh w F F1 from fun q hq=>(hs1 q hq).imp id (fun y=>Nat.le_trans HFW.out.size y)) (aN hcw (HFW.out.trans hs fun _ _ y=>y))));clear hc hs1 hcw hs hk HIN;go_wp2;go_ret;rw [HI2.out];exact⟨rfl,⟨F1,HE.out.1,HE.out.2.1,by show ConW _ _ _ _ _ _ _ _ _ _ (decide (2<i)) _; rw [HZ.out]; exact HE.out.2.2.1⟩,HE.out.2.2.2⟩
end Go.Proofs.YtpfhollohodcjaaGreatDoor
