import Derived.Test.YtpfhollohodcjaaGreatDoorWP
set_option maxRecDepth 100000
set_option maxHeartbeats 16000000
set_option linter.unusedSimpArgs false
namespace Go.Proofs.YtpfhollohodcjaaGreatDoor
open Go.RowKit Go.Px Go.Px.Co Go.Px.Cm
theorem Bj(t:UInt8)(ps:List VT)(W:World)(hps:∀p∈ps,Lies W 3 cNode p.1 p.2)(h1:(ps.flatMap (·.2)).length<=1000000000)(h2:ps.length<=1000000000)(cells:Array Value)(hc:(ps.flatMap cVT).toArray=cells)(n:Nat)(hn:ps.length=n):
  Calls Tryz.prog 44 #[.int .u8 (t.toNat:Nat),.slice (some ⟨W.heap.size,0,none⟩) n n] (W.alloc (.cells cells 80 (0,0))) fun e w'=>∃a n c,e= .returned (.slice a n c)/\MkT W (ofT t (ps.map (·.2))) a n c w':=by
 subst hc;subst hn;refine(BA t _ ps _ (Bi ps (by unfold maxLen; omega) hps) h1 h2).mono ?_;rintro e w' ⟨a,n,c,rfl,hm⟩;exact⟨a,n,c,rfl,hm.from ((fR _ W).alloc _)⟩
theorem GQ(r:Co.Rec)(hk: -9223372036854775808<=r.kind/\r.kind<=9223372036854775807)(w:World):Calls Tryz.prog 39 #[.agg (cRec r).toArray] w fun e w'=>∃a n c,e= .returned (.slice a n c)/\MkT w (recT r) a n c w':=by
 obtain⟨w1,hw1⟩:∃w1,w1=w.alloc (.cells (cRec r).toArray 78):=⟨_,rfl⟩
 obtain⟨bx,hbx⟩:∃bx,bx=w.heap.size:=⟨_,rfl⟩
 have hb:Blk w1 bx (cRec r).toArray 78:=by rw [hw1,hbx]; exact Af w _ _
 have HBX:=zz hb;have HS0:=zz (show Same w w1 from by rw [hw1]; exact(fR _ w).alloc _);have HW1:=zz hw1;have HBE:=zz hbx;have k0:w1.cell? ⟨bx,0,none⟩=some (.int .i64 r.way):=hb.cell 0 rfl;clear hw1 hb hbx;unfold cRec;go_enter Tryz.func39,Tryz.ntmps39;go_upto_region 1 with fail
 rw [show w.alloc (.cells #[.int .i64 r.way,.int .i64 r.size,.int .i64 r.kind,S r.name,S r.key,S r.salt,.int .i64 r.rounds,S r.iv,S r.loose] 78)=w1 from HW1.out.symm,<-HBE.out];by_cases hway:r.way=2
 ·have HREC:=zz (show recT r=ofT 0xa2 (wrapUs r)from if_pos hway);have hwz:(r.way==2)=true:=by rw [hway]; rfl
  clear hway;go_upto_region 2 with fail
  obtain⟨SS,hSS⟩:∃SS:World->Prop,SS=(fun W:World=>W.cell? ⟨bx,1,none⟩=some (.int .i64 r.size)/\W.cell? ⟨bx,3,none⟩=some (S r.name)/\W.cell? ⟨bx,4,none⟩=some (S r.key)):=⟨_,rfl⟩
  have hS0:SS w1.drew:=by rw [hSS]; exact⟨HBX.out.cell 1 rfl,HBX.out.cell 3 rfl,HBX.out.cell 4 rfl⟩
  refine sR hS0 fun hHeld=>?_
  refine tQ 1 ?_ ?_ ?_;rotate_left
  ·intro w hw;rw [hSS]at hw;obtain⟨q1,q3,q4⟩:=hw;go_simp;try (with_reducible rfl)
  simp only [Act.put,Z1,Z2,Z3];refine tQ 2 ?_ ?_ ?_;rotate_left
  ·intro w hw;rw [hSS]at hw;obtain⟨q1,q3,q4⟩:=hw;go_simp;try (with_reducible rfl)
  simp only [Act.put,Z1,Z2,Z3];refine tQ 6 ?_ ?_ ?_;rotate_left
  ·intro w hw;rw [hSS]at hw;obtain⟨q1,q3,q4⟩:=hw;go_simp;try (with_reducible rfl)
  simp only [Act.put,Z1,Z2,Z3];refine tQ 7 ?_ ?_ ?_;rotate_left
  ·intro w hw;rw [hSS]at hw;obtain⟨q1,q3,q4⟩:=hw;go_simp;try (with_reducible rfl)
  simp only [Act.put,Z1,Z2,Z3];refine tQ 8 ?_ ?_ ?_;rotate_left
  ·intro w hw;rw [hSS]at hw;obtain⟨q1,q3,q4⟩:=hw;go_simp;try (with_reducible rfl)
  simp only [Act.put,Z1,Z2,Z3];refine tQ 12 ?_ ?_ ?_;rotate_left
  ·intro w hw;rw [hSS]at hw;obtain⟨q1,q3,q4⟩:=hw;go_simp;try (with_reducible rfl)
  simp only [Act.put,Z1,Z2,Z3];refine tQ 13 ?_ ?_ ?_;rotate_left
  ·intro w hw;rw [hSS]at hw;obtain⟨q1,q3,q4⟩:=hw;go_simp;try (with_reducible rfl)
  simp only [Act.put,Z1,Z2,Z3];refine rD 0 rfl (fun K hK=>?_);go_simp;refine(Am 2 [4] _).mono ?_;rintro e r2w1 ⟨a9,n9,c9,rfl,hm⟩;have Hr2w1_st:=zz hm.same;have HT9:=zz hm.lies;have HMK9:=zz hm;have Hr2w1:Hid (Same w1 r2w1):=zz (sT ((fR _ w1).drew) Hr2w1_st.out);clear hm;refine sO hK ?_ fun hHeld=>?_
  ·rw [hSS];exact⟨(HBX.out.fr Hr2w1.out (fun y=>y)).cell 1 rfl,(HBX.out.fr Hr2w1.out (fun y=>y)).cell 3 rfl,(HBX.out.fr Hr2w1.out (fun y=>y)).cell 4 rfl⟩
  clear hK K;refine rD 3 rfl (fun K hK=>?_);go_simp;refine(Am 4 r.name _).mono ?_;rintro e r2w2 ⟨a12,n12,c12,rfl,hm⟩;have Hr2w2_st:=zz hm.same;have HT12:=zz hm.lies;have HMK12:=zz hm;have Hr2w2:Hid (Same w1 r2w2):=zz (sT Hr2w1.out Hr2w2_st.out);clear hm;refine sO hK ?_ fun hHeld=>?_
  ·rw [hSS];exact⟨(HBX.out.fr Hr2w2.out (fun y=>y)).cell 1 rfl,(HBX.out.fr Hr2w2.out (fun y=>y)).cell 3 rfl,(HBX.out.fr Hr2w2.out (fun y=>y)).cell 4 rfl⟩
  clear hK K;refine rD 4 rfl (fun K hK=>?_);go_simp;refine sO hK ?_ fun hHeld=>?_
  ·rw [hSS];exact⟨Ah ((HBX.out.fr Hr2w2.out (fun y=>y)).cell 1 rfl),Ah ((HBX.out.fr Hr2w2.out (fun y=>y)).cell 3 rfl),Ah ((HBX.out.fr Hr2w2.out (fun y=>y)).cell 4 rfl)⟩
  clear hK K;have HOF14:=zz (Bj 0x30 [(.slice a12 n12 c12,(lf 4 r.name))] r2w2 (fun p hp=>by
   simp only [List.mem_cons,List.not_mem_nil,or_false]at hp;rcases hp with rfl
   exact HT12.out) (by simp [ofT,lf,sizedT]) (by simp) _ rfl _ rfl)
  refine rD 5 rfl (fun K hK=>?_);go_simp;refine(HOF14.out).mono ?_;rintro e r2w3 ⟨a14,n14,c14,rfl,hm⟩;have Hr2w3_st:=zz hm.same;have HT14:=zz hm.lies;have HMK14:=zz hm;have Hr2w3:Hid (Same w1 r2w3):=zz (sT Hr2w2.out Hr2w3_st.out);clear hm;refine sO hK ?_ fun hHeld=>?_
  ·rw [hSS];exact⟨(HBX.out.fr Hr2w3.out (fun y=>y)).cell 1 rfl,(HBX.out.fr Hr2w3.out (fun y=>y)).cell 3 rfl,(HBX.out.fr Hr2w3.out (fun y=>y)).cell 4 rfl⟩
  clear hK K;refine rD 9 rfl (fun K hK=>?_);go_simp;refine(FQ r.size 5 25 45 _).mono ?_;rintro e r2w4 ⟨a18,n18,c18,rfl,hm⟩;have Hr2w4_st:=zz hm.same;have HT18:=zz hm.lies;have HMK18:=zz hm;have Hr2w4:Hid (Same w1 r2w4):=zz (sT Hr2w3.out Hr2w4_st.out);clear hm;refine sO hK ?_ fun hHeld=>?_
  ·rw [hSS];exact⟨(HBX.out.fr Hr2w4.out (fun y=>y)).cell 1 rfl,(HBX.out.fr Hr2w4.out (fun y=>y)).cell 3 rfl,(HBX.out.fr Hr2w4.out (fun y=>y)).cell 4 rfl⟩
  clear hK K;refine rD 10 rfl (fun K hK=>?_);go_simp;refine sO hK ?_ fun hHeld=>?_
  ·rw [hSS];exact⟨Ah ((HBX.out.fr Hr2w4.out (fun y=>y)).cell 1 rfl),Ah ((HBX.out.fr Hr2w4.out (fun y=>y)).cell 3 rfl),Ah ((HBX.out.fr Hr2w4.out (fun y=>y)).cell 4 rfl)⟩
  clear hK K;have HOF20:=zz (Bj 0x30 [(.slice a18 n18 c18,(sizedT r.size [5,25,45]))] r2w4 (fun p hp=>by
   simp only [List.mem_cons,List.not_mem_nil,or_false]at hp;rcases hp with rfl
   exact HT18.out) (by simp [ofT,lf,sizedT]) (by simp) _ rfl _ rfl)
  refine rD 11 rfl (fun K hK=>?_);go_simp;refine(HOF20.out).mono ?_;rintro e r2w5 ⟨a20,n20,c20,rfl,hm⟩;have Hr2w5_st:=zz hm.same;have HT20:=zz hm.lies;have HMK20:=zz hm;have Hr2w5:Hid (Same w1 r2w5):=zz (sT Hr2w4.out Hr2w5_st.out);clear hm;refine sO hK ?_ fun hHeld=>?_
  ·rw [hSS];exact⟨(HBX.out.fr Hr2w5.out (fun y=>y)).cell 1 rfl,(HBX.out.fr Hr2w5.out (fun y=>y)).cell 3 rfl,(HBX.out.fr Hr2w5.out (fun y=>y)).cell 4 rfl⟩
  clear hK K;refine rD 14 rfl (fun K hK=>?_);go_simp;refine(Am 4 r.key _).mono ?_;rintro e r2w6 ⟨a23,n23,c23,rfl,hm⟩;have Hr2w6_st:=zz hm.same;have HT23:=zz hm.lies;have HMK23:=zz hm;have Hr2w6:Hid (Same w1 r2w6):=zz (sT Hr2w5.out Hr2w6_st.out);clear hm;refine sO hK ?_ fun hHeld=>?_
  ·rw [hSS];exact⟨(HBX.out.fr Hr2w6.out (fun y=>y)).cell 1 rfl,(HBX.out.fr Hr2w6.out (fun y=>y)).cell 3 rfl,(HBX.out.fr Hr2w6.out (fun y=>y)).cell 4 rfl⟩
  clear hK K;refine rD 15 rfl (fun K hK=>?_);go_simp;refine sO hK ?_ fun hHeld=>?_
  ·rw [hSS];exact⟨Ah ((HBX.out.fr Hr2w6.out (fun y=>y)).cell 1 rfl),Ah ((HBX.out.fr Hr2w6.out (fun y=>y)).cell 3 rfl),Ah ((HBX.out.fr Hr2w6.out (fun y=>y)).cell 4 rfl)⟩
  clear hK K;have HOF25:=zz (Bj 0xa2 [(.slice a9 n9 c9,(lf 2 [4])),(.slice a14 n14 c14,(ofT 0x30 [(lf 4 r.name)])),(.slice a20 n20 c20,(ofT 0x30 [(sizedT r.size [5,25,45])])),(.slice a23 n23 c23,(lf 4 r.key))] r2w6 (fun p hp=>by
   simp only [List.mem_cons,List.not_mem_nil,or_false]at hp;rcases hp with rfl | rfl | rfl | rfl
   ·exact Lies.same HT9.out (sT (sT (sT (sT Hr2w2_st.out Hr2w3_st.out) Hr2w4_st.out) Hr2w5_st.out) Hr2w6_st.out)
   ·exact Lies.same HT14.out (sT (sT Hr2w4_st.out Hr2w5_st.out) Hr2w6_st.out)
   ·exact Lies.same HT20.out Hr2w6_st.out
   ·exact HT23.out) (by simp [ofT,lf,sizedT]) (by simp) _ rfl _ rfl)
  refine rD 16 rfl (fun K hK=>?_);go_simp;refine(HOF25.out).mono ?_;rintro e r2w7 ⟨a25,n25,c25,rfl,hm⟩;have Hr2w7_st:=zz hm.same;have HT25:=zz hm.lies;have HMK25:=zz hm;have Hr2w7:Hid (Same w1 r2w7):=zz (sT Hr2w6.out Hr2w7_st.out);clear hm;refine sO hK ?_ fun hHeld=>?_
  ·rw [hSS];exact⟨(HBX.out.fr Hr2w7.out (fun y=>y)).cell 1 rfl,(HBX.out.fr Hr2w7.out (fun y=>y)).cell 3 rfl,(HBX.out.fr Hr2w7.out (fun y=>y)).cell 4 rfl⟩
  clear hK K;refine tQ 17 ?_ ?_ ?_;rotate_left
  ·intro w hw;rw [hSS]at hw;obtain⟨q1,q3,q4⟩:=hw;go_simp;try (with_reducible rfl)
  simp only [Act.put,Z1,Z2,Z3];refine wpAnyH_done (by kernel_rfl) ?_ _;go_wp2;go_ret;rw [HREC.out];exact⟨_,_,_,rfl,HMK25.out.from (sT HS0.out Hr2w6.out)⟩
 ·have HREC:=zz (show recT r=ofT 0xa3 (passUs r)from if_neg hway);have hwz:(r.way==2)=false:=bn hway;obtain⟨q,hq⟩:∃q,q=r.kind.tdiv 128:=⟨_,rfl⟩
  have hqb: -9223372036854775800<=q/\q<=9223372036854775800:=by
   rw [hq];by_cases h0:0<=r.kind
   ·rw [Int.tdiv_eq_ediv_of_nonneg h0]; omega
   ·rw [show r.kind= -(-r.kind) by omega,Int.neg_tdiv,Int.tdiv_eq_ediv_of_nonneg (by omega)]; omega
  have hq2:r.kind.tdiv 128=q:=hq.symm;have hwq:wrap64 (7+q)=7+q:=by unfold wrap64; omega
  have hwq1:wrap64 q=q:=by unfold wrap64; omega
  obtain⟨hb8,hhb8⟩:∃hb8,hb8=hashB r.kind:=⟨_,rfl⟩
  have hb8z:(7+q) % 256=(hb8.toNat:Int):=by
   rw [hhb8];unfold hashB;rw [hq2,UInt8.toNat_ofNat'];omega
  have HB8:=zz hhb8;have k2:w1.cell? ⟨bx,2,none⟩=some (.int .i64 r.kind):=HBX.out.cell 2 rfl;have hcv:=Ef hb8 w1.heap.size (w1.alloc (.cells #[.int .u8 (hb8.toNat:Nat)] 5 (0,0))) (heap_alloc_new _ _);obtain⟨dg,hdg⟩:∃dg,dg=digestT++ [hb8]:=⟨_,rfl⟩
  have hcat:(ByteArray.mk #[42,134,72,134,247,13,2])++(ByteArray.mk [hb8].toArray)=⟨dg.toArray⟩:=by rw [hdg]; exact Ib digestT [hb8]
  have HDG:=zz (show dg=digestT++ [hashB r.kind] by rw [hdg,hhb8]);clear hway hq hqb hhb8 hdg;go_wp2_with fail;refine(Am 6 dg _).mono ?_;rintro e w2 ⟨a3,n3,c3,rfl,hm⟩;have HS2:=zz (sT HS0.out (sT ((fR _ w1).alloc _) hm.same));have HT3:=zz hm.lies;have HBX2:=zz (HBX.out.fr (sT ((fR _ w1).alloc _) hm.same) (fun y=>y));clear hm hcv hcat hb8z hwq hwq1 hq2 k0 k2;go_upto_region 4 with fail
  obtain⟨SS,hSS⟩:∃SS:World->Prop,SS=(fun W:World=>W.cell? ⟨bx,5,none⟩=some (S r.salt)/\W.cell? ⟨bx,6,none⟩=some (.int .i64 r.rounds)):=⟨_,rfl⟩
  have hS0:SS w2.drew:=by rw [hSS]; exact⟨HBX2.out.cell 5 rfl,HBX2.out.cell 6 rfl⟩
  refine sR hS0 fun hHeld=>?_
  refine tQ 1 ?_ ?_ ?_;rotate_left
  ·intro w hw;rw [hSS]at hw;obtain⟨q5,q6⟩:=hw;go_simp;try (with_reducible rfl)
  simp only [Act.put,Z1,Z2,Z3];refine tQ 2 ?_ ?_ ?_;rotate_left
  ·intro w hw;rw [hSS]at hw;obtain⟨q5,q6⟩:=hw;go_simp;try (with_reducible rfl)
  simp only [Act.put,Z1,Z2,Z3];refine tQ 4 ?_ ?_ ?_;rotate_left
  ·intro w hw;rw [hSS]at hw;obtain⟨q5,q6⟩:=hw;go_simp;try (with_reducible rfl)
  simp only [Act.put,Z1,Z2,Z3];refine tQ 5 ?_ ?_ ?_;rotate_left
  ·intro w hw;rw [hSS]at hw;obtain⟨q5,q6⟩:=hw;go_simp;try (with_reducible rfl)
  simp only [Act.put,Z1,Z2,Z3];refine tQ 8 ?_ ?_ ?_;rotate_left
  ·intro w hw;rw [hSS]at hw;obtain⟨q5,q6⟩:=hw;go_simp;try (with_reducible rfl)
  simp only [Act.put,Z1,Z2,Z3];refine rD 0 rfl (fun K hK=>?_);go_simp;refine(Am 6 [42,134,72,134,247,13,1,5,12] _).mono ?_;rintro e r4w1 ⟨a35,n35,c35,rfl,hm⟩;have Hr4w1_st:=zz hm.same;have HT35:=zz hm.lies;have HMK35:=zz hm;have Hr4w1:Hid (Same w2 r4w1):=zz (sT ((fR _ w2).drew) Hr4w1_st.out);clear hm;refine sO hK ?_ fun hHeld=>?_
  ·rw [hSS];exact⟨(HBX2.out.fr Hr4w1.out (fun y=>y)).cell 5 rfl,(HBX2.out.fr Hr4w1.out (fun y=>y)).cell 6 rfl⟩
  clear hK K;refine rD 3 rfl (fun K hK=>?_);go_simp;refine(Am 4 r.salt _).mono ?_;rintro e r4w2 ⟨a38,n38,c38,rfl,hm⟩;have Hr4w2_st:=zz hm.same;have HT38:=zz hm.lies;have HMK38:=zz hm;have Hr4w2:Hid (Same w2 r4w2):=zz (sT Hr4w1.out Hr4w2_st.out);clear hm;refine sO hK ?_ fun hHeld=>?_
  ·rw [hSS];exact⟨(HBX2.out.fr Hr4w2.out (fun y=>y)).cell 5 rfl,(HBX2.out.fr Hr4w2.out (fun y=>y)).cell 6 rfl⟩
  clear hK K;refine rD 6 rfl (fun K hK=>?_);go_simp;refine(FP r.rounds _).mono ?_;rintro e r4w3 ⟨rfl,hm⟩;have Hr4w3_st:=zz hm;have Hr4w3:Hid (Same w2 r4w3):=zz (sT Hr4w2.out Hr4w3_st.out);clear hm;refine sO hK ?_ fun hHeld=>?_
  ·rw [hSS];exact⟨(HBX2.out.fr Hr4w3.out (fun y=>y)).cell 5 rfl,(HBX2.out.fr Hr4w3.out (fun y=>y)).cell 6 rfl⟩
  clear hK K;refine rD 7 rfl (fun K hK=>?_);go_simp;refine(Am 2 (numB r.rounds) _).mono ?_;rintro e r4w4 ⟨a42,n42,c42,rfl,hm⟩;have Hr4w4_st:=zz hm.same;have HT42:=zz hm.lies;have HMK42:=zz hm;have Hr4w4:Hid (Same w2 r4w4):=zz (sT Hr4w3.out Hr4w4_st.out);clear hm;refine sO hK ?_ fun hHeld=>?_
  ·rw [hSS];exact⟨(HBX2.out.fr Hr4w4.out (fun y=>y)).cell 5 rfl,(HBX2.out.fr Hr4w4.out (fun y=>y)).cell 6 rfl⟩
  clear hK K;refine rD 9 rfl (fun K hK=>?_);go_simp;refine(Am 5 [] _).mono ?_;rintro e r4w5 ⟨a44,n44,c44,rfl,hm⟩;have Hr4w5_st:=zz hm.same;have HT44:=zz hm.lies;have HMK44:=zz hm;have Hr4w5:Hid (Same w2 r4w5):=zz (sT Hr4w4.out Hr4w5_st.out);clear hm;refine sO hK ?_ fun hHeld=>?_
  ·rw [hSS];exact⟨(HBX2.out.fr Hr4w5.out (fun y=>y)).cell 5 rfl,(HBX2.out.fr Hr4w5.out (fun y=>y)).cell 6 rfl⟩
  clear hK K;refine rD 10 rfl (fun K hK=>?_);go_simp;refine sO hK ?_ fun hHeld=>?_
  ·rw [hSS];exact⟨Ah ((HBX2.out.fr Hr4w5.out (fun y=>y)).cell 5 rfl),Ah ((HBX2.out.fr Hr4w5.out (fun y=>y)).cell 6 rfl)⟩
  clear hK K;have HOF46:=zz (Bj 0x30 [(.slice a3 n3 c3,(lf 6 dg)),(.slice a44 n44 c44,(lf 5 []))] r4w5 (fun p hp=>by
   simp only [List.mem_cons,List.not_mem_nil,or_false]at hp;rcases hp with rfl | rfl
   ·exact Lies.same HT3.out Hr4w5.out
   ·exact HT44.out) (by simp [ofT,lf,sizedT]) (by simp) _ rfl _ rfl)
  refine rD 11 rfl (fun K hK=>?_);go_simp;refine(HOF46.out).mono ?_;rintro e r4w6 ⟨a46,n46,c46,rfl,hm⟩;have Hr4w6_st:=zz hm.same;have HT46:=zz hm.lies;have HMK46:=zz hm;have Hr4w6:Hid (Same w2 r4w6):=zz (sT Hr4w5.out Hr4w6_st.out);clear hm;refine sO hK ?_ fun hHeld=>?_
  ·rw [hSS];exact⟨(HBX2.out.fr Hr4w6.out (fun y=>y)).cell 5 rfl,(HBX2.out.fr Hr4w6.out (fun y=>y)).cell 6 rfl⟩
  clear hK K;refine rD 12 rfl (fun K hK=>?_);go_simp;refine sO hK ?_ fun hHeld=>?_
  ·rw [hSS];exact⟨Ah ((HBX2.out.fr Hr4w6.out (fun y=>y)).cell 5 rfl),Ah ((HBX2.out.fr Hr4w6.out (fun y=>y)).cell 6 rfl)⟩
  clear hK K;have HOF48:=zz (Bj 0x30 [(.slice a38 n38 c38,(lf 4 r.salt)),(.slice a42 n42 c42,(lf 2 (numB r.rounds))),(.slice a46 n46 c46,(ofT 0x30 [(lf 6 dg),(lf 5 [])]))] r4w6 (fun p hp=>by
   simp only [List.mem_cons,List.not_mem_nil,or_false]at hp;rcases hp with rfl | rfl | rfl
   ·exact Lies.same HT38.out (sT (sT (sT Hr4w3_st.out Hr4w4_st.out) Hr4w5_st.out) Hr4w6_st.out)
   ·exact Lies.same HT42.out (sT Hr4w5_st.out Hr4w6_st.out)
   ·exact HT46.out) (by simp [ofT,lf,sizedT]) (by simp) _ rfl _ rfl)
  refine rD 13 rfl (fun K hK=>?_);go_simp;refine(HOF48.out).mono ?_;rintro e r4w7 ⟨a48,n48,c48,rfl,hm⟩;have Hr4w7_st:=zz hm.same;have HT48:=zz hm.lies;have HMK48:=zz hm;have Hr4w7:Hid (Same w2 r4w7):=zz (sT Hr4w6.out Hr4w7_st.out);clear hm;refine sO hK ?_ fun hHeld=>?_
  ·rw [hSS];exact⟨(HBX2.out.fr Hr4w7.out (fun y=>y)).cell 5 rfl,(HBX2.out.fr Hr4w7.out (fun y=>y)).cell 6 rfl⟩
  clear hK K;refine rD 14 rfl (fun K hK=>?_);go_simp;refine sO hK ?_ fun hHeld=>?_
  ·rw [hSS];exact⟨Ah ((HBX2.out.fr Hr4w7.out (fun y=>y)).cell 5 rfl),Ah ((HBX2.out.fr Hr4w7.out (fun y=>y)).cell 6 rfl)⟩
  clear hK K;have HOF50:=zz (Bj 0xa0 [(.slice a35 n35 c35,(lf 6 [42,134,72,134,247,13,1,5,12])),(.slice a48 n48 c48,(ofT 0x30 [(lf 4 r.salt),(lf 2 (numB r.rounds)),(ofT 0x30 [(lf 6 dg),(lf 5 [])])]))] r4w7 (fun p hp=>by
   simp only [List.mem_cons,List.not_mem_nil,or_false]at hp;rcases hp with rfl | rfl
   ·exact Lies.same HT35.out (sT (sT (sT (sT (sT Hr4w2_st.out Hr4w3_st.out) Hr4w4_st.out) Hr4w5_st.out) Hr4w6_st.out) Hr4w7_st.out)
   ·exact HT48.out) (by simp [ofT,lf,sizedT]) (by simp) _ rfl _ rfl)
  refine rD 15 rfl (fun K hK=>?_);go_simp;refine(HOF50.out).mono ?_;rintro e r4w8 ⟨a50,n50,c50,rfl,hm⟩;have Hr4w8_st:=zz hm.same;have HT50:=zz hm.lies;have HMK50:=zz hm;have Hr4w8:Hid (Same w2 r4w8):=zz (sT Hr4w7.out Hr4w8_st.out);clear hm;refine sO hK ?_ fun hHeld=>?_
  ·rw [hSS];exact⟨(HBX2.out.fr Hr4w8.out (fun y=>y)).cell 5 rfl,(HBX2.out.fr Hr4w8.out (fun y=>y)).cell 6 rfl⟩
  clear hK K;refine tQ 16 ?_ ?_ ?_;rotate_left
  ·intro w hw;rw [hSS]at hw;obtain⟨q5,q6⟩:=hw;go_simp;try (with_reducible rfl)
  simp only [Act.put,Z1,Z2,Z3];refine wpAnyH_done (by kernel_rfl) ?_ _;have HS4:=zz (sT HS2.out Hr4w8.out);have HBX4:=zz (HBX2.out.fr Hr4w8.out (fun y=>y));go_upto_region 5 with fail
  obtain⟨SS,hSS⟩:∃SS:World->Prop,SS=(fun W:World=>W.cell? ⟨bx,1,none⟩=some (.int .i64 r.size)/\W.cell? ⟨bx,7,none⟩=some (S r.iv)):=⟨_,rfl⟩
  have hS0:SS r4w8.drew:=by rw [hSS]; exact⟨HBX4.out.cell 1 rfl,HBX4.out.cell 7 rfl⟩
  refine sR hS0 fun hHeld=>?_
  refine tQ 1 ?_ ?_ ?_;rotate_left
  ·intro w hw;rw [hSS]at hw;obtain⟨q1,q7⟩:=hw;go_simp;try (with_reducible rfl)
  simp only [Act.put,Z1,Z2,Z3];refine tQ 2 ?_ ?_ ?_;rotate_left
  ·intro w hw;rw [hSS]at hw;obtain⟨q1,q7⟩:=hw;go_simp;try (with_reducible rfl)
  simp only [Act.put,Z1,Z2,Z3];refine tQ 3 ?_ ?_ ?_;rotate_left
  ·intro w hw;rw [hSS]at hw;obtain⟨q1,q7⟩:=hw;go_simp;try (with_reducible rfl)
  simp only [Act.put,Z1,Z2,Z3];refine tQ 5 ?_ ?_ ?_;rotate_left
  ·intro w hw;rw [hSS]at hw;obtain⟨q1,q7⟩:=hw;go_simp;try (with_reducible rfl)
  simp only [Act.put,Z1,Z2,Z3];refine tQ 6 ?_ ?_ ?_;rotate_left
  ·intro w hw;rw [hSS]at hw;obtain⟨q1,q7⟩:=hw;go_simp;try (with_reducible rfl)
  simp only [Act.put,Z1,Z2,Z3];refine rD 0 rfl (fun K hK=>?_);go_simp;refine(Am 6 [42,134,72,134,247,13,1,9,16,3,9] _).mono ?_;rintro e r5w1 ⟨a51,n51,c51,rfl,hm⟩;have Hr5w1_st:=zz hm.same;have HT51:=zz hm.lies;have HMK51:=zz hm;have Hr5w1:Hid (Same r4w8 r5w1):=zz (sT ((fR _ r4w8).drew) Hr5w1_st.out);clear hm;refine sO hK ?_ fun hHeld=>?_
  ·rw [hSS];exact⟨(HBX4.out.fr Hr5w1.out (fun y=>y)).cell 1 rfl,(HBX4.out.fr Hr5w1.out (fun y=>y)).cell 7 rfl⟩
  clear hK K;refine rD 4 rfl (fun K hK=>?_);go_simp;refine(FQ r.size 2 22 42 _).mono ?_;rintro e r5w2 ⟨a55,n55,c55,rfl,hm⟩;have Hr5w2_st:=zz hm.same;have HT55:=zz hm.lies;have HMK55:=zz hm;have Hr5w2:Hid (Same r4w8 r5w2):=zz (sT Hr5w1.out Hr5w2_st.out);clear hm;refine sO hK ?_ fun hHeld=>?_
  ·rw [hSS];exact⟨(HBX4.out.fr Hr5w2.out (fun y=>y)).cell 1 rfl,(HBX4.out.fr Hr5w2.out (fun y=>y)).cell 7 rfl⟩
  clear hK K;refine rD 7 rfl (fun K hK=>?_);go_simp;refine(Am 4 r.iv _).mono ?_;rintro e r5w3 ⟨a58,n58,c58,rfl,hm⟩;have Hr5w3_st:=zz hm.same;have HT58:=zz hm.lies;have HMK58:=zz hm;have Hr5w3:Hid (Same r4w8 r5w3):=zz (sT Hr5w2.out Hr5w3_st.out);clear hm;refine sO hK ?_ fun hHeld=>?_
  ·rw [hSS];exact⟨(HBX4.out.fr Hr5w3.out (fun y=>y)).cell 1 rfl,(HBX4.out.fr Hr5w3.out (fun y=>y)).cell 7 rfl⟩
  clear hK K;refine rD 8 rfl (fun K hK=>?_);go_simp;refine sO hK ?_ fun hHeld=>?_
  ·rw [hSS];exact⟨Ah ((HBX4.out.fr Hr5w3.out (fun y=>y)).cell 1 rfl),Ah ((HBX4.out.fr Hr5w3.out (fun y=>y)).cell 7 rfl)⟩
  clear hK K;have HOF60:=zz (Bj 0x30 [(.slice a55 n55 c55,(sizedT r.size [2,22,42])),(.slice a58 n58 c58,(lf 4 r.iv))] r5w3 (fun p hp=>by
   simp only [List.mem_cons,List.not_mem_nil,or_false]at hp;rcases hp with rfl | rfl
   ·exact Lies.same HT55.out Hr5w3_st.out
   ·exact HT58.out) (by simp [ofT,lf,sizedT]) (by simp) _ rfl _ rfl)
  refine rD 9 rfl (fun K hK=>?_);go_simp;refine(HOF60.out).mono ?_;rintro e r5w4 ⟨a60,n60,c60,rfl,hm⟩;have Hr5w4_st:=zz hm.same;have HT60:=zz hm.lies;have HMK60:=zz hm;have Hr5w4:Hid (Same r4w8 r5w4):=zz (sT Hr5w3.out Hr5w4_st.out);clear hm;refine sO hK ?_ fun hHeld=>?_
  ·rw [hSS];exact⟨(HBX4.out.fr Hr5w4.out (fun y=>y)).cell 1 rfl,(HBX4.out.fr Hr5w4.out (fun y=>y)).cell 7 rfl⟩
  clear hK K;refine rD 10 rfl (fun K hK=>?_);go_simp;refine sO hK ?_ fun hHeld=>?_
  ·rw [hSS];exact⟨Ah ((HBX4.out.fr Hr5w4.out (fun y=>y)).cell 1 rfl),Ah ((HBX4.out.fr Hr5w4.out (fun y=>y)).cell 7 rfl)⟩
  clear hK K;have HOF62:=zz (Bj 0x30 [(.slice a51 n51 c51,(lf 6 [42,134,72,134,247,13,1,9,16,3,9])),(.slice a60 n60 c60,(ofT 0x30 [(sizedT r.size [2,22,42]),(lf 4 r.iv)]))] r5w4 (fun p hp=>by
   simp only [List.mem_cons,List.not_mem_nil,or_false]at hp;rcases hp with rfl | rfl
   ·exact Lies.same HT51.out (sT (sT Hr5w2_st.out Hr5w3_st.out) Hr5w4_st.out)
   ·exact HT60.out) (by simp [ofT,lf,sizedT]) (by simp) _ rfl _ rfl)
  refine rD 11 rfl (fun K hK=>?_);go_simp;refine(HOF62.out).mono ?_;rintro e r5w5 ⟨a62,n62,c62,rfl,hm⟩;have Hr5w5_st:=zz hm.same;have HT62:=zz hm.lies;have HMK62:=zz hm;have Hr5w5:Hid (Same r4w8 r5w5):=zz (sT Hr5w4.out Hr5w5_st.out);clear hm;refine sO hK ?_ fun hHeld=>?_
  ·rw [hSS];exact⟨(HBX4.out.fr Hr5w5.out (fun y=>y)).cell 1 rfl,(HBX4.out.fr Hr5w5.out (fun y=>y)).cell 7 rfl⟩
  clear hK K;refine tQ 12 ?_ ?_ ?_;rotate_left
  ·intro w hw;rw [hSS]at hw;obtain⟨q1,q7⟩:=hw;go_simp;try (with_reducible rfl)
  simp only [Act.put,Z1,Z2,Z3];refine wpAnyH_done (by kernel_rfl) ?_ _;have HS5:=zz (sT HS4.out Hr5w5.out);have HBX5:=zz (HBX4.out.fr Hr5w5.out (fun y=>y));have HT50B:=zz (Lies.same HT50.out Hr5w5.out);go_upto_region 6 with fail
  obtain⟨SS,hSS⟩:∃SS:World->Prop,SS=(fun W:World=>W.cell? ⟨bx,4,none⟩=some (S r.key)):=⟨_,rfl⟩
  have hS0:SS r5w5.drew:=by rw [hSS]; exact HBX5.out.cell 4 rfl
  refine sR hS0 fun hHeld=>?_
  refine tQ 1 ?_ ?_ ?_;rotate_left
  ·intro w hw;rw [hSS]at hw;have q4:=hw;go_simp;try (with_reducible rfl)
  simp only [Act.put,Z1,Z2,Z3];refine tQ 2 ?_ ?_ ?_;rotate_left
  ·intro w hw;rw [hSS]at hw;have q4:=hw;go_simp;try (with_reducible rfl)
  simp only [Act.put,Z1,Z2,Z3];refine tQ 3 ?_ ?_ ?_;rotate_left
  ·intro w hw;rw [hSS]at hw;have q4:=hw;go_simp;try (with_reducible rfl)
  simp only [Act.put,Z1,Z2,Z3];refine tQ 4 ?_ ?_ ?_;rotate_left
  ·intro w hw;rw [hSS]at hw;have q4:=hw;go_simp;try (with_reducible rfl)
  simp only [Act.put,Z1,Z2,Z3];refine rD 0 rfl (fun K hK=>?_);go_simp;refine(Am 2 [0] _).mono ?_;rintro e r6w1 ⟨a63,n63,c63,rfl,hm⟩;have Hr6w1_st:=zz hm.same;have HT63:=zz hm.lies;have HMK63:=zz hm;have Hr6w1:Hid (Same r5w5 r6w1):=zz (sT ((fR _ r5w5).drew) Hr6w1_st.out);clear hm;refine sO hK ?_ fun hHeld=>?_
  ·rw [hSS];exact(HBX5.out.fr Hr6w1.out (fun y=>y)).cell 4 rfl
  clear hK K;refine rD 5 rfl (fun K hK=>?_);go_simp;refine(Am 4 r.key _).mono ?_;rintro e r6w2 ⟨a68,n68,c68,rfl,hm⟩;have Hr6w2_st:=zz hm.same;have HT68:=zz hm.lies;have HMK68:=zz hm;have Hr6w2:Hid (Same r5w5 r6w2):=zz (sT Hr6w1.out Hr6w2_st.out);clear hm;refine sO hK ?_ fun hHeld=>?_
  ·rw [hSS];exact(HBX5.out.fr Hr6w2.out (fun y=>y)).cell 4 rfl
  clear hK K;refine rD 6 rfl (fun K hK=>?_);go_simp;refine sO hK ?_ fun hHeld=>?_
  ·rw [hSS];exact Ah ((HBX5.out.fr Hr6w2.out (fun y=>y)).cell 4 rfl)
  clear hK K;have HOF70:=zz (Bj 0xa3 [(.slice a63 n63 c63,(lf 2 [0])),(.slice a50 n50 c50,(ofT 0xa0 [(lf 6 [42,134,72,134,247,13,1,5,12]),(ofT 0x30 [(lf 4 r.salt),(lf 2 (numB r.rounds)),(ofT 0x30 [(lf 6 dg),(lf 5 [])])])])),(.slice a62 n62 c62,(ofT 0x30 [(lf 6 [42,134,72,134,247,13,1,9,16,3,9]),(ofT 0x30 [(sizedT r.size [2,22,42]),(lf 4 r.iv)])])),(.slice a68 n68 c68,(lf 4 r.key))] r6w2 (fun p hp=>by
   simp only [List.mem_cons,List.not_mem_nil,or_false]at hp;rcases hp with rfl | rfl | rfl | rfl
   ·exact Lies.same HT63.out Hr6w2_st.out
   ·exact Lies.same HT50B.out Hr6w2.out
   ·exact Lies.same HT62.out Hr6w2.out
   ·exact HT68.out) (by simp [ofT,lf,sizedT]) (by simp) _ rfl _ rfl)
  refine rD 7 rfl (fun K hK=>?_);go_simp;refine(HOF70.out).mono ?_;rintro e r6w3 ⟨a70,n70,c70,rfl,hm⟩;have Hr6w3_st:=zz hm.same;have HT70:=zz hm.lies;have HMK70:=zz hm;have Hr6w3:Hid (Same r5w5 r6w3):=zz (sT Hr6w2.out Hr6w3_st.out);clear hm;refine sO hK ?_ fun hHeld=>?_
  ·rw [hSS];exact(HBX5.out.fr Hr6w3.out (fun y=>y)).cell 4 rfl
  clear hK K;refine tQ 8 ?_ ?_ ?_;rotate_left
  ·intro w hw;rw [hSS]at hw;have q4:=hw;go_simp;try (with_reducible rfl)
  simp only [Act.put,Z1,Z2,Z3];refine wpAnyH_done (by kernel_rfl) ?_ _;go_wp2;go_ret;have HR2:recT r=(ofT 0xa3 [(lf 2 [0]),(ofT 0xa0 [(lf 6 [42,134,72,134,247,13,1,5,12]),(ofT 0x30 [(lf 4 r.salt),(lf 2 (numB r.rounds)),(ofT 0x30 [(lf 6 dg),(lf 5 [])])])]),(ofT 0x30 [(lf 6 [42,134,72,134,247,13,1,9,16,3,9]),(ofT 0x30 [(sizedT r.size [2,22,42]),(lf 4 r.iv)])]),(lf 4 r.key)]):=by
   rw [HREC.out,HDG.out];rfl
  rw [HR2];exact⟨_,_,_,rfl,HMK70.out.from (sT HS5.out Hr6w2.out)⟩
end Go.Proofs.YtpfhollohodcjaaGreatDoor
