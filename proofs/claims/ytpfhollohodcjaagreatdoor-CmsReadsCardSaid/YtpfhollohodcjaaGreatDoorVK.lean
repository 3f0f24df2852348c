import Derived.Test.YtpfhollohodcjaaGreatDoorVI
set_option maxRecDepth 100000
set_option maxHeartbeats 4000000
namespace Go.Proofs.YtpfhollohodcjaaGreatDoor
open Go.RowKit Go.Px
theorem Es(s:Bytes)(lim:Lim)(b:Nat)(x:D5.Dx)(vs vo:Value)(w:World)(h:DrRep w b s lim x vs vo)(hx:x.at_<=262144)(hok:DOk s lim x)(t:UInt8)(hc:D5.want s lim x.at_= .ok t.toNat)(hi:¬(x.out.length:Int)=lim.i)(ht:R5.tagE t.toNat=0)(hin:R5.inner t.toNat=false)(n q:Nat)(hl:D5.length s lim (x.at_+1)= .ok (n,q))(hst:x.stack=[])(hn0:n≠0)(e:D5.Flt)(hw:D5.want s lim (q+n - 1)= .error e):
  Calls Tryz.prog 101 #[.pointer (some ⟨b,0,none⟩)] w fun r w'=>BegPost w b s lim (dfoot b vs vo) (.error e) r w':=by
 have hqb:q<=262144/\n<4294967296:=by
  have h1:=Ai hl;have h2:=hok.may;simp only [Lim.may,Bool.and_eq_true,decide_eq_true_eq]at h2;omega
 have hcb:=(Ak hc).2.2.1;have HW:=zz (Ap b x.at_ s lim x vs vo w h t.toNat hc);have HH:=zz h;have c5:=h.cells.2.2.2.2.1;obtain⟨oa,oc,hov,_⟩:=h.out.len;have HOV:=zz hov;obtain⟨sa,sc,hsv⟩:=h.stackLen;have HSV:=zz hsv;have HOK:=zz hok;have hol:=hok.ol;have hsl:=hok.sl;clear h hc hov hsv hok;have hib:((x.out.length:Int)==lim.i)=false:=bn hi;have HT:=zz ht;have HL:=zz hl;have HST:=zz hst;have hbt:=Bh t.toNat hcb hin;have hq1:=hqb.1;have hn1:=hqb.2;have HPQ:=zz (show x.at_<=q by have:=Ai hl; omega);have HW2:=zz hw;have hn0z:(0:Int)<n:=by omega
 clear hw hn0;clear hi ht hin hl hst hqb;go_enter Tryz.func101,Tryz.ntmps101;go_wp2_with fail;refine HW.out.mono ?_;rintro r w1 ⟨rfl,hs1⟩;have HR:=zz (aN (HH.out.same hs1) (hs1.fr (dfoot b vs vo)));clear hs1 c5;have c2:=HR.out.1.cells.2.2.1;have c7:=HR.out.1.cells.2.2.2.2.2.2;rw [HOV.out]at c7;go_wp2_with fail;go_quiet (fail)
 obtain⟨w2,hw2⟩:∃w2,w2=w1.drewN nq:=⟨_,rfl⟩
 rw [<-hw2];have HR2:=zz (show DrRep w2 b s lim x vs vo/\Fr (dfoot b vs vo) w w2 from by rw [hw2]; exact⟨HR.out.1.drewN nq,HR.out.2.drewN nq⟩);clear hw2 c2 c7 HR;go_wp2_with fail;refine(AL t.toNat hcb _).mono ?_;rintro r w2x ⟨rfl,hw2x⟩;subst hw2x;rw [HT.out];go_wp2_with fail;go_region
 obtain⟨w3,hw3⟩:∃w3,w3=w2.drew:=⟨_,rfl⟩
 rw [<-hw3];have HR3:=zz (show DrRep w3 b s lim x vs vo/\Fr (dfoot b vs vo) w w3 from by rw [hw3]; exact⟨HR2.out.1.drewN 1,HR2.out.2.drew⟩);clear hw3 HR2;have c5:=HR3.out.1.cells.2.2.2.2.1;have f5:=HR3.out.1.free 5;have ep1:((x.at_+1:Nat):Int)=(x.at_:Int)+1:=by omega
 have hmv:=HR3.out.1.move (x.at_+1);rw [ep1]at hmv;have HMV:=zz (aN hmv (HR3.out.2.setCell (p:=⟨b,5,none⟩) (.inl (.inl rfl)) (.int .i64 ((x.at_:Int)+1))));clear hmv;go_wp2_with fail;refine(AG b s lim _ vs vo _ HMV.out.1 (show x.at_+1<=1000000 by omega)).mono ?_;intro r w4 hpost;unfold LenPost at hpost;rw [show D5.length s lim ({x with at_:=x.at_+1}:D5.Dx).at_= .ok (n,q)from HL.out]at hpost;obtain⟨rfl,hrep,hf⟩:=hpost;have HX:=zz (show DrRep w4 b s lim {x with at_:=q} vs vo/\Fr (dfoot b vs vo) w w4 from⟨hrep,fT HMV.out.2 (It.dfoot (vs:=vs) (vo:=vo) hf) (fun _ _ e=>e)⟩);clear hrep hf HMV c5 f5;obtain⟨sa2,sc2,hsv2⟩:=HX.out.1.stackLen;have c5:=HX.out.1.cells.2.2.2.2.1;have c6:=HX.out.1.cells.2.2.2.2.2.1;simp only at c5;rw [hsv2,show({x with at_:=q}:D5.Dx).stack=[]from HST.out]at c6;clear hsv2;go_upto_region 18 with fail
 obtain⟨w5,hw5⟩:∃w5,w5=w4:=⟨_,rfl⟩
 rw [<-hw5];obtain⟨O,hO⟩:∃O,O=x.out:=⟨_,rfl⟩
 have hOl:O.length=x.out.length:=by rw [hO]
 have hOb:O.length<=1000000:=by rw [hOl]; exact hol
 have HOL:=zz hOl;clear hOl;have HO:=zz (show D5.bumpTop x.out x.stack=O from by rw [HST.out,hO]; rfl);have HZ:=zz (show DrRep w5 b s lim {x with at_:=q,out:=O} vs vo/\Fr (dfoot b vs vo) w w5 from by rw [hw5,hO]; exact HX.out);clear hw5 HX c5 c6 hO;clear HL HST;have hcall:=Cl b (q+n - 1) s lim _ vs vo w5 HZ.out.1 e HW2.out;rw [show((q+n - 1:Nat):Int)=(q:Int)+n - 1 by omega]at hcall;have HCALL:=zz hcall;clear hcall;go_wp2_with fail;refine HCALL.out.mono ?_;rintro r w6 ⟨rfl,hs6⟩;have HF:=zz (fT HZ.out.2 (hs6.fr (dfoot b vs vo)) (fun _ _ e=>e));clear hs6;unfold panics;go_wp2;exact⟨rfl,rfl,HF.out⟩
theorem Et(s:Bytes)(lim:Lim)(b:Nat)(x:D5.Dx)(vs vo:Value)(w:World)(h:DrRep w b s lim x vs vo)(hx:x.at_<=262144)(hok:DOk s lim x)(t:UInt8)(hc:D5.want s lim x.at_= .ok t.toNat)(hi:¬(x.out.length:Int)=lim.i)(ht:R5.tagE t.toNat=0)(hin:R5.inner t.toNat=false)(n q:Nat)(hl:D5.length s lim (x.at_+1)= .ok (n,q))(hst:x.stack=[])(hn0:n=0)(hs:s.length<=140737488355327)(hT:∀w2,Fr (dfoot b vs vo) w w2->Tabs w2)(hbd:R5.body t.toNat ((s.take (q+n)).drop q)=false):
  Calls Tryz.prog 101 #[.pointer (some ⟨b,0,none⟩)] w fun r w'=>BegPost w b s lim (dfoot b vs vo) (.error ((x.at_:Int),9)) r w':=by
 have hqb:q<=262144/\n<4294967296:=by
  have h1:=Ai hl;have h2:=hok.may;simp only [Lim.may,Bool.and_eq_true,decide_eq_true_eq]at h2;omega
 have hcb:=(Ak hc).2.2.1;have HW:=zz (Ap b x.at_ s lim x vs vo w h t.toNat hc);have HH:=zz h;have c5:=h.cells.2.2.2.2.1;obtain⟨oa,oc,hov,_⟩:=h.out.len;have HOV:=zz hov;obtain⟨sa,sc,hsv⟩:=h.stackLen;have HSV:=zz hsv;have HOK:=zz hok;have hol:=hok.ol;have hsl:=hok.sl;clear h hc hov hsv hok;have hib:((x.out.length:Int)==lim.i)=false:=bn hi;have HT:=zz ht;have HL:=zz hl;have HST:=zz hst;have hbt:=Bh t.toNat hcb hin;have hq1:=hqb.1;have hn1:=hqb.2;have HPQ:=zz (show x.at_<=q by have:=Ai hl; omega);have hqn:q+n<=s.length/\((q+n:Nat):Int)<=lim.b:=by
  have h1:=Ai hl;rw [hn0];omega
 obtain⟨bb,hbb⟩:∃bb,bb=(s.take (q+n)).drop q:=⟨_,rfl⟩
 have hslc:=fun w=>Bc s q (q+n) (Nat.le_add_right _ _) hqn.1 w
 rw [show((q+n:Nat):Int)=(q:Int)+n by omega]at hslc;rw [<-hbb]at hslc hbd;have hbl:bb.length<=140737488355327:=by rw [hbb,List.length_drop,List.length_take]; omega
 have hszb:(ByteArray.mk bb.toArray).size=bb.length:=Ad bb;have hsz:(ByteArray.mk s.toArray).size=s.length:=Ad s;have HBD:=zz hbd;have HQN:=zz (aN hqn (aN hT hs));clear hqn hbb hbd hT hs;have hnz:(n:Int)=0:=by omega
 have HNZ:=zz hnz;have hn0z:¬(0:Int)<n:=by omega
 clear hn0 hnz;clear hi ht hin hl hst hqb;go_enter Tryz.func101,Tryz.ntmps101;go_wp2_with fail;refine HW.out.mono ?_;rintro r w1 ⟨rfl,hs1⟩;have HR:=zz (aN (HH.out.same hs1) (hs1.fr (dfoot b vs vo)));clear hs1 c5;have c2:=HR.out.1.cells.2.2.1;have c7:=HR.out.1.cells.2.2.2.2.2.2;rw [HOV.out]at c7;go_wp2_with fail;go_quiet (fail)
 obtain⟨w2,hw2⟩:∃w2,w2=w1.drewN nq:=⟨_,rfl⟩
 rw [<-hw2];have HR2:=zz (show DrRep w2 b s lim x vs vo/\Fr (dfoot b vs vo) w w2 from by rw [hw2]; exact⟨HR.out.1.drewN nq,HR.out.2.drewN nq⟩);clear hw2 c2 c7 HR;go_wp2_with fail;refine(AL t.toNat hcb _).mono ?_;rintro r w2x ⟨rfl,hw2x⟩;subst hw2x;rw [HT.out];go_wp2_with fail;go_region
 obtain⟨w3,hw3⟩:∃w3,w3=w2.drew:=⟨_,rfl⟩
 rw [<-hw3];have HR3:=zz (show DrRep w3 b s lim x vs vo/\Fr (dfoot b vs vo) w w3 from by rw [hw3]; exact⟨HR2.out.1.drewN 1,HR2.out.2.drew⟩);clear hw3 HR2;have c5:=HR3.out.1.cells.2.2.2.2.1;have f5:=HR3.out.1.free 5;have ep1:((x.at_+1:Nat):Int)=(x.at_:Int)+1:=by omega
 have hmv:=HR3.out.1.move (x.at_+1);rw [ep1]at hmv;have HMV:=zz (aN hmv (HR3.out.2.setCell (p:=⟨b,5,none⟩) (.inl (.inl rfl)) (.int .i64 ((x.at_:Int)+1))));clear hmv;go_wp2_with fail;refine(AG b s lim _ vs vo _ HMV.out.1 (show x.at_+1<=1000000 by omega)).mono ?_;intro r w4 hpost;unfold LenPost at hpost;rw [show D5.length s lim ({x with at_:=x.at_+1}:D5.Dx).at_= .ok (n,q)from HL.out]at hpost;obtain⟨rfl,hrep,hf⟩:=hpost;have HX:=zz (show DrRep w4 b s lim {x with at_:=q} vs vo/\Fr (dfoot b vs vo) w w4 from⟨hrep,fT HMV.out.2 (It.dfoot (vs:=vs) (vo:=vo) hf) (fun _ _ e=>e)⟩);clear hrep hf HMV c5 f5;obtain⟨sa2,sc2,hsv2⟩:=HX.out.1.stackLen;have c5:=HX.out.1.cells.2.2.2.2.1;have c6:=HX.out.1.cells.2.2.2.2.2.1;simp only at c5;rw [hsv2,show({x with at_:=q}:D5.Dx).stack=[]from HST.out]at c6;clear hsv2;go_upto_region 18 with fail
 obtain⟨w5,hw5⟩:∃w5,w5=w4:=⟨_,rfl⟩
 rw [<-hw5];obtain⟨O,hO⟩:∃O,O=x.out:=⟨_,rfl⟩
 have hOl:O.length=x.out.length:=by rw [hO]
 have hOb:O.length<=1000000:=by rw [hOl]; exact hol
 have HOL:=zz hOl;clear hOl;have HO:=zz (show D5.bumpTop x.out x.stack=O from by rw [HST.out,hO]; rfl);have HZ:=zz (show DrRep w5 b s lim {x with at_:=q,out:=O} vs vo/\Fr (dfoot b vs vo) w w5 from by rw [hw5,hO]; exact HX.out);clear hw5 HX c5 c6 hO;clear HL HST;obtain⟨w6,hw6⟩:∃w6,w6=w5:=⟨_,rfl⟩
 have HZ2:=zz (show DrRep w6 b s lim {x with at_:=q,out:=O} vs vo/\Fr (dfoot b vs vo) w w6 from by rw [hw6]; exact HZ.out);rw [<-hw6];clear hw6;have c0:=HZ2.out.1.cells.1;have c5:=HZ2.out.1.cells.2.2.2.2.1;simp only at c5;have hqz:(q:Int)<=262144:=by omega
 go_wp2_with fail;go_region
 obtain⟨w7,hw7⟩:∃w7,w7=w6.drew:=⟨_,rfl⟩
 rw [<-hw7];have HZ3:=zz (show DrRep w7 b s lim {x with at_:=q,out:=O} vs vo/\Fr (dfoot b vs vo) w w7 from by rw [hw7]; exact⟨HZ2.out.1.drewN 1,HZ2.out.2.drew⟩);clear hw7 c0 c5 HZ2 hslc;go_wp2_with fail;refine(BB t.toNat bb hbl _ (HQN.out.2.1 _ HZ3.out.2)).mono ?_;rintro r w8 ⟨rfl,hs8⟩;rw [HBD.out];have HZ4:=zz (aN (HZ3.out.1.same hs8) (fT HZ3.out.2 (hs8.fr (dfoot b vs vo)) (fun _ _ e=>e)));clear hs8 HZ3;go_wp2;exact⟨rfl,rfl,HZ4.out.2⟩
theorem Eu(s:Bytes)(lim:Lim)(b:Nat)(x:D5.Dx)(vs vo:Value)(w:World)(h:DrRep w b s lim x vs vo)(hx:x.at_<=262144)(hok:DOk s lim x)(t:UInt8)(hc:D5.want s lim x.at_= .ok t.toNat)(hi:¬(x.out.length:Int)=lim.i)(ht:R5.tagE t.toNat=0)(hin:R5.inner t.toNat=false)(n q:Nat)(hl:D5.length s lim (x.at_+1)= .ok (n,q))(hst:x.stack=[])(hn0:n≠0)(c2:Nat)(hw:D5.want s lim (q+n - 1)= .ok c2)(hs:s.length<=140737488355327)(hT:∀w2,Fr (dfoot b vs vo) w w2->Tabs w2)(hbd:R5.body t.toNat ((s.take (q+n)).drop q)=false):
  Calls Tryz.prog 101 #[.pointer (some ⟨b,0,none⟩)] w fun r w'=>BegPost w b s lim (dfoot b vs vo) (.error ((x.at_:Int),9)) r w':=by
 have hqb:q<=262144/\n<4294967296:=by
  have h1:=Ai hl;have h2:=hok.may;simp only [Lim.may,Bool.and_eq_true,decide_eq_true_eq]at h2;omega
 have hcb:=(Ak hc).2.2.1;have HW:=zz (Ap b x.at_ s lim x vs vo w h t.toNat hc);have HH:=zz h;have c5:=h.cells.2.2.2.2.1;obtain⟨oa,oc,hov,_⟩:=h.out.len;have HOV:=zz hov;obtain⟨sa,sc,hsv⟩:=h.stackLen;have HSV:=zz hsv;have HOK:=zz hok;have hol:=hok.ol;have hsl:=hok.sl;clear h hc hov hsv hok;have hib:((x.out.length:Int)==lim.i)=false:=bn hi;have HT:=zz ht;have HL:=zz hl;have HST:=zz hst;have hbt:=Bh t.toNat hcb hin;have hq1:=hqb.1;have hn1:=hqb.2;have HPQ:=zz (show x.at_<=q by have:=Ai hl; omega);have hqn:q+n<=s.length/\((q+n:Nat):Int)<=lim.b:=by
  have h1:=Ai hl;have h2:=Ak hw;omega
 obtain⟨bb,hbb⟩:∃bb,bb=(s.take (q+n)).drop q:=⟨_,rfl⟩
 have hslc:=fun w=>Bc s q (q+n) (Nat.le_add_right _ _) hqn.1 w
 rw [show((q+n:Nat):Int)=(q:Int)+n by omega]at hslc;rw [<-hbb]at hslc hbd;have hbl:bb.length<=140737488355327:=by rw [hbb,List.length_drop,List.length_take]; omega
 have hszb:(ByteArray.mk bb.toArray).size=bb.length:=Ad bb;have hsz:(ByteArray.mk s.toArray).size=s.length:=Ad s;have HBD:=zz hbd;have HQN:=zz (aN hqn (aN hT hs));clear hqn hbb hbd hT hs;have HW2:=zz hw;have hn0z:(0:Int)<n:=by omega
 clear hw hn0;clear hi ht hin hl hst hqb;go_enter Tryz.func101,Tryz.ntmps101;go_wp2_with fail;refine HW.out.mono ?_;rintro r w1 ⟨rfl,hs1⟩;have HR:=zz (aN (HH.out.same hs1) (hs1.fr (dfoot b vs vo)));clear hs1 c5;have c2:=HR.out.1.cells.2.2.1;have c7:=HR.out.1.cells.2.2.2.2.2.2;rw [HOV.out]at c7;go_wp2_with fail;go_quiet (fail)
 obtain⟨w2,hw2⟩:∃w2,w2=w1.drewN nq:=⟨_,rfl⟩
 rw [<-hw2];have HR2:=zz (show DrRep w2 b s lim x vs vo/\Fr (dfoot b vs vo) w w2 from by rw [hw2]; exact⟨HR.out.1.drewN nq,HR.out.2.drewN nq⟩);clear hw2 c2 c7 HR;go_wp2_with fail;refine(AL t.toNat hcb _).mono ?_;rintro r w2x ⟨rfl,hw2x⟩;subst hw2x;rw [HT.out];go_wp2_with fail;go_region
 obtain⟨w3,hw3⟩:∃w3,w3=w2.drew:=⟨_,rfl⟩
 rw [<-hw3];have HR3:=zz (show DrRep w3 b s lim x vs vo/\Fr (dfoot b vs vo) w w3 from by rw [hw3]; exact⟨HR2.out.1.drewN 1,HR2.out.2.drew⟩);clear hw3 HR2;have c5:=HR3.out.1.cells.2.2.2.2.1;have f5:=HR3.out.1.free 5;have ep1:((x.at_+1:Nat):Int)=(x.at_:Int)+1:=by omega
 have hmv:=HR3.out.1.move (x.at_+1);rw [ep1]at hmv;have HMV:=zz (aN hmv (HR3.out.2.setCell (p:=⟨b,5,none⟩) (.inl (.inl rfl)) (.int .i64 ((x.at_:Int)+1))));clear hmv;go_wp2_with fail;refine(AG b s lim _ vs vo _ HMV.out.1 (show x.at_+1<=1000000 by omega)).mono ?_;intro r w4 hpost;unfold LenPost at hpost;rw [show D5.length s lim ({x with at_:=x.at_+1}:D5.Dx).at_= .ok (n,q)from HL.out]at hpost;obtain⟨rfl,hrep,hf⟩:=hpost;have HX:=zz (show DrRep w4 b s lim {x with at_:=q} vs vo/\Fr (dfoot b vs vo) w w4 from⟨hrep,fT HMV.out.2 (It.dfoot (vs:=vs) (vo:=vo) hf) (fun _ _ e=>e)⟩);clear hrep hf HMV c5 f5;obtain⟨sa2,sc2,hsv2⟩:=HX.out.1.stackLen;have c5:=HX.out.1.cells.2.2.2.2.1;have c6:=HX.out.1.cells.2.2.2.2.2.1;simp only at c5;rw [hsv2,show({x with at_:=q}:D5.Dx).stack=[]from HST.out]at c6;clear hsv2;go_upto_region 18 with fail
 obtain⟨w5,hw5⟩:∃w5,w5=w4:=⟨_,rfl⟩
 rw [<-hw5];obtain⟨O,hO⟩:∃O,O=x.out:=⟨_,rfl⟩
 have hOl:O.length=x.out.length:=by rw [hO]
 have hOb:O.length<=1000000:=by rw [hOl]; exact hol
 have HOL:=zz hOl;clear hOl;have HO:=zz (show D5.bumpTop x.out x.stack=O from by rw [HST.out,hO]; rfl);have HZ:=zz (show DrRep w5 b s lim {x with at_:=q,out:=O} vs vo/\Fr (dfoot b vs vo) w w5 from by rw [hw5,hO]; exact HX.out);clear hw5 HX c5 c6 hO;clear HL HST;have hcall:=Ap b (q+n - 1) s lim _ vs vo w5 HZ.out.1 c2 HW2.out;rw [show((q+n - 1:Nat):Int)=(q:Int)+n - 1 by omega]at hcall;have HCALL:=zz hcall;clear hcall;go_wp2_with fail;refine HCALL.out.mono ?_;rintro r w6 ⟨rfl,hs6⟩;have HZ2:=zz (show DrRep w6 b s lim {x with at_:=q,out:=O} vs vo/\Fr (dfoot b vs vo) w w6 from⟨HZ.out.1.same hs6,fT HZ.out.2 (hs6.fr (dfoot b vs vo)) (fun _ _ e=>e)⟩);clear hs6;have c0:=HZ2.out.1.cells.1;have c5:=HZ2.out.1.cells.2.2.2.2.1;simp only at c5;have hqz:(q:Int)<=262144:=by omega
 go_wp2_with fail;go_region
 obtain⟨w7,hw7⟩:∃w7,w7=w6.drew:=⟨_,rfl⟩
 rw [<-hw7];have HZ3:=zz (show DrRep w7 b s lim {x with at_:=q,out:=O} vs vo/\Fr (dfoot b vs vo) w w7 from by rw [hw7]; exact⟨HZ2.out.1.drewN 1,HZ2.out.2.drew⟩);clear hw7 c0 c5 HZ2 hslc;go_wp2_with fail;refine(BB t.toNat bb hbl _ (HQN.out.2.1 _ HZ3.out.2)).mono ?_;rintro r w8 ⟨rfl,hs8⟩;rw [HBD.out];have HZ4:=zz (aN (HZ3.out.1.same hs8) (fT HZ3.out.2 (hs8.fr (dfoot b vs vo)) (fun _ _ e=>e)));clear hs8 HZ3;go_wp2;exact⟨rfl,rfl,HZ4.out.2⟩
theorem EX(s:Bytes)(lim:Lim)(b:Nat)(x:D5.Dx)(vs vo:Value)(w:World)(h:DrRep w b s lim x vs vo)(hx:x.at_<=262144)(hok:DOk s lim x)(t:UInt8)(hc:D5.want s lim x.at_= .ok t.toNat)(hi:¬(x.out.length:Int)=lim.i)(ht:R5.tagE t.toNat=0)(hin:R5.inner t.toNat=false)(n q:Nat)(hl:D5.length s lim (x.at_+1)= .ok (n,q))(hst:x.stack=[])(hn0:n=0)(hs:s.length<=140737488355327)(hT:∀w2,Fr (dfoot b vs vo) w w2->Tabs w2)(hbd:R5.body t.toNat ((s.take (q+n)).drop q)=true):
  Calls Tryz.prog 101 #[.pointer (some ⟨b,0,none⟩)] w fun r w'=>BegPost w b s lim (dfoot b vs vo) (D5.ended s {at_:=q+n,stack:=x.stack,out:=D5.bumpTop x.out x.stack++ [⟨t,-1,(s.take (q+n)).drop q⟩]} x.at_) r w':=by
 have hqb:q<=262144/\n<4294967296:=by
  have h1:=Ai hl;have h2:=hok.may;simp only [Lim.may,Bool.and_eq_true,decide_eq_true_eq]at h2;omega
 have hcb:=(Ak hc).2.2.1;have HW:=zz (Ap b x.at_ s lim x vs vo w h t.toNat hc);have HH:=zz h;have c5:=h.cells.2.2.2.2.1;obtain⟨oa,oc,hov,_⟩:=h.out.len;have HOV:=zz hov;obtain⟨sa,sc,hsv⟩:=h.stackLen;have HSV:=zz hsv;have HOK:=zz hok;have hol:=hok.ol;have hsl:=hok.sl;clear h hc hov hsv hok;have hib:((x.out.length:Int)==lim.i)=false:=bn hi;have HT:=zz ht;have HL:=zz hl;have HST:=zz hst;have hbt:=Bh t.toNat hcb hin;have hq1:=hqb.1;have hn1:=hqb.2;have HPQ:=zz (show x.at_<=q by have:=Ai hl; omega);have hqn:q+n<=s.length/\((q+n:Nat):Int)<=lim.b:=by
  have h1:=Ai hl;rw [hn0];omega
 obtain⟨bb,hbb⟩:∃bb,bb=(s.take (q+n)).drop q:=⟨_,rfl⟩
 have hslc:=fun w=>Bc s q (q+n) (Nat.le_add_right _ _) hqn.1 w
 rw [show((q+n:Nat):Int)=(q:Int)+n by omega]at hslc;rw [<-hbb]at hslc hbd ⊢;have hbl:bb.length<=140737488355327:=by rw [hbb,List.length_drop,List.length_take]; omega
 have hszb:(ByteArray.mk bb.toArray).size=bb.length:=Ad bb;have hsz:(ByteArray.mk s.toArray).size=s.length:=Ad s;have HBD:=zz hbd;have HQN:=zz (aN hqn (aN hT hs));clear hqn hbb hbd hT hs;have hnz:(n:Int)=0:=by omega
 have HNZ:=zz hnz;have hn0z:¬(0:Int)<n:=by omega
 clear hn0 hnz;clear hi ht hin hl hst hqb;go_enter Tryz.func101,Tryz.ntmps101;go_wp2_with fail;refine HW.out.mono ?_;rintro r w1 ⟨rfl,hs1⟩;have HR:=zz (aN (HH.out.same hs1) (hs1.fr (dfoot b vs vo)));clear hs1 c5;have c2:=HR.out.1.cells.2.2.1;have c7:=HR.out.1.cells.2.2.2.2.2.2;rw [HOV.out]at c7;go_wp2_with fail;go_quiet (fail)
 obtain⟨w2,hw2⟩:∃w2,w2=w1.drewN nq:=⟨_,rfl⟩
 rw [<-hw2];have HR2:=zz (show DrRep w2 b s lim x vs vo/\Fr (dfoot b vs vo) w w2 from by rw [hw2]; exact⟨HR.out.1.drewN nq,HR.out.2.drewN nq⟩);clear hw2 c2 c7 HR;go_wp2_with fail;refine(AL t.toNat hcb _).mono ?_;rintro r w2x ⟨rfl,hw2x⟩;subst hw2x;rw [HT.out];go_wp2_with fail;go_region
 obtain⟨w3,hw3⟩:∃w3,w3=w2.drew:=⟨_,rfl⟩
 rw [<-hw3];have HR3:=zz (show DrRep w3 b s lim x vs vo/\Fr (dfoot b vs vo) w w3 from by rw [hw3]; exact⟨HR2.out.1.drewN 1,HR2.out.2.drew⟩);clear hw3 HR2;have c5:=HR3.out.1.cells.2.2.2.2.1;have f5:=HR3.out.1.free 5;have ep1:((x.at_+1:Nat):Int)=(x.at_:Int)+1:=by omega
 have hmv:=HR3.out.1.move (x.at_+1);rw [ep1]at hmv;have HMV:=zz (aN hmv (HR3.out.2.setCell (p:=⟨b,5,none⟩) (.inl (.inl rfl)) (.int .i64 ((x.at_:Int)+1))));clear hmv;go_wp2_with fail;refine(AG b s lim _ vs vo _ HMV.out.1 (show x.at_+1<=1000000 by omega)).mono ?_;intro r w4 hpost;unfold LenPost at hpost;rw [show D5.length s lim ({x with at_:=x.at_+1}:D5.Dx).at_= .ok (n,q)from HL.out]at hpost;obtain⟨rfl,hrep,hf⟩:=hpost;have HX:=zz (show DrRep w4 b s lim {x with at_:=q} vs vo/\Fr (dfoot b vs vo) w w4 from⟨hrep,fT HMV.out.2 (It.dfoot (vs:=vs) (vo:=vo) hf) (fun _ _ e=>e)⟩);clear hrep hf HMV c5 f5;obtain⟨sa2,sc2,hsv2⟩:=HX.out.1.stackLen;have c5:=HX.out.1.cells.2.2.2.2.1;have c6:=HX.out.1.cells.2.2.2.2.2.1;simp only at c5;rw [hsv2,show({x with at_:=q}:D5.Dx).stack=[]from HST.out]at c6;clear hsv2;go_upto_region 18 with fail
 obtain⟨w5,hw5⟩:∃w5,w5=w4:=⟨_,rfl⟩
 rw [<-hw5];obtain⟨O,hO⟩:∃O,O=x.out:=⟨_,rfl⟩
 have hOl:O.length=x.out.length:=by rw [hO]
 have hOb:O.length<=1000000:=by rw [hOl]; exact hol
 have HOL:=zz hOl;clear hOl;have HO:=zz (show D5.bumpTop x.out x.stack=O from by rw [HST.out,hO]; rfl);have HZ:=zz (show DrRep w5 b s lim {x with at_:=q,out:=O} vs vo/\Fr (dfoot b vs vo) w w5 from by rw [hw5,hO]; exact HX.out);clear hw5 HX c5 c6 hO;clear HL HST;obtain⟨w6,hw6⟩:∃w6,w6=w5:=⟨_,rfl⟩
 have HZ2:=zz (show DrRep w6 b s lim {x with at_:=q,out:=O} vs vo/\Fr (dfoot b vs vo) w w6 from by rw [hw6]; exact HZ.out);rw [<-hw6];clear hw6;have c0:=HZ2.out.1.cells.1;have c5:=HZ2.out.1.cells.2.2.2.2.1;simp only at c5;have hqz:(q:Int)<=262144:=by omega
 go_wp2_with fail;go_region
 obtain⟨w7,hw7⟩:∃w7,w7=w6.drew:=⟨_,rfl⟩
 rw [<-hw7];have HZ3:=zz (show DrRep w7 b s lim {x with at_:=q,out:=O} vs vo/\Fr (dfoot b vs vo) w w7 from by rw [hw7]; exact⟨HZ2.out.1.drewN 1,HZ2.out.2.drew⟩);clear hw7 c0 c5 HZ2 hslc;go_wp2_with fail;refine(BB t.toNat bb hbl _ (HQN.out.2.1 _ HZ3.out.2)).mono ?_;rintro r w8 ⟨rfl,hs8⟩;rw [HBD.out];have HZ4:=zz (aN (HZ3.out.1.same hs8) (fT HZ3.out.2 (hs8.fr (dfoot b vs vo)) (fun _ _ e=>e)));clear hs8 HZ3;have c5:=HZ4.out.1.cells.2.2.2.2.1;have f5:=HZ4.out.1.free 5;have hsum:((q+n:Nat):Int)=(q:Int)+n:=by omega
 have hmv:=HZ4.out.1.move (q+n);rw [hsum]at hmv;obtain⟨w9,hw9⟩:∃w9,w9=w8.setCell ⟨b,5,none⟩ (.int .i64 ((q:Int)+n)):=⟨_,rfl⟩
 have HY:=zz (show DrRep w9 b s lim {x with at_:=q+n,out:=O} vs vo/\Fr (dfoot b vs vo) w w9 from by rw [hw9]; exact⟨hmv,HZ4.out.2.setCell (p:=⟨b,5,none⟩) (.inl (.inl rfl)) _⟩);clear hmv hsum;have HW9:=zz hw9;clear hw9;go_upto_region 27 with fail
 rw [<-HW9.out];clear c5 f5 HZ4 HW9;have hb2:b<w9.heap.size:=HY.out.1.lt;have c7:=HY.out.1.cells.2.2.2.2.2.2;have f7:=HY.out.1.free 7;obtain⟨i0,hi0,hz0,hz1,hz2⟩:=info_parts Tryz.infoNode;have HOW:=zz (show w9.ownsRow 0 90 3 vo O.length (O.flatMap cNode)from HY.out.1.out);go_cut [] (fun wx=>DAfter w9 wx b s lim {x with at_:=q+n,out:=O} ⟨t,-1,bb⟩ vs vo)
 case first=>
  go_wp2_with (at_builtin; go_must (refine wpList_append_lies _ rfl _ _ _ rfl 0 90 i0 _ 3 32 Tryz.underlying47 hi0 hz0 hz1 hz2 rfl (by omega) vo O.length (O.flatMap cNode) rfl (HOW.out.alloc _) ⟨w9.heap.size,0,none⟩ 1 1 (cNode ⟨t,-1,bb⟩) rfl rfl (World.news_of_block (cs:= #[.int .u8 t.toNat,.int .i64 (-1),S bb]) (t:=90) (fr:=(0,0)) (heap_alloc_new w9 _)) (by simp [cNode,Value.oneCell']) (by omega) (by unfold maxLen; omega) (by omega) (by omega) (w9.heap.size+1) (by simp) ?_))
  intro gg cap w1x hown1 hgrow hat hlt;have k7:=Bs hgrow c7 HY.out.1.ob.ne;have e7:=Bt hgrow c7 f7 HY.out.1.ob.ne;go_wp2_with fail;go_meet
  exact HY.out.1.afterOut hown1 (AA hgrow) (hat.elim .inl (fun e=> .inr (by omega)))
 case rest=>
  obtain⟨vo',hy,hyf,hyn⟩:=hcut;have HX:=zz (aN hy (aN hyf hyn));clear hy hyf hyn c7 f7;go_wp2_with fail;refine(B9 b x.at_ s lim _ _ _ ⟨_,_,HX.out.1,rfl⟩ (show x.at_<=q+n by have:=HPQ.out; omega) HQN.out.1.1 (show x.stack.length<=1000 by omega)).mono ?_;intro r w3 hpost;have hB:=C6 (HY.out.2.step (Fresh.refl _ _) HX.out.2.1) (Fresh.trans (Fresh.refl _ _) HY.out.2.size HX.out.2.2) hpost;unfold EndPost at hpost;cases hres:D5.ended s {at_:=q+n,stack:=x.stack,out:=O++ [⟨t,-1,bb⟩]} x.at_ with
  | error e=>
   rw [hres]at hpost hB;obtain⟨rfl,_⟩:=hpost;have HB:=zz hB;have HRES:=zz hres;clear hB hres;unfold panics;go_wp2;exact⟨rfl,by rw [HO.out,HRES.out]; exact HB.out⟩
  | ok y=>
   rw [hres]at hpost hB;obtain⟨rfl,_⟩:=hpost;have HB:=zz hB;have HRES:=zz hres;clear hB hres;go_wp2;exact bodyPost_ret (results_none rfl _ _ _) rfl (by rw [HO.out,HRES.out]; exact HB.out)
theorem EY(s:Bytes)(lim:Lim)(b:Nat)(x:D5.Dx)(vs vo:Value)(w:World)(h:DrRep w b s lim x vs vo)(hx:x.at_<=262144)(hok:DOk s lim x)(t:UInt8)(hc:D5.want s lim x.at_= .ok t.toNat)(hi:¬(x.out.length:Int)=lim.i)(ht:R5.tagE t.toNat=0)(hin:R5.inner t.toNat=false)(n q:Nat)(hl:D5.length s lim (x.at_+1)= .ok (n,q))(hst:x.stack=[])(hn0:n≠0)(c2:Nat)(hw:D5.want s lim (q+n - 1)= .ok c2)(hs:s.length<=140737488355327)(hT:∀w2,Fr (dfoot b vs vo) w w2->Tabs w2)(hbd:R5.body t.toNat ((s.take (q+n)).drop q)=true):
  Calls Tryz.prog 101 #[.pointer (some ⟨b,0,none⟩)] w fun r w'=>BegPost w b s lim (dfoot b vs vo) (D5.ended s {at_:=q+n,stack:=x.stack,out:=D5.bumpTop x.out x.stack++ [⟨t,-1,(s.take (q+n)).drop q⟩]} x.at_) r w':=by
 have hqb:q<=262144/\n<4294967296:=by
  have h1:=Ai hl;have h2:=hok.may;simp only [Lim.may,Bool.and_eq_true,decide_eq_true_eq]at h2;omega
 have hcb:=(Ak hc).2.2.1;have HW:=zz (Ap b x.at_ s lim x vs vo w h t.toNat hc);have HH:=zz h;have c5:=h.cells.2.2.2.2.1;obtain⟨oa,oc,hov,_⟩:=h.out.len;have HOV:=zz hov;obtain⟨sa,sc,hsv⟩:=h.stackLen;have HSV:=zz hsv;have HOK:=zz hok;have hol:=hok.ol;have hsl:=hok.sl;clear h hc hov hsv hok;have hib:((x.out.length:Int)==lim.i)=false:=bn hi;have HT:=zz ht;have HL:=zz hl;have HST:=zz hst;have hbt:=Bh t.toNat hcb hin;have hq1:=hqb.1;have hn1:=hqb.2;have HPQ:=zz (show x.at_<=q by have:=Ai hl; omega);have hqn:q+n<=s.length/\((q+n:Nat):Int)<=lim.b:=by
  have h1:=Ai hl;have h2:=Ak hw;omega
 obtain⟨bb,hbb⟩:∃bb,bb=(s.take (q+n)).drop q:=⟨_,rfl⟩
 have hslc:=fun w=>Bc s q (q+n) (Nat.le_add_right _ _) hqn.1 w
 rw [show((q+n:Nat):Int)=(q:Int)+n by omega]at hslc;rw [<-hbb]at hslc hbd ⊢;have hbl:bb.length<=140737488355327:=by rw [hbb,List.length_drop,List.length_take]; omega
 have hszb:(ByteArray.mk bb.toArray).size=bb.length:=Ad bb;have hsz:(ByteArray.mk s.toArray).size=s.length:=Ad s;have HBD:=zz hbd;have HQN:=zz (aN hqn (aN hT hs));clear hqn hbb hbd hT hs;have HW2:=zz hw;have hn0z:(0:Int)<n:=by omega
 clear hw hn0;clear hi ht hin hl hst hqb;go_enter Tryz.func101,Tryz.ntmps101;go_wp2_with fail;refine HW.out.mono ?_;rintro r w1 ⟨rfl,hs1⟩;have HR:=zz (aN (HH.out.same hs1) (hs1.fr (dfoot b vs vo)));clear hs1 c5;have c2:=HR.out.1.cells.2.2.1;have c7:=HR.out.1.cells.2.2.2.2.2.2;rw [HOV.out]at c7;go_wp2_with fail;go_quiet (fail)
 obtain⟨w2,hw2⟩:∃w2,w2=w1.drewN nq:=⟨_,rfl⟩
 rw [<-hw2];have HR2:=zz (show DrRep w2 b s lim x vs vo/\Fr (dfoot b vs vo) w w2 from by rw [hw2]; exact⟨HR.out.1.drewN nq,HR.out.2.drewN nq⟩);clear hw2 c2 c7 HR;go_wp2_with fail;refine(AL t.toNat hcb _).mono ?_;rintro r w2x ⟨rfl,hw2x⟩;subst hw2x;rw [HT.out];go_wp2_with fail;go_region
 obtain⟨w3,hw3⟩:∃w3,w3=w2.drew:=⟨_,rfl⟩
 rw [<-hw3];have HR3:=zz (show DrRep w3 b s lim x vs vo/\Fr (dfoot b vs vo) w w3 from by rw [hw3]; exact⟨HR2.out.1.drewN 1,HR2.out.2.drew⟩);clear hw3 HR2;have c5:=HR3.out.1.cells.2.2.2.2.1;have f5:=HR3.out.1.free 5;have ep1:((x.at_+1:Nat):Int)=(x.at_:Int)+1:=by omega
 have hmv:=HR3.out.1.move (x.at_+1);rw [ep1]at hmv;have HMV:=zz (aN hmv (HR3.out.2.setCell (p:=⟨b,5,none⟩) (.inl (.inl rfl)) (.int .i64 ((x.at_:Int)+1))));clear hmv;go_wp2_with fail;refine(AG b s lim _ vs vo _ HMV.out.1 (show x.at_+1<=1000000 by omega)).mono ?_;intro r w4 hpost;unfold LenPost at hpost;rw [show D5.length s lim ({x with at_:=x.at_+1}:D5.Dx).at_= .ok (n,q)from HL.out]at hpost;obtain⟨rfl,hrep,hf⟩:=hpost;have HX:=zz (show DrRep w4 b s lim {x with at_:=q} vs vo/\Fr (dfoot b vs vo) w w4 from⟨hrep,fT HMV.out.2 (It.dfoot (vs:=vs) (vo:=vo) hf) (fun _ _ e=>e)⟩);clear hrep hf HMV c5 f5;obtain⟨sa2,sc2,hsv2⟩:=HX.out.1.stackLen;have c5:=HX.out.1.cells.2.2.2.2.1;have c6:=HX.out.1.cells.2.2.2.2.2.1;simp only at c5;rw [hsv2,show({x with at_:=q}:D5.Dx).stack=[]from HST.out]at c6;clear hsv2;go_upto_region 18 with fail
 obtain⟨w5,hw5⟩:∃w5,w5=w4:=⟨_,rfl⟩
 rw [<-hw5];obtain⟨O,hO⟩:∃O,O=x.out:=⟨_,rfl⟩
 have hOl:O.length=x.out.length:=by rw [hO]
 have hOb:O.length<=1000000:=by rw [hOl]; exact hol
 have HOL:=zz hOl;clear hOl;have HO:=zz (show D5.bumpTop x.out x.stack=O from by rw [HST.out,hO]; rfl);have HZ:=zz (show DrRep w5 b s lim {x with at_:=q,out:=O} vs vo/\Fr (dfoot b vs vo) w w5 from by rw [hw5,hO]; exact HX.out);clear hw5 HX c5 c6 hO;clear HL HST;have hcall:=Ap b (q+n - 1) s lim _ vs vo w5 HZ.out.1 c2 HW2.out;rw [show((q+n - 1:Nat):Int)=(q:Int)+n - 1 by omega]at hcall;have HCALL:=zz hcall;clear hcall;go_wp2_with fail;refine HCALL.out.mono ?_;rintro r w6 ⟨rfl,hs6⟩;have HZ2:=zz (show DrRep w6 b s lim {x with at_:=q,out:=O} vs vo/\Fr (dfoot b vs vo) w w6 from⟨HZ.out.1.same hs6,fT HZ.out.2 (hs6.fr (dfoot b vs vo)) (fun _ _ e=>e)⟩);clear hs6;have c0:=HZ2.out.1.cells.1;have c5:=HZ2.out.1.cells.2.2.2.2.1;simp only at c5;have hqz:(q:Int)<=262144:=by omega
 go_wp2_with fail;go_region
 obtain⟨w7,hw7⟩:∃w7,w7=w6.drew:=⟨_,rfl⟩
 rw [<-hw7];have HZ3:=zz (show DrRep w7 b s lim {x with at_:=q,out:=O} vs vo/\Fr (dfoot b vs vo) w w7 from by rw [hw7]; exact⟨HZ2.out.1.drewN 1,HZ2.out.2.drew⟩);clear hw7 c0 c5 HZ2 hslc;go_wp2_with fail;refine(BB t.toNat bb hbl _ (HQN.out.2.1 _ HZ3.out.2)).mono ?_;rintro r w8 ⟨rfl,hs8⟩;rw [HBD.out];have HZ4:=zz (aN (HZ3.out.1.same hs8) (fT HZ3.out.2 (hs8.fr (dfoot b vs vo)) (fun _ _ e=>e)));clear hs8 HZ3;have c5:=HZ4.out.1.cells.2.2.2.2.1;have f5:=HZ4.out.1.free 5;have hsum:((q+n:Nat):Int)=(q:Int)+n:=by omega
 have hmv:=HZ4.out.1.move (q+n);rw [hsum]at hmv;obtain⟨w9,hw9⟩:∃w9,w9=w8.setCell ⟨b,5,none⟩ (.int .i64 ((q:Int)+n)):=⟨_,rfl⟩
 have HY:=zz (show DrRep w9 b s lim {x with at_:=q+n,out:=O} vs vo/\Fr (dfoot b vs vo) w w9 from by rw [hw9]; exact⟨hmv,HZ4.out.2.setCell (p:=⟨b,5,none⟩) (.inl (.inl rfl)) _⟩);clear hmv hsum;have HW9:=zz hw9;clear hw9;go_upto_region 27 with fail
 rw [<-HW9.out];clear c5 f5 HZ4 HW9;have hb2:b<w9.heap.size:=HY.out.1.lt;have c7:=HY.out.1.cells.2.2.2.2.2.2;have f7:=HY.out.1.free 7;obtain⟨i0,hi0,hz0,hz1,hz2⟩:=info_parts Tryz.infoNode;have HOW:=zz (show w9.ownsRow 0 90 3 vo O.length (O.flatMap cNode)from HY.out.1.out);go_cut [] (fun wx=>DAfter w9 wx b s lim {x with at_:=q+n,out:=O} ⟨t,-1,bb⟩ vs vo)
 case first=>
  go_wp2_with (at_builtin; go_must (refine wpList_append_lies _ rfl _ _ _ rfl 0 90 i0 _ 3 32 Tryz.underlying47 hi0 hz0 hz1 hz2 rfl (by omega) vo O.length (O.flatMap cNode) rfl (HOW.out.alloc _) ⟨w9.heap.size,0,none⟩ 1 1 (cNode ⟨t,-1,bb⟩) rfl rfl (World.news_of_block (cs:= #[.int .u8 t.toNat,.int .i64 (-1),S bb]) (t:=90) (fr:=(0,0)) (heap_alloc_new w9 _)) (by simp [cNode,Value.oneCell']) (by omega) (by unfold maxLen; omega) (by omega) (by omega) (w9.heap.size+1) (by simp) ?_))
  intro gg cap w1x hown1 hgrow hat hlt;have k7:=Bs hgrow c7 HY.out.1.ob.ne;have e7:=Bt hgrow c7 f7 HY.out.1.ob.ne;go_wp2_with fail;go_meet
  exact HY.out.1.afterOut hown1 (AA hgrow) (hat.elim .inl (fun e=> .inr (by omega)))
 case rest=>
  obtain⟨vo',hy,hyf,hyn⟩:=hcut;have HX:=zz (aN hy (aN hyf hyn));clear hy hyf hyn c7 f7;go_wp2_with fail;refine(B9 b x.at_ s lim _ _ _ ⟨_,_,HX.out.1,rfl⟩ (show x.at_<=q+n by have:=HPQ.out; omega) HQN.out.1.1 (show x.stack.length<=1000 by omega)).mono ?_;intro r w3 hpost;have hB:=C6 (HY.out.2.step (Fresh.refl _ _) HX.out.2.1) (Fresh.trans (Fresh.refl _ _) HY.out.2.size HX.out.2.2) hpost;unfold EndPost at hpost;cases hres:D5.ended s {at_:=q+n,stack:=x.stack,out:=O++ [⟨t,-1,bb⟩]} x.at_ with
  | error e=>
   rw [hres]at hpost hB;obtain⟨rfl,_⟩:=hpost;have HB:=zz hB;have HRES:=zz hres;clear hB hres;unfold panics;go_wp2;exact⟨rfl,by rw [HO.out,HRES.out]; exact HB.out⟩
  | ok y=>
   rw [hres]at hpost hB;obtain⟨rfl,_⟩:=hpost;have HB:=zz hB;have HRES:=zz hres;clear hB hres;go_wp2;exact bodyPost_ret (results_none rfl _ _ _) rfl (by rw [HO.out,HRES.out]; exact HB.out)
theorem Ev(s:Bytes)(lim:Lim)(b:Nat)(x:D5.Dx)(vs vo:Value)(w:World)(h:DrRep w b s lim x vs vo)(hx:x.at_<=262144)(hok:DOk s lim x)(t:UInt8)(hc:D5.want s lim x.at_= .ok t.toNat)(hi:¬(x.out.length:Int)=lim.i)(ht:R5.tagE t.toNat=0)(hin:R5.inner t.toNat=false)(n q:Nat)(hl:D5.length s lim (x.at_+1)= .ok (n,q))(f:D5.Fm)(rest:List D5.Fm)(hst:x.stack=f::rest)(hv:¬f.end_<q+n)(hn0:n≠0)(e:D5.Flt)(hw:D5.want s lim (q+n - 1)= .error e):
  Calls Tryz.prog 101 #[.pointer (some ⟨b,0,none⟩)] w fun r w'=>BegPost w b s lim (dfoot b vs vo) (.error e) r w':=by
 have hqb:q<=262144/\n<4294967296:=by
  have h1:=Ai hl;have h2:=hok.may;simp only [Lim.may,Bool.and_eq_true,decide_eq_true_eq]at h2;omega
 have hfm:=hok.no f (by rw [hst]; exact List.mem_cons_self);obtain⟨a,ha⟩:∃a,x.out[f.no]?=some a:=⟨_,List.getElem?_eq_getElem hfm.1⟩
 have hka:=hok.kids a (List.mem_of_getElem? ha);have hcb:=(Ak hc).2.2.1;have HW:=zz (Ap b x.at_ s lim x vs vo w h t.toNat hc);have HH:=zz h;have c5:=h.cells.2.2.2.2.1;obtain⟨oa,oc,hov,_⟩:=h.out.len;have HOV:=zz hov;obtain⟨sa,sc,hsv⟩:=h.stackLen;have HSV:=zz hsv;have HOK:=zz hok;have hol:=hok.ol;have hsl:=hok.sl;clear h hc hov hsv hok;have hib:((x.out.length:Int)==lim.i)=false:=bn hi;have HT:=zz ht;have HL:=zz hl;have HST:=zz hst;have hbt:=Bh t.toNat hcb hin;have hq1:=hqb.1;have hn1:=hqb.2;have hvz:¬(f.end_:Int)<(q:Int)+n:=by omega
 have HA:=zz (aN ha hka);have hno:(f.no:Int)<(x.out.length:Int):=by omega
 have hk1:=hka.1;have hk2:=hka.2;have hwk:IntKind.i64.wrap (a.kids+1)=a.kids+1:=IntWalk.i64_in _ ⟨by omega,by omega⟩;clear ha hka hfm hv;have HPQ:=zz (show x.at_<=q by have:=Ai hl; omega);have HW2:=zz hw;have hn0z:(0:Int)<n:=by omega
 clear hw hn0;clear hi ht hin hl hst hqb;go_enter Tryz.func101,Tryz.ntmps101;go_wp2_with fail;refine HW.out.mono ?_;rintro r w1 ⟨rfl,hs1⟩;have HR:=zz (aN (HH.out.same hs1) (hs1.fr (dfoot b vs vo)));clear hs1 c5;have c2:=HR.out.1.cells.2.2.1;have c7:=HR.out.1.cells.2.2.2.2.2.2;rw [HOV.out]at c7;go_wp2_with fail;go_quiet (fail)
 obtain⟨w2,hw2⟩:∃w2,w2=w1.drewN nq:=⟨_,rfl⟩
 rw [<-hw2];have HR2:=zz (show DrRep w2 b s lim x vs vo/\Fr (dfoot b vs vo) w w2 from by rw [hw2]; exact⟨HR.out.1.drewN nq,HR.out.2.drewN nq⟩);clear hw2 c2 c7 HR;go_wp2_with fail;refine(AL t.toNat hcb _).mono ?_;rintro r w2x ⟨rfl,hw2x⟩;subst hw2x;rw [HT.out];go_wp2_with fail;go_region
 obtain⟨w3,hw3⟩:∃w3,w3=w2.drew:=⟨_,rfl⟩
 rw [<-hw3];have HR3:=zz (show DrRep w3 b s lim x vs vo/\Fr (dfoot b vs vo) w w3 from by rw [hw3]; exact⟨HR2.out.1.drewN 1,HR2.out.2.drew⟩);clear hw3 HR2;have c5:=HR3.out.1.cells.2.2.2.2.1;have f5:=HR3.out.1.free 5;have ep1:((x.at_+1:Nat):Int)=(x.at_:Int)+1:=by omega
 have hmv:=HR3.out.1.move (x.at_+1);rw [ep1]at hmv;have HMV:=zz (aN hmv (HR3.out.2.setCell (p:=⟨b,5,none⟩) (.inl (.inl rfl)) (.int .i64 ((x.at_:Int)+1))));clear hmv;go_wp2_with fail;refine(AG b s lim _ vs vo _ HMV.out.1 (show x.at_+1<=1000000 by omega)).mono ?_;intro r w4 hpost;unfold LenPost at hpost;rw [show D5.length s lim ({x with at_:=x.at_+1}:D5.Dx).at_= .ok (n,q)from HL.out]at hpost;obtain⟨rfl,hrep,hf⟩:=hpost;have HX:=zz (show DrRep w4 b s lim {x with at_:=q} vs vo/\Fr (dfoot b vs vo) w w4 from⟨hrep,fT HMV.out.2 (It.dfoot (vs:=vs) (vo:=vo) hf) (fun _ _ e=>e)⟩);clear hrep hf HMV c5 f5;obtain⟨g,cap',hv',hc1,hc2,k0,k1,k2,k3,k4,kf⟩:=HX.out.1.top HST.out;obtain⟨go,capo,hvo',ho1,ho2,kk,kfo⟩:=HX.out.1.kids (j:=f.no) HA.out.1;have c5:=HX.out.1.cells.2.2.2.2.1;have c6:=HX.out.1.cells.2.2.2.2.2.1;have c7:=HX.out.1.cells.2.2.2.2.2.2;simp only at c5;rw [hv']at c6;rw [hvo']at c7;unfold maxLen at hc2;have hrl:rest.length<=900:=by have:=congrArg List.length HST.out; simp only [List.length_cons]at this; omega
 have HVV:=zz (aN hv' hvo');have hr1:IntKind.i64.wrap ((rest.length:Int)+1 - 1)=(rest.length:Int):=by rw [show(rest.length:Int)+1 - 1=rest.length by omega]; exact IntWalk.i64_in _ ⟨by omega,by omega⟩
 have hr2:IntKind.i64.wrap (rest.length:Int)=(rest.length:Int):=IntWalk.i64_in _ ⟨by omega,by omega⟩;clear hv' hvo' k0 k1 k4 kf;go_upto_region 17 with fail
 go_region
 obtain⟨w5,hw5⟩:∃w5,w5=(w4.setCell ⟨go,f.no*3+1,none⟩ (.int .i64 (a.kids+1))).drew:=⟨_,rfl⟩
 rw [<-hw5];have HZ:=zz (show DrRep w5 b s lim {x with at_:=q,out:=R5.bump x.out f.no} vs vo/\Fr (dfoot b vs vo) w w5 from by
  have h1:=HX.out.1;rw [HVV.out.2]at h1;have h2:=(h1.bumpAt (j:=f.no) HA.out.1).drewN 1;rw [<-HVV.out.2]at h2;rw [hw5];exact⟨h2,(HX.out.2.setCell (p:=⟨go,f.no*3+1,none⟩) (.inl (.inr (.inr (by rw [HVV.out.2]; rfl)))) _).drew⟩)
 clear hw5 HX c5 c6 c7 k2 k3 kk kfo hr1 hr2 hwk;obtain⟨O,hO⟩:∃O,O=R5.bump x.out f.no:=⟨_,rfl⟩
 have hOl:O.length=x.out.length:=by rw [hO]; unfold R5.bump; exact List.length_modify _ _ _
 have hOb:O.length<=1000000:=by rw [hOl]; exact hol
 have HOL:=zz hOl;clear hOl;have HO:=zz (show D5.bumpTop x.out x.stack=O from by rw [HST.out,hO]; rfl);rw [<-hO]at HZ;clear hO;clear HL HST;have hcall:=Cl b (q+n - 1) s lim _ vs vo w5 HZ.out.1 e HW2.out;rw [show((q+n - 1:Nat):Int)=(q:Int)+n - 1 by omega]at hcall;have HCALL:=zz hcall;clear hcall;go_wp2_with fail;refine HCALL.out.mono ?_;rintro r w6 ⟨rfl,hs6⟩;have HF:=zz (fT HZ.out.2 (hs6.fr (dfoot b vs vo)) (fun _ _ e=>e));clear hs6;unfold panics;go_wp2;exact⟨rfl,rfl,HF.out⟩
theorem Ew(s:Bytes)(lim:Lim)(b:Nat)(x:D5.Dx)(vs vo:Value)(w:World)(h:DrRep w b s lim x vs vo)(hx:x.at_<=262144)(hok:DOk s lim x)(t:UInt8)(hc:D5.want s lim x.at_= .ok t.toNat)(hi:¬(x.out.length:Int)=lim.i)(ht:R5.tagE t.toNat=0)(hin:R5.inner t.toNat=false)(n q:Nat)(hl:D5.length s lim (x.at_+1)= .ok (n,q))(f:D5.Fm)(rest:List D5.Fm)(hst:x.stack=f::rest)(hv:¬f.end_<q+n)(hn0:n=0)(hs:s.length<=140737488355327)(hT:∀w2,Fr (dfoot b vs vo) w w2->Tabs w2)(hbd:R5.body t.toNat ((s.take (q+n)).drop q)=false):
  Calls Tryz.prog 101 #[.pointer (some ⟨b,0,none⟩)] w fun r w'=>BegPost w b s lim (dfoot b vs vo) (.error ((x.at_:Int),9)) r w':=by
 have hqb:q<=262144/\n<4294967296:=by
  have h1:=Ai hl;have h2:=hok.may;simp only [Lim.may,Bool.and_eq_true,decide_eq_true_eq]at h2;omega
 have hfm:=hok.no f (by rw [hst]; exact List.mem_cons_self);obtain⟨a,ha⟩:∃a,x.out[f.no]?=some a:=⟨_,List.getElem?_eq_getElem hfm.1⟩
 have hka:=hok.kids a (List.mem_of_getElem? ha);have hcb:=(Ak hc).2.2.1;have HW:=zz (Ap b x.at_ s lim x vs vo w h t.toNat hc);have HH:=zz h;have c5:=h.cells.2.2.2.2.1;obtain⟨oa,oc,hov,_⟩:=h.out.len;have HOV:=zz hov;obtain⟨sa,sc,hsv⟩:=h.stackLen;have HSV:=zz hsv;have HOK:=zz hok;have hol:=hok.ol;have hsl:=hok.sl;clear h hc hov hsv hok;have hib:((x.out.length:Int)==lim.i)=false:=bn hi;have HT:=zz ht;have HL:=zz hl;have HST:=zz hst;have hbt:=Bh t.toNat hcb hin;have hq1:=hqb.1;have hn1:=hqb.2;have hvz:¬(f.end_:Int)<(q:Int)+n:=by omega
 have HA:=zz (aN ha hka);have hno:(f.no:Int)<(x.out.length:Int):=by omega
 have hk1:=hka.1;have hk2:=hka.2;have hwk:IntKind.i64.wrap (a.kids+1)=a.kids+1:=IntWalk.i64_in _ ⟨by omega,by omega⟩;clear ha hka hfm hv;have HPQ:=zz (show x.at_<=q by have:=Ai hl; omega);have hqn:q+n<=s.length/\((q+n:Nat):Int)<=lim.b:=by
  have h1:=Ai hl;rw [hn0];omega
 obtain⟨bb,hbb⟩:∃bb,bb=(s.take (q+n)).drop q:=⟨_,rfl⟩
 have hslc:=fun w=>Bc s q (q+n) (Nat.le_add_right _ _) hqn.1 w
 rw [show((q+n:Nat):Int)=(q:Int)+n by omega]at hslc;rw [<-hbb]at hslc hbd;have hbl:bb.length<=140737488355327:=by rw [hbb,List.length_drop,List.length_take]; omega
 have hszb:(ByteArray.mk bb.toArray).size=bb.length:=Ad bb;have hsz:(ByteArray.mk s.toArray).size=s.length:=Ad s;have HBD:=zz hbd;have HQN:=zz (aN hqn (aN hT hs));clear hqn hbb hbd hT hs;have hnz:(n:Int)=0:=by omega
 have HNZ:=zz hnz;have hn0z:¬(0:Int)<n:=by omega
 clear hn0 hnz;clear hi ht hin hl hst hqb;go_enter Tryz.func101,Tryz.ntmps101;go_wp2_with fail;refine HW.out.mono ?_;rintro r w1 ⟨rfl,hs1⟩;have HR:=zz (aN (HH.out.same hs1) (hs1.fr (dfoot b vs vo)));clear hs1 c5;have c2:=HR.out.1.cells.2.2.1;have c7:=HR.out.1.cells.2.2.2.2.2.2;rw [HOV.out]at c7;go_wp2_with fail;go_quiet (fail)
 obtain⟨w2,hw2⟩:∃w2,w2=w1.drewN nq:=⟨_,rfl⟩
 rw [<-hw2];have HR2:=zz (show DrRep w2 b s lim x vs vo/\Fr (dfoot b vs vo) w w2 from by rw [hw2]; exact⟨HR.out.1.drewN nq,HR.out.2.drewN nq⟩);clear hw2 c2 c7 HR;go_wp2_with fail;refine(AL t.toNat hcb _).mono ?_;rintro r w2x ⟨rfl,hw2x⟩;subst hw2x;rw [HT.out];go_wp2_with fail;go_region
 obtain⟨w3,hw3⟩:∃w3,w3=w2.drew:=⟨_,rfl⟩
 rw [<-hw3];have HR3:=zz (show DrRep w3 b s lim x vs vo/\Fr (dfoot b vs vo) w w3 from by rw [hw3]; exact⟨HR2.out.1.drewN 1,HR2.out.2.drew⟩);clear hw3 HR2;have c5:=HR3.out.1.cells.2.2.2.2.1;have f5:=HR3.out.1.free 5;have ep1:((x.at_+1:Nat):Int)=(x.at_:Int)+1:=by omega
 have hmv:=HR3.out.1.move (x.at_+1);rw [ep1]at hmv;have HMV:=zz (aN hmv (HR3.out.2.setCell (p:=⟨b,5,none⟩) (.inl (.inl rfl)) (.int .i64 ((x.at_:Int)+1))));clear hmv;go_wp2_with fail;refine(AG b s lim _ vs vo _ HMV.out.1 (show x.at_+1<=1000000 by omega)).mono ?_;intro r w4 hpost;unfold LenPost at hpost;rw [show D5.length s lim ({x with at_:=x.at_+1}:D5.Dx).at_= .ok (n,q)from HL.out]at hpost;obtain⟨rfl,hrep,hf⟩:=hpost;have HX:=zz (show DrRep w4 b s lim {x with at_:=q} vs vo/\Fr (dfoot b vs vo) w w4 from⟨hrep,fT HMV.out.2 (It.dfoot (vs:=vs) (vo:=vo) hf) (fun _ _ e=>e)⟩);clear hrep hf HMV c5 f5;obtain⟨g,cap',hv',hc1,hc2,k0,k1,k2,k3,k4,kf⟩:=HX.out.1.top HST.out;obtain⟨go,capo,hvo',ho1,ho2,kk,kfo⟩:=HX.out.1.kids (j:=f.no) HA.out.1;have c5:=HX.out.1.cells.2.2.2.2.1;have c6:=HX.out.1.cells.2.2.2.2.2.1;have c7:=HX.out.1.cells.2.2.2.2.2.2;simp only at c5;rw [hv']at c6;rw [hvo']at c7;unfold maxLen at hc2;have hrl:rest.length<=900:=by have:=congrArg List.length HST.out; simp only [List.length_cons]at this; omega
 have HVV:=zz (aN hv' hvo');have hr1:IntKind.i64.wrap ((rest.length:Int)+1 - 1)=(rest.length:Int):=by rw [show(rest.length:Int)+1 - 1=rest.length by omega]; exact IntWalk.i64_in _ ⟨by omega,by omega⟩
 have hr2:IntKind.i64.wrap (rest.length:Int)=(rest.length:Int):=IntWalk.i64_in _ ⟨by omega,by omega⟩;clear hv' hvo' k0 k1 k4 kf;go_upto_region 17 with fail
 go_region
 obtain⟨w5,hw5⟩:∃w5,w5=(w4.setCell ⟨go,f.no*3+1,none⟩ (.int .i64 (a.kids+1))).drew:=⟨_,rfl⟩
 rw [<-hw5];have HZ:=zz (show DrRep w5 b s lim {x with at_:=q,out:=R5.bump x.out f.no} vs vo/\Fr (dfoot b vs vo) w w5 from by
  have h1:=HX.out.1;rw [HVV.out.2]at h1;have h2:=(h1.bumpAt (j:=f.no) HA.out.1).drewN 1;rw [<-HVV.out.2]at h2;rw [hw5];exact⟨h2,(HX.out.2.setCell (p:=⟨go,f.no*3+1,none⟩) (.inl (.inr (.inr (by rw [HVV.out.2]; rfl)))) _).drew⟩)
 clear hw5 HX c5 c6 c7 k2 k3 kk kfo hr1 hr2 hwk;obtain⟨O,hO⟩:∃O,O=R5.bump x.out f.no:=⟨_,rfl⟩
 have hOl:O.length=x.out.length:=by rw [hO]; unfold R5.bump; exact List.length_modify _ _ _
 have hOb:O.length<=1000000:=by rw [hOl]; exact hol
 have HOL:=zz hOl;clear hOl;have HO:=zz (show D5.bumpTop x.out x.stack=O from by rw [HST.out,hO]; rfl);rw [<-hO]at HZ;clear hO;clear HL HST;obtain⟨w6,hw6⟩:∃w6,w6=w5:=⟨_,rfl⟩
 have HZ2:=zz (show DrRep w6 b s lim {x with at_:=q,out:=O} vs vo/\Fr (dfoot b vs vo) w w6 from by rw [hw6]; exact HZ.out);rw [<-hw6];clear hw6;have c0:=HZ2.out.1.cells.1;have c5:=HZ2.out.1.cells.2.2.2.2.1;simp only at c5;have hqz:(q:Int)<=262144:=by omega
 go_wp2_with fail;go_region
 obtain⟨w7,hw7⟩:∃w7,w7=w6.drew:=⟨_,rfl⟩
 rw [<-hw7];have HZ3:=zz (show DrRep w7 b s lim {x with at_:=q,out:=O} vs vo/\Fr (dfoot b vs vo) w w7 from by rw [hw7]; exact⟨HZ2.out.1.drewN 1,HZ2.out.2.drew⟩);clear hw7 c0 c5 HZ2 hslc;go_wp2_with fail;refine(BB t.toNat bb hbl _ (HQN.out.2.1 _ HZ3.out.2)).mono ?_;rintro r w8 ⟨rfl,hs8⟩;rw [HBD.out];have HZ4:=zz (aN (HZ3.out.1.same hs8) (fT HZ3.out.2 (hs8.fr (dfoot b vs vo)) (fun _ _ e=>e)));clear hs8 HZ3;go_wp2;exact⟨rfl,rfl,HZ4.out.2⟩
theorem Ex(s:Bytes)(lim:Lim)(b:Nat)(x:D5.Dx)(vs vo:Value)(w:World)(h:DrRep w b s lim x vs vo)(hx:x.at_<=262144)(hok:DOk s lim x)(t:UInt8)(hc:D5.want s lim x.at_= .ok t.toNat)(hi:¬(x.out.length:Int)=lim.i)(ht:R5.tagE t.toNat=0)(hin:R5.inner t.toNat=false)(n q:Nat)(hl:D5.length s lim (x.at_+1)= .ok (n,q))(f:D5.Fm)(rest:List D5.Fm)(hst:x.stack=f::rest)(hv:¬f.end_<q+n)(hn0:n≠0)(c2:Nat)(hw:D5.want s lim (q+n - 1)= .ok c2)(hs:s.length<=140737488355327)(hT:∀w2,Fr (dfoot b vs vo) w w2->Tabs w2)(hbd:R5.body t.toNat ((s.take (q+n)).drop q)=false):
  Calls Tryz.prog 101 #[.pointer (some ⟨b,0,none⟩)] w fun r w'=>BegPost w b s lim (dfoot b vs vo) (.error ((x.at_:Int),9)) r w':=by
 have hqb:q<=262144/\n<4294967296:=by
  have h1:=Ai hl;have h2:=hok.may;simp only [Lim.may,Bool.and_eq_true,decide_eq_true_eq]at h2;omega
 have hfm:=hok.no f (by rw [hst]; exact List.mem_cons_self);obtain⟨a,ha⟩:∃a,x.out[f.no]?=some a:=⟨_,List.getElem?_eq_getElem hfm.1⟩
 have hka:=hok.kids a (List.mem_of_getElem? ha);have hcb:=(Ak hc).2.2.1;have HW:=zz (Ap b x.at_ s lim x vs vo w h t.toNat hc);have HH:=zz h;have c5:=h.cells.2.2.2.2.1;obtain⟨oa,oc,hov,_⟩:=h.out.len;have HOV:=zz hov;obtain⟨sa,sc,hsv⟩:=h.stackLen;have HSV:=zz hsv;have HOK:=zz hok;have hol:=hok.ol;have hsl:=hok.sl;clear h hc hov hsv hok;have hib:((x.out.length:Int)==lim.i)=false:=bn hi;have HT:=zz ht;have HL:=zz hl;have HST:=zz hst;have hbt:=Bh t.toNat hcb hin;have hq1:=hqb.1;have hn1:=hqb.2;have hvz:¬(f.end_:Int)<(q:Int)+n:=by omega
 have HA:=zz (aN ha hka);have hno:(f.no:Int)<(x.out.length:Int):=by omega
 have hk1:=hka.1;have hk2:=hka.2;have hwk:IntKind.i64.wrap (a.kids+1)=a.kids+1:=IntWalk.i64_in _ ⟨by omega,by omega⟩;clear ha hka hfm hv;have HPQ:=zz (show x.at_<=q by have:=Ai hl; omega);have hqn:q+n<=s.length/\((q+n:Nat):Int)<=lim.b:=by
  have h1:=Ai hl;have h2:=Ak hw;omega
 obtain⟨bb,hbb⟩:∃bb,bb=(s.take (q+n)).drop q:=⟨_,rfl⟩
 have hslc:=fun w=>Bc s q (q+n) (Nat.le_add_right _ _) hqn.1 w
 rw [show((q+n:Nat):Int)=(q:Int)+n by omega]at hslc;rw [<-hbb]at hslc hbd;have hbl:bb.length<=140737488355327:=by rw [hbb,List.length_drop,List.length_take]; omega
 have hszb:(ByteArray.mk bb.toArray).size=bb.length:=Ad bb;have hsz:(ByteArray.mk s.toArray).size=s.length:=Ad s;have HBD:=zz hbd;have HQN:=zz (aN hqn (aN hT hs));clear hqn hbb hbd hT hs;have HW2:=zz hw;have hn0z:(0:Int)<n:=by omega
 clear hw hn0;clear hi ht hin hl hst hqb;go_enter Tryz.func101,Tryz.ntmps101;go_wp2_with fail;refine HW.out.mono ?_;rintro r w1 ⟨rfl,hs1⟩;have HR:=zz (aN (HH.out.same hs1) (hs1.fr (dfoot b vs vo)));clear hs1 c5;have c2:=HR.out.1.cells.2.2.1;have c7:=HR.out.1.cells.2.2.2.2.2.2;rw [HOV.out]at c7;go_wp2_with fail;go_quiet (fail)
 obtain⟨w2,hw2⟩:∃w2,w2=w1.drewN nq:=⟨_,rfl⟩
 rw [<-hw2];have HR2:=zz (show DrRep w2 b s lim x vs vo/\Fr (dfoot b vs vo) w w2 from by rw [hw2]; exact⟨HR.out.1.drewN nq,HR.out.2.drewN nq⟩);clear hw2 c2 c7 HR;go_wp2_with fail;refine(AL t.toNat hcb _).mono ?_;rintro r w2x ⟨rfl,hw2x⟩;subst hw2x;rw [HT.out];go_wp2_with fail;go_region
 obtain⟨w3,hw3⟩:∃w3,w3=w2.drew:=⟨_,rfl⟩
 rw [<-hw3];have HR3:=zz (show DrRep w3 b s lim x vs vo/\Fr (dfoot b vs vo) w w3 from by rw [hw3]; exact⟨HR2.out.1.drewN 1,HR2.out.2.drew⟩);clear hw3 HR2;have c5:=HR3.out.1.cells.2.2.2.2.1;have f5:=HR3.out.1.free 5;have ep1:((x.at_+1:Nat):Int)=(x.at_:Int)+1:=by omega
 have hmv:=HR3.out.1.move (x.at_+1);rw [ep1]at hmv;have HMV:=zz (aN hmv (HR3.out.2.setCell (p:=⟨b,5,none⟩) (.inl (.inl rfl)) (.int .i64 ((x.at_:Int)+1))));clear hmv;go_wp2_with fail;refine(AG b s lim _ vs vo _ HMV.out.1 (show x.at_+1<=1000000 by omega)).mono ?_;intro r w4 hpost;unfold LenPost at hpost;rw [show D5.length s lim ({x with at_:=x.at_+1}:D5.Dx).at_= .ok (n,q)from HL.out]at hpost;obtain⟨rfl,hrep,hf⟩:=hpost;have HX:=zz (show DrRep w4 b s lim {x with at_:=q} vs vo/\Fr (dfoot b vs vo) w w4 from⟨hrep,fT HMV.out.2 (It.dfoot (vs:=vs) (vo:=vo) hf) (fun _ _ e=>e)⟩);clear hrep hf HMV c5 f5;obtain⟨g,cap',hv',hc1,hc2,k0,k1,k2,k3,k4,kf⟩:=HX.out.1.top HST.out;obtain⟨go,capo,hvo',ho1,ho2,kk,kfo⟩:=HX.out.1.kids (j:=f.no) HA.out.1;have c5:=HX.out.1.cells.2.2.2.2.1;have c6:=HX.out.1.cells.2.2.2.2.2.1;have c7:=HX.out.1.cells.2.2.2.2.2.2;simp only at c5;rw [hv']at c6;rw [hvo']at c7;unfold maxLen at hc2;have hrl:rest.length<=900:=by have:=congrArg List.length HST.out; simp only [List.length_cons]at this; omega
 have HVV:=zz (aN hv' hvo');have hr1:IntKind.i64.wrap ((rest.length:Int)+1 - 1)=(rest.length:Int):=by rw [show(rest.length:Int)+1 - 1=rest.length by omega]; exact IntWalk.i64_in _ ⟨by omega,by omega⟩
 have hr2:IntKind.i64.wrap (rest.length:Int)=(rest.length:Int):=IntWalk.i64_in _ ⟨by omega,by omega⟩;clear hv' hvo' k0 k1 k4 kf;go_upto_region 17 with fail
 go_region
 obtain⟨w5,hw5⟩:∃w5,w5=(w4.setCell ⟨go,f.no*3+1,none⟩ (.int .i64 (a.kids+1))).drew:=⟨_,rfl⟩
 rw [<-hw5];have HZ:=zz (show DrRep w5 b s lim {x with at_:=q,out:=R5.bump x.out f.no} vs vo/\Fr (dfoot b vs vo) w w5 from by
  have h1:=HX.out.1;rw [HVV.out.2]at h1;have h2:=(h1.bumpAt (j:=f.no) HA.out.1).drewN 1;rw [<-HVV.out.2]at h2;rw [hw5];exact⟨h2,(HX.out.2.setCell (p:=⟨go,f.no*3+1,none⟩) (.inl (.inr (.inr (by rw [HVV.out.2]; rfl)))) _).drew⟩)
 clear hw5 HX c5 c6 c7 k2 k3 kk kfo hr1 hr2 hwk;obtain⟨O,hO⟩:∃O,O=R5.bump x.out f.no:=⟨_,rfl⟩
 have hOl:O.length=x.out.length:=by rw [hO]; unfold R5.bump; exact List.length_modify _ _ _
 have hOb:O.length<=1000000:=by rw [hOl]; exact hol
 have HOL:=zz hOl;clear hOl;have HO:=zz (show D5.bumpTop x.out x.stack=O from by rw [HST.out,hO]; rfl);rw [<-hO]at HZ;clear hO;clear HL HST;have hcall:=Ap b (q+n - 1) s lim _ vs vo w5 HZ.out.1 c2 HW2.out;rw [show((q+n - 1:Nat):Int)=(q:Int)+n - 1 by omega]at hcall;have HCALL:=zz hcall;clear hcall;go_wp2_with fail;refine HCALL.out.mono ?_;rintro r w6 ⟨rfl,hs6⟩;have HZ2:=zz (show DrRep w6 b s lim {x with at_:=q,out:=O} vs vo/\Fr (dfoot b vs vo) w w6 from⟨HZ.out.1.same hs6,fT HZ.out.2 (hs6.fr (dfoot b vs vo)) (fun _ _ e=>e)⟩);clear hs6;have c0:=HZ2.out.1.cells.1;have c5:=HZ2.out.1.cells.2.2.2.2.1;simp only at c5;have hqz:(q:Int)<=262144:=by omega
 go_wp2_with fail;go_region
 obtain⟨w7,hw7⟩:∃w7,w7=w6.drew:=⟨_,rfl⟩
 rw [<-hw7];have HZ3:=zz (show DrRep w7 b s lim {x with at_:=q,out:=O} vs vo/\Fr (dfoot b vs vo) w w7 from by rw [hw7]; exact⟨HZ2.out.1.drewN 1,HZ2.out.2.drew⟩);clear hw7 c0 c5 HZ2 hslc;go_wp2_with fail;refine(BB t.toNat bb hbl _ (HQN.out.2.1 _ HZ3.out.2)).mono ?_;rintro r w8 ⟨rfl,hs8⟩;rw [HBD.out];have HZ4:=zz (aN (HZ3.out.1.same hs8) (fT HZ3.out.2 (hs8.fr (dfoot b vs vo)) (fun _ _ e=>e)));clear hs8 HZ3;go_wp2;exact⟨rfl,rfl,HZ4.out.2⟩
theorem EZ(s:Bytes)(lim:Lim)(b:Nat)(x:D5.Dx)(vs vo:Value)(w:World)(h:DrRep w b s lim x vs vo)(hx:x.at_<=262144)(hok:DOk s lim x)(t:UInt8)(hc:D5.want s lim x.at_= .ok t.toNat)(hi:¬(x.out.length:Int)=lim.i)(ht:R5.tagE t.toNat=0)(hin:R5.inner t.toNat=false)(n q:Nat)(hl:D5.length s lim (x.at_+1)= .ok (n,q))(f:D5.Fm)(rest:List D5.Fm)(hst:x.stack=f::rest)(hv:¬f.end_<q+n)(hn0:n=0)(hs:s.length<=140737488355327)(hT:∀w2,Fr (dfoot b vs vo) w w2->Tabs w2)(hbd:R5.body t.toNat ((s.take (q+n)).drop q)=true):
  Calls Tryz.prog 101 #[.pointer (some ⟨b,0,none⟩)] w fun r w'=>BegPost w b s lim (dfoot b vs vo) (D5.ended s {at_:=q+n,stack:=x.stack,out:=D5.bumpTop x.out x.stack++ [⟨t,-1,(s.take (q+n)).drop q⟩]} x.at_) r w':=by
 have hqb:q<=262144/\n<4294967296:=by
  have h1:=Ai hl;have h2:=hok.may;simp only [Lim.may,Bool.and_eq_true,decide_eq_true_eq]at h2;omega
 have hfm:=hok.no f (by rw [hst]; exact List.mem_cons_self);obtain⟨a,ha⟩:∃a,x.out[f.no]?=some a:=⟨_,List.getElem?_eq_getElem hfm.1⟩
 have hka:=hok.kids a (List.mem_of_getElem? ha);have hcb:=(Ak hc).2.2.1;have HW:=zz (Ap b x.at_ s lim x vs vo w h t.toNat hc);have HH:=zz h;have c5:=h.cells.2.2.2.2.1;obtain⟨oa,oc,hov,_⟩:=h.out.len;have HOV:=zz hov;obtain⟨sa,sc,hsv⟩:=h.stackLen;have HSV:=zz hsv;have HOK:=zz hok;have hol:=hok.ol;have hsl:=hok.sl;clear h hc hov hsv hok;have hib:((x.out.length:Int)==lim.i)=false:=bn hi;have HT:=zz ht;have HL:=zz hl;have HST:=zz hst;have hbt:=Bh t.toNat hcb hin;have hq1:=hqb.1;have hn1:=hqb.2;have hvz:¬(f.end_:Int)<(q:Int)+n:=by omega
 have HA:=zz (aN ha hka);have hno:(f.no:Int)<(x.out.length:Int):=by omega
 have hk1:=hka.1;have hk2:=hka.2;have hwk:IntKind.i64.wrap (a.kids+1)=a.kids+1:=IntWalk.i64_in _ ⟨by omega,by omega⟩;clear ha hka hfm hv;have HPQ:=zz (show x.at_<=q by have:=Ai hl; omega);have hqn:q+n<=s.length/\((q+n:Nat):Int)<=lim.b:=by
  have h1:=Ai hl;rw [hn0];omega
 obtain⟨bb,hbb⟩:∃bb,bb=(s.take (q+n)).drop q:=⟨_,rfl⟩
 have hslc:=fun w=>Bc s q (q+n) (Nat.le_add_right _ _) hqn.1 w
 rw [show((q+n:Nat):Int)=(q:Int)+n by omega]at hslc;rw [<-hbb]at hslc hbd ⊢;have hbl:bb.length<=140737488355327:=by rw [hbb,List.length_drop,List.length_take]; omega
 have hszb:(ByteArray.mk bb.toArray).size=bb.length:=Ad bb;have hsz:(ByteArray.mk s.toArray).size=s.length:=Ad s;have HBD:=zz hbd;have HQN:=zz (aN hqn (aN hT hs));clear hqn hbb hbd hT hs;have hnz:(n:Int)=0:=by omega
 have HNZ:=zz hnz;have hn0z:¬(0:Int)<n:=by omega
 clear hn0 hnz;clear hi ht hin hl hst hqb;go_enter Tryz.func101,Tryz.ntmps101;go_wp2_with fail;refine HW.out.mono ?_;rintro r w1 ⟨rfl,hs1⟩;have HR:=zz (aN (HH.out.same hs1) (hs1.fr (dfoot b vs vo)));clear hs1 c5;have c2:=HR.out.1.cells.2.2.1;have c7:=HR.out.1.cells.2.2.2.2.2.2;rw [HOV.out]at c7;go_wp2_with fail;go_quiet (fail)
 obtain⟨w2,hw2⟩:∃w2,w2=w1.drewN nq:=⟨_,rfl⟩
 rw [<-hw2];have HR2:=zz (show DrRep w2 b s lim x vs vo/\Fr (dfoot b vs vo) w w2 from by rw [hw2]; exact⟨HR.out.1.drewN nq,HR.out.2.drewN nq⟩);clear hw2 c2 c7 HR;go_wp2_with fail;refine(AL t.toNat hcb _).mono ?_;rintro r w2x ⟨rfl,hw2x⟩;subst hw2x;rw [HT.out];go_wp2_with fail;go_region
 obtain⟨w3,hw3⟩:∃w3,w3=w2.drew:=⟨_,rfl⟩
 rw [<-hw3];have HR3:=zz (show DrRep w3 b s lim x vs vo/\Fr (dfoot b vs vo) w w3 from by rw [hw3]; exact⟨HR2.out.1.drewN 1,HR2.out.2.drew⟩);clear hw3 HR2;have c5:=HR3.out.1.cells.2.2.2.2.1;have f5:=HR3.out.1.free 5;have ep1:((x.at_+1:Nat):Int)=(x.at_:Int)+1:=by omega
 have hmv:=HR3.out.1.move (x.at_+1);rw [ep1]at hmv;have HMV:=zz (aN hmv (HR3.out.2.setCell (p:=⟨b,5,none⟩) (.inl (.inl rfl)) (.int .i64 ((x.at_:Int)+1))));clear hmv;go_wp2_with fail;refine(AG b s lim _ vs vo _ HMV.out.1 (show x.at_+1<=1000000 by omega)).mono ?_;intro r w4 hpost;unfold LenPost at hpost;rw [show D5.length s lim ({x with at_:=x.at_+1}:D5.Dx).at_= .ok (n,q)from HL.out]at hpost;obtain⟨rfl,hrep,hf⟩:=hpost;have HX:=zz (show DrRep w4 b s lim {x with at_:=q} vs vo/\Fr (dfoot b vs vo) w w4 from⟨hrep,fT HMV.out.2 (It.dfoot (vs:=vs) (vo:=vo) hf) (fun _ _ e=>e)⟩);clear hrep hf HMV c5 f5;obtain⟨g,cap',hv',hc1,hc2,k0,k1,k2,k3,k4,kf⟩:=HX.out.1.top HST.out;obtain⟨go,capo,hvo',ho1,ho2,kk,kfo⟩:=HX.out.1.kids (j:=f.no) HA.out.1;have c5:=HX.out.1.cells.2.2.2.2.1;have c6:=HX.out.1.cells.2.2.2.2.2.1;have c7:=HX.out.1.cells.2.2.2.2.2.2;simp only at c5;rw [hv']at c6;rw [hvo']at c7;unfold maxLen at hc2;have hrl:rest.length<=900:=by have:=congrArg List.length HST.out; simp only [List.length_cons]at this; omega
 have HVV:=zz (aN hv' hvo');have hr1:IntKind.i64.wrap ((rest.length:Int)+1 - 1)=(rest.length:Int):=by rw [show(rest.length:Int)+1 - 1=rest.length by omega]; exact IntWalk.i64_in _ ⟨by omega,by omega⟩
 have hr2:IntKind.i64.wrap (rest.length:Int)=(rest.length:Int):=IntWalk.i64_in _ ⟨by omega,by omega⟩;clear hv' hvo' k0 k1 k4 kf;go_upto_region 17 with fail
 go_region
 obtain⟨w5,hw5⟩:∃w5,w5=(w4.setCell ⟨go,f.no*3+1,none⟩ (.int .i64 (a.kids+1))).drew:=⟨_,rfl⟩
 rw [<-hw5];have HZ:=zz (show DrRep w5 b s lim {x with at_:=q,out:=R5.bump x.out f.no} vs vo/\Fr (dfoot b vs vo) w w5 from by
  have h1:=HX.out.1;rw [HVV.out.2]at h1;have h2:=(h1.bumpAt (j:=f.no) HA.out.1).drewN 1;rw [<-HVV.out.2]at h2;rw [hw5];exact⟨h2,(HX.out.2.setCell (p:=⟨go,f.no*3+1,none⟩) (.inl (.inr (.inr (by rw [HVV.out.2]; rfl)))) _).drew⟩)
 clear hw5 HX c5 c6 c7 k2 k3 kk kfo hr1 hr2 hwk;obtain⟨O,hO⟩:∃O,O=R5.bump x.out f.no:=⟨_,rfl⟩
 have hOl:O.length=x.out.length:=by rw [hO]; unfold R5.bump; exact List.length_modify _ _ _
 have hOb:O.length<=1000000:=by rw [hOl]; exact hol
 have HOL:=zz hOl;clear hOl;have HO:=zz (show D5.bumpTop x.out x.stack=O from by rw [HST.out,hO]; rfl);rw [<-hO]at HZ;clear hO;clear HL HST;obtain⟨w6,hw6⟩:∃w6,w6=w5:=⟨_,rfl⟩
 have HZ2:=zz (show DrRep w6 b s lim {x with at_:=q,out:=O} vs vo/\Fr (dfoot b vs vo) w w6 from by rw [hw6]; exact HZ.out);rw [<-hw6];clear hw6;have c0:=HZ2.out.1.cells.1;have c5:=HZ2.out.1.cells.2.2.2.2.1;simp only at c5;have hqz:(q:Int)<=262144:=by omega
 go_wp2_with fail;go_region
 obtain⟨w7,hw7⟩:∃w7,w7=w6.drew:=⟨_,rfl⟩
 rw [<-hw7];have HZ3:=zz (show DrRep w7 b s lim {x with at_:=q,out:=O} vs vo/\Fr (dfoot b vs vo) w w7 from by rw [hw7]; exact⟨HZ2.out.1.drewN 1,HZ2.out.2.drew⟩);clear hw7 c0 c5 HZ2 hslc;go_wp2_with fail;refine(BB t.toNat bb hbl _ (HQN.out.2.1 _ HZ3.out.2)).mono ?_;rintro r w8 ⟨rfl,hs8⟩;rw [HBD.out];have HZ4:=zz (aN (HZ3.out.1.same hs8) (fT HZ3.out.2 (hs8.fr (dfoot b vs vo)) (fun _ _ e=>e)));clear hs8 HZ3;have c5:=HZ4.out.1.cells.2.2.2.2.1;have f5:=HZ4.out.1.free 5;have hsum:((q+n:Nat):Int)=(q:Int)+n:=by omega
 have hmv:=HZ4.out.1.move (q+n);rw [hsum]at hmv;obtain⟨w9,hw9⟩:∃w9,w9=w8.setCell ⟨b,5,none⟩ (.int .i64 ((q:Int)+n)):=⟨_,rfl⟩
 have HY:=zz (show DrRep w9 b s lim {x with at_:=q+n,out:=O} vs vo/\Fr (dfoot b vs vo) w w9 from by rw [hw9]; exact⟨hmv,HZ4.out.2.setCell (p:=⟨b,5,none⟩) (.inl (.inl rfl)) _⟩);clear hmv hsum;have HW9:=zz hw9;clear hw9;go_upto_region 27 with fail
 rw [<-HW9.out];clear c5 f5 HZ4 HW9;have hb2:b<w9.heap.size:=HY.out.1.lt;have c7:=HY.out.1.cells.2.2.2.2.2.2;have f7:=HY.out.1.free 7;obtain⟨i0,hi0,hz0,hz1,hz2⟩:=info_parts Tryz.infoNode;have HOW:=zz (show w9.ownsRow 0 90 3 vo O.length (O.flatMap cNode)from HY.out.1.out);go_cut [] (fun wx=>DAfter w9 wx b s lim {x with at_:=q+n,out:=O} ⟨t,-1,bb⟩ vs vo)
 case first=>
  go_wp2_with (at_builtin; go_must (refine wpList_append_lies _ rfl _ _ _ rfl 0 90 i0 _ 3 32 Tryz.underlying47 hi0 hz0 hz1 hz2 rfl (by omega) vo O.length (O.flatMap cNode) rfl (HOW.out.alloc _) ⟨w9.heap.size,0,none⟩ 1 1 (cNode ⟨t,-1,bb⟩) rfl rfl (World.news_of_block (cs:= #[.int .u8 t.toNat,.int .i64 (-1),S bb]) (t:=90) (fr:=(0,0)) (heap_alloc_new w9 _)) (by simp [cNode,Value.oneCell']) (by omega) (by unfold maxLen; omega) (by omega) (by omega) (w9.heap.size+1) (by simp) ?_))
  intro gg cap w1x hown1 hgrow hat hlt;have k7:=Bs hgrow c7 HY.out.1.ob.ne;have e7:=Bt hgrow c7 f7 HY.out.1.ob.ne;go_wp2_with fail;go_meet
  exact HY.out.1.afterOut hown1 (AA hgrow) (hat.elim .inl (fun e=> .inr (by omega)))
 case rest=>
  obtain⟨vo',hy,hyf,hyn⟩:=hcut;have HX:=zz (aN hy (aN hyf hyn));clear hy hyf hyn c7 f7;go_wp2_with fail;refine(B9 b x.at_ s lim _ _ _ ⟨_,_,HX.out.1,rfl⟩ (show x.at_<=q+n by have:=HPQ.out; omega) HQN.out.1.1 (show x.stack.length<=1000 by omega)).mono ?_;intro r w3 hpost;have hB:=C6 (HY.out.2.step (Fresh.refl _ _) HX.out.2.1) (Fresh.trans (Fresh.refl _ _) HY.out.2.size HX.out.2.2) hpost;unfold EndPost at hpost;cases hres:D5.ended s {at_:=q+n,stack:=x.stack,out:=O++ [⟨t,-1,bb⟩]} x.at_ with
  | error e=>
   rw [hres]at hpost hB;obtain⟨rfl,_⟩:=hpost;have HB:=zz hB;have HRES:=zz hres;clear hB hres;unfold panics;go_wp2;exact⟨rfl,by rw [HO.out,HRES.out]; exact HB.out⟩
  | ok y=>
   rw [hres]at hpost hB;obtain⟨rfl,_⟩:=hpost;have HB:=zz hB;have HRES:=zz hres;clear hB hres;go_wp2;exact bodyPost_ret (results_none rfl _ _ _) rfl (by rw [HO.out,HRES.out]; exact HB.out)
theorem E0(s:Bytes)(lim:Lim)(b:Nat)(x:D5.Dx)(vs vo:Value)(w:World)(h:DrRep w b s lim x vs vo)(hx:x.at_<=262144)(hok:DOk s lim x)(t:UInt8)(hc:D5.want s lim x.at_= .ok t.toNat)(hi:¬(x.out.length:Int)=lim.i)(ht:R5.tagE t.toNat=0)(hin:R5.inner t.toNat=false)(n q:Nat)(hl:D5.length s lim (x.at_+1)= .ok (n,q))(f:D5.Fm)(rest:List D5.Fm)(hst:x.stack=f::rest)(hv:¬f.end_<q+n)(hn0:n≠0)(c2:Nat)(hw:D5.want s lim (q+n - 1)= .ok c2)(hs:s.length<=140737488355327)(hT:∀w2,Fr (dfoot b vs vo) w w2->Tabs w2)(hbd:R5.body t.toNat ((s.take (q+n)).drop q)=true):
  Calls Tryz.prog 101 #[.pointer (some ⟨b,0,none⟩)] w fun r w'=>BegPost w b s lim (dfoot b vs vo) (D5.ended s {at_:=q+n,stack:=x.stack,out:=D5.bumpTop x.out x.stack++ [⟨t,-1,(s.take (q+n)).drop q⟩]} x.at_) r w':=by
 have hqb:q<=262144/\n<4294967296:=by
  have h1:=Ai hl;have h2:=hok.may;simp only [Lim.may,Bool.and_eq_true,decide_eq_true_eq]at h2;omega
 have hfm:=hok.no f (by rw [hst]; exact List.mem_cons_self);obtain⟨a,ha⟩:∃a,x.out[f.no]?=some a:=⟨_,List.getElem?_eq_getElem hfm.1⟩
 have hka:=hok.kids a (List.mem_of_getElem? ha);have hcb:=(Ak hc).2.2.1;have HW:=zz (Ap b x.at_ s lim x vs vo w h t.toNat hc);have HH:=zz h;have c5:=h.cells.2.2.2.2.1;obtain⟨oa,oc,hov,_⟩:=h.out.len;have HOV:=zz hov;obtain⟨sa,sc,hsv⟩:=h.stackLen;have HSV:=zz hsv;have HOK:=zz hok;have hol:=hok.ol;have hsl:=hok.sl;clear h hc hov hsv hok;have hib:((x.out.length:Int)==lim.i)=false:=bn hi;have HT:=zz ht;have HL:=zz hl;have HST:=zz hst;have hbt:=Bh t.toNat hcb hin;have hq1:=hqb.1;have hn1:=hqb.2;have hvz:¬(f.end_:Int)<(q:Int)+n:=by omega
 have HA:=zz (aN ha hka);have hno:(f.no:Int)<(x.out.length:Int):=by omega
 have hk1:=hka.1;have hk2:=hka.2;have hwk:IntKind.i64.wrap (a.kids+1)=a.kids+1:=IntWalk.i64_in _ ⟨by omega,by omega⟩;clear ha hka hfm hv;have HPQ:=zz (show x.at_<=q by have:=Ai hl; omega);have hqn:q+n<=s.length/\((q+n:Nat):Int)<=lim.b:=by
  have h1:=Ai hl;have h2:=Ak hw;omega
 obtain⟨bb,hbb⟩:∃bb,bb=(s.take (q+n)).drop q:=⟨_,rfl⟩
 have hslc:=fun w=>Bc s q (q+n) (Nat.le_add_right _ _) hqn.1 w
 rw [show((q+n:Nat):Int)=(q:Int)+n by omega]at hslc;rw [<-hbb]at hslc hbd ⊢;have hbl:bb.length<=140737488355327:=by rw [hbb,List.length_drop,List.length_take]; omega
 have hszb:(ByteArray.mk bb.toArray).size=bb.length:=Ad bb;have hsz:(ByteArray.mk s.toArray).size=s.length:=Ad s;have HBD:=zz hbd;have HQN:=zz (aN hqn (aN hT hs));clear hqn hbb hbd hT hs;have HW2:=zz hw;have hn0z:(0:Int)<n:=by omega
 clear hw hn0;clear hi ht hin hl hst hqb;go_enter Tryz.func101,Tryz.ntmps101;go_wp2_with fail;refine HW.out.mono ?_;rintro r w1 ⟨rfl,hs1⟩;have HR:=zz (aN (HH.out.same hs1) (hs1.fr (dfoot b vs vo)));clear hs1 c5;have c2:=HR.out.1.cells.2.2.1;have c7:=HR.out.1.cells.2.2.2.2.2.2;rw [HOV.out]at c7;go_wp2_with fail;go_quiet (fail)
 obtain⟨w2,hw2⟩:∃w2,w2=w1.drewN nq:=⟨_,rfl⟩
 rw [<-hw2];have HR2:=zz (show DrRep w2 b s lim x vs vo/\Fr (dfoot b vs vo) w w2 from by rw [hw2]; exact⟨HR.out.1.drewN nq,HR.out.2.drewN nq⟩);clear hw2 c2 c7 HR;go_wp2_with fail;refine(AL t.toNat hcb _).mono ?_;rintro r w2x ⟨rfl,hw2x⟩;subst hw2x;rw [HT.out];go_wp2_with fail;go_region
 obtain⟨w3,hw3⟩:∃w3,w3=w2.drew:=⟨_,rfl⟩
 rw [<-hw3];have HR3:=zz (show DrRep w3 b s lim x vs vo/\Fr (dfoot b vs vo) w w3 from by rw [hw3]; exact⟨HR2.out.1.drewN 1,HR2.out.2.drew⟩);clear hw3 HR2;have c5:=HR3.out.1.cells.2.2.2.2.1;have f5:=HR3.out.1.free 5;have ep1:((x.at_+1:Nat):Int)=(x.at_:Int)+1:=by omega
 have hmv:=HR3.out.1.move (x.at_+1);rw [ep1]at hmv;have HMV:=zz (aN hmv (HR3.out.2.setCell (p:=⟨b,5,none⟩) (.inl (.inl rfl)) (.int .i64 ((x.at_:Int)+1))));clear hmv;go_wp2_with fail;refine(AG b s lim _ vs vo _ HMV.out.1 (show x.at_+1<=1000000 by omega)).mono ?_;intro r w4 hpost;unfold LenPost at hpost;rw [show D5.length s lim ({x with at_:=x.at_+1}:D5.Dx).at_= .ok (n,q)from HL.out]at hpost;obtain⟨rfl,hrep,hf⟩:=hpost;have HX:=zz (show DrRep w4 b s lim {x with at_:=q} vs vo/\Fr (dfoot b vs vo) w w4 from⟨hrep,fT HMV.out.2 (It.dfoot (vs:=vs) (vo:=vo) hf) (fun _ _ e=>e)⟩);clear hrep hf HMV c5 f5;obtain⟨g,cap',hv',hc1,hc2,k0,k1,k2,k3,k4,kf⟩:=HX.out.1.top HST.out;obtain⟨go,capo,hvo',ho1,ho2,kk,kfo⟩:=HX.out.1.kids (j:=f.no) HA.out.1;have c5:=HX.out.1.cells.2.2.2.2.1;have c6:=HX.out.1.cells.2.2.2.2.2.1;have c7:=HX.out.1.cells.2.2.2.2.2.2;simp only at c5;rw [hv']at c6;rw [hvo']at c7;unfold maxLen at hc2;have hrl:rest.length<=900:=by have:=congrArg List.length HST.out; simp only [List.length_cons]at this; omega
 have HVV:=zz (aN hv' hvo');have hr1:IntKind.i64.wrap ((rest.length:Int)+1 - 1)=(rest.length:Int):=by rw [show(rest.length:Int)+1 - 1=rest.length by omega]; exact IntWalk.i64_in _ ⟨by omega,by omega⟩
 have hr2:IntKind.i64.wrap (rest.length:Int)=(rest.length:Int):=IntWalk.i64_in _ ⟨by omega,by omega⟩;clear hv' hvo' k0 k1 k4 kf;go_upto_region 17 with fail
 go_region
 obtain⟨w5,hw5⟩:∃w5,w5=(w4.setCell ⟨go,f.no*3+1,none⟩ (.int .i64 (a.kids+1))).drew:=⟨_,rfl⟩
 rw [<-hw5];have HZ:=zz (show DrRep w5 b s lim {x with at_:=q,out:=R5.bump x.out f.no} vs vo/\Fr (dfoot b vs vo) w w5 from by
  have h1:=HX.out.1;rw [HVV.out.2]at h1;have h2:=(h1.bumpAt (j:=f.no) HA.out.1).drewN 1;rw [<-HVV.out.2]at h2;rw [hw5];exact⟨h2,(HX.out.2.setCell (p:=⟨go,f.no*3+1,none⟩) (.inl (.inr (.inr (by rw [HVV.out.2]; rfl)))) _).drew⟩)
 clear hw5 HX c5 c6 c7 k2 k3 kk kfo hr1 hr2 hwk;obtain⟨O,hO⟩:∃O,O=R5.bump x.out f.no:=⟨_,rfl⟩
 have hOl:O.length=x.out.length:=by rw [hO]; unfold R5.bump; exact List.length_modify _ _ _
 have hOb:O.length<=1000000:=by rw [hOl]; exact hol
 have HOL:=zz hOl;clear hOl;have HO:=zz (show D5.bumpTop x.out x.stack=O from by rw [HST.out,hO]; rfl);rw [<-hO]at HZ;clear hO;clear HL HST;have hcall:=Ap b (q+n - 1) s lim _ vs vo w5 HZ.out.1 c2 HW2.out;rw [show((q+n - 1:Nat):Int)=(q:Int)+n - 1 by omega]at hcall;have HCALL:=zz hcall;clear hcall;go_wp2_with fail;refine HCALL.out.mono ?_;rintro r w6 ⟨rfl,hs6⟩;have HZ2:=zz (show DrRep w6 b s lim {x with at_:=q,out:=O} vs vo/\Fr (dfoot b vs vo) w w6 from⟨HZ.out.1.same hs6,fT HZ.out.2 (hs6.fr (dfoot b vs vo)) (fun _ _ e=>e)⟩);clear hs6;have c0:=HZ2.out.1.cells.1;have c5:=HZ2.out.1.cells.2.2.2.2.1;simp only at c5;have hqz:(q:Int)<=262144:=by omega
 go_wp2_with fail;go_region
 obtain⟨w7,hw7⟩:∃w7,w7=w6.drew:=⟨_,rfl⟩
 rw [<-hw7];have HZ3:=zz (show DrRep w7 b s lim {x with at_:=q,out:=O} vs vo/\Fr (dfoot b vs vo) w w7 from by rw [hw7]; exact⟨HZ2.out.1.drewN 1,HZ2.out.2.drew⟩);clear hw7 c0 c5 HZ2 hslc;go_wp2_with fail;refine(BB t.toNat bb hbl _ (HQN.out.2.1 _ HZ3.out.2)).mono ?_;rintro r w8 ⟨rfl,hs8⟩;rw [HBD.out];have HZ4:=zz (aN (HZ3.out.1.same hs8) (fT HZ3.out.2 (hs8.fr (dfoot b vs vo)) (fun _ _ e=>e)));clear hs8 HZ3;have c5:=HZ4.out.1.cells.2.2.2.2.1;have f5:=HZ4.out.1.free 5;have hsum:((q+n:Nat):Int)=(q:Int)+n:=by omega
 have hmv:=HZ4.out.1.move (q+n);rw [hsum]at hmv;obtain⟨w9,hw9⟩:∃w9,w9=w8.setCell ⟨b,5,none⟩ (.int .i64 ((q:Int)+n)):=⟨_,rfl⟩
 have HY:=zz (show DrRep w9 b s lim {x with at_:=q+n,out:=O} vs vo/\Fr (dfoot b vs vo) w w9 from by rw [hw9]; exact⟨hmv,HZ4.out.2.setCell (p:=⟨b,5,none⟩) (.inl (.inl rfl)) _⟩);clear hmv hsum;have HW9:=zz hw9;clear hw9;go_upto_region 27 with fail
 rw [<-HW9.out];clear c5 f5 HZ4 HW9;have hb2:b<w9.heap.size:=HY.out.1.lt;have c7:=HY.out.1.cells.2.2.2.2.2.2;have f7:=HY.out.1.free 7;obtain⟨i0,hi0,hz0,hz1,hz2⟩:=info_parts Tryz.infoNode;have HOW:=zz (show w9.ownsRow 0 90 3 vo O.length (O.flatMap cNode)from HY.out.1.out);go_cut [] (fun wx=>DAfter w9 wx b s lim {x with at_:=q+n,out:=O} ⟨t,-1,bb⟩ vs vo)
 case first=>
  go_wp2_with (at_builtin; go_must (refine wpList_append_lies _ rfl _ _ _ rfl 0 90 i0 _ 3 32 Tryz.underlying47 hi0 hz0 hz1 hz2 rfl (by omega) vo O.length (O.flatMap cNode) rfl (HOW.out.alloc _) ⟨w9.heap.size,0,none⟩ 1 1 (cNode ⟨t,-1,bb⟩) rfl rfl (World.news_of_block (cs:= #[.int .u8 t.toNat,.int .i64 (-1),S bb]) (t:=90) (fr:=(0,0)) (heap_alloc_new w9 _)) (by simp [cNode,Value.oneCell']) (by omega) (by unfold maxLen; omega) (by omega) (by omega) (w9.heap.size+1) (by simp) ?_))
  intro gg cap w1x hown1 hgrow hat hlt;have k7:=Bs hgrow c7 HY.out.1.ob.ne;have e7:=Bt hgrow c7 f7 HY.out.1.ob.ne;go_wp2_with fail;go_meet
  exact HY.out.1.afterOut hown1 (AA hgrow) (hat.elim .inl (fun e=> .inr (by omega)))
 case rest=>
  obtain⟨vo',hy,hyf,hyn⟩:=hcut;have HX:=zz (aN hy (aN hyf hyn));clear hy hyf hyn c7 f7;go_wp2_with fail;refine(B9 b x.at_ s lim _ _ _ ⟨_,_,HX.out.1,rfl⟩ (show x.at_<=q+n by have:=HPQ.out; omega) HQN.out.1.1 (show x.stack.length<=1000 by omega)).mono ?_;intro r w3 hpost;have hB:=C6 (HY.out.2.step (Fresh.refl _ _) HX.out.2.1) (Fresh.trans (Fresh.refl _ _) HY.out.2.size HX.out.2.2) hpost;unfold EndPost at hpost;cases hres:D5.ended s {at_:=q+n,stack:=x.stack,out:=O++ [⟨t,-1,bb⟩]} x.at_ with
  | error e=>
   rw [hres]at hpost hB;obtain⟨rfl,_⟩:=hpost;have HB:=zz hB;have HRES:=zz hres;clear hB hres;unfold panics;go_wp2;exact⟨rfl,by rw [HO.out,HRES.out]; exact HB.out⟩
  | ok y=>
   rw [hres]at hpost hB;obtain⟨rfl,_⟩:=hpost;have HB:=zz hB;have HRES:=zz hres;clear hB hres;go_wp2;exact bodyPost_ret (results_none rfl _ _ _) rfl (by rw [HO.out,HRES.out]; exact HB.out)
end Go.Proofs.YtpfhollohodcjaaGreatDoor
