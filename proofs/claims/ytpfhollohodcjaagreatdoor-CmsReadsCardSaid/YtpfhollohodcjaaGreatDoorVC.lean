import Derived.Test.YtpfhollohodcjaaGreatDoorVB
import Derived.Test.YtpfhollohodcjaaGreatDoorVA
import Derived.Laws.BitsAllLaws
import Derived.WalkLawsBesides
import Derived.WalkSpells
set_option maxRecDepth 100000
set_option maxHeartbeats 2000000
namespace Go.Proofs.YtpfhollohodcjaaGreatDoor
open Go.RowKit Go.Px
def cNode(a:Px.Node):List Value:=[.int .u8 a.tag.toNat,.int .i64 a.kids,S a.body]
def cFm5(x:D5.Fm):List Value:=[.int .u8 x.tag.toNat,.int .i64 (x.at_:Nat),.int .i64 (x.end_:Nat),.int .i64 (x.no:Nat),S x.last]
theorem AF(a:Px.Node):(cNode a).length=3:=rfl
theorem EK(a:D5.Fm):(cFm5 a).length=5:=rfl
def drCells(s:Bytes)(lim:Lim)(a:Nat)(vs vo:Value):Array Value:= #[S s,.int .i64 lim.d,.int .i64 lim.i,.int .i64 lim.b,.int .i64 lim.r,.int .i64 (a:Nat),vs,vo]
structure DrRep (w:World) (b:Nat) (s:Bytes) (lim:Lim) (x:D5.Dx) (vs vo:Value):Prop where
 blk:w.heap[b]?=some (.cells (drCells s lim x.at_ vs vo) 108 (0,0))
 stack:Owns w 165 5 cFm5 vs x.stack.reverse
 out:Owns w 90 3 cNode vo x.out
 sb:Apart vs.ownBlock (some b)
 ob:Apart vo.ownBlock (some b)
 so:Apart vs.ownBlock vo.ownBlock
def dfoot(b:Nat)(vs vo:Value)(k:Nat):Prop:=k=b\/vs.ownBlock=some k\/vo.ownBlock=some k
def DrAt(w:World)(b:Nat)(s:Bytes)(lim:Lim)(x:D5.Dx)(F:Nat->Prop):Prop:=∃vs vo,DrRep w b s lim x vs vo/\F=dfoot b vs vo
section
variable {w w' : World} {b : Nat} {s : Bytes} {lim : Lim} {x : D5.Dx} {vs vo : Value}
theorem DrRep.cells(h:DrRep w b s lim x vs vo):w.cell? ⟨b,0,none⟩=some (S s)/\w.cell? ⟨b,1,none⟩=some (.int .i64 lim.d)/\w.cell? ⟨b,2,none⟩=some (.int .i64 lim.i)/\w.cell? ⟨b,3,none⟩=some (.int .i64 lim.b)/\
  w.cell? ⟨b,5,none⟩=some (.int .i64 (x.at_:Nat))/\w.cell? ⟨b,6,none⟩=some vs/\w.cell? ⟨b,7,none⟩=some vo:=
 ⟨Ab h.blk 0 rfl,Ab h.blk 1 rfl,Ab h.blk 2 rfl,Ab h.blk 3 rfl,Ab h.blk 5 rfl,Ab h.blk 6 rfl,Ab h.blk 7 rfl⟩
theorem DrRep.free(h:DrRep w b s lim x vs vo)(i:Nat):w.frozen? ⟨b,i,none⟩=false:=AZ h.blk i
theorem DrRep.lt(h:DrRep w b s lim x vs vo):b<w.heap.size:=Au h.blk
theorem DrRep.footLt(h:DrRep w b s lim x vs vo):∀k,dfoot b vs vo k->k<w.heap.size:=by
 rintro k (rfl | hk | hk)
 ·exact h.lt
 ·exact h.stack.lt hk
 ·exact h.out.lt hk
theorem DrRep.keep(h:DrRep w b s lim x vs vo)(hk:∀k,dfoot b vs vo k->w'.heap[k]?=w.heap[k]?):DrRep w' b s lim x vs vo:=
 ⟨(hk b (.inl rfl)).trans h.blk,h.stack.keep (fun k e=>hk k (.inr (.inl e))),h.out.keep (fun k e=>hk k (.inr (.inr e))),h.sb,h.ob,h.so⟩
theorem DrRep.same(h:DrRep w b s lim x vs vo)(hs:Same w w'):DrRep w' b s lim x vs vo:=h.keep fun k hk=>hs.block k (h.footLt k hk) (fun x=>x)
theorem DrRep.drewN(h:DrRep w b s lim x vs vo)(n:Nat):DrRep (w.drewN n) b s lim x vs vo:=h.keep fun _ _=>rfl
theorem DrRep.move(h:DrRep w b s lim x vs vo)(q:Nat):DrRep (w.setCell ⟨b,5,none⟩ (.int .i64 (q:Nat))) b s lim {x with at_:=q} vs vo:=
 ⟨by rw [heap_setCell_same w b 5 _ _ _ h.blk]; rfl,h.stack.setCell (p:=⟨b,5,none⟩) h.sb.ne _,h.out.setCell (p:=⟨b,5,none⟩) h.ob.ne _,h.sb,h.ob,h.so⟩
end
def fltV(e:D5.Flt):Value:= .iface 103 (.agg #[.int .i64 e.1,.int .i64 e.2])
def panics(e:D5.Flt):Ending:= .panicked [{v:=fltV e,recovered:=false}]
theorem Cl(b p:Nat)(s:Bytes)(lim:Lim)(x:D5.Dx)(vs vo:Value)(w:World)(h:DrRep w b s lim x vs vo)(e:D5.Flt)(he:D5.want s lim p= .error e):
  Calls Tryz.prog 60 #[.pointer (some ⟨b,0,none⟩),.int .i64 (p:Nat)] w fun r w'=>r=panics e/\Same w w':=by
 have hsz:(ByteArray.mk s.toArray).size=s.length:=Ad s;obtain⟨c0,_,_,c3,_,_,_⟩:=h.cells;clear h;unfold D5.want at he;have hm:¬(p:Int)<min (s.length:Int) lim.b:=by
  intro hh;rw [if_pos (by omega)]at he;cases he
 rw [if_neg (by omega)]at he;by_cases h2:lim.b<s.length
 ·rw [if_pos h2]at he;simp only [Except.error.injEq]at he;subst he;go_enter Tryz.func60,Tryz.ntmps60;go_wp2;go_region
  go_wp2;go_region
  go_wp2;exact⟨rfl,rfl,(fR _ w).drew.drew⟩
 ·rw [if_neg h2]at he;simp only [Except.error.injEq]at he;subst he;go_enter Tryz.func60,Tryz.ntmps60;go_wp2;go_region
  go_wp2;go_region
  go_wp2;exact⟨rfl,rfl,(fR _ w).drew.drew⟩
theorem Ap(b p:Nat)(s:Bytes)(lim:Lim)(x:D5.Dx)(vs vo:Value)(w:World)(h:DrRep w b s lim x vs vo)(c:Nat)(he:D5.want s lim p= .ok c):
  Calls Tryz.prog 60 #[.pointer (some ⟨b,0,none⟩),.int .i64 (p:Nat)] w fun r w'=>r= .returned (.int .u8 (c:Nat))/\Same w w':=by
 have hsz:(ByteArray.mk s.toArray).size=s.length:=Ad s;obtain⟨c0,_,_,c3,_,_,_⟩:=h.cells;clear h;unfold D5.want at he;by_cases h1:(p:Int)<s.length/\(p:Int)<lim.b
 ·rw [if_pos h1]at he;simp only [Except.ok.injEq]at he;have hix:∀w,(Instr.index 9 (S s) (.int .i64 (p:Nat))).run Tryz.prog w= .ok (.int .u8 (c:Nat)) w:=fun w=>by rw [<-he]; exact AK s p (by omega) w
  clear he;obtain⟨ha,hb⟩:=h1;by_cases h2:lim.b<(s.length:Int)
  all_goals
   go_enter Tryz.func60,Tryz.ntmps60;go_wp2;go_region
   go_wp2;go_ret;exact⟨rfl,(fR _ w).drew⟩
 ·rw [if_neg h1]at he
  split at he<;>cases he
def It(b:Nat)(k:Nat):Prop:=k=b
theorem It.set{b i:Nat}{w:World}(v:Value):Fr (It b) w (w.setCell ⟨b,i,none⟩ v):=(fR (It b) w).setCell (p:=⟨b,i,none⟩) (.inl rfl) v
theorem It.dfoot{b:Nat}{w w':World}{vs vo:Value}(hf:Fr (It b) w w'):Fr (dfoot b vs vo) w w':=hf.mono fun _ e=> .inl e
theorem Kf(n c:Nat)(hc:c<256)(hn:n<=16777215):bits .or .i64 ((n:Int)*256) (c:Int)=((256*n+c:Nat):Int):=by
 have h1:n*256<18446744073709551616:=Nat.lt_of_le_of_lt (show n*256<=4294967040 by omega) (by decide);have h2:c<18446744073709551616:=Nat.lt_of_lt_of_le hc (by decide);have h3:((256*n+c:Nat):Int)<=4294967295:=by omega
 have h4:0<=((256*n+c:Nat):Int):=by omega
 have e:((n:Int)*256)=((n*256:Nat):Int):=by omega
 have hx:=Nat.shiftLeft_add_eq_or_of_lt (show c<2 ^ 8 by simpa using hc) n;rw [Nat.shiftLeft_eq,show n*2 ^ 8=n*256 from rfl]at hx;rw [e];show IntKind.i64.wrap ((BitVec.ofInt 64 ((n*256:Nat):Int)||| BitVec.ofInt 64 (c:Int)).toNat:Int)=_;rw [BitVec.toNat_or,ofInt_u64 _ h1,ofInt_u64 c h2,<-hx,Nat.mul_comm n 256];clear hx;exact IntWalk.i64_in _ ⟨by omega,by omega⟩
theorem Ak{s:Bytes}{lim:Lim}{p c:Nat}(h:D5.want s lim p= .ok c):p<s.length/\(p:Int)<lim.b/\c<256/\c=(s.getD p 0).toNat:=by
 unfold D5.want at h;by_cases h1:(p:Int)<s.length/\(p:Int)<lim.b
 ·rw [if_pos h1]at h;simp only [Except.ok.injEq]at h;exact⟨by omega,h1.2,by rw [<-h]; exact UInt8.toNat_lt _,h.symm⟩
 ·rw [if_neg h1]at h
  split at h<;>cases h
def LenPost(w:World)(b:Nat)(s:Bytes)(lim:Lim)(x:D5.Dx)(vs vo:Value)(res:Except D5.Flt (Nat×Nat))(r:Ending)(w':World):Prop:=
 match res with
 | .error e=>r=panics e/\Fr (It b) w w'
 | .ok v=>r= .returned (.int .i64 (v.1:Nat))/\DrRep w' b s lim {x with at_:=v.2} vs vo/\Fr (It b) w w'
def lenFin(p m:Nat)(r:Except D5.Flt Nat):Except D5.Flt (Nat×Nat):=
 match r with
 | .error e=> .error e
 | .ok n=>if n<128 then .error ((p+m:Nat),9)else .ok (n,p+1+m)
theorem Jw{p m n:Nat}(h:n<128):lenFin p m (.ok n)= .error ((p+m:Nat),9):=if_pos h
theorem Kg{p m n:Nat}(h:¬n<128):lenFin p m (.ok n)= .ok (n,p+1+m):=if_neg h
theorem AG(b:Nat)(s:Bytes)(lim:Lim)(x:D5.Dx)(vs vo:Value)(w:World)(h:DrRep w b s lim x vs vo)(hx:x.at_<=1000000):
  Calls Tryz.prog 137 #[.pointer (some ⟨b,0,none⟩)] w fun r w'=>LenPost w b s lim x vs vo (D5.length s lim x.at_) r w':=by
 obtain⟨_,_,_,_,c5,_,_⟩:=h.cells;unfold D5.length;cases hw:D5.want s lim x.at_ with
 | error e=>
  have HW:=zz (Cl b x.at_ s lim x vs vo w h e hw);clear hw h;go_enter Tryz.func137,Tryz.ntmps137;go_wp2_with fail;refine HW.out.mono ?_;rintro r w1 ⟨rfl,hs⟩;have HS:=zz hs;clear hs;unfold panics;go_wp2;exact⟨rfl,rfl,HS.out.fr _⟩
 | ok c=>
  have hcb:=(Ak hw).2.2.1;have HW:=zz (aN (Ap b x.at_ s lim x vs vo w h c hw) h);clear hw h;simp only;by_cases h1:c<128
  ·rw [if_pos h1];have h1z:(c:Int)<128:=by omega
   clear h1;go_enter Tryz.func137,Tryz.ntmps137;go_wp2_with fail;refine HW.out.1.mono ?_;rintro r w1 ⟨rfl,hs⟩;have HR:=zz (aN (HW.out.2.same hs) (hs.fr (It b)));clear hs c5;have c5:=HR.out.1.cells.2.2.2.2.1;have f5:=HR.out.1.free 5;go_wp2;go_ret;exact⟨rfl,HR.out.1.move (x.at_+1),HR.out.2.setCell (p:=⟨b,5,none⟩) (.inl rfl) _⟩
  ·rw [if_neg h1];have h1z:¬(c:Int)<128:=by omega
   by_cases h2:c=128\/132<c
   ·rw [if_pos h2];have h2z:((c:Int)==128)=true\/(((c:Int)==128)=false/\(132:Int)<c):=by
     by_cases e:c=128
     ·exact .inl (by rw [e]; rfl)
     ·exact .inr ⟨by simp; omega,by omega⟩
    clear h1 h2;rcases h2z with h2z | ⟨h2z,h3z⟩
    all_goals
     go_enter Tryz.func137,Tryz.ntmps137;go_wp2_with fail;refine HW.out.1.mono ?_;rintro r w1 ⟨rfl,hs⟩;have HR:=zz (aN (HW.out.2.same hs) (hs.fr (It b)));clear hs c5;have c5:=HR.out.1.cells.2.2.2.2.1;have f5:=HR.out.1.free 5;go_wp2;exact⟨rfl,rfl,HR.out.2.setCell (p:=⟨b,5,none⟩) (.inl rfl) _⟩
   ·rw [if_neg h2];obtain⟨m,hm⟩:∃m,m=c % 128:=⟨_,rfl⟩
    rw [<-hm];change Calls _ _ _ _ fun r w'=>LenPost w b s lim x vs vo (lenFin x.at_ m (D5.lenN s lim m (x.at_+1) true 0)) r w'
    have hm1:1<=m:=by omega
    have hm4:m<=4:=by omega
    have hcm:(c:Int) - 128=(m:Int):=by omega
    have h2z:((c:Int)==128)=false:=by simp; omega
    have h3z:¬(132:Int)<c:=by omega
    have HC:=zz hcm;clear h1 h2 hm hcm;go_enter Tryz.func137,Tryz.ntmps137;go_wp2_with fail;refine HW.out.1.mono ?_;rintro r w1 ⟨rfl,hs⟩;have HR:=zz (aN (HW.out.2.same hs) (hs.fr (It b)));clear hs c5;have c5:=HR.out.1.cells.2.2.2.2.1;have f5:=HR.out.1.free 5;go_wp2;have HM:=zz (aN (HR.out.1.move (x.at_+1)) (HR.out.2.setCell (p:=⟨b,5,none⟩) (.inl rfl) (.int .i64 ((x.at_+1:Nat):Int))));clear c5 f5;go_loopw [4,39] (fun nn i wr=>∃j n:Nat,j<=m/\i= .int .i64 (j:Nat)/\nn= .int .i64 (n:Nat)/\Hid (n<256 ^ j/\DrRep wr b s lim {x with at_:=x.at_+1+j} vs vo/\Fr (It b) w wr/\D5.lenN s lim m (x.at_+1) true 0=D5.lenN s lim (m - j) (x.at_+1+j) (j==0) n)) (fun _ i _=>m - (intOf i).toNat)
    case atStart=>exact⟨0,0,Nat.zero_le _,rfl,rfl,zz ⟨by simp,HM.out.1,HM.out.2,rfl⟩⟩
    case round=>
     clear HM HR;obtain⟨j,n,hj,rfl,rfl,HR⟩:=hrel;obtain⟨hn,hrep,hfr,harg⟩:=HR.out;by_cases hlt:j<m
     ·have hltz:(j:Int)<(c:Int) - 128:=by have:=HC.out; omega
      have hn3:n<=16777215:=by
       have h1:256 ^ j<=256 ^ 3:=Nat.pow_le_pow_right (by omega) (by omega);have h2:(256:Nat) ^ 3=16777216:=rfl;omega
      have c5:=hrep.cells.2.2.2.2.1;have hpj:((x.at_+1+j:Nat):Int)=(x.at_:Int)+1+j:=by omega
      simp only at c5;rw [hpj]at c5;have hs1:D5.lenN s lim (m - j) (x.at_+1+j) (j==0) n=match D5.want s lim (x.at_+1+j)with | .error e=> .error e | .ok c=>if(j==0) && c==0 then .error ((x.at_+1+j:Nat),9)else D5.lenN s lim (m - (j+1)) (x.at_+1+j+1) false (256*n+c):=by
       rw [show m - j=(m - (j+1))+1 by omega];rfl
      cases hw:D5.want s lim (x.at_+1+j)with
      | error e=>
       rw [hw]at hs1;have HE:=zz (harg.trans hs1);have hc:=Cl b (x.at_+1+j) s lim _ vs vo wr hrep e hw;rw [hpj]at hc;have HCC:=zz hc;clear hc hw hs1 harg hrep hn hn3 hpj hfr;go_wp2_with fail;refine HCC.out.mono ?_;rintro r w2 ⟨rfl,hs2⟩;have HS:=zz (fT HR.out.2.2.1 (hs2.fr (It b)) (fun _ _ e=>e));clear hs2;unfold panics;go_wp2;rw [HE.out];exact⟨rfl,rfl,HS.out⟩
      | ok c2=>
       rw [hw]at hs1;simp only at hs1;have hcb2:=(Ak hw).2.2.1;have hc:=Ap b (x.at_+1+j) s lim _ vs vo wr hrep c2 hw;rw [hpj]at hc;have HCC:=zz (aN hc hrep);clear hc hrep;have hor:=Kf n c2 hcb2 hn3;have hwn:IntKind.i64.wrap ((n:Int)*256)=(n:Int)*256:=IntWalk.i64_in _ ⟨by omega,by omega⟩;have hpow:256*n+c2<256 ^ (j+1):=by rw [Nat.pow_succ]; omega
       have hq:(((j:Int)==0)=true/\((c2:Int)==0)=true/\((j==0) && c2==0)=true)\/(((((j:Int)==0)=true/\((c2:Int)==0)=false)\/((j:Int)==0)=false)/\¬((j==0) && c2==0)=true):=by
        by_cases e1:j=0
        ·by_cases e2:c2=0
         ·exact .inl ⟨by simp; omega,by simp; omega,by simp [e1,e2]⟩
         ·exact .inr ⟨.inl ⟨by simp; omega,by simp; omega⟩,by simp [e2]⟩
        ·exact .inr ⟨.inr (by simp; omega),by simp [e1]⟩
       rcases hq with ⟨q1,q2,q3⟩| ⟨q1,q3⟩
       ·rw [if_pos q3]at hs1;have HE:=zz (harg.trans hs1);clear hw hs1 harg hn hn3 hpj hfr q3 hpow hor hwn;go_wp2_with fail;refine HCC.out.1.mono ?_;rintro r w2 ⟨rfl,hs2⟩;have HS:=zz (aN (HCC.out.2.same hs2) (fT HR.out.2.2.1 (hs2.fr (It b)) (fun _ _ e=>e)));clear hs2 c5;have c5:=HS.out.1.cells.2.2.2.2.1;go_wp2;rw [HE.out];exact⟨rfl,rfl,HS.out.2⟩
       ·rw [if_neg q3]at hs1;have HE:=zz (aN (harg.trans hs1) hpow);clear hw hs1 harg hn hn3 hpj hfr q3 hpow;rcases q1 with ⟨q1,q2⟩| q1
        all_goals
         go_wp2_with fail;refine HCC.out.1.mono ?_;rintro r w2 ⟨rfl,hs2⟩;have HS:=zz (aN (HCC.out.2.same hs2) (fT HR.out.2.2.1 (hs2.fr (It b)) (fun _ _ e=>e)));clear hs2 c5;have c5:=HS.out.1.cells.2.2.2.2.1;have f5:=HS.out.1.free 5;have HMV:=zz (HS.out.1.move (x.at_+1+(j+1)));go_wp2;go_roundw
         case rel=>exact⟨j+1,256*n+c2,by omega,by go_num,by go_num,zz ⟨HE.out.2,HMV.out,HS.out.2.setCell (p:=⟨b,5,none⟩) (.inl rfl) _,HE.out.1⟩⟩
         case measure=>simp [intOf]; omega
     ·have hltz:¬(j:Int)<(c:Int) - 128:=by have:=HC.out; omega
      have hje:j=m:=by omega
      subst hje;have hok:D5.lenN s lim j (x.at_+1) true 0= .ok n:=by rw [harg,Nat.sub_self]; rfl
      have HK:=zz (aN hrep hfr);clear harg hn hlt hj hfr;by_cases hl:n<128
      ·have HE:=zz (aN hok hl);have z1:(n:Int)<128:=by omega
       have c5:=HK.out.1.cells.2.2.2.2.1;clear hl hok hrep;go_wp2;rw [HE.out.1,Jw HE.out.2];exact⟨rfl,by unfold panics fltV; rw [show((x.at_+j:Nat):Int)=(x.at_:Int)+1+j - 1 by omega],HK.out.2⟩
      ·have HE:=zz (aN hok hl);have z1:¬(n:Int)<128:=by omega
       clear hl hok hrep;go_wp2;go_ret;rw [HE.out.1,Kg HE.out.2];exact⟨rfl,HK.out.1,HK.out.2⟩
section
variable {w w' : World} {b : Nat} {s : Bytes} {lim : Lim} {x : D5.Dx} {vs vo : Value}
theorem DrRep.stackLen(h:DrRep w b s lim x vs vo):∃a cap,vs= .slice a x.stack.length cap:=by
 obtain⟨a,cap,hv,_⟩:=h.stack.len;exact⟨a,cap,by simpa using hv⟩
theorem DrRep.top{f:D5.Fm}{rest:List D5.Fm}(h:DrRep w b s lim x vs vo)(hs:x.stack=f::rest):
  ∃g cap,vs= .slice (some ⟨g,0,none⟩) (rest.length+1) cap/\rest.length+1<=cap/\cap<=maxLen/\
   w.cell? ⟨g,rest.length*5,none⟩=some (.int .u8 f.tag.toNat)/\w.cell? ⟨g,rest.length*5+1,none⟩=some (.int .i64 (f.at_:Nat))/\
   w.cell? ⟨g,rest.length*5+2,none⟩=some (.int .i64 (f.end_:Nat))/\w.cell? ⟨g,rest.length*5+3,none⟩=some (.int .i64 (f.no:Nat))/\w.cell? ⟨g,rest.length*5+4,none⟩=some (S f.last)/\
   (∀i,w.frozen? ⟨g,i,none⟩=false):=by
 have h':Owns w 165 5 cFm5 vs (rest.reverse++ [f]):=by have:=h.stack; rw [hs]at this; simpa using this
 obtain⟨g,cap,h1,h2,h3,h4,h5⟩:=h'.last EK;rw [List.length_reverse]at h1 h2 h4;exact⟨g,cap,h1,h2,h3,h4 0 _ rfl,h4 1 _ rfl,h4 2 _ rfl,h4 3 _ rfl,h4 4 _ rfl,h5⟩
theorem DrRep.setTop{f y:D5.Fm}{rest:List D5.Fm}{g cap:Nat}(h:DrRep w b s lim x (.slice (some ⟨g,0,none⟩) (rest.length+1) cap) vo)(hs:x.stack=f::rest)(i:Nat)(u:Value)(hc:cFm5 y=(cFm5 f).set i u):
  DrRep (w.setCell ⟨g,rest.length*5+i,none⟩ u) b s lim {x with stack:=y::rest} (.slice (some ⟨g,0,none⟩) (rest.length+1) cap) vo:=by
 have h':Owns w 165 5 cFm5 (.slice (some ⟨g,0,none⟩) (rest.reverse.length+1) cap) (rest.reverse++ [f]):=by have:=h.stack; rw [hs]at this; simpa using this
 have k:=h'.setLast EK i u hc;rw [List.length_reverse]at k;refine⟨?_,by simpa using k,h.out.setCell (p:=⟨g,_,none⟩) (fun e=>h.so g rfl e) u,h.sb,h.ob,h.so⟩;rw [heap_setCell_other _ _ _ _ (fun e=>h.sb g rfl (by rw [e]))];exact h.blk
theorem DrRep.pop{f:D5.Fm}{rest:List D5.Fm}{g cap:Nat}(h:DrRep w b s lim x (.slice (some ⟨g,0,none⟩) (rest.length+1) cap) vo)(hs:x.stack=f::rest):
  DrRep (w.setCell ⟨b,6,none⟩ (.slice (some ⟨g,0,none⟩) rest.length cap)) b s lim {x with stack:=rest} (.slice (some ⟨g,0,none⟩) rest.length cap) vo:=by
 have h':Owns w 165 5 cFm5 (.slice (some ⟨g,0,none⟩) (rest.reverse.length+1) cap) (rest.reverse++ [f]):=by have:=h.stack; rw [hs]at this; simpa using this
 have k:=h'.pop EK;rw [List.length_reverse]at k;refine⟨by rw [heap_setCell_same w b 6 _ _ _ h.blk]; rfl,?_,h.out.setCell (p:=⟨b,6,none⟩) h.ob.ne _,h.sb,h.ob,h.so⟩;have:=k.setCell (p:=⟨b,6,none⟩) h.sb.ne (.slice (some ⟨g,0,none⟩) rest.length cap);have e:({x with stack:=rest}:D5.Dx).stack.reverse=rest.reverse:=rfl;rw [e];unfold Owns at this ⊢;rw [List.length_reverse]at this ⊢;exact this
end
def EndPost(w:World)(b:Nat)(s:Bytes)(lim:Lim)(F:Nat->Prop)(res:Except D5.Flt D5.Dx)(r:Ending)(w':World):Prop:=
 match res with
 | .error e=>r=panics e/\Fr F w w'
 | .ok y=>r= .returned (.tuple #[])/\DrAt w' b s lim y F/\Fr F w w'
theorem B9(b p:Nat)(s:Bytes)(lim:Lim)(x:D5.Dx)(F:Nat->Prop)(w:World)(h:DrAt w b s lim x F)(hp:p<=x.at_)(hx:x.at_<=s.length)(hst:x.stack.length<=1000):
  Calls Tryz.prog 102 #[.pointer (some ⟨b,0,none⟩),.int .i64 (p:Nat)] w fun r w'=>EndPost w b s lim F (D5.ended s x p) r w':=by
 obtain⟨vs,vo,h,rfl⟩:=h;obtain⟨a,cap,hv⟩:=h.stackLen;have c6:=h.cells.2.2.2.2.2.1;rw [hv]at c6;rcases hs:x.stack with _ | ⟨f,rest⟩
 ·rw [hs]at c6;have hr:D5.ended s x p= .ok x:=by simp [D5.ended,hs]
  have H:=zz (aN h hr);clear hr h hs hp hv;go_enter Tryz.func102,Tryz.ntmps102;go_wp2;refine bodyPost_ret (results_none rfl _ _ _) rfl ?_;rw [H.out.2];exact⟨rfl,⟨_,_,H.out.1,rfl⟩,fR _ _⟩
 ·clear c6 hv;have c0:=h.cells.1;have c5:=h.cells.2.2.2.2.1;have c6:=h.cells.2.2.2.2.2.1;obtain⟨g,cap',hv,hc1,hc2,k0,k1,k2,k3,k4,kf⟩:=h.top hs;subst hv;rw [hs]at hst;simp at hst;unfold maxLen at hc2;have n0:((rest.length:Int)+1==0)=false:=by simp; omega
  have hsz:(ByteArray.mk s.toArray).size=s.length:=Ad s;have hslc:=fun w=>Bc s p x.at_ hp hx w
  obtain⟨key,hkey⟩:∃key,key=(s.take x.at_).drop p:=⟨_,rfl⟩
  have hr:D5.ended s x p=if f.tag.toNat==49 then(if Op.bytesLess key f.last then .error (p,9)else .ok {x with stack:= {f with last:=key}::rest})else .ok x:=by simp [D5.ended,hs,hkey]
  rw [<-hkey]at hslc;clear hkey;rw [hr];by_cases hk:(f.tag.toNat==49)=true
  ·rw [if_pos hk];have hk5:((f.tag.toNat:Int)==49)=true:=by simp only [beq_iff_eq]at hk ⊢; omega
   by_cases hle:Op.bytesLess key f.last=true
   ·rw [if_pos hle];have H:=zz h;clear hr h hs hk;go_enter Tryz.func102,Tryz.ntmps102;go_wp2_with fail;go_quiet (fail)
    go_wp2;exact⟨rfl,rfl,(fR _ w).drewN nq⟩
   ·rw [if_neg hle];have hle':Op.bytesLess key f.last=false:=by simpa using hle
    have e1:=fun W (hh:DrRep W b s lim x (.slice (some ⟨g,0,none⟩) (rest.length+1) cap') vo)=>hh.setTop (y:= {f with last:=key}) hs 4 (S key) rfl
    have hfo:dfoot b (.slice (some ⟨g,0,none⟩) (rest.length+1) cap') vo g:= .inr (.inl rfl);have fr1:=fun n=>(Fr.drewN (fR (dfoot b (.slice (some ⟨g,0,none⟩) (rest.length+1) cap') vo) w) n).setCell (p:=⟨g,rest.length*5+4,none⟩) (.inl hfo) (S key)
    have H:=zz (aN h (aN e1 fr1));clear e1 fr1 hr h hs hk hfo hle;go_enter Tryz.func102,Tryz.ntmps102;go_wp2_with fail;go_quiet (fail)
    go_wp2;refine bodyPost_ret (results_none rfl _ _ _) rfl ?_;exact⟨rfl,⟨_,_,H.out.2.1 _ (H.out.1.drewN nq),rfl⟩,H.out.2.2 nq⟩
  ·rw [if_neg hk];have hk5:((f.tag.toNat:Int)==49)=false:=by rw [beq_iff_eq]at hk; rw [beq_eq_false_iff_ne]; omega
   have H:=zz h;clear hr h hs hk hslc;go_enter Tryz.func102,Tryz.ntmps102;go_wp2;refine bodyPost_ret (results_none rfl _ _ _) rfl ?_;exact⟨rfl,⟨_,_,H.out,rfl⟩,fR _ _⟩
def tagP(cl n:Nat)(i:Bool):Int:=if(cl !=0 && cl !=2)|| n==31 || (cl==0 && !R5.plainT n && !R5.manyT n)then 11 else if cl==0 && i !=R5.manyT n then 9 else 0
theorem Fh(t:Nat):R5.tagE t=tagP (t / 64) (t % 32) (R5.inner t):=rfl
theorem Jx(t:Nat)(ht:t<256):bits .and .u8 (t:Int) 32=if R5.inner t then 32 else 0:=by
 have:=u8_and_nat t 32 ht (by decide);rw [show((32:Nat):Int)=32 from rfl]at this;rw [this,show(32:Nat)=2 ^ 5 from rfl,nat_bit];unfold R5.inner;have h2:t / 2 ^ 5 % 2=0\/t / 2 ^ 5 % 2=1:=by omega
 rw [show(2:Nat) ^ 5=32 from rfl]at*;rcases h2 with h2 | h2<;>rw [h2]<;>rfl
theorem AL(t:Nat)(ht:t<256)(w:World):Calls Tryz.prog 127 #[.int .u8 (t:Nat)] w fun r w'=>r= .returned (.int .i64 (R5.tagE t))/\w=w':=by
 rw [Fh];have hb:=Jx t ht;obtain⟨cl,hcl⟩:∃cl,cl=t / 64:=⟨_,rfl⟩
 obtain⟨n,hn⟩:∃n,n=t % 32:=⟨_,rfl⟩
 obtain⟨i,hi⟩:∃i,i=R5.inner t:=⟨_,rfl⟩
 rw [<-hcl,<-hn,<-hi];rw [<-hi]at hb;have h1:(t:Int) / 64=(cl:Int):=by omega
 have h2:(t:Int) % 32=(n:Int):=by omega
 have hc4:cl=0\/cl=2\/(((cl:Int)==2)=false/\((cl:Int)==0)=false/\(cl !=0 && cl !=2)=true):=by
  by_cases e0:cl=0
  ·exact .inl e0
  ·by_cases e2:cl=2
   ·exact .inr (.inl e2)
   ·exact .inr (.inr ⟨by simp; omega,by simp; omega,by simp [e0,e2]⟩)
 have hn32:n<32:=by omega
 clear hcl hn hi;rcases hc4 with rfl | rfl | ⟨c2,c0,c3⟩
 ·have hnn:(n=1\/n=2\/n=3\/n=4\/n=5\/n=6\/n=12)\/(n=16\/n=17)\/(n≠1/\n≠2/\n≠3/\n≠4/\n≠5/\n≠6/\n≠12/\n≠16/\n≠17):=by omega
  rcases hnn with hnn | hnn | ⟨n1,n2,n3,n4,n5,n6,n12,n16,n17⟩
  ·cases i;all_goals
    rcases hnn with rfl | rfl | rfl | rfl | rfl | rfl | rfl
    all_goals
     simp only [if_true,if_false,Bool.false_eq_true]at hb;go_enter Tryz.func127,Tryz.ntmps127;go_wp2;go_ret;exact⟨rfl,rfl⟩
  ·cases i;all_goals
    rcases hnn with rfl | rfl
    all_goals
     simp only [if_true,if_false,Bool.false_eq_true]at hb;go_enter Tryz.func127,Tryz.ntmps127;go_wp2;go_ret;exact⟨rfl,rfl⟩
  ·have z1:((n:Int)==1)=false:=by simp; omega
   have z2:((n:Int)==2)=false:=by simp; omega
   have z3:((n:Int)==3)=false:=by simp; omega
   have z4:((n:Int)==4)=false:=by simp; omega
   have z5:((n:Int)==5)=false:=by simp; omega
   have z6:((n:Int)==6)=false:=by simp; omega
   have z12:((n:Int)==12)=false:=by simp; omega
   have z16:((n:Int)==16)=false:=by simp; omega
   have z17:((n:Int)==17)=false:=by simp; omega
   have HT:=zz (show tagP 0 n i=11 by
    unfold tagP;rw [if_pos];have p1:R5.plainT n=false:=by unfold R5.plainT; simp; omega
    have p2:R5.manyT n=false:=by unfold R5.manyT; simp; omega
    rw [p1,p2];simp)
   clear n1 n2 n3 n4 n5 n6 n12 n16 n17 hb;go_enter Tryz.func127,Tryz.ntmps127;go_wp2;go_ret;rw [HT.out];exact⟨rfl,rfl⟩
 ·by_cases e31:n=31
  ·subst e31;clear hb;go_enter Tryz.func127,Tryz.ntmps127;go_wp2;go_ret;exact⟨rfl,rfl⟩
  ·have z31:((n:Int)==31)=false:=by simp; omega
   have HT:=zz (show tagP 2 n i=0 by
    unfold tagP;rw [if_neg,if_neg]
    ·simp
    ·simp [e31])
   clear hb e31;go_enter Tryz.func127,Tryz.ntmps127;go_wp2;go_ret;rw [HT.out];exact⟨rfl,rfl⟩
 ·have HT:=zz (show tagP cl n i=11 by
   unfold tagP;rw [if_pos];rw [c3];rfl)
  clear hb c3;go_enter Tryz.func127,Tryz.ntmps127;go_wp2;go_ret;rw [HT.out];exact⟨rfl,rfl⟩
end Go.Proofs.YtpfhollohodcjaaGreatDoor
