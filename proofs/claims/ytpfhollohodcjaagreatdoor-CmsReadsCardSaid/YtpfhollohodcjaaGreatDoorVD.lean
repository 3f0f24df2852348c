import Derived.Test.YtpfhollohodcjaaGreatDoorVA
import Derived.Test.YtpfhollohodcjaaGreatDoorVC
set_option maxHeartbeats 4000000
namespace Go.Px.D5
open R5 (oidN bitsN)
theorem Gd:∀(m c i:Nat),bitsN c m i=decide (c / 2 ^ i % 2 ^ m=0)
 | 0,c,i=>by unfold bitsN; rw [Nat.pow_zero,Nat.mod_one,dt rfl]
 | m+1,c,i=>by
  have h2:c / 2 ^ (i+1)=c / 2 ^ i / 2:=by rw [Nat.pow_succ,Nat.div_div_eq_div_mul]
  have h3:c / 2 ^ i % 2 ^ (m+1)=c / 2 ^ i % 2+2*(c / 2 ^ i / 2 % 2 ^ m):=by rw [Nat.pow_succ,Nat.mul_comm (2 ^ m) 2,Nat.mod_mul]
  unfold bitsN;rw [Gd m c (i+1),h2,h3];by_cases h:c / 2 ^ i % 2=1
  ·rw [if_pos (by simpa using h),df (by omega)]
  ·rw [if_neg (by simpa using h)];exact decide_eq_decide.2 (by omega)
def fresh(s:Bytes)(i:Nat):Bool:=i==0 || decide ((s.getD (i - 1) 0).toNat<128)
def oidLoop(s:Bytes):Nat->Nat->Bool
 | 0,_=>true
 | m+1,i=>if(s.getD i 0).toNat==128 && fresh s i then false else oidLoop s m (i+1)
theorem Ge(s:Bytes):∀(m i:Nat),i+m=s.length->oidN (s.drop i) (fresh s i)=(oidLoop s m i && fresh s s.length)
 | 0,i,h=>by
  rw [List.drop_eq_nil_of_le (by omega)];have:i=s.length:=by omega
  rw [this];rfl
 | m+1,i,h=>by
  have hd:s.drop i=s.getD i 0::s.drop (i+1):=by
   rw [List.drop_eq_getElem_cons (show i<s.length by omega),List.getD_eq_getElem?_getD,List.getElem?_eq_getElem (show i<s.length by omega)];rfl
  rw [hd];unfold oidN oidLoop;have hc:((s.getD i 0)==128)=((s.getD i 0).toNat==128):=by
   rw [Bool.eq_iff_iff,beq_iff_eq,beq_iff_eq];exact⟨fun e=>by rw [e]; rfl,fun e=>UInt8.toNat_inj.1 (by rw [e]; rfl)⟩
  rw [hc,Bool.and_comm];by_cases hx:((s.getD i 0).toNat==128 && fresh s i)=true
  ·rw [if_pos hx,if_pos hx]; rfl
  ·rw [if_neg hx,if_neg hx];have hf:fresh s (i+1)=decide ((s.getD i 0).toNat<128):=rfl;rw [<-hf];exact Ge s m (i+1) (by omega)
def body(t:Nat)(s:Bytes):Bool:=
 let n:=s.length
 let a:=(s.getD 0 0).toNat
 let b:=(s.getD 1 0).toNat
 let z:=(s.getD (n - 1) 0).toNat
 if t==1 then s==[0]|| s==[255]
 else if t==2 then n==1 || (decide (1<n) && !(a==0 && decide (b<128)) && !(a==255 && decide (128<=b)))
 else if t==3 then(n==1 && a==0)|| (decide (1<n) && decide (a<8) && z % 2 ^ a==0)
 else if t==5 then n==0
 else if t==6 then(if n==0 || decide (128<=z)then false else oidLoop s n 0)
 else if t==12 then Lib.validD s
 else true
theorem GU(s:Bytes)(c:UInt8):(s==[c])=(s.length==1 && (s.getD 0 0).toNat==c.toNat):=by
 rw [Bool.eq_iff_iff,beq_iff_eq,Bool.and_eq_true,beq_iff_eq,beq_iff_eq];constructor
 ·intro e; rw [e]; exact⟨rfl,rfl⟩
 ·rintro⟨h1,h2⟩
  match s,h1 with
  | [a],_=>rw [UInt8.toNat_inj.1 (show a.toNat=c.toNat from h2)]
theorem MJ(t:Nat)(s:Bytes):body t s=R5.body t s:=by
 have ha:(s.getD 0 0).toNat<256:=(s.getD 0 0).toNat_lt;have hb:(s.getD 1 0).toNat<256:=(s.getD 1 0).toNat_lt;unfold body R5.body;simp only;by_cases h1:(t==1)=true
 ·rw [if_pos h1,if_pos h1,GU,GU,<-Bool.and_or_distrib_left];rfl
 ·rw [if_neg h1,if_neg h1];by_cases h2:(t==2)=true
  ·rw [if_pos h2,if_pos h2];rw [Bool.eq_iff_iff];by_cases hn:s.length<2
   ·rw [if_pos hn];simp only [Bool.or_eq_true,Bool.and_eq_true,beq_iff_eq,decide_eq_true_eq];omega
   ·rw [if_neg hn];simp only [Bool.or_eq_true,Bool.and_eq_true,beq_iff_eq,decide_eq_true_eq,Bool.not_eq_true',bne_iff_ne,Bool.and_eq_false_iff,beq_eq_false_iff_ne,decide_eq_false_iff_not];omega
  ·rw [if_neg h2,if_neg h2];by_cases h3:(t==3)=true
   ·rw [if_pos h3,if_pos h3,Gd,Nat.pow_zero,Nat.div_one];rw [Bool.eq_iff_iff];by_cases hn:s.length<2
    ·rw [if_pos hn];simp only [Bool.or_eq_true,Bool.and_eq_true,beq_iff_eq,decide_eq_true_eq];omega
    ·rw [if_neg hn];by_cases h7:7<(s.getD 0 0).toNat
     ·rw [if_pos h7];simp only [Bool.or_eq_true,Bool.and_eq_true,beq_iff_eq,decide_eq_true_eq,Bool.false_eq_true,iff_false];omega
     ·rw [if_neg h7];simp only [Bool.or_eq_true,Bool.and_eq_true,beq_iff_eq,decide_eq_true_eq];omega
   ·rw [if_neg h3,if_neg h3];by_cases h5:(t==5)=true
    ·rw [if_pos h5,if_pos h5]
    ·rw [if_neg h5,if_neg h5];by_cases h6:(t==6)=true
     ·rw [if_pos h6,if_pos h6];have h:=Ge s s.length 0 (Nat.zero_add _);rw [List.drop_zero]at h;have hf:fresh s 0=true:=rfl;rw [hf]at h;rw [h];unfold fresh;by_cases hn:s.length=0
      ·rw [if_pos (by rw [hn]; rfl),hn]; rfl
      ·have e1:(s.length==0)=false:=by simpa using hn
       have e2:decide (0<s.length)=true:=dt (by omega);rw [e1,e2,Bool.false_or,Bool.false_or,Bool.true_and];by_cases hz:128<=(s.getD (s.length - 1) 0).toNat
       ·rw [if_pos (dt hz),df (by omega),Bool.and_false]
       ·rw [if_neg (by simpa using hz),dt (by omega),Bool.and_true]
     ·rw [if_neg h6,if_neg h6]
end Go.Px.D5
namespace Go.Proofs.YtpfhollohodcjaaGreatDoor
open Go.RowKit Go.Px
theorem CZ(l:List UInt8)(hk:0<l.length)(w:World):(Instr.index 9 (S l) (.int .i64 0)).run Tryz.prog w= .ok (.int .u8 (l.getD 0 0).toNat) w:=AK l 0 hk w
theorem Kh(l:List UInt8)(hk:1<l.length)(w:World):(Instr.index 9 (S l) (.int .i64 1)).run Tryz.prog w= .ok (.int .u8 (l.getD 1 0).toNat) w:=AK l 1 hk w
theorem GV(l:List UInt8)(hk:0<l.length)(w:World):(Instr.index 9 (S l) (.int .i64 ((l.length:Int) - 1))).run Tryz.prog w= .ok (.int .u8 (l.getD (l.length - 1) 0).toNat) w:=by
 have:=AK l (l.length - 1) (by omega) w;rw [show((l.length - 1:Nat):Int)=(l.length:Int) - 1 by omega]at this;exact this
def bodyB(t:Nat)(s:Bytes):Bool:=D5.body t s
theorem NC(s:Bytes)(w:World):Calls Tryz.prog 128 #[.int .u8 1,S s] w fun r w'=>r= .returned (.bool (bodyB 1 s))/\Same w w':=by
 have hsz:(ByteArray.mk s.toArray).size=s.length:=Ad s;by_cases h0:s=[0]
 ·subst h0;clear hsz;go_enter Tryz.func128,Tryz.ntmps128;go_wp2;go_ret;exact⟨rfl,sE _⟩
 ·by_cases h1:s=[255]
  ·subst h1;clear hsz;go_enter Tryz.func128,Tryz.ntmps128;go_wp2;go_ret;exact⟨rfl,sE _⟩
  ·have HB:=zz (show bodyB 1 s=false by show(s==[0]|| s==[255])=false; simp [h0,h1]);have z0:(s==[0])=false:=by simpa using h0
   have z1:(s==[255])=false:=by simpa using h1
   go_enter Tryz.func128,Tryz.ntmps128;go_wp2;go_ret;exact⟨by rw [HB.out]; rfl,sE _⟩
theorem Ik(s:Bytes)(h1:1<s.length)(a c:Nat)(ha:a=(s.getD 0 0).toNat)(hc:c=(s.getD 1 0).toNat):
  (((a:Int)==0)=true/\((a:Int)==255)=false/\(c:Int)<128/\¬(128:Int)<=c/\bodyB 2 s=false)\/
  (((a:Int)==0)=true/\((a:Int)==255)=false/\¬(c:Int)<128/\(128:Int)<=c/\bodyB 2 s=true)\/
  (((a:Int)==0)=false/\((a:Int)==255)=true/\(c:Int)<128/\¬(128:Int)<=c/\bodyB 2 s=true)\/
  (((a:Int)==0)=false/\((a:Int)==255)=true/\¬(c:Int)<128/\(128:Int)<=c/\bodyB 2 s=false)\/
  (((a:Int)==0)=false/\((a:Int)==255)=false/\bodyB 2 s=true):=by
 have HB:bodyB 2 s=(s.length==1 || (decide (1<s.length) && !(a==0 && decide (c<128)) && !(a==255 && decide (128<=c)))):=by rw [ha,hc]; rfl
 have n1:(s.length==1)=false:=bn (by omega);rw [n1,dt h1]at HB;rw [HB];clear HB ha hc;by_cases e0:a=0
 ·subst e0;by_cases e3:c<128
  ·exact .inl ⟨rfl,rfl,by omega,by omega,by simp [e3]⟩
  ·exact .inr (.inl ⟨rfl,rfl,by omega,by omega,by simp [e3]⟩)
 ·by_cases e2:a=255
  ·subst e2;by_cases e3:c<128
   ·exact .inr (.inr (.inl ⟨rfl,rfl,by omega,by omega,by simp; omega⟩))
   ·exact .inr (.inr (.inr (.inl ⟨rfl,rfl,by omega,by omega,by simp; omega⟩)))
  ·exact .inr (.inr (.inr (.inr ⟨by simp; omega,by simp; omega,by simp [e0,e2]⟩)))
theorem NE(s:Bytes)(w:World):Calls Tryz.prog 128 #[.int .u8 2,S s] w fun r w'=>r= .returned (.bool (bodyB 2 s))/\Same w w':=by
 have hsz:(ByteArray.mk s.toArray).size=s.length:=Ad s;by_cases h1:1<s.length
 ·have i0:=CZ s (by omega);have i1:=Kh s h1;obtain⟨a,ha⟩:∃a,a=(s.getD 0 0).toNat:=⟨_,rfl⟩
  obtain⟨c,hc⟩:∃c,c=(s.getD 1 0).toNat:=⟨_,rfl⟩
  have hq:=Ik s h1 a c ha hc;rw [<-ha]at i0;rw [<-hc]at i1;have n1:((s.length:Int)==1)=false:=bn (by omega);have n2:(1:Int)<(s.length:Int):=by omega
  clear ha hc h1;rcases hq with ⟨q1,q2,q3,q4,HV⟩| ⟨q1,q2,q3,q4,HV⟩| ⟨q1,q2,q3,q4,HV⟩| ⟨q1,q2,q3,q4,HV⟩| ⟨q1,q2,HV⟩
  all_goals
   replace HV:=zz HV;go_enter Tryz.func128,Tryz.ntmps128;go_wp2;go_ret;exact⟨by rw [HV.out]; rfl,sE _⟩
 ·by_cases h2:s.length=1
  ·have HV:=zz (show bodyB 2 s=true by show(s.length==1 || _)=true; rw [h2]; rfl);have n1:((s.length:Int)==1)=true:=beq_iff_eq.2 (by omega);clear h1 h2;go_enter Tryz.func128,Tryz.ntmps128;go_wp2;go_ret;exact⟨by rw [HV.out]; rfl,sE _⟩
  ·have HV:=zz (show bodyB 2 s=false by
    show(s.length==1 || (decide (1<s.length) && _ && _))=false;rw [df h1,show(s.length==1)=false from bn (by omega)];rfl)
   have n1:((s.length:Int)==1)=false:=bn (by omega);have n2:¬(1:Int)<(s.length:Int):=by omega
   clear h1 h2;go_enter Tryz.func128,Tryz.ntmps128;go_wp2;go_ret;exact⟨by rw [HV.out]; rfl,sE _⟩
theorem NF(s:Bytes)(w:World):Calls Tryz.prog 128 #[.int .u8 5,S s] w fun r w'=>r= .returned (.bool (bodyB 5 s))/\Same w w':=by
 have hsz:(ByteArray.mk s.toArray).size=s.length:=Ad s;by_cases h2:s.length=0
 ·have HV:=zz (show bodyB 5 s=true by show(s.length==0)=true; rw [h2]; rfl);have n1:((s.length:Int)==0)=true:=beq_iff_eq.2 (by omega);clear h2;go_enter Tryz.func128,Tryz.ntmps128;go_wp2;go_ret;exact⟨by rw [HV.out]; rfl,sE _⟩
 ·have HV:=zz (show bodyB 5 s=false by show(s.length==0)=false; exact bn h2);have n1:((s.length:Int)==0)=false:=bn (by omega);clear h2;go_enter Tryz.func128,Tryz.ntmps128;go_wp2;go_ret;exact⟨by rw [HV.out]; rfl,sE _⟩
theorem Ki(t:Nat)(ht:t≠1/\t≠2/\t≠3/\t≠5/\t≠6/\t≠12)(s:Bytes)(w:World):Calls Tryz.prog 128 #[.int .u8 (t:Nat),S s] w fun r w'=>r= .returned (.bool (bodyB t s))/\Same w w':=by
 obtain⟨h1,h2,h3,h5,h6,h12⟩:=ht;have HV:=zz (show bodyB t s=true by simp [bodyB,D5.body,h1,h2,h3,h5,h6,h12]);have hsz:(ByteArray.mk s.toArray).size=s.length:=Ad s;have z1:((t:Int)==1)=false:=by simp; omega
 have z2:((t:Int)==2)=false:=by simp; omega
 have z3:((t:Int)==3)=false:=by simp; omega
 have z5:((t:Int)==5)=false:=by simp; omega
 have z6:((t:Int)==6)=false:=by simp; omega
 have z12:((t:Int)==12)=false:=by simp; omega
 clear h1 h2 h3 h5 h6 h12;go_enter Tryz.func128,Tryz.ntmps128;go_wp2;go_ret;exact⟨by rw [HV.out]; rfl,sE _⟩
theorem MK(s:Bytes)(hs:s.length<=9223372036854775807)(w:World)(hT:Tabs w):Calls Tryz.prog 128 #[.int .u8 12,S s] w fun r w'=>r= .returned (.bool (bodyB 12 s))/\Same w w':=by
 have HC:=zz (Ke s w hs hT);have hsz:(ByteArray.mk s.toArray).size=s.length:=Ad s;clear hs hT;go_enter Tryz.func128,Tryz.ntmps128;go_wp2_with fail;refine HC.out.mono ?_;rintro r w1 ⟨rfl,hb⟩;have HB:=zz hb;clear hb;go_wp2;go_ret;exact⟨rfl,Fr.below HB.out⟩
theorem ML(z a:Nat)(hz:z<256)(ha:a<8):(bits .and .u8 (z:Int) (((2:Int) ^ a - 1) % 256)==0)=(decide (a<8) && z % 2 ^ a==0):=by
 have h1:((2:Int) ^ a - 1) % 256=((2 ^ a - 1:Nat):Int)/\2 ^ a - 1<256:=by
  have ha8:a=0\/a=1\/a=2\/a=3\/a=4\/a=5\/a=6\/a=7:=by omega
  rcases ha8 with rfl | rfl | rfl | rfl | rfl | rfl | rfl | rfl<;>exact⟨by decide,by decide⟩
 rw [h1.1,u8_and_nat z _ hz h1.2,Nat.and_two_pow_sub_one_eq_mod,dt ha,Bool.true_and,Bool.eq_iff_iff,beq_iff_eq,beq_iff_eq];omega
theorem Il(s:Bytes)(h1:1<s.length)(a z:Nat)(ha:a=(s.getD 0 0).toNat)(hz:z=(s.getD (s.length - 1) 0).toNat):bodyB 3 s=(decide (a<8) && z % 2 ^ a==0):=by
 have HB:bodyB 3 s=((s.length==1 && a==0)|| (decide (1<s.length) && decide (a<8) && z % 2 ^ a==0)):=by rw [ha,hz]; rfl
 have n1:(s.length==1)=false:=bn (by omega);rw [n1,dt h1]at HB;rw [HB];simp
theorem NG(s:Bytes)(hs:s.length<=140737488355327)(w:World):Calls Tryz.prog 128 #[.int .u8 3,S s] w fun r w'=>r= .returned (.bool (bodyB 3 s))/\Same w w':=by
 have hsz:(ByteArray.mk s.toArray).size=s.length:=Ad s;by_cases h1:1<s.length
 ·have i0:=CZ s (by omega);have i1:=GV s (by omega);have hwr:IntKind.i64.wrap ((s.length:Int) - 1)=(s.length:Int) - 1:=IntWalk.i64_in _ ⟨by omega,by omega⟩;obtain⟨a,ha⟩:∃a,a=(s.getD 0 0).toNat:=⟨_,rfl⟩
  obtain⟨z,hz⟩:∃z,z=(s.getD (s.length - 1) 0).toNat:=⟨_,rfl⟩
  have HV:=zz (Il s h1 a z ha hz);have hz256:z<256:=by rw [hz]; exact UInt8.toNat_lt _
  rw [<-ha]at i0;rw [<-hz]at i1;have n1:((s.length:Int)==1)=false:=bn (by omega);have n2:(1:Int)<(s.length:Int):=by omega
  clear ha hz h1 hs;by_cases h8:a<8
  ·have q8:(a:Int)<8:=by omega
   go_enter Tryz.func128,Tryz.ntmps128;go_wp2_with fail;go_region
   go_wp2;go_ret;refine⟨?_,(fR _ w).drew⟩;rw [HV.out];exact congrArg (fun b=>Ending.returned (Value.bool b)) (ML z a hz256 h8)
  ·have q8:decide ((a:Int)<8)=false:=df (by omega);have HW:=zz (show bodyB 3 s=false by rw [HV.out,df h8]; rfl);clear HV h8;go_enter Tryz.func128,Tryz.ntmps128;go_wp2_with fail;go_region
   go_wp2;go_ret;exact⟨by rw [HW.out]; rfl,(fR _ w).drew⟩
 ·have HB:bodyB 3 s=((s.length==1 && (s.getD 0 0).toNat==0)|| (decide (1<s.length) && decide ((s.getD 0 0).toNat<8) && (s.getD (s.length - 1) 0).toNat % 2 ^ (s.getD 0 0).toNat==0)):=rfl;rw [df h1,Bool.false_and,Bool.false_and,Bool.or_false]at HB;have n2:decide ((1:Int)<(s.length:Int))=false:=df (by omega);by_cases h2:s.length=1
  ·have i0:=CZ s (by omega);rw [show(s.length==1)=true from beq_iff_eq.2 h2,Bool.true_and]at HB;have n1:((s.length:Int)==1)=true:=beq_iff_eq.2 (by omega);obtain⟨a,ha⟩:∃a,a=(s.getD 0 0).toNat:=⟨_,rfl⟩
   rw [<-ha]at i0 HB;clear ha h1 h2 hs;have hq:(((a:Int)==0)=true/\bodyB 3 s=true)\/(((a:Int)==0)=false/\bodyB 3 s=false):=by
    rw [HB];by_cases e:a=0
    ·exact .inl ⟨beq_iff_eq.2 (by omega),beq_iff_eq.2 e⟩
    ·exact .inr ⟨bn (by omega),bn e⟩
   clear HB;rcases hq with ⟨q,HV⟩| ⟨q,HV⟩
   all_goals
    replace HV:=zz HV;go_enter Tryz.func128,Tryz.ntmps128;go_wp2_with fail;go_region
    go_wp2;go_ret;exact⟨by rw [HV.out]; rfl,(fR _ w).drew⟩
  ·rw [show(s.length==1)=false from bn h2,Bool.false_and]at HB;have HV:=zz HB;have n1:((s.length:Int)==1)=false:=bn (by omega);clear HB h1 h2 hs;go_enter Tryz.func128,Tryz.ntmps128;go_wp2_with fail;go_region
   go_wp2;go_ret;exact⟨by rw [HV.out]; rfl,(fR _ w).drew⟩
theorem Lt(s:Bytes)(n k:Nat)(hk:k<n):D5.oidLoop s (n - k) k=if(s.getD k 0).toNat==128 && D5.fresh s k then false else D5.oidLoop s (n - (k+1)) (k+1):=by
 rw [show n - k=(n - (k+1))+1 by omega];rfl
theorem Kj(s:Bytes)(n k c p:Nat)(hk:k<n)(hc:c=(s.getD k 0).toNat)(hp:p=(s.getD (k - 1) 0).toNat):
  (((c:Int)==128)=true/\((k:Int)==0)=true/\D5.oidLoop s (n - k) k=false)\/
  (((c:Int)==128)=true/\((k:Int)==0)=false/\(p:Int)<128/\D5.oidLoop s (n - k) k=false)\/
  (((c:Int)==128)=true/\((k:Int)==0)=false/\¬(p:Int)<128/\D5.oidLoop s (n - k) k=D5.oidLoop s (n - (k+1)) (k+1))\/
  (((c:Int)==128)=false/\D5.oidLoop s (n - k) k=D5.oidLoop s (n - (k+1)) (k+1)):=by
 rw [Lt s n k hk,<-hc];have hf:D5.fresh s k=(k==0 || decide (p<128)):=by rw [hp]; rfl
 rw [hf];clear hc hp hf;by_cases e1:c=128
 ·have b1:((c:Int)==128)=true:=beq_iff_eq.2 (by omega);have b2:(c==128)=true:=beq_iff_eq.2 e1;rw [b2];by_cases e2:k=0
  ·exact .inl ⟨b1,beq_iff_eq.2 (by omega),by rw [show(k==0)=true from beq_iff_eq.2 e2]; rfl⟩
  ·have b3:(k==0)=false:=bn e2;rw [b3];by_cases e3:p<128
   ·exact .inr (.inl ⟨b1,bn (by omega),by omega,by rw [dt e3]; rfl⟩)
   ·exact .inr (.inr (.inl ⟨b1,bn (by omega),by omega,by rw [df e3]; rfl⟩))
 ·exact .inr (.inr (.inr ⟨bn (by omega),by rw [show(c==128)=false from bn e1]; rfl⟩))
theorem NH(s:Bytes)(hs:s.length<=140737488355327)(w:World):Calls Tryz.prog 128 #[.int .u8 6,S s] w fun r w'=>r= .returned (.bool (bodyB 6 s))/\Same w w':=by
 have hsz:(ByteArray.mk s.toArray).size=s.length:=Ad s;have HB:bodyB 6 s=(if s.length==0 || decide (128<=(s.getD (s.length - 1) 0).toNat)then false else D5.oidLoop s s.length 0):=rfl;by_cases h0:s.length=0
 ·rw [show(s.length==0)=true from beq_iff_eq.2 h0]at HB;have HV:=zz HB;have n0:((s.length:Int)==0)=true:=beq_iff_eq.2 (by omega);clear HB h0 hs;go_enter Tryz.func128,Tryz.ntmps128;go_wp2;go_ret;exact⟨by rw [HV.out]; rfl,sE _⟩
 ·rw [show(s.length==0)=false from bn h0,Bool.false_or]at HB;have n0:((s.length:Int)==0)=false:=bn (by omega);have iz:=GV s (by omega);obtain⟨z,hz⟩:∃z,z=(s.getD (s.length - 1) 0).toNat:=⟨_,rfl⟩
  rw [<-hz]at iz HB;clear hz;by_cases hzz:128<=z
  ·rw [dt hzz]at HB;have HV:=zz HB;have q:(128:Int)<=z:=by omega
   clear HB hzz h0;go_enter Tryz.func128,Tryz.ntmps128;go_wp2;go_ret;exact⟨by rw [HV.out]; rfl,sE _⟩
  ·rw [df hzz]at HB;have HV:=zz (show bodyB 6 s=D5.oidLoop s s.length 0 from HB);have q:¬(128:Int)<=z:=by omega
   clear HB hzz;go_enter Tryz.func128,Tryz.ntmps128;go_wp2;go_loop [94] (fun i=>∃k:Nat,k<=s.length/\i= .int .i64 (k:Nat)/\Hid (D5.oidLoop s s.length 0=D5.oidLoop s (s.length - k) k)) (fun i=>s.length - (intOf i).toNat)
   case atStart=>exact⟨0,Nat.zero_le _,rfl,zz rfl⟩
   case round=>
    obtain⟨k,hk,rfl,HR⟩:=hrel;by_cases hlt:k<s.length
    ·have hltz:(k:Int)<(s.length:Int):=by omega
     have ik:=AK s k hlt;obtain⟨c,hc⟩:∃c,c=(s.getD k 0).toNat:=⟨_,rfl⟩
     obtain⟨p,hp⟩:∃p,p=(s.getD (k - 1) 0).toNat:=⟨_,rfl⟩
     have hq:=Kj s s.length k c p hlt hc hp;rw [<-hc]at ik;have ip:((k:Int)==0)=false->∀w,(Instr.index 9 (S s) (.int .i64 ((k:Int) - 1))).run Tryz.prog w= .ok (.int .u8 (p:Nat)) w:=fun e w=>by
      have hk0:k≠0:=by rw [beq_eq_false_iff_ne]at e; omega
      rw [hp,show(k:Int) - 1=((k - 1:Nat):Int) by omega];exact AK s (k - 1) (by omega) w
     clear hc hp;rcases hq with ⟨q1,q2,q3⟩| ⟨q1,q2,q4,q3⟩| ⟨q1,q2,q4,q3⟩| ⟨q1,q3⟩
     ·have HE:=zz q3;clear q3 ip hlt;go_wp2;go_ret;exact⟨by rw [HV.out,HR.out,HE.out]; rfl,sE _⟩
     ·have HE:=zz q3;have ip':=ip q2;clear q3 ip hlt;go_wp2;go_ret;exact⟨by rw [HV.out,HR.out,HE.out]; rfl,sE _⟩
     ·have HE:=zz (HR.out.trans q3);have ip':=ip q2;clear q3 ip;go_wp2;go_round
      case rel=>exact⟨k+1,by omega,by go_num,HE⟩
      case measure=>simp [intOf]; omega
     ·have HE:=zz (HR.out.trans q3);clear q3 ip;go_wp2;go_round
      case rel=>exact⟨k+1,by omega,by go_num,HE⟩
      case measure=>simp [intOf]; omega
    ·have hltz:¬(k:Int)<(s.length:Int):=by omega
     have HE:=zz (show bodyB 6 s=true by rw [HV.out,HR.out,show s.length - k=0 by omega]; rfl);clear hlt;go_wp2;go_ret;exact⟨by rw [HE.out]; rfl,sE _⟩
theorem BB(t:Nat)(s:Bytes)(hs:s.length<=140737488355327)(w:World)(hT:Tabs w):Calls Tryz.prog 128 #[.int .u8 (t:Nat),S s] w fun r w'=>r= .returned (.bool (R5.body t s))/\Same w w':=by
 rw [<-D5.MJ];by_cases h1:t=1
 ·subst h1; exact NC s w
 by_cases h2:t=2
 ·subst h2; exact NE s w
 by_cases h3:t=3
 ·subst h3; exact NG s hs w
 by_cases h5:t=5
 ·subst h5; exact NF s w
 by_cases h6:t=6
 ·subst h6; exact NH s hs w
 by_cases h12:t=12
 ·subst h12; exact MK s (by omega) w hT
 exact Ki t ⟨h1,h2,h3,h5,h6,h12⟩ s w
end Go.Proofs.YtpfhollohodcjaaGreatDoor
