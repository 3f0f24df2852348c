import Derived.Test.YtpfhollohodcjaaGreatDoorWA
import Derived.Test.YtpfhollohodcjaaGreatDoorVP
set_option maxRecDepth 100000
set_option maxHeartbeats 8000000
namespace Go.Proofs.YtpfhollohodcjaaGreatDoor
open Go.RowKit Go.Px Go.Px.Co Go.Px.Cm
abbrev VT:=Value×List Px.Node
def cVT(p:VT):List Value:=[p.1]
theorem Gb(p:VT):(cVT p).length=1:=rfl
structure Row (w:World) (v:Value) (ps:List VT):Prop where
 lies:Lies w 1 cVT v ps
 each:∀p∈ps,Lies w 3 cNode p.1 p.2
theorem Row.same{w w':World}{v:Value}{ps:List VT}(h:Row w v ps)(hs:Same w w'):Row w' v ps:=⟨Lies.same h.lies hs,fun p hp=>Lies.same (h.each p hp) hs⟩
structure MkT (w:World) (t:List Px.Node) (a:Option Addr) (n c:Nat) (w':World):Prop where
 lies:Lies w' 3 cNode (.slice a n c) t
 own:Owns w' 90 3 cNode (.slice a n c) t
 same:Same w w'
 new:∀q,(Value.slice a n c).ownBlock=some q->w.heap.size<=q
theorem DM{w:World}{g:Nat}{T:TypeId}{sz:Nat}{α:Type}{c:α->List Value}{l:List α}(hc:∀a,(c a).length=sz)(hb:w.heap[g]?=some (.cells (l.flatMap c).toArray T (0,0)))(hl:l.length<=maxLen):Lies w sz c (.slice (some ⟨g,0,none⟩) l.length l.length) l:=by
 refine⟨⟨_,_,rfl,Nat.le_refl _,hl⟩,fun j x hj=>⟨g,0,l.length,rfl,Au hb,fun i u hu=>?_⟩⟩;have hi:i<sz:=by rw [<-hc x]; exact(List.getElem?_eq_some_iff.1 hu).1
 have hjl:=(List.getElem?_eq_some_iff.1 hj).1;refine Ab hb _ ?_;rw [Nat.zero_add,List.getElem?_toArray];have hsplit:l=l.take j++x::l.drop (j+1):=by
  conv=>lhs; rw [<-List.take_append_drop j l]
  rw [List.drop_eq_getElem_cons hjl]
  congr 2
  exact(List.getElem?_eq_some_iff.1 hj).2
 rw [hsplit,List.flatMap_append,List.flatMap_cons,List.getElem?_append_right (by rw [Br hc,List.length_take,Nat.min_eq_left (by omega)]; omega),Br hc,List.length_take,Nat.min_eq_left (by omega),Nat.add_sub_cancel_left,List.getElem?_append_left (by rw [hc]; exact hi)];exact hu
theorem DN{w:World}{g:Nat}{T:TypeId}{sz:Nat}{α:Type}{c:α->List Value}{l:List α}(hc:∀a,(c a).length=sz)(hb:w.heap[g]?=some (.cells (l.flatMap c).toArray T (0,0)))(hl:l.length<=maxLen):Owns w T sz c (.slice (some ⟨g,0,none⟩) l.length l.length) l:=by
 have hL:=Br hc l;refine⟨hL,.inr ⟨g,l.length,(l.flatMap c).toArray,rfl,Nat.zero_le _,hb,Nat.le_refl _,hl,by simpa using hL,?_⟩⟩;rw [List.toList_toArray,<-hL,List.take_length]
theorem Ju(w:World)(t:List Px.Node)(hl:t.length<=maxLen):MkT w t (some ⟨w.heap.size,0,none⟩) t.length t.length (w.alloc (.cells (t.flatMap cNode).toArray 90 (0,0))):=
 ⟨DM AF (heap_alloc_new w _) hl,DN AF (heap_alloc_new w _) hl,(fR _ w).alloc _,fun q e=>by cases e; exact Nat.le_refl _⟩
theorem Bi{w:World}(ps:List VT)(hl:ps.length<=maxLen)(h:∀p∈ps,Lies w 3 cNode p.1 p.2):Row (w.alloc (.cells (ps.flatMap cVT).toArray 80 (0,0))) (.slice (some ⟨w.heap.size,0,none⟩) ps.length ps.length) ps:=
 ⟨DM Gb (heap_alloc_new w _) hl,fun p hp=>Lies.same (h p hp) ((fR _ w).alloc _)⟩
theorem Am(t:UInt8)(b:Bytes)(w:World):Calls Tryz.prog 40 #[.int .u8 (t.toNat:Nat),S b] w fun e w'=>∃a n c,e= .returned (.slice a n c)/\MkT w (lf t b) a n c w':=by
 go_enter Tryz.func40,Tryz.ntmps40;go_wp2;go_ret;exact⟨_,_,_,rfl,Ju w (lf t b) (by simp [lf,maxLen])⟩
theorem BA(t:UInt8)(v:Value)(ps:List VT)(w:World)(h:Row w v ps)(hl:(ps.flatMap (·.2)).length<=1000000000)(hp:ps.length<=1000000000):Calls Tryz.prog 44 #[.int .u8 (t.toNat:Nat),v] w fun e w'=>∃a n c,e= .returned (.slice a n c)/\MkT w (ofT t (ps.map (·.2))) a n c w':=by
 obtain⟨va,vc,hv,hv1,hv2⟩:=h.lies.slice;subst hv;have H:=zz (aN h (aN hl hp));clear h hl hv2;obtain⟨i0,hi0,hz0,hz1,hz2⟩:=info_parts Tryz.infoNode;have hpz:(ps.length:Int)<=1000000000:=by omega
 go_enter Tryz.func44,Tryz.ntmps44;go_upto_region 2 with fail
 obtain⟨w1,hw1⟩:∃w1,w1=w.alloc (.cells #[.int .u8 (t.toNat:Nat),.int .i64 (ps.length:Nat),S []] 90 (0,0)):=⟨_,rfl⟩
 have hm:=Ju w [(⟨t,(ps.length:Int),[]⟩:Px.Node)] (by simp [maxLen]);rw [show w.alloc (.cells (([(⟨t,(ps.length:Int),[]⟩:Px.Node)]:List Px.Node).flatMap cNode).toArray 90 (0,0))=w1 from hw1.symm]at hm;have HM:=zz hm;have HW:=zz hw1;rw [<-hw1];clear hm hw1;go_wp2;go_loopw [5,15] (fun o i wr=>∃(k:Nat) (a:Option Addr) (n c:Nat),k<=ps.length/\i= .int .i64 (k:Nat)/\o= .slice a n c/\Hid (MkT w ((⟨t,(ps.length:Int),[]⟩:Px.Node)::(ps.take k).flatMap (·.2)) a n c wr)) (fun _ i _=>ps.length - (intOf i).toNat)
 case atStart=>exact⟨0,_,_,_,Nat.zero_le _,rfl,rfl,zz HM.out⟩
 case round=>
  obtain⟨k,a,n,c,hk,rfl,rfl,HT⟩:=hrel;by_cases hlt:k<ps.length
  ·have hlz:(k:Int)<(ps.length:Int):=by omega
   obtain⟨p,hpk⟩:∃p,ps[k]?=some p:=⟨_,List.getElem?_eq_getElem hlt⟩
   obtain⟨vb,off,cap,hve,hvb,hc⟩:=(Lies.same H.out.1.lies HT.out.same).cell k p hpk;simp only [Value.slice.injEq,true_and]at hve;obtain⟨rfl,rfl⟩:=hve;have x0:=hc 0 _ rfl;rw [Nat.mul_one,Nat.add_zero]at x0;have hli:=Lies.same (H.out.1.each p (List.mem_of_getElem? hpk)) HT.out.same;obtain⟨pa,pc,hpv,hp1,hp2⟩:=hli.slice;have hsum:((ps.take (k+1)).flatMap (·.2))=(ps.take k).flatMap (·.2)++p.2:=by
    rw [List.take_add_one,hpk];simp [List.flatMap_append]
   have hle:((ps.take k).flatMap (·.2)).length+p.2.length<=1000000000:=by
    have h1:(ps.flatMap (·.2))=(ps.take (k+1)).flatMap (·.2)++(ps.drop (k+1)).flatMap (·.2):=by rw [<-List.flatMap_append,List.take_append_drop]
    have h2:=congrArg List.length h1;rw [hsum,List.length_append,List.length_append]at h2;have:=H.out.2.1;omega
   obtain⟨P0,hP0⟩:∃P0,P0=(⟨t,(ps.length:Int),[]⟩:Px.Node)::(ps.take k).flatMap (·.2):=⟨_,rfl⟩
   obtain⟨pl,hpl⟩:∃pl,pl=p.2:=⟨_,rfl⟩
   have hown:=HT.out.own;rw [<-hP0]at hown;have hn:n=P0.length:=by
    obtain⟨_,_,e,_⟩:=hown.len;cases e;rfl
   subst hn;have hPl:P0.length<=1000000001:=by rw [hP0,List.length_cons]; omega
   have hP1:0<P0.length:=by rw [hP0]; simp
   rw [<-hpl]at hpv hli hle;rw [hpv]at x0 hli;have hsrc:=Lies.src (P:=Tryz.prog) (tx:=80) hli AF (by omega) Tryz.underlying80 (Fd pl);have hpl1:pl.length<=1000000000:=by omega
   have HX:=zz (aN hlt (aN hpk (aN hsum (aN hP0 hpl))));unfold Owns at hown;clear hpk hc hpv hp1 hp2 hsum hle hP0 hpl hli hlt;go_wp2_with (at_builtin; go_must (refine CP rfl _ _ 80 80 rfl 90 i0 _ 3 32 Tryz.underlying80 hi0 hz0 hz1 hz2 rfl (.slice a P0.length c) P0.length _ rfl hown _ pl.length (pl.flatMap cNode) rfl hsrc hP1 (by unfold maxLen; omega) (by omega) ?_))
   intro gg cpp w2 hown2 hgrow hat;have HE:=zz (show MkT w ((⟨t,(ps.length:Int),[]⟩:Px.Node)::(ps.take (k+1)).flatMap (·.2)) (some ⟨gg,0,none⟩) (P0.length+pl.length) cpp w2 from by
    have hP0:=HX.out.2.2.2.1;have hl2:(P0++pl).length=P0.length+pl.length:=List.length_append;have hfm:(P0++pl).flatMap cNode=P0.flatMap cNode++pl.flatMap cNode:=List.flatMap_append;have hO:Owns w2 90 3 cNode (.slice (some ⟨gg,0,none⟩) (P0.length+pl.length) cpp) (P0++pl):=by
     unfold Owns;rw [hl2,hfm];exact hown2
    have hL:P0++pl=(⟨t,(ps.length:Int),[]⟩:Px.Node)::(ps.take (k+1)).flatMap (·.2):=by
     rw [HX.out.2.2.1,hP0,HX.out.2.2.2.2];rfl
    rw [<-hL];refine⟨Owns.lies hO AF,hO,Fr.grown HT.out.same hgrow (fun q hq=> .inr (HT.out.new q hq)),fun q hq=>?_⟩;have hq2:gg=q:=Option.some.inj hq;rcases hat with e | e
    ·exact HT.out.new q (by rw [e,hq2])
    ·have:=HT.out.same.size;omega)
   clear hown2 hgrow hat;go_wp2;go_roundw
   case rel=>exact⟨k+1,_,_,_,HX.out.1,by go_num,rfl,HE⟩
   case measure=>
    show ps.length - (((k:Nat):Int)+1).toNat<ps.length - ((k:Nat):Int).toNat;have:=HX.out.1;omega
  ·have hlz:¬(k:Int)<(ps.length:Int):=by omega
   go_wp2;go_ret;refine⟨a,n,c,rfl,?_⟩;have e:=HT.out;rw [show k=ps.length by omega,List.take_length]at e;unfold ofT;rw [show(ps.map (·.2)).flatten=ps.flatMap (·.2)from(List.flatMap_def ..).symm,List.length_map];exact e
theorem Ef(x:UInt8)(b:Nat)(W:World)(h:W.heap[b]?=some (.cells #[.int .u8 (x.toNat:Nat)] 5 (0,0))):(convert 145 9 (.slice (some ⟨b,0,none⟩) 1 1)).run Tryz.prog W= .ok (S [x]) W:=by
 have:=Owns.str (w:=W) (v:= .slice (some ⟨b,0,none⟩) 1 1) (l:=[x]) ⟨rfl,.inr ⟨b,1,_,rfl,Nat.zero_le _,h,Nat.le_refl _,by unfold maxLen; omega,rfl,by simp [cByte]⟩⟩;exact this
theorem Ib(a b:List UInt8):(ByteArray.mk a.toArray)++(ByteArray.mk b.toArray)=⟨(a++b).toArray⟩:=by
 apply ByteArray.ext;simp
theorem Nx(l:List UInt8)(a:Nat)(ha:a<=l.length)(w:World):
  (Instr.slice 9 (S l) (some (.int .i64 (a:Int))) none none).run Tryz.prog w= .ok (S (l.drop a)) w:=by
 rw [run_slice_string_l w _ _ Tryz.underlying9 _ _ (by omega) (by rw [Ad]; omega),ByteArray.extract_mk];have e1:((a:Int)).toNat=a:=by omega
 rw [e1];simp [Ad];rw [List.take_of_length_le (by simp)]
theorem MkT.from{w W w':World}{t:List Px.Node}{a:Option Addr}{n c:Nat}(h:MkT W t a n c w')(hs:Same w W):MkT w t a n c w':=
 ⟨h.lies,h.own,hs.trans h.same,fun q hq=>Nat.le_trans hs.size (h.new q hq)⟩
def putL(k n:Nat):Bytes:=List.replicate (8 - k) 0++E5.beD k n
theorem Mu(k n:Nat)(hk:k<8):(putL k n).set (7 - k) (UInt8.ofNat (n / 256 ^ k % 256))=putL (k+1) n:=by
 unfold putL;rw [show E5.beD (k+1) n=UInt8.ofNat (n / 256 ^ k % 256)::E5.beD k n from rfl];rw [show 8 - k=(7 - k)+1 by omega,show 8 - (k+1)=7 - k by omega,List.replicate_succ'];rw [List.append_assoc,List.set_append_right _ _ (by simp)];simp
theorem Ic(k n:Nat)(hk:k<=8):(putL k n).length=8:=by
 have h:∀(k n:Nat),(E5.beD k n).length=k:=fun k=>by
  induction k with
  | zero=>intro n; rfl
  | succ k ih=>intro n; rw [show E5.beD (k+1) n=UInt8.ofNat (n / 256 ^ k % 256)::E5.beD k n from rfl,List.length_cons,ih]
 unfold putL;rw [List.length_append,List.length_replicate,h];omega
theorem BP{w wr:World}(k n:Nat)(hk:k<8)(h:Owns wr 5 1 cByte (.slice (some ⟨w.heap.size,0,none⟩) 8 8) (putL k n)/\Same w wr):Owns (wr.setCell ⟨w.heap.size,7 - k,none⟩ (.int .u8 (((UInt8.ofNat (n / 256 ^ k % 256)).toNat:Nat):Int))) 5 1 cByte (.slice (some ⟨w.heap.size,0,none⟩) 8 8) (putL (k+1) n)/\Same w (wr.setCell ⟨w.heap.size,7 - k,none⟩ (.int .u8 (((UInt8.ofNat (n / 256 ^ k % 256)).toNat:Nat):Int))):=by
 refine⟨?_,fC h.2 (p:=⟨w.heap.size,7 - k,none⟩) (.inr (Nat.le_refl _)) _⟩;have e:∀l:Bytes,l.flatMap cByte=l.map fun c=>Value.int .u8 (c.toNat:Nat):=fun l=>by
  induction l with
  | nil=>rfl
  | cons a l ih=>rw [List.flatMap_cons,ih]; rfl
 have hlen:(putL k n).length=8:=Ic k n (by omega);have h1:wr.ownsRow 0 5 1 (.slice (some ⟨w.heap.size,0,none⟩) 8 8) 8 ((putL k n).flatMap cByte):=by
  have:=h.1;unfold Owns at this;rw [hlen]at this;exact this
 unfold Owns;rw [Ic (k+1) n (by omega)];have hs:=(World.ownsRow.stored h1 (7 - k) (.int .u8 (((UInt8.ofNat (n / 256 ^ k % 256)).toNat:Nat):Int))).1;rw [e]at hs ⊢;rw [<-Mu k n hk,List.map_set];exact hs
theorem Mv(n:Nat)(hn:n<18446744073709551616)(w:World):Calls Tryz.prog 86 #[.int .u64 (n:Nat),.int .i64 8] w fun e w'=>e= .returned (.tuple #[S (E5.beD 8 n),.int .i64 0])/\Same w w':=by
 obtain⟨i0,hi0,hz0,hz1,hz2⟩:=info_parts Tryz.infoU8;have hmk:∀W:World,(Instr.makeSlice 145 (.int .i64 8) (.int .i64 8)).run Tryz.prog W= .ok (.slice (some ⟨W.heap.size,0,none⟩) 8 8) (W.alloc (.cells #[.int .u8 0,.int .u8 0,.int .u8 0,.int .u8 0,.int .u8 0,.int .u8 0,.int .u8 0,.int .u8 0] 5 (0,0))):=fun W=>by
  have:=run_make (P:=Tryz.prog) W 145 5 i0 (.int .u8 0) Tryz.underlying145 hi0 hz0 .i64 .i64 8 8 (by omega) (Int.le_refl _) (by rw [hz2]; omega) (by omega);rw [hz1,show madeCells (Value.int IntKind.u8 0).cells (Int.toNat 8*1)= #[.int .u8 0,.int .u8 0,.int .u8 0,.int .u8 0,.int .u8 0,.int .u8 0,.int .u8 0,.int .u8 0] by kernel_rfl]at this;exact this
 have HN:=zz hn;clear hn;go_enter Tryz.func86,Tryz.ntmps86;go_upto_region 4 with fail
 obtain⟨w1,hw1⟩:∃w1,w1=w.alloc (.cells #[.int .u8 0,.int .u8 0,.int .u8 0,.int .u8 0,.int .u8 0,.int .u8 0,.int .u8 0,.int .u8 0] 5 (0,0)):=⟨_,rfl⟩
 have hs1:Same w w1:=by rw [hw1]; exact(fR _ w).alloc _
 have ho1:Owns w1 5 1 cByte (.slice (some ⟨w.heap.size,0,none⟩) 8 8) (putL 0 n):=by
  rw [hw1];exact DN (l:=putL 0 n) A7 (heap_alloc_new w _) (by unfold maxLen; simp [putL,E5.beD])
 have HO:=zz (aN ho1 hs1);rw [<-hw1];clear hw1 ho1 hs1 hmk;go_wp2;go_loopw [28] (fun i wr=>∃k,k<=8/\i= .int .i64 (k:Nat)/\Hid (Owns wr 5 1 cByte (.slice (some ⟨w.heap.size,0,none⟩) 8 8) (putL k n)/\Same w wr)) (fun i _=>8 - (intOf i).toNat)
 case atStart=>exact⟨0,by omega,rfl,HO⟩
 case round=>
  obtain⟨k,hk,rfl,HR⟩:=hrel;rcases(show k=0\/k=1\/k=2\/k=3\/k=4\/k=5\/k=6\/k=7\/k=8 by omega)with e0 | e1 | e2 | e3 | e4 | e5 | e6 | e7 | e8
  ·subst e0;have hmem:(putL 0 n)[7]?=some 0:=rfl;obtain⟨g,cap,hve,_,_,hc,hfz⟩:=HR.out.1.at A7 hmem;simp only [Value.slice.injEq,Option.some.injEq,Addr.mk.injEq,and_true]at hve;have hg:=hve.1;clear hve;subst hg;have x0:wr.cell? ⟨w.heap.size,7,none⟩=some (.int .u8 0):=hc 0 _ rfl;have xf:wr.frozen? ⟨w.heap.size,7,none⟩=false:=hfz 7;have hwc:(((UInt8.ofNat (n / 256 ^ 0 % 256)).toNat:Nat):Int)=(n:Int) % 256:=by rw [UInt8.toNat_ofNat']; omega
   have hr2:=BP 0 n (by decide) HR.out;rw [hwc]at hr2;have HR2:=zz hr2;clear hmem hc hfz hwc hr2;go_wp2;go_roundw
   case rel=>exact⟨1,by decide,by go_num,HR2⟩
   case measure=>decide
  ·subst e1;have hmem:(putL 1 n)[6]?=some 0:=rfl;obtain⟨g,cap,hve,_,_,hc,hfz⟩:=HR.out.1.at A7 hmem;simp only [Value.slice.injEq,Option.some.injEq,Addr.mk.injEq,and_true]at hve;have hg:=hve.1;clear hve;subst hg;have x0:wr.cell? ⟨w.heap.size,6,none⟩=some (.int .u8 0):=hc 0 _ rfl;have xf:wr.frozen? ⟨w.heap.size,6,none⟩=false:=hfz 6;have hwc:(((UInt8.ofNat (n / 256 ^ 1 % 256)).toNat:Nat):Int)=(n:Int) / 256 % 256:=by rw [UInt8.toNat_ofNat']; omega
   have hr2:=BP 1 n (by decide) HR.out;rw [hwc]at hr2;have HR2:=zz hr2;clear hmem hc hfz hwc hr2;go_wp2;go_roundw
   case rel=>exact⟨2,by decide,by go_num,HR2⟩
   case measure=>decide
  ·subst e2;have hmem:(putL 2 n)[5]?=some 0:=rfl;obtain⟨g,cap,hve,_,_,hc,hfz⟩:=HR.out.1.at A7 hmem;simp only [Value.slice.injEq,Option.some.injEq,Addr.mk.injEq,and_true]at hve;have hg:=hve.1;clear hve;subst hg;have x0:wr.cell? ⟨w.heap.size,5,none⟩=some (.int .u8 0):=hc 0 _ rfl;have xf:wr.frozen? ⟨w.heap.size,5,none⟩=false:=hfz 5;have hwc:(((UInt8.ofNat (n / 256 ^ 2 % 256)).toNat:Nat):Int)=(n:Int) / 65536 % 256:=by rw [UInt8.toNat_ofNat']; omega
   have hr2:=BP 2 n (by decide) HR.out;rw [hwc]at hr2;have HR2:=zz hr2;clear hmem hc hfz hwc hr2;go_wp2;go_roundw
   case rel=>exact⟨3,by decide,by go_num,HR2⟩
   case measure=>decide
  ·subst e3;have hmem:(putL 3 n)[4]?=some 0:=rfl;obtain⟨g,cap,hve,_,_,hc,hfz⟩:=HR.out.1.at A7 hmem;simp only [Value.slice.injEq,Option.some.injEq,Addr.mk.injEq,and_true]at hve;have hg:=hve.1;clear hve;subst hg;have x0:wr.cell? ⟨w.heap.size,4,none⟩=some (.int .u8 0):=hc 0 _ rfl;have xf:wr.frozen? ⟨w.heap.size,4,none⟩=false:=hfz 4;have hwc:(((UInt8.ofNat (n / 256 ^ 3 % 256)).toNat:Nat):Int)=(n:Int) / 16777216 % 256:=by rw [UInt8.toNat_ofNat']; omega
   have hr2:=BP 3 n (by decide) HR.out;rw [hwc]at hr2;have HR2:=zz hr2;clear hmem hc hfz hwc hr2;go_wp2;go_roundw
   case rel=>exact⟨4,by decide,by go_num,HR2⟩
   case measure=>decide
  ·subst e4;have hmem:(putL 4 n)[3]?=some 0:=rfl;obtain⟨g,cap,hve,_,_,hc,hfz⟩:=HR.out.1.at A7 hmem;simp only [Value.slice.injEq,Option.some.injEq,Addr.mk.injEq,and_true]at hve;have hg:=hve.1;clear hve;subst hg;have x0:wr.cell? ⟨w.heap.size,3,none⟩=some (.int .u8 0):=hc 0 _ rfl;have xf:wr.frozen? ⟨w.heap.size,3,none⟩=false:=hfz 3;have hwc:(((UInt8.ofNat (n / 256 ^ 4 % 256)).toNat:Nat):Int)=(n:Int) / 4294967296 % 256:=by rw [UInt8.toNat_ofNat']; omega
   have hr2:=BP 4 n (by decide) HR.out;rw [hwc]at hr2;have HR2:=zz hr2;clear hmem hc hfz hwc hr2;go_wp2;go_roundw
   case rel=>exact⟨5,by decide,by go_num,HR2⟩
   case measure=>decide
  ·subst e5;have hmem:(putL 5 n)[2]?=some 0:=rfl;obtain⟨g,cap,hve,_,_,hc,hfz⟩:=HR.out.1.at A7 hmem;simp only [Value.slice.injEq,Option.some.injEq,Addr.mk.injEq,and_true]at hve;have hg:=hve.1;clear hve;subst hg;have x0:wr.cell? ⟨w.heap.size,2,none⟩=some (.int .u8 0):=hc 0 _ rfl;have xf:wr.frozen? ⟨w.heap.size,2,none⟩=false:=hfz 2;have hwc:(((UInt8.ofNat (n / 256 ^ 5 % 256)).toNat:Nat):Int)=(n:Int) / 1099511627776 % 256:=by rw [UInt8.toNat_ofNat']; omega
   have hr2:=BP 5 n (by decide) HR.out;rw [hwc]at hr2;have HR2:=zz hr2;clear hmem hc hfz hwc hr2;go_wp2;go_roundw
   case rel=>exact⟨6,by decide,by go_num,HR2⟩
   case measure=>decide
  ·subst e6;have hmem:(putL 6 n)[1]?=some 0:=rfl;obtain⟨g,cap,hve,_,_,hc,hfz⟩:=HR.out.1.at A7 hmem;simp only [Value.slice.injEq,Option.some.injEq,Addr.mk.injEq,and_true]at hve;have hg:=hve.1;clear hve;subst hg;have x0:wr.cell? ⟨w.heap.size,1,none⟩=some (.int .u8 0):=hc 0 _ rfl;have xf:wr.frozen? ⟨w.heap.size,1,none⟩=false:=hfz 1;have hwc:(((UInt8.ofNat (n / 256 ^ 6 % 256)).toNat:Nat):Int)=(n:Int) / 281474976710656 % 256:=by rw [UInt8.toNat_ofNat']; omega
   have hr2:=BP 6 n (by decide) HR.out;rw [hwc]at hr2;have HR2:=zz hr2;clear hmem hc hfz hwc hr2;go_wp2;go_roundw
   case rel=>exact⟨7,by decide,by go_num,HR2⟩
   case measure=>decide
  ·subst e7;have hmem:(putL 7 n)[0]?=some 0:=rfl;obtain⟨g,cap,hve,_,_,hc,hfz⟩:=HR.out.1.at A7 hmem;simp only [Value.slice.injEq,Option.some.injEq,Addr.mk.injEq,and_true]at hve;have hg:=hve.1;clear hve;subst hg;have x0:wr.cell? ⟨w.heap.size,0,none⟩=some (.int .u8 0):=hc 0 _ rfl;have xf:wr.frozen? ⟨w.heap.size,0,none⟩=false:=hfz 0;have hwc:(((UInt8.ofNat (n / 256 ^ 7 % 256)).toNat:Nat):Int)=(n:Int) / 72057594037927936 % 256:=by rw [UInt8.toNat_ofNat']; omega
   have hr2:=BP 7 n (by decide) HR.out;rw [hwc]at hr2;have HR2:=zz hr2;clear hmem hc hfz hwc hr2;go_wp2;go_roundw
   case rel=>exact⟨8,by decide,by go_num,HR2⟩
   case measure=>decide
  ·subst e8;have hcv2:=Owns.str HR.out.1;obtain⟨bs,hbs⟩:∃bs,bs=putL 8 n:=⟨_,rfl⟩
   rw [<-hbs]at hcv2;have HBS:=zz (show bs=E5.beD 8 n from hbs);clear hbs;go_wp2;go_ret2
   rw [HBS.out];exact⟨rfl,HR.out.2⟩
def szOf:Value->Nat
 | .string b=>b.size
 | _=>0
theorem Lm(s:Bytes):szOf (S s)=s.length:=Ad s
theorem FP(n:Int)(w:World):Calls Tryz.prog 45 #[.int .i64 n] w fun e w'=>e= .returned (S (numB n))/\Same w w':=by
 obtain⟨m,hm⟩:∃m:Nat,m=(n % 18446744073709551616).toNat:=⟨_,rfl⟩
 have hmz:n % 18446744073709551616=(m:Int):=by omega
 have hcv:IntKind.u64.wrap n=(m:Int):=by rw [IntKind.wrap_u64]; omega
 have HP:=zz (Mv m (by omega) w);have HB:=zz (show numB n=strip (E5.beD 8 m) by unfold numB; rw [hm]);clear hm;go_enter Tryz.func45,Tryz.ntmps45;go_wp2_with fail;refine HP.out.mono ?_;rintro e w1 ⟨rfl,hs⟩;have HS:=zz hs;clear hs HP hmz hcv;obtain⟨s0,hs0⟩:∃s0,s0=E5.beD 8 m:=⟨_,rfl⟩
 rw [<-hs0]at HB ⊢;have h08:0<s0.length/\s0.length<=8:=by rw [hs0]; simp [E5.beD]
 have H08:=zz h08;clear hs0 h08;go_wp2_with fail;go_loopw [3] (fun v wr=>∃s,v=S s/\w1=wr/\Hid (strip s=strip s0/\0<s.length/\s.length<=8)) (fun v _=>szOf v)
 case atStart=>exact⟨s0,rfl,rfl,zz ⟨rfl,H08.out⟩⟩
 case round=>
  obtain⟨s,rfl,rfl,HQ⟩:=hrel;by_cases h2:1<s.length
  ·obtain⟨a,b,r,hs⟩:∃a b r,s=a::b::r:=by
    match s,h2 with
    | a::b::r,_=>exact⟨a,b,r,rfl⟩
   have hi0:∀W:World,(Instr.index 9 (S s) (.int .i64 0)).run Tryz.prog W= .ok (.int .u8 (a.toNat:Nat)) W:=by subst hs; intro W; rfl
   have hi1:∀W:World,(Instr.index 9 (S s) (.int .i64 1)).run Tryz.prog W= .ok (.int .u8 (b.toNat:Nat)) W:=by subst hs; intro W; rfl
   have hsl:∀W:World,(Instr.slice 9 (S s) (some (.int .i64 1)) none none).run Tryz.prog W= .ok (S (b::r)) W:=fun W=>by
    have:=Nx s 1 (by omega) W;rw [hs]at this ⊢;exact this
   have hln:(1:Int)<(s.length:Int):=by omega
   have HH:=zz hs;by_cases ha:a=0
   ·have haz:(((a.toNat:Nat):Int)==0)=true:=by rw [ha]; rfl
    by_cases hb:b.toNat<128
    ·have hbz:decide (((b.toNat:Nat):Int)<128)=true:=dt (by omega);have HST:=zz (show strip (b::r)=strip s0 by rw [<-HQ.out.1,hs,ha,Bm hb]);obtain⟨sn,hsn⟩:∃sn,sn=b::r:=⟨_,rfl⟩
     rw [<-hsn]at hsl HST;have HSN:=zz (show sn.length+1=s.length by rw [hsn,hs]; rfl);clear hs ha hb h2 hsn;go_wp2;go_roundw
     case rel=>exact⟨sn,rfl,trivial,zz ⟨HST.out,by have:=HSN.out; omega,by have:=HSN.out; have:=HQ.out.2.2; omega⟩⟩
     case measure=>
      show szOf (S sn)<szOf (S s);rw [Lm,Lm];have:=HSN.out;omega
    ·have hbz:decide (((b.toNat:Nat):Int)<128)=false:=df (by omega);have HST:=zz (show s=strip s0 by rw [<-HQ.out.1,hs,Dz (fun e=>hb e.2)]);clear hs ha hb h2 hsl;go_wp2;go_ret;rw [HB.out,<-HST.out];exact⟨rfl,HS.out⟩
   ·have haz:(((a.toNat:Nat):Int)==0)=false:=bn (fun e=>ha (UInt8.toNat_inj.1 (by simpa using e)));have HST:=zz (show s=strip s0 by rw [<-HQ.out.1,hs,Dz (fun e=>ha e.1)]);clear hs ha h2 hsl;go_wp2;go_ret;rw [HB.out,<-HST.out];exact⟨rfl,HS.out⟩
  ·have hln:¬(1:Int)<(s.length:Int):=by omega
   have HST:=zz (show s=strip s0 by
    rw [<-HQ.out.1];have:=HQ.out.2.1
    match s,h2,this with
    | [a],_,_=>rfl
    | a::b::r,h2,_=>exact absurd (by simp) h2)
   clear h2;go_wp2;go_ret;rw [HB.out,<-HST.out];exact⟨rfl,HS.out⟩
theorem FQ(size:Int)(c0 c1 c2:UInt8)(w:World):Calls Tryz.prog 85 #[.int .i64 size,.agg #[.int .u8 (c0.toNat:Nat),.int .u8 (c1.toNat:Nat),.int .u8 (c2.toNat:Nat)]] w fun e w'=>∃a n c,e= .returned (.slice a n c)/\MkT w (sizedT size [c0,c1,c2]) a n c w':=by
 have HL:=zz (fun s W=>Am 6 s W);have hcat:∀k:UInt8,(ByteArray.mk #[96,134,72,1,101,3,4,1])++(ByteArray.mk [k].toArray)=⟨(cipherT++ [k]).toArray⟩:=fun k=>Ib cipherT [k]
 by_cases h16:size=16
 ·subst h16;have HT:=zz (show sizedT 16 [c0,c1,c2]=lf 6 (cipherT++ [c0])from rfl);obtain⟨cs,hcs⟩:∃cs,cs=cipherT++ [c0]:=⟨_,rfl⟩
  have hc2:=hcat c0;rw [<-hcs]at hc2 HT;have hcv:(convert 145 9 (.slice (some ⟨w.heap.size+1,0,none⟩) 1 1)).run Tryz.prog ((w.alloc (.cells #[.int .u8 (c0.toNat:Nat),.int .u8 (c1.toNat:Nat),.int .u8 (c2.toNat:Nat)] 144 (0,0))).alloc (.cells #[.int .u8 (c0.toNat:Nat)] 5 (0,0)))= .ok (S [c0]) ((w.alloc (.cells #[.int .u8 (c0.toNat:Nat),.int .u8 (c1.toNat:Nat),.int .u8 (c2.toNat:Nat)] 144 (0,0))).alloc (.cells #[.int .u8 (c0.toNat:Nat)] 5 (0,0))):=Ef c0 (w.heap.size+1) ((w.alloc (.cells #[.int .u8 (c0.toNat:Nat),.int .u8 (c1.toNat:Nat),.int .u8 (c2.toNat:Nat)] 144 (0,0))).alloc (.cells #[.int .u8 (c0.toNat:Nat)] 5 (0,0))) (by
   have:=heap_alloc_new (w.alloc (.cells #[.int .u8 (c0.toNat:Nat),.int .u8 (c1.toNat:Nat),.int .u8 (c2.toNat:Nat)] 144 (0,0))) (.cells #[.int .u8 (c0.toNat:Nat)] 5 (0,0));rw [show(w.alloc (.cells #[.int .u8 (c0.toNat:Nat),.int .u8 (c1.toNat:Nat),.int .u8 (c2.toNat:Nat)] 144 (0,0))).heap.size=w.heap.size+1 by simp]at this;exact this)
  clear hcat hcs;go_enter Tryz.func85,Tryz.ntmps85;go_wp2_with fail;refine(HL.out cs _).mono ?_;rintro e w1 ⟨a,n,c,rfl,hm⟩;have HM:=zz (hm.from (((fR _ w).alloc _).alloc _));clear hm HL;go_wp2;go_ret;rw [HT.out];exact⟨_,_,_,rfl,HM.out⟩
 by_cases h24:size=24
 ·subst h24;have HT:=zz (show sizedT 24 [c0,c1,c2]=lf 6 (cipherT++ [c1])from rfl);obtain⟨cs,hcs⟩:∃cs,cs=cipherT++ [c1]:=⟨_,rfl⟩
  have hc2:=hcat c1;rw [<-hcs]at hc2 HT;have hcv:(convert 145 9 (.slice (some ⟨w.heap.size+1,0,none⟩) 1 1)).run Tryz.prog ((w.alloc (.cells #[.int .u8 (c0.toNat:Nat),.int .u8 (c1.toNat:Nat),.int .u8 (c2.toNat:Nat)] 144 (0,0))).alloc (.cells #[.int .u8 (c1.toNat:Nat)] 5 (0,0)))= .ok (S [c1]) ((w.alloc (.cells #[.int .u8 (c0.toNat:Nat),.int .u8 (c1.toNat:Nat),.int .u8 (c2.toNat:Nat)] 144 (0,0))).alloc (.cells #[.int .u8 (c1.toNat:Nat)] 5 (0,0))):=Ef c1 (w.heap.size+1) ((w.alloc (.cells #[.int .u8 (c0.toNat:Nat),.int .u8 (c1.toNat:Nat),.int .u8 (c2.toNat:Nat)] 144 (0,0))).alloc (.cells #[.int .u8 (c1.toNat:Nat)] 5 (0,0))) (by
   have:=heap_alloc_new (w.alloc (.cells #[.int .u8 (c0.toNat:Nat),.int .u8 (c1.toNat:Nat),.int .u8 (c2.toNat:Nat)] 144 (0,0))) (.cells #[.int .u8 (c1.toNat:Nat)] 5 (0,0));rw [show(w.alloc (.cells #[.int .u8 (c0.toNat:Nat),.int .u8 (c1.toNat:Nat),.int .u8 (c2.toNat:Nat)] 144 (0,0))).heap.size=w.heap.size+1 by simp]at this;exact this)
  clear hcat hcs;go_enter Tryz.func85,Tryz.ntmps85;go_wp2_with fail;refine(HL.out cs _).mono ?_;rintro e w1 ⟨a,n,c,rfl,hm⟩;have HM:=zz (hm.from (((fR _ w).alloc _).alloc _));clear hm HL;go_wp2;go_ret;rw [HT.out];exact⟨_,_,_,rfl,HM.out⟩
 by_cases h32:size=32
 ·subst h32;have HT:=zz (show sizedT 32 [c0,c1,c2]=lf 6 (cipherT++ [c2])from rfl);obtain⟨cs,hcs⟩:∃cs,cs=cipherT++ [c2]:=⟨_,rfl⟩
  have hc2:=hcat c2;rw [<-hcs]at hc2 HT;have hcv:(convert 145 9 (.slice (some ⟨w.heap.size+1,0,none⟩) 1 1)).run Tryz.prog ((w.alloc (.cells #[.int .u8 (c0.toNat:Nat),.int .u8 (c1.toNat:Nat),.int .u8 (c2.toNat:Nat)] 144 (0,0))).alloc (.cells #[.int .u8 (c2.toNat:Nat)] 5 (0,0)))= .ok (S [c2]) ((w.alloc (.cells #[.int .u8 (c0.toNat:Nat),.int .u8 (c1.toNat:Nat),.int .u8 (c2.toNat:Nat)] 144 (0,0))).alloc (.cells #[.int .u8 (c2.toNat:Nat)] 5 (0,0))):=Ef c2 (w.heap.size+1) ((w.alloc (.cells #[.int .u8 (c0.toNat:Nat),.int .u8 (c1.toNat:Nat),.int .u8 (c2.toNat:Nat)] 144 (0,0))).alloc (.cells #[.int .u8 (c2.toNat:Nat)] 5 (0,0))) (by
   have:=heap_alloc_new (w.alloc (.cells #[.int .u8 (c0.toNat:Nat),.int .u8 (c1.toNat:Nat),.int .u8 (c2.toNat:Nat)] 144 (0,0))) (.cells #[.int .u8 (c2.toNat:Nat)] 5 (0,0));rw [show(w.alloc (.cells #[.int .u8 (c0.toNat:Nat),.int .u8 (c1.toNat:Nat),.int .u8 (c2.toNat:Nat)] 144 (0,0))).heap.size=w.heap.size+1 by simp]at this;exact this)
  clear hcat hcs;go_enter Tryz.func85,Tryz.ntmps85;go_wp2_with fail;refine(HL.out cs _).mono ?_;rintro e w1 ⟨a,n,c,rfl,hm⟩;have HM:=zz (hm.from (((fR _ w).alloc _).alloc _));clear hm HL;go_wp2;go_ret;rw [HT.out];exact⟨_,_,_,rfl,HM.out⟩
 ·have h16z:(size==16)=false:=bn h16;have h24z:(size==24)=false:=bn h24;have h32z:(size==32)=false:=bn h32;have HT:=zz (show sizedT size [c0,c1,c2]=lf 6 (cipherT++ [(0:UInt8)])from by unfold sizedT; simp [*]);obtain⟨cs,hcs⟩:∃cs,cs=cipherT++ [(0:UInt8)]:=⟨_,rfl⟩
  have hc2:=hcat (0:UInt8);rw [<-hcs]at hc2 HT;have hcv:(convert 145 9 (.slice (some ⟨w.heap.size+1,0,none⟩) 1 1)).run Tryz.prog ((w.alloc (.cells #[.int .u8 (c0.toNat:Nat),.int .u8 (c1.toNat:Nat),.int .u8 (c2.toNat:Nat)] 144 (0,0))).alloc (.cells #[.int .u8 0] 5 (0,0)))= .ok (S [(0:UInt8)]) ((w.alloc (.cells #[.int .u8 (c0.toNat:Nat),.int .u8 (c1.toNat:Nat),.int .u8 (c2.toNat:Nat)] 144 (0,0))).alloc (.cells #[.int .u8 0] 5 (0,0))):=Ef (0:UInt8) (w.heap.size+1) ((w.alloc (.cells #[.int .u8 (c0.toNat:Nat),.int .u8 (c1.toNat:Nat),.int .u8 (c2.toNat:Nat)] 144 (0,0))).alloc (.cells #[.int .u8 ((0:UInt8).toNat:Nat)] 5 (0,0))) (by
   have:=heap_alloc_new (w.alloc (.cells #[.int .u8 (c0.toNat:Nat),.int .u8 (c1.toNat:Nat),.int .u8 (c2.toNat:Nat)] 144 (0,0))) (.cells #[.int .u8 ((0:UInt8).toNat:Nat)] 5 (0,0));rw [show(w.alloc (.cells #[.int .u8 (c0.toNat:Nat),.int .u8 (c1.toNat:Nat),.int .u8 (c2.toNat:Nat)] 144 (0,0))).heap.size=w.heap.size+1 by simp]at this;exact this)
  clear hcat hcs;go_enter Tryz.func85,Tryz.ntmps85;go_wp2_with fail;refine(HL.out cs _).mono ?_;rintro e w1 ⟨a,n,c,rfl,hm⟩;have HM:=zz (hm.from (((fR _ w).alloc _).alloc _));clear hm HL;go_wp2;go_ret;rw [HT.out];exact⟨_,_,_,rfl,HM.out⟩
end Go.Proofs.YtpfhollohodcjaaGreatDoor
