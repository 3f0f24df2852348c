import Derived.Test.YtpfhollohodcjaaGreatDoorVD
import Derived.Deep.RegionWith
import Derived.Test.YtpfhollohodcjaaGreatDoorVA
import Derived.Lib.TrimUEq
import Derived.Lib.MapLaws
import Derived.Test.YtpfhollohodcjaaGreatDoorVB
import Derived.Deep.CutBlock
set_option maxHeartbeats 4000000
set_option maxRecDepth 100000
namespace Go.Proofs.YtpfhollohodcjaaGreatDoor
open Go.RowKit Go.Px
theorem Tryz.infoNode:(Tryz.prog.info? 90).map (fun i=>(i.zero,i.size,i.bytes))=some (some (.agg #[.int .u8 0,.int .i64 0,.string ByteArray.empty]),3,32):=by kernel_rfl
theorem Tryz.infoFm5:(Tryz.prog.info? 165).map (fun i=>(i.zero,i.size,i.bytes))=some (some (.agg #[.int .u8 0,.int .i64 0,.int .i64 0,.int .i64 0,.string ByteArray.empty]),5,48):=by kernel_rfl
theorem Bs{w w1:World}{o:Obj}{row:Option Nat}(hg:(w.alloc o).grownBy w1 row){a:Addr}{v:Value}(hc:w.cell? a=some v)(hne:row≠some a.block):w1.cell? a=some v:=
 hg.cell (show(w.alloc o).cell? a=some v from Ah hc) (Ne.symm hne)
theorem Bt{w w1:World}{o:Obj}{row:Option Nat}(hg:(w.alloc o).grownBy w1 row){a:Addr}{v:Value}(hc:w.cell? a=some v)(hf:w.frozen? a=false)(hne:row≠some a.block):w1.frozen? a=false:=
 (World.frozen?_of_block (hg.block a.block (by have:=World.block_lt_of_cell? w a hc; simp; omega) (Ne.symm hne))).trans ((CO (w:=w) (o:=o) (by simp [hc])).trans hf)
theorem AA{w w1:World}{o:Obj}{row:Option Nat}(hg:(w.alloc o).grownBy w1 row):w.grownBy w1 row:=
 ⟨hg.os,hg.tape,hg.output,by have:=hg.size; simp at this; omega,fun k hk hne=>(hg.block k (by simp; omega) hne).trans (Below.heap_alloc w o k hk)⟩
theorem GW{α:Type}{c:α->List Value}{sz:Nat}(hc:∀a,(c a).length=sz):∀(l:List α) (j i:Nat) (a a':α) (u:Value),l[j]?=some a->i<sz->c a'=(c a).set i u->(l.flatMap c).set (j*sz+i) u=(l.set j a').flatMap c
 | [],j,i,a,a',u,h,_,_=>by simp at h
 | x::l,0,i,a,a',u,h,hi,he=>by
  simp only [List.getElem?_cons_zero,Option.some.injEq]at h;subst h;rw [List.flatMap_cons,List.set_cons_zero,List.flatMap_cons,Nat.zero_mul,Nat.zero_add,List.set_append_left _ _ (by rw [hc]; exact hi),he]
 | x::l,j+1,i,a,a',u,h,hi,he=>by
  simp only [List.getElem?_cons_succ]at h;rw [List.flatMap_cons,List.set_cons_succ,List.flatMap_cons,List.set_append_right _ _ (by rw [hc,Nat.add_mul]; omega),hc,<-GW hc l j i a a' u h hi he]
  congr 2
  rw [Nat.add_mul];omega
theorem Dm{α:Type}{w:World}{T sz:Nat}{c:α->List Value}{l:List α}{a a':α}{g cap j n:Nat}(hc:∀a,(c a).length=sz)(h:Owns w T sz c (.slice (some ⟨g,0,none⟩) n cap) l)(hj:l[j]?=some a)(i:Nat)(hi:i<sz)(u:Value)(he:c a'=(c a).set i u):
  Owns (w.setCell ⟨g,j*sz+i,none⟩ u) T sz c (.slice (some ⟨g,0,none⟩) n cap) (l.set j a'):=by
 obtain⟨_,_,hv,_⟩:=h.len;simp only [Value.slice.injEq]at hv;have hn:n=l.length:=hv.2.1;subst hn;have hs:=(World.ownsRow.stored (show w.ownsRow 0 T sz (.slice (some ⟨g,0,none⟩) l.length cap) l.length (l.flatMap c)from h) (j*sz+i) u).1;unfold Owns;rw [List.length_set,<-GW hc l j i a a' u hj hi he];exact hs
section
variable {w w' : World} {b : Nat} {s : Bytes} {lim : Lim} {x : D5.Dx} {vs vo : Value}
theorem DrRep.alloc(h:DrRep w b s lim x vs vo)(o:Obj):DrRep (w.alloc o) b s lim x vs vo:=h.keep fun k hk=>Below.heap_alloc w o k (h.footLt k hk)
theorem GX(l:List Px.Node)(j:Nat)(a:Px.Node)(h:l[j]?=some a):R5.bump l j=l.set j {a with kids:=a.kids+1}:=by
 unfold R5.bump;have hl:j<l.length:=(List.getElem?_eq_some_iff.1 h).1;apply List.ext_getElem?;intro i;rw [List.getElem?_modify,List.getElem?_set];by_cases e:j=i
 ·subst e;rw [if_pos rfl,h,if_pos hl];simp
 ·rw [if_neg e];simp [e]
theorem DrRep.bumpAt{g cap n j:Nat}{a:Px.Node}(h:DrRep w b s lim x vs (.slice (some ⟨g,0,none⟩) n cap))(hj:x.out[j]?=some a):
  DrRep (w.setCell ⟨g,j*3+1,none⟩ (.int .i64 (a.kids+1))) b s lim {x with out:=R5.bump x.out j} vs (.slice (some ⟨g,0,none⟩) n cap):=by
 refine⟨?_,h.stack.setCell (p:=⟨g,j*3+1,none⟩) (fun e=>h.so _ e rfl) _,?_,h.sb,h.ob,h.so⟩
 ·rw [heap_setCell_other _ _ _ _ (fun e=>h.ob g rfl (by rw [e]))];exact h.blk
 ·rw [GX x.out j a hj];exact Dm AF h.out hj 1 (by decide) _ rfl
theorem DrRep.kids(h:DrRep w b s lim x vs vo){j:Nat}{a:Px.Node}(hj:x.out[j]?=some a):
  ∃g cap,vo= .slice (some ⟨g,0,none⟩) x.out.length cap/\x.out.length<=cap/\cap<=maxLen/\w.cell? ⟨g,j*3+1,none⟩=some (.int .i64 a.kids)/\(∀i,w.frozen? ⟨g,i,none⟩=false):=by
 obtain⟨g,cap,h1,h2,h3,h4,h5⟩:=h.out.at AF hj;exact⟨g,cap,h1,h2,h3,h4 1 _ rfl,h5⟩
def DAfter(w w':World)(b:Nat)(s:Bytes)(lim:Lim)(x:D5.Dx)(a:Px.Node)(vs vo:Value):Prop:=
 ∃vo',DrRep w' b s lim {x with out:=x.out++ [a]} vs vo'/\Fr (dfoot b vs vo) w w'/\Fresh w (dfoot b vs vo) (dfoot b vs vo')
theorem DrRep.afterOut (h:DrRep w b s lim x vs vo) {g cap:Nat} {a:Px.Node}
  (hown:w'.ownsRow 0 90 3 (.slice (some ⟨g,0,none⟩) (x.out.length+1) cap) (x.out.length+1) (x.out.flatMap cNode++cNode a))
  (hg:w.grownBy w' vo.ownBlock) (hat:vo.ownBlock=some g\/w.heap.size<=g):
  DAfter w (w'.setCell ⟨b,7,none⟩ (.slice (some ⟨g,0,none⟩) (x.out.length+1) cap)) b s lim x a vs vo:=by
 have hgb:g≠b:=by rcases hat with e | e; exact fun x=>h.ob g e (by rw [x]); have:=h.lt; omega
 have hb':w'.heap[b]?=some (.cells (drCells s lim x.at_ vs vo) 108 (0,0)):=(hg.block b h.lt (fun e=>h.ob b e.symm rfl)).trans h.blk;refine⟨.slice (some ⟨g,0,none⟩) (x.out.length+1) cap,⟨?_,?_,?_,h.sb,?_,?_⟩,((fR _ w).grown hg (fun k e=> .inl (.inr (.inr e)))).setCell (.inl (.inl rfl)) _,?_⟩
 ·rw [heap_setCell_same w' b 7 _ _ _ hb']; rfl
 ·exact(h.stack.grown hg h.so).setCell (p:=⟨b,7,none⟩) h.sb.ne _
 ·exact(Bb hown).setCell (p:=⟨b,7,none⟩) (by simpa [Value.ownBlock] using hgb) _
 ·intro k hk; simp [Value.ownBlock]at hk; subst hk; simpa using Ne.symm hgb
 ·intro k hk e;rcases hat with y | y
  ·exact h.so k hk (by rw [y]; exact e)
  ·have:=h.stack.lt hk; simp [Value.ownBlock]at e; omega
 ·rintro k (rfl | hk | hk)
  ·exact .inl (.inl rfl)
  ·exact .inl (.inr (.inl hk))
  ·simp only [Value.ownBlock,Option.some.injEq]at hk;subst hk;rcases hat with e | e
   ·exact .inl (.inr (.inr e))
   ·exact .inr e
def DPush(w w':World)(b:Nat)(s:Bytes)(lim:Lim)(x:D5.Dx)(a:D5.Fm)(vs vo:Value):Prop:=
 ∃vs',DrRep w' b s lim {x with stack:=a::x.stack} vs' vo/\Fr (dfoot b vs vo) w w'/\Fresh w (dfoot b vs vo) (dfoot b vs' vo)
theorem DrRep.afterPush (h:DrRep w b s lim x vs vo) {g cap:Nat} {a:D5.Fm}
  (hown:w'.ownsRow 0 165 5 (.slice (some ⟨g,0,none⟩) (x.stack.length+1) cap) (x.stack.length+1) (x.stack.reverse.flatMap cFm5++cFm5 a))
  (hg:w.grownBy w' vs.ownBlock) (hat:vs.ownBlock=some g\/w.heap.size<=g):
  DPush w (w'.setCell ⟨b,6,none⟩ (.slice (some ⟨g,0,none⟩) (x.stack.length+1) cap)) b s lim x a vs vo:=by
 have hgb:g≠b:=by rcases hat with e | e; exact fun x=>h.sb g e (by rw [x]); have:=h.lt; omega
 have hb':w'.heap[b]?=some (.cells (drCells s lim x.at_ vs vo) 108 (0,0)):=(hg.block b h.lt (fun e=>h.sb b e.symm rfl)).trans h.blk;have hrl:x.stack.reverse.length=x.stack.length:=List.length_reverse;refine⟨.slice (some ⟨g,0,none⟩) (x.stack.length+1) cap,⟨?_,?_,?_,?_,h.ob,?_⟩,((fR _ w).grown hg (fun k e=> .inl (.inr (.inl e)))).setCell (.inl (.inl rfl)) _,?_⟩
 ·rw [heap_setCell_same w' b 6 _ _ _ hb']; rfl
 ·have:=Bb (l:=x.stack.reverse) (c:=cFm5) (a:=a) (w:=w') (T:=165) (sz:=5) (g:=g) (cap:=cap) (by rw [hrl]; exact hown);rw [hrl]at this;have e:({x with stack:=a::x.stack}:D5.Dx).stack.reverse=x.stack.reverse++ [a]:=by simp
  rw [e];exact this.setCell (p:=⟨b,6,none⟩) (by simpa [Value.ownBlock] using hgb) _
 ·exact(h.out.grown hg h.so.symm).setCell (p:=⟨b,6,none⟩) h.ob.ne _
 ·intro k hk; simp [Value.ownBlock]at hk; subst hk; simpa using Ne.symm hgb
 ·intro k hk e;simp [Value.ownBlock]at hk;subst hk;rcases hat with y | y
  ·exact h.so _ y e
  ·have:=h.out.lt e; omega
 ·rintro k (rfl | hk | hk)
  ·exact .inl (.inl rfl)
  ·simp only [Value.ownBlock,Option.some.injEq]at hk;subst hk;rcases hat with e | e
   ·exact .inl (.inr (.inl e))
   ·exact .inr e
  ·exact .inl (.inr (.inr hk))
end
def BegPost(w:World)(b:Nat)(s:Bytes)(lim:Lim)(F:Nat->Prop)(res:Except D5.Flt D5.Dx)(r:Ending)(w':World):Prop:=
 match res with
 | .error e=>r=panics e/\Fr F w w'
 | .ok y=>r= .returned (.tuple #[])/\∃F',DrAt w' b s lim y F'/\Fr F w w'/\Fresh w F F'
theorem C6{w w1 w2:World}{b:Nat}{s:Bytes}{lim:Lim}{F F1:Nat->Prop}{res:Except D5.Flt D5.Dx}{r:Ending}(hf:Fr F w w1)(hn:Fresh w F F1)(h:EndPost w1 b s lim F1 res r w2):BegPost w b s lim F res r w2:=by
 unfold EndPost at h;unfold BegPost;cases res with
 | error e=>exact⟨h.1,hf.step hn h.2⟩
 | ok y=>exact⟨h.1,F1,h.2.1,hf.step hn h.2.2,hn⟩
structure DOk (s:Bytes) (lim:Lim) (x:D5.Dx):Prop where
 sl:x.stack.length<=900
 ol:x.out.length<=1000000
 here:x.at_<=s.length
 may:lim.may=true
 no:∀f∈x.stack,f.no<x.out.length/\f.end_<=5000000000
 kids:∀a∈x.out,-1<=a.kids/\a.kids<=x.out.length
theorem I4{s:Bytes}{lim:Lim}:∀(m p:Nat) (f:Bool) (n v:Nat),D5.lenN s lim m p f n= .ok v->p<=s.length->(p:Int)<=lim.b->p+m<=s.length/\((p+m:Nat):Int)<=lim.b/\v<(n+1)*256 ^ m
 | 0,p,f,n,v,h,hp,hb=>by
  have:n=v:=by simpa [D5.lenN] using h
  subst this;exact⟨hp,by simpa using hb,by simp⟩
 | m+1,p,f,n,v,h,hp,hb=>by
  unfold D5.lenN at h;cases hw:D5.want s lim p with
  | error e=>rw [hw]at h; cases h
  | ok c=>
   rw [hw]at h;simp only at h;obtain⟨q1,q2,q3,_⟩:=Ak hw;by_cases hc:(f && c==0)=true
   ·rw [if_pos hc]at h; cases h
   ·rw [if_neg hc]at h;obtain⟨r1,r2,r3⟩:=I4 m (p+1) _ _ v h (by omega) (by omega);refine⟨by omega,by omega,Nat.lt_of_lt_of_le r3 ?_⟩;rw [Nat.pow_succ,Nat.mul_comm (256 ^ m) 256,<-Nat.mul_assoc];exact Nat.mul_le_mul_right _ (by omega)
theorem Ai{s:Bytes}{lim:Lim}{p n q:Nat}(h:D5.length s lim p= .ok (n,q)):p<q/\q<=s.length/\(q:Int)<=lim.b/\n<4294967296:=by
 unfold D5.length at h;cases hw:D5.want s lim p with
 | error e=>rw [hw]at h; cases h
 | ok c=>
  rw [hw]at h;simp only at h;obtain⟨q1,q2,q3,_⟩:=Ak hw;by_cases h1:c<128
  ·rw [if_pos h1]at h;simp only [Except.ok.injEq,Prod.mk.injEq]at h;omega
  ·rw [if_neg h1]at h;by_cases h2:c=128\/132<c
   ·rw [if_pos h2]at h; cases h
   ·rw [if_neg h2]at h;cases hn:D5.lenN s lim (c % 128) (p+1) true 0 with
    | error e=>rw [hn]at h; cases h
    | ok v=>
     rw [hn]at h;simp only at h;obtain⟨r1,r2,r3⟩:=I4 _ _ _ _ _ hn (by omega) (by omega);by_cases h3:v<128
     ·rw [if_pos h3]at h; cases h
     ·rw [if_neg h3]at h;simp only [Except.ok.injEq,Prod.mk.injEq]at h;obtain⟨rfl,rfl⟩:=h;have hv:v<4294967296:=by
       have e:c % 128=1\/c % 128=2\/c % 128=3\/c % 128=4:=by omega
       rcases e with e | e | e | e<;>rw [e]at r3<;>exact Nat.lt_of_lt_of_le r3 (by decide)
      exact⟨by omega,by omega,by omega,hv⟩
theorem I5{s:Bytes}{lim:Lim}{o k p n q:Nat}{e:Option Nat}(h:D5.head s lim o k p e= .ok (n,q)):
  ∃c,D5.want s lim p= .ok c/\¬(o:Int)=lim.i/\R5.tagE c=0/\(R5.inner c=true->¬(k:Int)=lim.d)/\D5.length s lim (p+1)= .ok (n,q)/\(∀v,e=some v->q+n<=v):=by
 unfold D5.head at h;cases hw:D5.want s lim p with
 | error e=>rw [hw]at h; cases h
 | ok c=>
  rw [hw]at h;simp only at h;refine⟨c,rfl,?_⟩;by_cases h1:(o:Int)=lim.i
  ·rw [if_pos h1]at h; cases h
  ·rw [if_neg h1]at h;by_cases h2:R5.tagE c≠0
   ·rw [if_pos h2]at h; cases h
   ·rw [if_neg h2]at h;by_cases h3:(R5.inner c && decide ((k:Int)=lim.d))=true
    ·rw [if_pos h3]at h; cases h
    ·rw [if_neg h3]at h;cases hl:D5.length s lim (p+1)with
     | error e=>rw [hl]at h; cases h
     | ok v=>
      obtain⟨n',q'⟩:=v;rw [hl]at h;simp only at h;by_cases h4:(e.any fun v=>decide (v<q'+n'))=true
      ·rw [if_pos h4]at h; cases h
      ·rw [if_neg h4]at h;simp only [Except.ok.injEq,Prod.mk.injEq]at h;obtain⟨rfl,rfl⟩:=h;refine⟨h1,by omega,fun hi hk=>h3 (by rw [hi,dt hk]; rfl),rfl,fun v hv=>?_⟩;subst hv;simp only [Option.any_some,decide_eq_true_eq]at h4;omega
theorem Lu{s:Bytes}{lim:Lim}{o k p:Nat}{e:Option Nat}{f:D5.Flt}(h:D5.head s lim o k p e= .error f):
  D5.want s lim p= .error f\/∃c,D5.want s lim p= .ok c/\
   (((o:Int)=lim.i/\f=((p:Int),10))\/(¬(o:Int)=lim.i/\((R5.tagE c≠0/\f=((p:Int),R5.tagE c))\/(R5.tagE c=0/\((R5.inner c=true/\(k:Int)=lim.d/\f=((p:Int),10))\/((R5.inner c=true->¬(k:Int)=lim.d)/\
    (D5.length s lim (p+1)= .error f\/∃n q v,D5.length s lim (p+1)= .ok (n,q)/\e=some v/\v<q+n/\f=((p:Int),9)))))))):=by
 unfold D5.head at h;cases hw:D5.want s lim p with
 | error e=>rw [hw]at h; left; simpa using h
 | ok c=>
  right;rw [hw]at h;simp only at h;refine⟨c,rfl,?_⟩;by_cases h1:(o:Int)=lim.i
  ·rw [if_pos h1]at h;simp only [Except.error.injEq]at h;exact .inl ⟨h1,h.symm⟩
  ·rw [if_neg h1]at h;refine .inr ⟨h1,?_⟩;by_cases h2:R5.tagE c≠0
   ·rw [if_pos h2]at h;simp only [Except.error.injEq]at h;exact .inl ⟨h2,h.symm⟩
   ·rw [if_neg h2]at h;refine .inr ⟨by omega,?_⟩;by_cases h3:(R5.inner c && decide ((k:Int)=lim.d))=true
    ·rw [if_pos h3]at h;simp only [Except.error.injEq]at h;simp only [Bool.and_eq_true,decide_eq_true_eq]at h3;exact .inl ⟨h3.1,h3.2,h.symm⟩
    ·rw [if_neg h3]at h;refine .inr ⟨fun hi hk=>h3 (by rw [hi,dt hk]; rfl),?_⟩;cases hl:D5.length s lim (p+1)with
     | error e=>rw [hl]at h; left; simpa using h
     | ok v=>
      right;obtain⟨n',q'⟩:=v;rw [hl]at h;simp only at h;cases e with
      | none=>simp at h
      | some v=>
       simp only [Option.any_some]at h;by_cases h4:v<q'+n'
       ·rw [if_pos (by simpa using h4)]at h;simp only [Except.error.injEq]at h;exact⟨n',q',v,rfl,rfl,h4,h.symm⟩
       ·rw [if_neg (by simpa using h4)]at h; cases h
open Go.Px.R5
def rdCells(s:Bytes)(lim:Lim)(x:St)(vn:Value)(tl:List Value):Array Value:=
 (S s:: .int .i64 lim.d:: .int .i64 lim.i:: .int .i64 lim.b:: .int .i64 lim.r::vn:: .int .i64 x.err:: .int .i64 x.place:: .int .i64 (x.taken:Nat):: .int .i64 (x.frames:Nat):: .bool x.ended::tl).toArray
structure Rd (w:World) (b T:Nat) (s:Bytes) (lim:Lim) (x:St) (vn:Value) (tl:List Value):Prop where
 blk:w.heap[b]?=some (.cells (rdCells s lim x vn tl) T (0,0))
section
variable {w w' : World} {b T : Nat} {s : Bytes} {lim : Lim} {x : St} {vn : Value} {tl : List Value}
theorem Rd.cells(h:Rd w b T s lim x vn tl):
  w.cell? ⟨b,0,none⟩=some (S s)/\w.cell? ⟨b,1,none⟩=some (.int .i64 lim.d)/\w.cell? ⟨b,2,none⟩=some (.int .i64 lim.i)/\w.cell? ⟨b,3,none⟩=some (.int .i64 lim.b)/\
  w.cell? ⟨b,6,none⟩=some (.int .i64 x.err)/\w.cell? ⟨b,7,none⟩=some (.int .i64 x.place)/\w.cell? ⟨b,8,none⟩=some (.int .i64 (x.taken:Nat))/\w.cell? ⟨b,9,none⟩=some (.int .i64 (x.frames:Nat))/\w.cell? ⟨b,10,none⟩=some (.bool x.ended):=
 ⟨Ab h.blk 0 (by simp [rdCells]),Ab h.blk 1 (by simp [rdCells]),Ab h.blk 2 (by simp [rdCells]),Ab h.blk 3 (by simp [rdCells]),Ab h.blk 6 (by simp [rdCells]),Ab h.blk 7 (by simp [rdCells]),
   Ab h.blk 8 (by simp [rdCells]),Ab h.blk 9 (by simp [rdCells]),Ab h.blk 10 (by simp [rdCells])⟩
theorem Rd.free(h:Rd w b T s lim x vn tl)(i:Nat):w.frozen? ⟨b,i,none⟩=false:=AZ h.blk i
theorem Rd.lt(h:Rd w b T s lim x vn tl):b<w.heap.size:=Au h.blk
theorem Rd.keep(h:Rd w b T s lim x vn tl)(hk:w'.heap[b]?=w.heap[b]?):Rd w' b T s lim x vn tl:=⟨hk.trans h.blk⟩
theorem Rd.fr{F:Nat->Prop}(h:Rd w b T s lim x vn tl)(hf:Fr F w w')(hb:¬F b):Rd w' b T s lim x vn tl:=h.keep (hf.block b h.lt hb)
theorem Rd.same(h:Rd w b T s lim x vn tl)(hs:Same w w'):Rd w' b T s lim x vn tl:=h.fr hs (fun x=>x)
theorem Rd.alloc(h:Rd w b T s lim x vn tl)(o:Obj):Rd (w.alloc o) b T s lim x vn tl:=h.keep (Below.heap_alloc w o b h.lt)
theorem Rd.drew(h:Rd w b T s lim x vn tl):Rd w.drew b T s lim x vn tl:=⟨h.blk⟩
theorem Rd.drewN(h:Rd w b T s lim x vn tl)(n:Nat):Rd (w.drewN n) b T s lim x vn tl:=⟨h.blk⟩
theorem Rd.set(h:Rd w b T s lim x vn tl)(i:Nat)(v:Value)(y:St)(vn':Value)(tl':List Value)(hc:(rdCells s lim x vn tl).setIfInBounds i v=rdCells s lim y vn' tl'):Rd (w.setCell ⟨b,i,none⟩ v) b T s lim y vn' tl':=
 ⟨by rw [heap_setCell_same w b i _ _ v h.blk,hc]⟩
theorem Rd.setErr(h:Rd w b T s lim x vn tl)(e:Int):Rd (w.setCell ⟨b,6,none⟩ (.int .i64 e)) b T s lim {x with err:=e} vn tl:=h.set 6 _ _ _ _ (by simp [rdCells])
theorem Rd.setPlace(h:Rd w b T s lim x vn tl)(e:Int):Rd (w.setCell ⟨b,7,none⟩ (.int .i64 e)) b T s lim {x with place:=e} vn tl:=h.set 7 _ _ _ _ (by simp [rdCells])
theorem Rd.setTaken(h:Rd w b T s lim x vn tl)(e:Nat):Rd (w.setCell ⟨b,8,none⟩ (.int .i64 (e:Nat))) b T s lim {x with taken:=e} vn tl:=h.set 8 _ _ _ _ (by simp [rdCells])
theorem Rd.setFrames(h:Rd w b T s lim x vn tl)(e:Nat):Rd (w.setCell ⟨b,9,none⟩ (.int .i64 (e:Nat))) b T s lim {x with frames:=e} vn tl:=h.set 9 _ _ _ _ (by simp [rdCells])
theorem Rd.setEnded(h:Rd w b T s lim x vn tl)(e:Bool):Rd (w.setCell ⟨b,10,none⟩ (.bool e)) b T s lim {x with ended:=e} vn tl:=h.set 10 _ _ _ _ (by simp [rdCells])
end
theorem EL(b T:Nat)(a:Nat)(s:Bytes)(lim:Lim)(x:St)(vn:Value)(tl:List Value)(w:World)(h:Rd w b T s lim x vn tl):
  Calls Tryz.prog 148 #[.pointer (some ⟨b,0,none⟩),.int .i64 (a:Nat)] w fun r w'=>r= .returned (.tuple #[])/\Rd w' b T s lim (take x a) vn tl/\Fr (It b) w w':=by
 obtain⟨_,_,_,_,_,_,c8,_,_⟩:=h.cells;have f8:=h.free 8;by_cases hlt:x.taken<a
 ·have H:=zz (aN (h.setTaken a) (show take x a= {x with taken:=a} by unfold take; rw [Nat.max_eq_right (Nat.le_of_lt hlt)]));have hz:(x.taken:Int)<(a:Int):=by omega
  clear h;go_enter Tryz.func148,Tryz.ntmps148;go_wp2;go_end0
  rw [H.out.2];exact⟨rfl,H.out.1,It.set _⟩
 ·have H:=zz (aN h (show take x a=x by unfold take; rw [Nat.max_eq_left (Nat.le_of_not_lt hlt)]));have hz:¬(x.taken:Int)<(a:Int):=by omega
  clear h;go_enter Tryz.func148,Tryz.ntmps148;go_wp2;go_end0
  rw [H.out.2];exact⟨rfl,H.out.1,fR _ _⟩
theorem AS(b T:Nat)(p e:Int)(s:Bytes)(lim:Lim)(x:St)(vn:Value)(tl:List Value)(w:World)(h:Rd w b T s lim x vn tl):
  Calls Tryz.prog 122 #[.pointer (some ⟨b,0,none⟩),.int .i64 p,.int .i64 e] w fun r w'=>r= .returned (.bool false)/\Rd w' b T s lim (fault x p e) vn tl/\Fr (It b) w w':=by
 obtain⟨_,_,_,_,c6,c7,_,_,_⟩:=h.cells;have f6:=h.free 6;have f7:=h.free 7;have H:=zz ((h.setErr e).setPlace p);clear h;go_enter Tryz.func122,Tryz.ntmps122;go_wp2;go_ret;exact⟨rfl,H.out,(It.set _).trans (It.set _) (fun _ _ h=>h)⟩
theorem AW(b T:Nat)(p:Nat)(s:Bytes)(lim:Lim)(x:St)(vn:Value)(tl:List Value)(w:World)(h:Rd w b T s lim x vn tl)(hs:s.length<=maxLen)(hb:1<=lim.b)(hb2:lim.b<=262144)(hp:p<=maxLen):
  Calls Tryz.prog 121 #[.pointer (some ⟨b,0,none⟩),.int .i64 (p:Nat)] w fun r w'=>r= .returned (.bool (want s lim x p).1)/\Rd w' b T s lim (want s lim x p).2 vn tl/\Fr (It b) w w':=by
 unfold maxLen at hs hp;have hsz:(ByteArray.mk s.toArray).size=s.length:=Ad s;obtain⟨c0,_,_,c3,_,_,_,_,c10⟩:=h.cells;by_cases h1:p<s.length/\(p:Int)<lim.b
 ·obtain⟨h1a,h1b⟩:=h1;have hz:(p:Int)<(s.length:Int):=by omega
  have H:=zz (aN h (show want s lim x p=(true,take x (p+1)) by unfold want; rw [if_pos ⟨h1a,h1b⟩]));clear h h1a;go_enter Tryz.func121,Tryz.ntmps121;go_wp2_with fail;refine(EL b T (p+1) s lim x vn tl _ H.out.1).mono ?_;rintro e w1 ⟨rfl,hr,hf⟩;have H2:=zz (aN hr hf);clear hr hf;go_wp2;go_ret;rw [H.out.2];exact⟨rfl,H2.out.1,H2.out.2⟩
 ·have hcase:(¬(p:Int)<(s.length:Int))\/((p:Int)<(s.length:Int)/\¬(p:Int)<lim.b):=by omega
  by_cases h2:lim.b<s.length
  ·have H:=zz (aN h (show want s lim x p=(false,fault (take x lim.b.toNat) lim.b 10) by unfold want; rw [if_neg h1,if_pos h2]));have HB:=zz (show((lim.b.toNat:Nat):Int)=lim.b by omega);have hd:decide (lim.b<(s.length:Int))=true:=dt h2;clear h h1;rcases hcase with hg | ⟨hg,hg2⟩
   all_goals
    go_enter Tryz.func121,Tryz.ntmps121;go_wp2_with fail;go_quiet (fail)
    go_wp2_with fail;have ht:=EL b T lim.b.toNat s lim x vn tl (w.drewN nq) (H.out.1.drewN nq);rw [HB.out]at ht;refine ht.mono ?_;clear ht c0 c3 c10;rintro e w1 ⟨rfl,hr,hf⟩;obtain⟨c0,_,_,c3,_,_,_,_,c10⟩:=hr.cells;have H2:=zz (aN hr ((Fr.drewN (fR (It b) w) nq).trans hf (fun _ _ h=>h)));clear hr hf;go_wp2_with fail;refine(AS b T lim.b 10 s lim _ vn tl _ H2.out.1).mono ?_;rintro e w2 ⟨rfl,hr,hf⟩;have H3:=zz (aN hr (H2.out.2.trans hf (fun _ _ h=>h)));clear hr hf;go_wp2;go_ret;rw [H.out.2];exact⟨rfl,H3.out.1,H3.out.2⟩
  ·have H:=zz (aN h (show want s lim x p=(false,{fault (take x s.length) s.length 9 with ended:=true}) by unfold want; rw [if_neg h1,if_neg h2]));have hd:decide (lim.b<(s.length:Int))=false:=df h2;have hg:¬(p:Int)<(s.length:Int):=by omega
   clear h h1 hcase
   focus
    go_enter Tryz.func121,Tryz.ntmps121;go_wp2_with fail;go_quiet (fail)
    go_wp2_with fail;refine(EL b T s.length s lim x vn tl (w.drewN nq) (H.out.1.drewN nq)).mono ?_;clear c0 c3 c10;rintro e w1 ⟨rfl,hr,hf⟩;obtain⟨c0,_,_,c3,_,_,_,_,c10⟩:=hr.cells;have f10:=hr.free 10;have H2:=zz (aN (hr.setEnded true) (((Fr.drewN (fR (It b) w) nq).trans hf (fun _ _ h=>h)).trans (It.set (i:=10) (.bool true)) (fun _ _ h=>h)));clear hr hf;go_wp2_with fail;refine(AS b T s.length 9 s lim _ vn tl _ H2.out.1).mono ?_;rintro e w2 ⟨rfl,hr,hf⟩;have H3:=zz (aN hr (H2.out.2.trans hf (fun _ _ h=>h)));clear hr hf;go_wp2;go_ret;rw [H.out.2];exact⟨rfl,H3.out.1,H3.out.2⟩
end Go.Proofs.YtpfhollohodcjaaGreatDoor
namespace Go.Px.Utf
open Go.Lib
def utfW(l:Bytes):Nat:=if l=[]then 0 else if(decodeL l).1=65533/\(decodeL l).2=1 then 0 else(decodeL l).2
def utfE(n b0 b1 b2 b3:Nat):Nat:=
 if b0<128 then 1
 else if 192<=b0/\b0<224 then
  (if n<2 then 0 else if b1<128\/191<b1 then 0 else if(b0 - 192)*64+(b1 - 128)<128 then 0 else 2)
 else if 224<=b0/\b0<240 then
  (if n<3 then 0 else if b1<128\/191<b1 then 0 else if b2<128\/191<b2 then 0 else
   if((b0 - 224)*64+(b1 - 128))*64+(b2 - 128)<2048\/(55296<=((b0 - 224)*64+(b1 - 128))*64+(b2 - 128)/\((b0 - 224)*64+(b1 - 128))*64+(b2 - 128)<57344)then 0 else 3)
 else if 240<=b0/\b0<248 then
  (if n<4 then 0 else if b1<128\/191<b1 then 0 else if b2<128\/191<b2 then 0 else if b3<128\/191<b3 then 0 else
   if(((b0 - 240)*64+(b1 - 128))*64+(b2 - 128))*64+(b3 - 128)<65536\/1114111<(((b0 - 240)*64+(b1 - 128))*64+(b2 - 128))*64+(b3 - 128)then 0 else 4)
 else 0
theorem MN(n b0 b1 b2 b3:Nat)(h0:b0<256)(h1:b1<256)(h2:b2<256)(h3:b3<256):
  (if(decodeN n b0 b1 b2 b3).1=65533/\(decodeN n b0 b1 b2 b3).2=1 then 0 else(decodeN n b0 b1 b2 b3).2)=utfE n b0 b1 b2 b3:=by
 obtain⟨D,hD⟩:∃D,D=decodeN n b0 b1 b2 b3:=⟨_,rfl⟩
 rw [<-hD];unfold decodeN at hD
 repeat' split at hD
 all_goals
  subst hD
  first | rw [if_pos ⟨rfl,rfl⟩]| (rw [if_neg (by simp only; omega)])
  unfold utfE
  repeat' split
 all_goals first | rfl | omega
theorem Cn(l:Bytes)(hl:l≠ []):utfW l=utfE l.length (l.getD 0 0).toNat (l.getD 1 0).toNat (l.getD 2 0).toNat (l.getD 3 0).toNat:=by
 unfold utfW;rw [if_neg hl,decodeL_N];exact MN _ _ _ _ _ (UInt8.toNat_lt _) (UInt8.toNat_lt _) (UInt8.toNat_lt _) (UInt8.toNat_lt _)
theorem GY(n:Nat):validGoD n []=true:=by
 cases n<;>simp [validGoD]
theorem GG(n:Nat)(l:Bytes)(hl:l≠ []):validGoD (n+1) l=if utfW l=0 then false else validGoD n (l.drop (utfW l)):=by
 have e:validGoD (n+1) l=if l=[]then true else if(decodeL l).1=65533/\(decodeL l).2=1 then false else validGoD n (l.drop (decodeL l).2):=rfl
 rw [e];unfold utfW;rw [if_neg hl,if_neg hl];have:=decodeL_width l;by_cases h:(decodeL l).1=65533/\(decodeL l).2=1
 ·rw [if_pos h,if_pos h,if_pos rfl]
 ·rw [if_neg h,if_neg h,if_neg (by omega)]
theorem MO(l:Bytes):utfW l<=l.length:=by
 unfold utfW;by_cases hl:l=[]
 ·rw [if_pos hl]; omega
 ·rw [if_neg hl]
  split
  ·omega
  ·exact decodeL_le l hl
def contC(l:Bytes)(c0:Nat):Nat->Nat
 | 0=>c0
 | k+1=>64*contC l c0 k+((l.getD (k+1) 0).toNat - 128)
def contOk(l:Bytes)(k:Nat):Prop:=∀j,1<=j->j<=k->128<=(l.getD j 0).toNat/\(l.getD j 0).toNat<=191
theorem De{l:Bytes}{k:Nat}(h:contOk l k)(a:128<=(l.getD (k+1) 0).toNat)(b:(l.getD (k+1) 0).toNat<=191):contOk l (k+1):=fun j h1 h2=>by
 by_cases e:j=k+1
 ·subst e; exact⟨a,b⟩
 ·exact h j h1 (by omega)
theorem Dn(l:Bytes)(c0 k:Nat):contC l c0 (k+1)<=64*contC l c0 k+127:=by
 have:=(l.getD (k+1) 0).toNat_lt;show 64*contC l c0 k+((l.getD (k+1) 0).toNat - 128)<=_;omega
theorem EM(l:Bytes)(c0 k:Nat)(h0:c0<=31)(hk:k<=3):contC l c0 k<=9000000:=by
 have e0:contC l c0 0=c0:=rfl;have h1:contC l c0 1<=64*contC l c0 0+127:=Dn l c0 0;have h2:contC l c0 2<=64*contC l c0 1+127:=Dn l c0 1;have h3:contC l c0 3<=64*contC l c0 2+127:=Dn l c0 2;have:k=0\/k=1\/k=2\/k=3:=by omega
 rcases this with h | h | h | h<;>rw [h]<;>omega
theorem DS(l:Bytes)(hl:l≠ [])(n lo hi:Nat)(hn:n=2/\lo=192/\hi=224\/n=3/\lo=224/\hi=240\/n=4/\lo=240/\hi=248)(h1:lo<=(l.getD 0 0).toNat)(h2:(l.getD 0 0).toNat<hi)(hs:l.length<n):utfW l=0:=by
 rw [Cn l hl];unfold utfE;rcases hn with ⟨rfl,rfl,rfl⟩| ⟨rfl,rfl,rfl⟩| ⟨rfl,rfl,rfl⟩
 ·rw [if_neg (by omega),if_pos (by omega),if_pos hs]
 ·rw [if_neg (by omega),if_neg (by omega),if_pos (by omega),if_pos hs]
 ·rw [if_neg (by omega),if_neg (by omega),if_neg (by omega),if_pos (by omega),if_pos hs]
theorem EN(l:Bytes)(hl:l≠ [])(n lo hi k:Nat)(hn:n=2/\lo=192/\hi=224\/n=3/\lo=224/\hi=240\/n=4/\lo=240/\hi=248)(h1:lo<=(l.getD 0 0).toNat)(h2:(l.getD 0 0).toNat<hi)(hs:¬l.length<n)(hk:k+1<n)(ho:contOk l k)(hb:(l.getD (k+1) 0).toNat<128\/191<(l.getD (k+1) 0).toNat):utfW l=0:=by
 rw [Cn l hl];unfold utfE;have o1:=ho 1 (by omega);have o2:=ho 2 (by omega);rcases hn with ⟨rfl,rfl,rfl⟩| ⟨rfl,rfl,rfl⟩| ⟨rfl,rfl,rfl⟩
 ·obtain rfl:k=0:=by omega
  rw [if_neg (by omega),if_pos (by omega),if_neg hs,if_pos hb]
 ·rw [if_neg (by omega),if_neg (by omega),if_pos (by omega),if_neg hs];have:k=0\/k=1:=by omega
  rcases this with rfl | rfl
  ·rw [if_pos hb]
  ·rw [if_neg (by have:=o1 (by omega); omega),if_pos hb]
 ·rw [if_neg (by omega),if_neg (by omega),if_neg (by omega),if_pos (by omega),if_neg hs];have:k=0\/k=1\/k=2:=by omega
  rcases this with rfl | rfl | rfl
  ·rw [if_pos hb]
  ·rw [if_neg (by have:=o1 (by omega); omega),if_pos hb]
  ·rw [if_neg (by have:=o1 (by omega); omega),if_neg (by have:=o2 (by omega); omega),if_pos hb]
theorem Jy(l:Bytes)(hl:l≠ [])(h1:192<=(l.getD 0 0).toNat)(h2:(l.getD 0 0).toNat<224)(hs:¬l.length<2)(ho:contOk l 1)(C:Nat)(hC:C=contC l ((l.getD 0 0).toNat - 192) 1):
  ((C<128\/1114111<C\/(55296<=C/\C<57344))->utfW l=0)/\(¬(C<128\/1114111<C\/(55296<=C/\C<57344))->utfW l=2):=by
 have p1:=ho 1 (by omega) (by omega);have hC':C=64*((l.getD 0 0).toNat - 192)+((l.getD 1 0).toNat - 128):=hC;clear hC;rw [Cn l hl];unfold utfE;constructor
 ·intro hb;rw [if_neg (by omega),if_pos (by omega),if_neg hs,if_neg (by omega),if_pos (by omega)]
 ·intro hb;rw [if_neg (by omega),if_pos (by omega),if_neg hs,if_neg (by omega),if_neg (by omega)]
theorem Jz(l:Bytes)(hl:l≠ [])(h1:224<=(l.getD 0 0).toNat)(h2:(l.getD 0 0).toNat<240)(hs:¬l.length<3)(ho:contOk l 2)(C:Nat)(hC:C=contC l ((l.getD 0 0).toNat - 224) 2):
  ((C<2048\/1114111<C\/(55296<=C/\C<57344))->utfW l=0)/\(¬(C<2048\/1114111<C\/(55296<=C/\C<57344))->utfW l=3):=by
 have p1:=ho 1 (by omega) (by omega);have p2:=ho 2 (by omega) (by omega);have hC':C=64*(64*((l.getD 0 0).toNat - 224)+((l.getD 1 0).toNat - 128))+((l.getD 2 0).toNat - 128):=hC;clear hC;rw [Cn l hl];unfold utfE;constructor
 ·intro hb;rw [if_neg (by omega),if_neg (by omega),if_pos (by omega),if_neg hs,if_neg (by omega),if_neg (by omega),if_pos (by omega)]
 ·intro hb;rw [if_neg (by omega),if_neg (by omega),if_pos (by omega),if_neg hs,if_neg (by omega),if_neg (by omega),if_neg (by omega)]
theorem JA(l:Bytes)(hl:l≠ [])(h1:240<=(l.getD 0 0).toNat)(h2:(l.getD 0 0).toNat<248)(hs:¬l.length<4)(ho:contOk l 3)(C:Nat)(hC:C=contC l ((l.getD 0 0).toNat - 240) 3):
  ((C<65536\/1114111<C\/(55296<=C/\C<57344))->utfW l=0)/\(¬(C<65536\/1114111<C\/(55296<=C/\C<57344))->utfW l=4):=by
 have p1:=ho 1 (by omega) (by omega);have p2:=ho 2 (by omega) (by omega);have p3:=ho 3 (by omega) (by omega);have hC':C=64*(64*(64*((l.getD 0 0).toNat - 240)+((l.getD 1 0).toNat - 128))+((l.getD 2 0).toNat - 128))+((l.getD 3 0).toNat - 128):=hC;clear hC;rw [Cn l hl];unfold utfE;constructor
 ·intro hb;rw [if_neg (by omega),if_neg (by omega),if_neg (by omega),if_pos (by omega),if_neg hs,if_neg (by omega),if_neg (by omega),if_neg (by omega),if_pos (by omega)]
 ·intro hb;rw [if_neg (by omega),if_neg (by omega),if_neg (by omega),if_pos (by omega),if_neg hs,if_neg (by omega),if_neg (by omega),if_neg (by omega),if_neg (by omega)]
theorem Kk(l:Bytes)(hl:l≠ [])(h:(l.getD 0 0).toNat<128):utfW l=1:=by
 rw [Cn l hl]; unfold utfE; rw [if_pos h]
theorem Lv(l:Bytes)(hl:l≠ [])(h:128<=(l.getD 0 0).toNat)(h2:(l.getD 0 0).toNat<192\/248<=(l.getD 0 0).toNat):utfW l=0:=by
 rw [Cn l hl]; unfold utfE; rw [if_neg (by omega),if_neg (by omega),if_neg (by omega),if_neg (by omega)]
end Go.Px.Utf
namespace Go.Proofs.YtpfhollohodcjaaGreatDoor
open Go.RowKit Go.Px Go.Px.Utf
theorem MP(w:World):Calls Tryz.prog 162 #[S []] w fun e w'=>e= .returned (.int .i64 0)/\Same w w':=by
 go_enter Tryz.func162,Tryz.ntmps162;go_wp2;go_ret;exact⟨rfl,sE w⟩
theorem MQ(l:Bytes)(w:World)(hlen:l.length<=maxLen)(hne:l≠ [])(h:(l.getD 0 0).toNat<128):
  Calls Tryz.prog 162 #[S l] w fun e w'=>e= .returned (.int .i64 (utfW l:Nat))/\Same w w':=by
 unfold maxLen at hlen;have _:=hlen;have hsz:(ByteArray.mk l.toArray).size=l.length:=Ad l;have hpos:0<l.length:=List.length_pos_iff.2 hne;have hposz:((l.length:Int)==0)=false:=by simp; omega
 have i0:∀w,(Instr.index 9 (S l) (.int .i64 0)).run Tryz.prog w= .ok (.int .u8 (l.getD 0 0).toNat) w:=fun w=>AK l 0 hpos w
 have hb:=(l.getD 0 0).toNat_lt;have hu:=Kk l hne h;have H:=zz hu;obtain⟨b,hbb⟩:∃b,b=(l.getD 0 0).toNat:=⟨_,rfl⟩
 rw [<-hbb]at i0 hb h;have hz:(b:Int)<128:=by omega
 clear hu hbb hne h;go_enter Tryz.func162,Tryz.ntmps162;go_wp2;go_ret;rw [H.out];exact⟨rfl,sE w⟩
theorem MR(l:Bytes)(w:World)(hlen:l.length<=maxLen)(hne:l≠ [])(h:128<=(l.getD 0 0).toNat)(h2:(l.getD 0 0).toNat<192\/248<=(l.getD 0 0).toNat):
  Calls Tryz.prog 162 #[S l] w fun e w'=>e= .returned (.int .i64 (utfW l:Nat))/\Same w w':=by
 unfold maxLen at hlen;have _:=hlen;have hsz:(ByteArray.mk l.toArray).size=l.length:=Ad l;have hpos:0<l.length:=List.length_pos_iff.2 hne;have hposz:((l.length:Int)==0)=false:=by simp; omega
 have i0:∀w,(Instr.index 9 (S l) (.int .i64 0)).run Tryz.prog w= .ok (.int .u8 (l.getD 0 0).toNat) w:=fun w=>AK l 0 hpos w
 have hb:=(l.getD 0 0).toNat_lt;have hu:=Lv l hne h h2;have H:=zz hu;obtain⟨b,hbb⟩:∃b,b=(l.getD 0 0).toNat:=⟨_,rfl⟩
 rw [<-hbb]at i0 hb h h2;have hz:¬(b:Int)<128:=by omega
 clear hu hbb hne;rcases h2 with h2 | h2
 ·have g1:¬(192:Int)<=(b:Int):=by omega
  have g2:¬(224:Int)<=(b:Int):=by omega
  have g3:¬(240:Int)<=(b:Int):=by omega
  go_enter Tryz.func162,Tryz.ntmps162;go_wp2;go_ret;rw [H.out];exact⟨rfl,sE w⟩
 ·have g1:(192:Int)<=(b:Int):=by omega
  have g2:(224:Int)<=(b:Int):=by omega
  have g3:(240:Int)<=(b:Int):=by omega
  have g4:¬(b:Int)<224:=by omega
  have g5:¬(b:Int)<240:=by omega
  have g6:¬(b:Int)<248:=by omega
  go_enter Tryz.func162,Tryz.ntmps162;go_wp2;go_ret;rw [H.out];exact⟨rfl,sE w⟩
theorem N7(l:Bytes)(w:World)(hlen:l.length<=maxLen)(hne:l≠ [])(h1:192<=(l.getD 0 0).toNat)(h2:(l.getD 0 0).toNat<224):
  Calls Tryz.prog 162 #[S l] w fun e w'=>e= .returned (.int .i64 (utfW l:Nat))/\Same w w':=by
 unfold maxLen at hlen;have _:=hlen;have hsz:(ByteArray.mk l.toArray).size=l.length:=Ad l;have hpos:0<l.length:=List.length_pos_iff.2 hne;have hposz:((l.length:Int)==0)=false:=by simp; omega
 have i0:∀w,(Instr.index 9 (S l) (.int .i64 0)).run Tryz.prog w= .ok (.int .u8 (l.getD 0 0).toNat) w:=fun w=>AK l 0 hpos w
 have hb:=(l.getD 0 0).toNat_lt;have hsh:=DS l hne 2 192 224 (.inl ⟨rfl,rfl,rfl⟩) h1 h2;have hco:=fun k=>EN l hne 2 192 224 k (.inl ⟨rfl,rfl,rfl⟩) h1 h2
 have hwh:=Jy l hne h1 h2;obtain⟨b,hbb⟩:∃b,b=(l.getD 0 0).toNat:=⟨_,rfl⟩
 rw [<-hbb]at i0 hb h1 h2 hwh;have hcz:((b - 192:Nat):Int)=(b:Int) - 192:=by omega
 have hcl:b - 192<=31:=by omega
 have H:=zz (aN hco (aN hwh (aN hcz hcl)));have hz:¬(b:Int)<128:=by omega
 have ga192:(192:Int)<=(b:Int):=by omega
 have gb224:(b:Int)<224:=by omega
 clear hbb hco hwh hcz hcl hne;by_cases hs:l.length<2
 ·have H2:=zz (hsh hs);have hsz2:(l.length:Int)<2:=by omega
  clear hsh H;go_enter Tryz.func162,Tryz.ntmps162;go_wp2;go_ret;rw [H2.out];exact⟨rfl,sE w⟩
 ·have hsz2:¬(l.length:Int)<2:=by omega
  clear hsh;go_enter Tryz.func162,Tryz.ntmps162;go_wp2;go_loop [4,6] (fun c i=>∃j C:Nat,1<=j/\j<=2/\i= .int .i64 (j:Nat)/\c= .int .i64 (C:Nat)/\Hid (C=contC l (b - 192) (j - 1)/\contOk l (j - 1))) (fun _ i=>2 - (intOf i).toNat)
  case atStart=>exact⟨1,b - 192,by omega,by omega,rfl,by rw [H.out.2.2.1],zz ⟨rfl,fun j a b=>by omega⟩⟩
  case round=>
   obtain⟨j,C,hj1,hj2,rfl,rfl,HC⟩:=hrel;have hcb:=EM l (b - 192) (j - 1) H.out.2.2.2 (by omega);rw [<-HC.out.1]at hcb;by_cases hlt:j<2
   ·have hix:∀w,(Instr.index 9 (S l) (.int .i64 (j:Nat))).run Tryz.prog w= .ok (.int .u8 (l.getD j 0).toNat) w:=fun w=>AK l j (by omega) w
    have hc2:=(l.getD j 0).toNat_lt;have hn2:contC l (b - 192) j=64*C+((l.getD j 0).toNat - 128):=by
     obtain⟨k,rfl⟩:∃k,j=k+1:=⟨j - 1,by omega⟩
     rw [HC.out.1]; rfl
    have hbd:((l.getD j 0).toNat<128\/191<(l.getD j 0).toNat)->utfW l=0:=by
     obtain⟨k,rfl⟩:∃k,j=k+1:=⟨j - 1,by omega⟩
     exact H.out.1 k hs hlt HC.out.2
    have hok:128<=(l.getD j 0).toNat->(l.getD j 0).toNat<=191->contOk l j:=by
     obtain⟨k,rfl⟩:∃k,j=k+1:=⟨j - 1,by omega⟩
     exact De HC.out.2
    have HC:=zz (aN hn2 (aN hbd hok));clear hn2 hbd hok;obtain⟨c,hcc⟩:∃c,c=(l.getD j 0).toNat:=⟨_,rfl⟩
    rw [<-hcc]at hix hc2;have HCC:=zz hcc;clear hcc;have hlz:(j:Int)<2:=by omega
    by_cases hb1:c<128
    ·have z1:(c:Int)<128:=by omega
     go_wp2;go_ret;rw [HC.out.2.1 (by rw [<-HCC.out]; exact .inl hb1)];exact⟨rfl,sE w⟩
    ·have z1:¬(c:Int)<128:=by omega
     by_cases hb2:191<c
     ·have z2:(191:Int)<(c:Int):=by omega
      go_wp2;go_ret;rw [HC.out.2.1 (by rw [<-HCC.out]; exact .inr hb2)];exact⟨rfl,sE w⟩
     ·have z2:¬(191:Int)<(c:Int):=by omega
      go_wp2;go_round
      case rel=>exact⟨j+1,64*C+(c - 128),by omega,by omega,by go_num,by go_num,zz ⟨by rw [Nat.add_sub_cancel,HC.out.1,<-HCC.out],by rw [Nat.add_sub_cancel]; exact HC.out.2.2 (by rw [<-HCC.out]; omega) (by rw [<-HCC.out]; omega)⟩⟩
      case measure=>simp [intOf]; omega
   ·have hke:j=2:=by omega
    subst hke;have HW:=zz (H.out.2.1 hs HC.out.2 C HC.out.1);clear HC;go_wp2;all_goals
     go_ret;refine⟨?_,(fR _ w).alloc _⟩
     first
     | (rw [HW.out.1 (by omega)]; rfl)
     | (rw [HW.out.2 (by omega)]; rfl)
theorem N8(l:Bytes)(w:World)(hlen:l.length<=maxLen)(hne:l≠ [])(h1:224<=(l.getD 0 0).toNat)(h2:(l.getD 0 0).toNat<240):
  Calls Tryz.prog 162 #[S l] w fun e w'=>e= .returned (.int .i64 (utfW l:Nat))/\Same w w':=by
 unfold maxLen at hlen;have _:=hlen;have hsz:(ByteArray.mk l.toArray).size=l.length:=Ad l;have hpos:0<l.length:=List.length_pos_iff.2 hne;have hposz:((l.length:Int)==0)=false:=by simp; omega
 have i0:∀w,(Instr.index 9 (S l) (.int .i64 0)).run Tryz.prog w= .ok (.int .u8 (l.getD 0 0).toNat) w:=fun w=>AK l 0 hpos w
 have hb:=(l.getD 0 0).toNat_lt;have hsh:=DS l hne 3 224 240 (.inr (.inl ⟨rfl,rfl,rfl⟩)) h1 h2;have hco:=fun k=>EN l hne 3 224 240 k (.inr (.inl ⟨rfl,rfl,rfl⟩)) h1 h2
 have hwh:=Jz l hne h1 h2;obtain⟨b,hbb⟩:∃b,b=(l.getD 0 0).toNat:=⟨_,rfl⟩
 rw [<-hbb]at i0 hb h1 h2 hwh;have hcz:((b - 224:Nat):Int)=(b:Int) - 224:=by omega
 have hcl:b - 224<=31:=by omega
 have H:=zz (aN hco (aN hwh (aN hcz hcl)));have hz:¬(b:Int)<128:=by omega
 have ga192:(192:Int)<=(b:Int):=by omega
 have gb224:¬(b:Int)<224:=by omega
 have ga224:(224:Int)<=(b:Int):=by omega
 have gb240:(b:Int)<240:=by omega
 clear hbb hco hwh hcz hcl hne;by_cases hs:l.length<3
 ·have H2:=zz (hsh hs);have hsz2:(l.length:Int)<3:=by omega
  clear hsh H;go_enter Tryz.func162,Tryz.ntmps162;go_wp2;go_ret;rw [H2.out];exact⟨rfl,sE w⟩
 ·have hsz2:¬(l.length:Int)<3:=by omega
  clear hsh;go_enter Tryz.func162,Tryz.ntmps162;go_wp2;go_loop [4,6] (fun c i=>∃j C:Nat,1<=j/\j<=3/\i= .int .i64 (j:Nat)/\c= .int .i64 (C:Nat)/\Hid (C=contC l (b - 224) (j - 1)/\contOk l (j - 1))) (fun _ i=>3 - (intOf i).toNat)
  case atStart=>exact⟨1,b - 224,by omega,by omega,rfl,by rw [H.out.2.2.1],zz ⟨rfl,fun j a b=>by omega⟩⟩
  case round=>
   obtain⟨j,C,hj1,hj2,rfl,rfl,HC⟩:=hrel;have hcb:=EM l (b - 224) (j - 1) H.out.2.2.2 (by omega);rw [<-HC.out.1]at hcb;by_cases hlt:j<3
   ·have hix:∀w,(Instr.index 9 (S l) (.int .i64 (j:Nat))).run Tryz.prog w= .ok (.int .u8 (l.getD j 0).toNat) w:=fun w=>AK l j (by omega) w
    have hc2:=(l.getD j 0).toNat_lt;have hn2:contC l (b - 224) j=64*C+((l.getD j 0).toNat - 128):=by
     obtain⟨k,rfl⟩:∃k,j=k+1:=⟨j - 1,by omega⟩
     rw [HC.out.1]; rfl
    have hbd:((l.getD j 0).toNat<128\/191<(l.getD j 0).toNat)->utfW l=0:=by
     obtain⟨k,rfl⟩:∃k,j=k+1:=⟨j - 1,by omega⟩
     exact H.out.1 k hs hlt HC.out.2
    have hok:128<=(l.getD j 0).toNat->(l.getD j 0).toNat<=191->contOk l j:=by
     obtain⟨k,rfl⟩:∃k,j=k+1:=⟨j - 1,by omega⟩
     exact De HC.out.2
    have HC:=zz (aN hn2 (aN hbd hok));clear hn2 hbd hok;obtain⟨c,hcc⟩:∃c,c=(l.getD j 0).toNat:=⟨_,rfl⟩
    rw [<-hcc]at hix hc2;have HCC:=zz hcc;clear hcc;have hlz:(j:Int)<3:=by omega
    by_cases hb1:c<128
    ·have z1:(c:Int)<128:=by omega
     go_wp2;go_ret;rw [HC.out.2.1 (by rw [<-HCC.out]; exact .inl hb1)];exact⟨rfl,sE w⟩
    ·have z1:¬(c:Int)<128:=by omega
     by_cases hb2:191<c
     ·have z2:(191:Int)<(c:Int):=by omega
      go_wp2;go_ret;rw [HC.out.2.1 (by rw [<-HCC.out]; exact .inr hb2)];exact⟨rfl,sE w⟩
     ·have z2:¬(191:Int)<(c:Int):=by omega
      go_wp2;go_round
      case rel=>exact⟨j+1,64*C+(c - 128),by omega,by omega,by go_num,by go_num,zz ⟨by rw [Nat.add_sub_cancel,HC.out.1,<-HCC.out],by rw [Nat.add_sub_cancel]; exact HC.out.2.2 (by rw [<-HCC.out]; omega) (by rw [<-HCC.out]; omega)⟩⟩
      case measure=>simp [intOf]; omega
   ·have hke:j=3:=by omega
    subst hke;have HW:=zz (H.out.2.1 hs HC.out.2 C HC.out.1);clear HC;go_wp2;all_goals
     go_ret;refine⟨?_,(fR _ w).alloc _⟩
     first
     | (rw [HW.out.1 (by omega)]; rfl)
     | (rw [HW.out.2 (by omega)]; rfl)
theorem N9(l:Bytes)(w:World)(hlen:l.length<=maxLen)(hne:l≠ [])(h1:240<=(l.getD 0 0).toNat)(h2:(l.getD 0 0).toNat<248):
  Calls Tryz.prog 162 #[S l] w fun e w'=>e= .returned (.int .i64 (utfW l:Nat))/\Same w w':=by
 unfold maxLen at hlen;have _:=hlen;have hsz:(ByteArray.mk l.toArray).size=l.length:=Ad l;have hpos:0<l.length:=List.length_pos_iff.2 hne;have hposz:((l.length:Int)==0)=false:=by simp; omega
 have i0:∀w,(Instr.index 9 (S l) (.int .i64 0)).run Tryz.prog w= .ok (.int .u8 (l.getD 0 0).toNat) w:=fun w=>AK l 0 hpos w
 have hb:=(l.getD 0 0).toNat_lt;have hsh:=DS l hne 4 240 248 (.inr (.inr ⟨rfl,rfl,rfl⟩)) h1 h2;have hco:=fun k=>EN l hne 4 240 248 k (.inr (.inr ⟨rfl,rfl,rfl⟩)) h1 h2
 have hwh:=JA l hne h1 h2;obtain⟨b,hbb⟩:∃b,b=(l.getD 0 0).toNat:=⟨_,rfl⟩
 rw [<-hbb]at i0 hb h1 h2 hwh;have hcz:((b - 240:Nat):Int)=(b:Int) - 240:=by omega
 have hcl:b - 240<=31:=by omega
 have H:=zz (aN hco (aN hwh (aN hcz hcl)));have hz:¬(b:Int)<128:=by omega
 have ga192:(192:Int)<=(b:Int):=by omega
 have gb224:¬(b:Int)<224:=by omega
 have ga224:(224:Int)<=(b:Int):=by omega
 have gb240:¬(b:Int)<240:=by omega
 have ga240:(240:Int)<=(b:Int):=by omega
 have gb248:(b:Int)<248:=by omega
 clear hbb hco hwh hcz hcl hne;by_cases hs:l.length<4
 ·have H2:=zz (hsh hs);have hsz2:(l.length:Int)<4:=by omega
  clear hsh H;go_enter Tryz.func162,Tryz.ntmps162;go_wp2;go_ret;rw [H2.out];exact⟨rfl,sE w⟩
 ·have hsz2:¬(l.length:Int)<4:=by omega
  clear hsh;go_enter Tryz.func162,Tryz.ntmps162;go_wp2;go_loop [4,6] (fun c i=>∃j C:Nat,1<=j/\j<=4/\i= .int .i64 (j:Nat)/\c= .int .i64 (C:Nat)/\Hid (C=contC l (b - 240) (j - 1)/\contOk l (j - 1))) (fun _ i=>4 - (intOf i).toNat)
  case atStart=>exact⟨1,b - 240,by omega,by omega,rfl,by rw [H.out.2.2.1],zz ⟨rfl,fun j a b=>by omega⟩⟩
  case round=>
   obtain⟨j,C,hj1,hj2,rfl,rfl,HC⟩:=hrel;have hcb:=EM l (b - 240) (j - 1) H.out.2.2.2 (by omega);rw [<-HC.out.1]at hcb;by_cases hlt:j<4
   ·have hix:∀w,(Instr.index 9 (S l) (.int .i64 (j:Nat))).run Tryz.prog w= .ok (.int .u8 (l.getD j 0).toNat) w:=fun w=>AK l j (by omega) w
    have hc2:=(l.getD j 0).toNat_lt;have hn2:contC l (b - 240) j=64*C+((l.getD j 0).toNat - 128):=by
     obtain⟨k,rfl⟩:∃k,j=k+1:=⟨j - 1,by omega⟩
     rw [HC.out.1]; rfl
    have hbd:((l.getD j 0).toNat<128\/191<(l.getD j 0).toNat)->utfW l=0:=by
     obtain⟨k,rfl⟩:∃k,j=k+1:=⟨j - 1,by omega⟩
     exact H.out.1 k hs hlt HC.out.2
    have hok:128<=(l.getD j 0).toNat->(l.getD j 0).toNat<=191->contOk l j:=by
     obtain⟨k,rfl⟩:∃k,j=k+1:=⟨j - 1,by omega⟩
     exact De HC.out.2
    have HC:=zz (aN hn2 (aN hbd hok));clear hn2 hbd hok;obtain⟨c,hcc⟩:∃c,c=(l.getD j 0).toNat:=⟨_,rfl⟩
    rw [<-hcc]at hix hc2;have HCC:=zz hcc;clear hcc;have hlz:(j:Int)<4:=by omega
    by_cases hb1:c<128
    ·have z1:(c:Int)<128:=by omega
     go_wp2;go_ret;rw [HC.out.2.1 (by rw [<-HCC.out]; exact .inl hb1)];exact⟨rfl,sE w⟩
    ·have z1:¬(c:Int)<128:=by omega
     by_cases hb2:191<c
     ·have z2:(191:Int)<(c:Int):=by omega
      go_wp2;go_ret;rw [HC.out.2.1 (by rw [<-HCC.out]; exact .inr hb2)];exact⟨rfl,sE w⟩
     ·have z2:¬(191:Int)<(c:Int):=by omega
      go_wp2;go_round
      case rel=>exact⟨j+1,64*C+(c - 128),by omega,by omega,by go_num,by go_num,zz ⟨by rw [Nat.add_sub_cancel,HC.out.1,<-HCC.out],by rw [Nat.add_sub_cancel]; exact HC.out.2.2 (by rw [<-HCC.out]; omega) (by rw [<-HCC.out]; omega)⟩⟩
      case measure=>simp [intOf]; omega
   ·have hke:j=4:=by omega
    subst hke;have HW:=zz (H.out.2.1 hs HC.out.2 C HC.out.1);clear HC;go_wp2;all_goals
     go_ret;refine⟨?_,(fR _ w).alloc _⟩
     first
     | (rw [HW.out.1 (by omega)]; rfl)
     | (rw [HW.out.2 (by omega)]; rfl)
theorem MS(l:Bytes)(w:World)(hlen:l.length<=maxLen):Calls Tryz.prog 162 #[S l] w fun e w'=>e= .returned (.int .i64 (utfW l:Nat))/\Same w w':=by
 by_cases hne:l=[]
 ·subst hne; exact MP w
 ·by_cases h1:(l.getD 0 0).toNat<128
  ·exact MQ l w hlen hne h1
  ·by_cases h2:(l.getD 0 0).toNat<192\/248<=(l.getD 0 0).toNat
   ·exact MR l w hlen hne (by omega) h2
   ·by_cases h3:(l.getD 0 0).toNat<224
    ·exact N7 l w hlen hne (by omega) h3
    ·by_cases h4:(l.getD 0 0).toNat<240
     ·exact N8 l w hlen hne (by omega) h4
     ·exact N9 l w hlen hne (by omega) (by omega)
theorem Lw(l:Bytes)(w:World)(hlen:l.length<=maxLen):Calls Tryz.prog 149 #[S l] w fun e w'=>e= .returned (.bool (Lib.validD l))/\Same w w':=by
 have hlen2:=hlen;unfold maxLen at hlen;have hsz:(ByteArray.mk l.toArray).size=l.length:=Ad l;have HL:=zz hlen2;clear hlen2;go_enter Tryz.func149,Tryz.ntmps149;go_wp2;go_loopw [3,4] (fun i _ wr=>∃k n:Nat,k<=l.length/\i= .int .i64 (k:Nat)/\l.length - k<=n/\Lib.validGoD n (l.drop k)=Lib.validD l/\Same w wr) (fun i _ _=>l.length - (intOf i).toNat)
 case atStart=>exact⟨0,l.length,Nat.zero_le _,rfl,by omega,rfl,sE w⟩
 case round=>
  obtain⟨k,n,hk,rfl,hn,hv,hs⟩:=hrel;by_cases hlt:k<l.length
  ·have hltz:(k:Int)<(l.length:Int):=by omega
   have hfr:∀w,(Instr.slice 9 (S l) (some (.int .i64 (k:Int))) none none).run Tryz.prog w= .ok (S (l.drop k)) w:=fun w=>NB l k hk w
   have hne:l.drop k≠ []:=by intro e; have:=congrArg List.length e; simp at this; omega
   obtain⟨m,rfl⟩:∃m,n=m+1:=⟨n - 1,by omega⟩
   have hst:=GG m (l.drop k) hne;rw [hv]at hst;have hle:=MO (l.drop k);rw [List.length_drop]at hle;rw [List.drop_drop]at hst;have hll:(l.drop k).length<=maxLen:=by have:=HL.out; rw [List.length_drop]; omega
   have HST:=zz (aN hst (aN hll hs));clear hst hll hs hv hne;go_wp2_with fail;refine(MS (l.drop k) _ HST.out.2.1).mono ?_;rintro e w' ⟨rfl,hs⟩;have HS:=zz (HST.out.2.2.trans hs);have HST:=zz HST.out.1;clear hs;obtain⟨u,hu⟩:∃u,u=utfW (l.drop k):=⟨_,rfl⟩
   rw [<-hu]at hle ⊢;have HU:=zz hu;clear hu;by_cases h0:u=0
   ·have hr:Lib.validD l=false:=by rw [HST.out,if_pos (by rw [<-HU.out]; exact h0)]
    have H:=zz hr;clear hr;subst h0;go_wp2;go_ret;rw [H.out];exact⟨rfl,HS.out⟩
   ·have hr:Lib.validD l=Lib.validGoD m (l.drop (k+u)):=by rw [HST.out,if_neg (by rw [<-HU.out]; exact h0),<-HU.out]
    have H:=zz hr;have h0z:((u:Int)==0)=false:=by simp; omega
    clear hr;go_wp2;go_roundw
    case rel=>exact⟨k+u,m,by omega,by go_num,by omega,H.out.symm,HS.out⟩
    case measure=>simp [intOf]; omega
  ·have hltz:¬(k:Int)<(l.length:Int):=by omega
   have hd:l.drop k=[]:=List.drop_eq_nil_of_le (by omega);rw [hd,GY]at hv;have H:=zz (aN hv hs);clear hd hv hs;go_wp2;go_ret;rw [<-H.out.1];exact⟨rfl,H.out.2⟩
end Go.Proofs.YtpfhollohodcjaaGreatDoor
namespace Go.Proofs.YtpfhollohodcjaaGreatDoor
open Go.RowKit Go.Px
theorem Im(n:Nat):(R5.plainT n=true/\(((1:Int)<=n/\(n:Int)<=6)\/((1:Int)<=n/\¬(n:Int)<=6/\((n:Int)==12)=true)))\/(R5.plainT n=false/\((¬(1:Int)<=n/\((n:Int)==12)=false)\/((1:Int)<=n/\¬(n:Int)<=6/\((n:Int)==12)=false))):=by
 unfold R5.plainT;by_cases h1:1<=n
 ·by_cases h6:n<=6
  ·exact .inl ⟨by rw [dt h1,dt h6]; rfl,.inl ⟨by omega,by omega⟩⟩
  ·by_cases h12:n=12
   ·exact .inl ⟨by rw [h12]; rfl,.inr ⟨by omega,by omega,beq_iff_eq.2 (by omega)⟩⟩
   ·exact .inr ⟨by rw [df h6,show(n==12)=false from bn h12,Bool.and_false]; rfl,.inr ⟨by omega,by omega,bn (by omega)⟩⟩
 ·exact .inr ⟨by rw [df h1,show(n==12)=false from bn (by omega)]; rfl,.inl ⟨by omega,bn (by omega)⟩⟩
theorem JB(n:Nat):(R5.manyT n=true/\(((n:Int)==16)=true\/(((n:Int)==16)=false/\((n:Int)==17)=true)))\/(R5.manyT n=false/\((n:Int)==16)=false/\((n:Int)==17)=false):=by
 unfold R5.manyT;by_cases h1:n=16
 ·exact .inl ⟨by rw [h1]; rfl,.inl (beq_iff_eq.2 (by omega))⟩
 ·by_cases h2:n=17
  ·exact .inl ⟨by rw [h2]; rfl,.inr ⟨bn (by omega),beq_iff_eq.2 (by omega)⟩⟩
  ·exact .inr ⟨by rw [show(n==16)=false from bn h1,show(n==17)=false from bn h2]; rfl,bn (by omega),bn (by omega)⟩
theorem Lx(cl n:Nat)(i P M:Bool)(hP:R5.plainT n=P)(hM:R5.manyT n=M):
  (((cl:Int)==0)=false/\((cl:Int)==2)=false/\tagP cl n i=11)\/
  (((cl:Int)==0)=false/\((cl:Int)==2)=true/\((n:Int)==31)=true/\tagP cl n i=11)\/
  (((cl:Int)==0)=false/\((cl:Int)==2)=true/\((n:Int)==31)=false/\tagP cl n i=0)\/
  (((cl:Int)==0)=true/\((n:Int)==31)=true/\tagP cl n i=11)\/
  (((cl:Int)==0)=true/\((n:Int)==31)=false/\P=false/\M=false/\tagP cl n i=11)\/
  (((cl:Int)==0)=true/\((n:Int)==31)=false/\(P=true\/(P=false/\M=true))/\((i !=M)=true/\tagP cl n i=9\/(i !=M)=false/\tagP cl n i=0)):=by
 by_cases h0:cl=0
 ·have b0:((cl:Int)==0)=true:=beq_iff_eq.2 (by omega);subst h0;by_cases h31:n=31
  ·exact .inr (.inr (.inr (.inl ⟨b0,beq_iff_eq.2 (by omega),by rw [h31]; rfl⟩)))
  ·have b31:((n:Int)==31)=false:=bn (by omega);have c31:(n==31)=false:=bn h31;have ht:tagP 0 n i=if(!P && !M)=true then 11 else if(i !=M)=true then 9 else 0:=by
    unfold tagP;rw [hP,hM,c31];simp
   rw [ht];cases P
   ·cases M
    ·exact .inr (.inr (.inr (.inr (.inl ⟨b0,b31,rfl,rfl,rfl⟩))))
    ·refine .inr (.inr (.inr (.inr (.inr ⟨b0,b31,.inr ⟨rfl,rfl⟩,?_⟩))));cases i<;>simp
   ·refine .inr (.inr (.inr (.inr (.inr ⟨b0,b31,.inl rfl,?_⟩))));cases i<;>cases M<;>simp
 ·have b0:((cl:Int)==0)=false:=bn (by omega);by_cases h2:cl=2
  ·subst h2;by_cases h31:n=31
   ·exact .inr (.inl ⟨b0,rfl,beq_iff_eq.2 (by omega),by rw [h31]; rfl⟩)
   ·refine .inr (.inr (.inl ⟨b0,rfl,bn (by omega),?_⟩));unfold tagP;rw [if_neg,if_neg]
    ·simp
    ·simp [h31]
  ·refine .inl ⟨b0,bn (by omega),?_⟩;unfold tagP;rw [if_pos];simp [h0,h2]
theorem AX(t:Nat)(ht:t<256)(w:World):Calls Tryz.prog 124 #[.int .u8 (t:Nat)] w fun r w'=>r= .returned (.int .i64 (R5.tagE t))/\w=w':=by
 rw [Fh];obtain⟨cl,hcl⟩:∃cl,cl=t / 64:=⟨_,rfl⟩
 obtain⟨n,hn⟩:∃n,n=t % 32:=⟨_,rfl⟩
 obtain⟨i,hi⟩:∃i,i=R5.inner t:=⟨_,rfl⟩
 rw [<-hcl,<-hn,<-hi];have h1:(t:Int) / 64=(cl:Int):=by omega
 have h2:(t:Int) % 32=(n:Int):=by omega
 have h3:((t:Int) / 32 % 2==1)=i:=by
  rw [hi];unfold R5.inner;rw [Bool.eq_iff_iff,beq_iff_eq,beq_iff_eq];omega
 obtain⟨P,hP⟩:∃P,R5.plainT n=P:=⟨_,rfl⟩
 obtain⟨M,hM⟩:∃M,R5.manyT n=M:=⟨_,rfl⟩
 have HW:=zz (aN hP (aN hM (Lx cl n i P M hP hM)));obtain⟨T,hT⟩:∃T,T=tagP cl n i:=⟨_,rfl⟩
 have HT:=zz hT;rw [<-hT]at HW ⊢;clear hcl hn hi hP hM hT HT;go_enter Tryz.func124,Tryz.ntmps124;go_upto_region 4 with fail
 rw [h2];go_cut [6] (fun t6 wx=>t6= .bool P/\wx=w)
 case first=>
  rcases Im n with ⟨e,⟨q1,q2⟩| ⟨q1,q2,q3⟩⟩| ⟨e,⟨q1,q2⟩| ⟨q1,q2,q3⟩⟩
  all_goals
   have HE:=zz (HW.out.1.symm.trans e);clear e;go_wp2_with fail;go_meet
   rw [HE.out];exact⟨rfl,rfl⟩
 case rest=>
  obtain⟨rfl,hwc⟩:=hcut;subst hwc;go_upto_region 5 with fail
  go_cut [7] (fun t7 wx=>t7= .bool M/\wx=wc)
  case first=>
   rcases JB n with ⟨e,q1 | ⟨q1,q2⟩⟩| ⟨e,q1,q2⟩
   all_goals
    have HE:=zz (HW.out.2.1.symm.trans e);clear e;go_wp2_with fail;go_meet
    rw [HE.out];exact⟨rfl,rfl⟩
  case rest=>
   obtain⟨rfl,hwc2⟩:=hcut;subst hwc2;rcases HW.out.2.2 with ⟨q1,q2,e⟩| ⟨q1,q2,q3,e⟩| ⟨q1,q2,q3,e⟩| ⟨q1,q2,e⟩| ⟨q1,q2,q3,q4,e⟩| ⟨q1,q2,q3,q4⟩
   ·have p1:((cl:Int) !=0)=true:=by rw [bne,q1]; rfl
    have p2:((cl:Int) !=2)=true:=by rw [bne,q2]; rfl
    have n0:¬cl=0:=fun e=>by rw [e]at q1; cases q1
    have n2:¬(cl:Int)=2:=fun e=>by rw [e]at q2; cases q2
    have HE:=zz e;clear e;go_wp2;go_ret;rw [HE.out]; exact⟨rfl,rfl⟩
   ·obtain rfl:cl=2:=by rw [beq_iff_eq]at q2; omega
    clear q1 q2;have HE:=zz e;clear e;go_wp2;go_ret;rw [HE.out]; exact⟨rfl,rfl⟩
   ·obtain rfl:cl=2:=by rw [beq_iff_eq]at q2; omega
    clear q1 q2;have HE:=zz e;clear e;go_wp2;go_ret;rw [HE.out]; exact⟨rfl,rfl⟩
   ·obtain rfl:cl=0:=by rw [beq_iff_eq]at q1; omega
    clear q1;have HE:=zz e;clear e;go_wp2;go_ret;rw [HE.out]; exact⟨rfl,rfl⟩
   ·obtain rfl:cl=0:=by rw [beq_iff_eq]at q1; omega
    clear q1;subst q3 q4;have HE:=zz e;clear e;go_wp2;go_ret;rw [HE.out]; exact⟨rfl,rfl⟩
   ·obtain rfl:cl=0:=by rw [beq_iff_eq]at q1; omega
    clear q1;rcases q3 with q3 | ⟨q3,q5⟩
    ·subst q3;rcases q4 with ⟨q4,e⟩| ⟨q4,e⟩
     all_goals
      have HE:=zz e;clear e;cases i<;>cases M<;>first | (exfalso; revert q4; decide)| skip
      all_goals
       clear q4;go_wp2;go_ret;rw [HE.out]; exact⟨rfl,rfl⟩
    ·subst q3 q5;rcases q4 with ⟨q4,e⟩| ⟨q4,e⟩
     all_goals
      have HE:=zz e;clear e;cases i<;>first | (exfalso; revert q4; decide)| skip
      all_goals
       clear q4;go_wp2;go_ret;rw [HE.out]; exact⟨rfl,rfl⟩
def bodyR(t:Nat)(s:Bytes):Bool:=R5.body t s
theorem MT(s:Bytes)(w:World):Calls Tryz.prog 125 #[.int .u8 1,S s] w fun r w'=>r= .returned (.bool (bodyR 1 s))/\Same w w':=by
 have hsz:(ByteArray.mk s.toArray).size=s.length:=Ad s;have HB:bodyR 1 s=(s.length==1 && ((s.getD 0 0).toNat==0 || (s.getD 0 0).toNat==255)):=rfl;by_cases h1:s.length=1
 ·have i0:=CZ s (by omega);obtain⟨a,ha⟩:∃a,a=(s.getD 0 0).toNat:=⟨_,rfl⟩
  rw [<-ha]at i0 HB;rw [show(s.length==1)=true from beq_iff_eq.2 h1,Bool.true_and]at HB;have n1:((s.length:Int)==1)=true:=beq_iff_eq.2 (by omega);have hq:(((a:Int)==0)=true/\bodyR 1 s=true)\/(((a:Int)==0)=false/\((a:Int)==255)=true/\bodyR 1 s=true)\/(((a:Int)==0)=false/\((a:Int)==255)=false/\bodyR 1 s=false):=by
   rw [HB];by_cases e:a=0
   ·exact .inl ⟨beq_iff_eq.2 (by omega),by rw [e]; rfl⟩
   ·by_cases e2:a=255
    ·exact .inr (.inl ⟨bn (by omega),beq_iff_eq.2 (by omega),by rw [e2]; rfl⟩)
    ·exact .inr (.inr ⟨bn (by omega),bn (by omega),by rw [show(a==0)=false from bn e,show(a==255)=false from bn e2]; rfl⟩)
  clear ha h1 HB;rcases hq with ⟨q1,HV⟩| ⟨q1,q2,HV⟩| ⟨q1,q2,HV⟩
  all_goals
   replace HV:=zz HV;go_enter Tryz.func125,Tryz.ntmps125;go_wp2;go_ret;exact⟨by rw [HV.out]; rfl,sE _⟩
 ·have HV:=zz (show bodyR 1 s=false by rw [HB,show(s.length==1)=false from bn h1]; rfl);have n1:((s.length:Int)==1)=false:=bn (by omega);clear HB h1;go_enter Tryz.func125,Tryz.ntmps125;go_wp2;go_ret;exact⟨by rw [HV.out]; rfl,sE _⟩
theorem MU(s:Bytes)(w:World):Calls Tryz.prog 125 #[.int .u8 2,S s] w fun r w'=>r= .returned (.bool (bodyR 2 s))/\Same w w':=by
 have hsz:(ByteArray.mk s.toArray).size=s.length:=Ad s;have HB:bodyR 2 s=(if s.length<2 then s.length==1 else(s.getD 0 0).toNat*2+(s.getD 1 0).toNat / 128 !=0 && (s.getD 0 0).toNat*2+(s.getD 1 0).toNat / 128 !=511):=rfl;by_cases h2:s.length<2
 ·rw [if_pos h2]at HB;have hz:(s.length:Int)<2:=by omega
  have hq:(((s.length:Int)==1)=true/\bodyR 2 s=true)\/(((s.length:Int)==1)=false/\bodyR 2 s=false):=by
   rw [HB];by_cases e:s.length=1
   ·exact .inl ⟨beq_iff_eq.2 (by omega),beq_iff_eq.2 e⟩
   ·exact .inr ⟨bn (by omega),bn e⟩
  clear HB h2;rcases hq with ⟨q,HV⟩| ⟨q,HV⟩
  all_goals
   replace HV:=zz HV;go_enter Tryz.func125,Tryz.ntmps125;go_wp2;go_ret;exact⟨by rw [HV.out]; rfl,sE _⟩
 ·rw [if_neg h2]at HB;have hz:¬(s.length:Int)<2:=by omega
  have i0:=CZ s (by omega);have i1:=Kh s (by omega);obtain⟨a,ha⟩:∃a,a=(s.getD 0 0).toNat:=⟨_,rfl⟩
  obtain⟨c,hc⟩:∃c,c=(s.getD 1 0).toNat:=⟨_,rfl⟩
  have ha2:a<256:=by rw [ha]; exact UInt8.toNat_lt _
  have hc2:c<256:=by rw [hc]; exact UInt8.toNat_lt _
  rw [<-ha]at i0 HB;rw [<-hc]at i1 HB;clear ha hc h2;have hw0:IntKind.i64.wrap (a:Int)=a:=IntWalk.i64_in _ ⟨by omega,by omega⟩;have hw1:IntKind.i64.wrap (c:Int)=c:=IntWalk.i64_in _ ⟨by omega,by omega⟩;have hw2:IntKind.i64.wrap ((a:Int)*2)=(a:Int)*2:=IntWalk.i64_in _ ⟨by omega,by omega⟩;have htd:(c:Int).tdiv 128=(c:Int) / 128:=by rw [Int.tdiv_eq_ediv_of_nonneg (by omega)]
  have hw3:IntKind.i64.wrap ((c:Int) / 128)=(c:Int) / 128:=IntWalk.i64_in _ ⟨by omega,by omega⟩;have hw4:IntKind.i64.wrap ((a:Int)*2+(c:Int) / 128)=(a:Int)*2+(c:Int) / 128:=IntWalk.i64_in _ ⟨by omega,by omega⟩;have hq:((((a:Int)*2+(c:Int) / 128 !=0)=false)/\bodyR 2 s=false)\/((((a:Int)*2+(c:Int) / 128 !=0)=true)/\(((a:Int)*2+(c:Int) / 128 !=511)=false)/\bodyR 2 s=false)\/((((a:Int)*2+(c:Int) / 128 !=0)=true)/\(((a:Int)*2+(c:Int) / 128 !=511)=true)/\bodyR 2 s=true):=by
   rw [HB];by_cases e0:a*2+c / 128=0
   ·exact .inl ⟨bne_eq_false_iff_eq.2 (by omega),by rw [e0]; rfl⟩
   ·by_cases e1:a*2+c / 128=511
    ·exact .inr (.inl ⟨bne_iff_ne.2 (by omega),bne_eq_false_iff_eq.2 (by omega),by rw [e1]; rfl⟩)
    ·exact .inr (.inr ⟨bne_iff_ne.2 (by omega),bne_iff_ne.2 (by omega),by rw [show(a*2+c / 128 !=0)=true from bne_iff_ne.2 e0,show(a*2+c / 128 !=511)=true from bne_iff_ne.2 e1]; rfl⟩)
  clear HB;rcases hq with ⟨q1,HV⟩| ⟨q1,q2,HV⟩| ⟨q1,q2,HV⟩
  all_goals
   replace HV:=zz HV;go_enter Tryz.func125,Tryz.ntmps125;go_wp2_with fail;go_region
   go_wp2;go_ret;exact⟨by rw [HV.out]; rfl,(fR _ w).drew⟩
theorem MV(s:Bytes)(w:World):Calls Tryz.prog 125 #[.int .u8 5,S s] w fun r w'=>r= .returned (.bool (bodyR 5 s))/\Same w w':=by
 have hsz:(ByteArray.mk s.toArray).size=s.length:=Ad s;have hq:(((s.length:Int)==0)=true/\bodyR 5 s=true)\/(((s.length:Int)==0)=false/\bodyR 5 s=false):=by
  rw [show bodyR 5 s=(s.length==0)from rfl];by_cases e:s.length=0
  ·exact .inl ⟨beq_iff_eq.2 (by omega),beq_iff_eq.2 e⟩
  ·exact .inr ⟨bn (by omega),bn e⟩
 rcases hq with ⟨q,HV⟩| ⟨q,HV⟩
 all_goals
  replace HV:=zz HV;go_enter Tryz.func125,Tryz.ntmps125;go_wp2;go_ret;exact⟨by rw [HV.out]; rfl,sE _⟩
theorem JC(t:Nat)(ht:t≠1/\t≠2/\t≠3/\t≠5/\t≠6/\t≠12)(s:Bytes)(w:World):Calls Tryz.prog 125 #[.int .u8 (t:Nat),S s] w fun r w'=>r= .returned (.bool (bodyR t s))/\Same w w':=by
 obtain⟨h1,h2,h3,h5,h6,h12⟩:=ht;have HV:=zz (show bodyR t s=true by simp [bodyR,R5.body,h1,h2,h3,h5,h6,h12]);have hsz:(ByteArray.mk s.toArray).size=s.length:=Ad s;have z1:((t:Int)==1)=false:=by simp; omega
 have z2:((t:Int)==2)=false:=by simp; omega
 have z3:((t:Int)==3)=false:=by simp; omega
 have z5:((t:Int)==5)=false:=by simp; omega
 have z6:((t:Int)==6)=false:=by simp; omega
 have z12:((t:Int)==12)=false:=by simp; omega
 clear h1 h2 h3 h5 h6 h12;go_enter Tryz.func125,Tryz.ntmps125;go_wp2;go_ret;exact⟨by rw [HV.out]; rfl,sE _⟩
theorem Ly(s:Bytes)(hs:s.length<=maxLen)(w:World):Calls Tryz.prog 125 #[.int .u8 12,S s] w fun r w'=>r= .returned (.bool (bodyR 12 s))/\Same w w':=by
 have HC:=zz (Lw s w hs);have hsz:(ByteArray.mk s.toArray).size=s.length:=Ad s;clear hs;go_enter Tryz.func125,Tryz.ntmps125;go_wp2_with fail;refine HC.out.mono ?_;rintro r w1 ⟨rfl,hb⟩;have HB:=zz hb;clear hb;go_wp2;go_ret;exact⟨rfl,HB.out⟩
theorem Lz(z k:Nat):(((z:Int) / 2 ^ k).tmod 2==1)=(z / 2 ^ k % 2==1):=by
 have e:(z:Int) / 2 ^ k=((z / 2 ^ k:Nat):Int):=by push_cast; rfl
 rw [e,show((z / 2 ^ k:Nat):Int).tmod 2=((z / 2 ^ k % 2:Nat):Int)from(Int.ofNat_tmod _ 2).symm,Bool.eq_iff_iff,beq_iff_eq,beq_iff_eq];omega
theorem Kl(z a k:Nat)(hk:k<a):R5.bitsN z (a - k) k=if z / 2 ^ k % 2==1 then false else R5.bitsN z (a - (k+1)) (k+1):=by
 rw [show a - k=(a - (k+1))+1 by omega];rfl
theorem MW(s:Bytes)(hs:s.length<=140737488355327)(w:World):Calls Tryz.prog 125 #[.int .u8 3,S s] w fun r w'=>r= .returned (.bool (bodyR 3 s))/\Same w w':=by
 have hsz:(ByteArray.mk s.toArray).size=s.length:=Ad s;have HB:bodyR 3 s=(if s.length<2 then s.length==1 && (s.getD 0 0).toNat==0 else if 7<(s.getD 0 0).toNat then false else R5.bitsN (s.getD (s.length - 1) 0).toNat (s.getD 0 0).toNat 0):=rfl;by_cases h2:s.length<2
 ·rw [if_pos h2]at HB;have hz:(s.length:Int)<2:=by omega
  by_cases h1:s.length=1
  ·have i0:=CZ s (by omega);obtain⟨a,ha⟩:∃a,a=(s.getD 0 0).toNat:=⟨_,rfl⟩
   rw [<-ha]at i0 HB;rw [show(s.length==1)=true from beq_iff_eq.2 h1,Bool.true_and]at HB;have n1:((s.length:Int)==1)=true:=beq_iff_eq.2 (by omega);have hq:(((a:Int)==0)=true/\bodyR 3 s=true)\/(((a:Int)==0)=false/\bodyR 3 s=false):=by
    rw [HB];by_cases e:a=0
    ·exact .inl ⟨beq_iff_eq.2 (by omega),beq_iff_eq.2 e⟩
    ·exact .inr ⟨bn (by omega),bn e⟩
   clear ha h1 h2 HB hs;rcases hq with ⟨q1,HV⟩| ⟨q1,HV⟩
   all_goals
    replace HV:=zz HV;go_enter Tryz.func125,Tryz.ntmps125;go_wp2;go_ret;exact⟨by rw [HV.out]; rfl,sE _⟩
  ·have HV:=zz (show bodyR 3 s=false by rw [HB,show(s.length==1)=false from bn h1]; rfl);have n1:((s.length:Int)==1)=false:=bn (by omega);clear HB h1 h2 hs;go_enter Tryz.func125,Tryz.ntmps125;go_wp2;go_ret;exact⟨by rw [HV.out]; rfl,sE _⟩
 ·rw [if_neg h2]at HB;have hz:¬(s.length:Int)<2:=by omega
  have i0:=CZ s (by omega);have i1:=GV s (by omega);obtain⟨a,ha⟩:∃a,a=(s.getD 0 0).toNat:=⟨_,rfl⟩
  obtain⟨z,hzz⟩:∃z,z=(s.getD (s.length - 1) 0).toNat:=⟨_,rfl⟩
  have hz2:z<256:=by rw [hzz]; exact UInt8.toNat_lt _
  rw [<-ha]at i0 HB;rw [<-hzz]at i1 HB;clear ha hzz h2;by_cases h7:7<a
  ·rw [if_pos h7]at HB;have HV:=zz HB;have q:(7:Int)<a:=by omega
   clear HB h7 hs;go_enter Tryz.func125,Tryz.ntmps125;go_wp2;go_ret;exact⟨by rw [HV.out]; rfl,sE _⟩
  ·rw [if_neg h7]at HB;have HV:=zz HB;have q:¬(7:Int)<a:=by omega
   clear HB;go_enter Tryz.func125,Tryz.ntmps125;go_wp2;go_loop [7] (fun i=>∃k:Nat,k<=a/\i= .int .i64 (k:Nat)/\Hid (R5.bitsN z a 0=R5.bitsN z (a - k) k)) (fun i=>a - (intOf i).toNat)
   case atStart=>exact⟨0,Nat.zero_le _,rfl,zz rfl⟩
   case round=>
    obtain⟨k,hk,rfl,HR⟩:=hrel;by_cases hlt:k<a
    ·have hltz:(k:Int)<(a:Int):=by omega
     have hk8:(k:Int)<8:=by omega
     have hst:=Kl z a k hlt;have hbt:=Lz z k;cases hb:(z / 2 ^ k % 2==1)with
     | true=>
      rw [hb]at hst hbt;have HE:=zz (show bodyR 3 s=false by rw [HV.out,HR.out,hst]; rfl);clear hst hb;go_wp2;go_ret;exact⟨by rw [HE.out]; rfl,sE _⟩
     | false=>
      rw [hb]at hst hbt;have HE:=zz (HR.out.trans hst);clear hst hb;go_wp2;go_round
      case rel=>exact⟨k+1,by omega,by go_num,HE⟩
      case measure=>simp [intOf]; omega
    ·have hltz:¬(k:Int)<(a:Int):=by omega
     have HE:=zz (show bodyR 3 s=true by rw [HV.out,HR.out,show a - k=0 by omega]; rfl);clear hlt;go_wp2;go_ret;exact⟨by rw [HE.out]; rfl,sE _⟩
theorem LA(s:Bytes)(k:Nat)(f:Bool)(hk:k<s.length):R5.oidN (s.drop k) f=if f && ((s.getD k 0).toNat==128)then false else R5.oidN (s.drop (k+1)) (decide ((s.getD k 0).toNat<128)):=by
 have hd:s.drop k=s.getD k 0::s.drop (k+1):=by
  rw [List.drop_eq_getElem_cons hk,List.getD_eq_getElem?_getD,List.getElem?_eq_getElem hk];rfl
 have hc:((s.getD k 0)==128)=((s.getD k 0).toNat==128):=by
  rw [Bool.eq_iff_iff,beq_iff_eq,beq_iff_eq];exact⟨fun e=>by rw [e]; rfl,fun e=>UInt8.toNat_inj.1 (by rw [e]; rfl)⟩
 rw [hd]
 conv=>lhs; unfold R5.oidN
 rw [hc]
theorem MX(s:Bytes)(hs:s.length<=140737488355327)(w:World):Calls Tryz.prog 125 #[.int .u8 6,S s] w fun r w'=>r= .returned (.bool (bodyR 6 s))/\Same w w':=by
 have hsz:(ByteArray.mk s.toArray).size=s.length:=Ad s;have HV:=zz (show bodyR 6 s=(decide (0<s.length) && R5.oidN (s.drop 0) true) by rw [List.drop_zero]; rfl);go_enter Tryz.func125,Tryz.ntmps125;go_wp2;go_loop [8,9] (fun f i=>∃(k:Nat) (g:Bool),k<=s.length/\i= .int .i64 (k:Nat)/\f= .bool g/\Hid (R5.oidN (s.drop 0) true=R5.oidN (s.drop k) g)) (fun _ i=>s.length - (intOf i).toNat)
 case atStart=>exact⟨0,true,Nat.zero_le _,rfl,rfl,zz rfl⟩
 case round=>
  obtain⟨k,g,hk,rfl,rfl,HR⟩:=hrel;by_cases hlt:k<s.length
  ·have hltz:(k:Int)<(s.length:Int):=by omega
   have ik:=AK s k hlt;have hst:=LA s k g hlt;obtain⟨c,hc⟩:∃c,c=(s.getD k 0).toNat:=⟨_,rfl⟩
   rw [<-hc]at ik hst;clear hc;have hcz:decide ((c:Int)<128)=decide (c<128):=decide_eq_decide.2 (by omega);have HCZ:=zz hcz;clear hcz;cases g with
   | false=>
    rw [Bool.false_and,if_neg (by simp)]at hst;have HE:=zz (HR.out.trans hst);clear hst;go_wp2;go_round
    case rel=>exact⟨k+1,decide (c<128),by omega,by go_num,by rw [HCZ.out],HE⟩
    case measure=>simp [intOf]; omega
   | true=>
    rw [Bool.true_and]at hst;by_cases e:c=128
    ·rw [if_pos (beq_iff_eq.2 e)]at hst;have HE:=zz (show bodyR 6 s=false by rw [HV.out,HR.out,hst,Bool.and_false]);have q:((c:Int)==128)=true:=beq_iff_eq.2 (by omega);clear hst e;go_wp2;go_ret;exact⟨by rw [HE.out]; rfl,sE _⟩
    ·rw [if_neg (by rw [beq_iff_eq]; exact e)]at hst;have HE:=zz (HR.out.trans hst);have q:((c:Int)==128)=false:=bn (by omega);clear hst e;go_wp2;go_round
     case rel=>exact⟨k+1,decide (c<128),by omega,by go_num,by rw [HCZ.out],HE⟩
     case measure=>simp [intOf]; omega
  ·have hltz:¬(k:Int)<(s.length:Int):=by omega
   have hkl:k=s.length:=by omega
   have HE:=zz (show bodyR 6 s=(decide (0<s.length) && g) by rw [HV.out,HR.out,hkl,List.drop_length]; rfl);clear hlt hkl;have hq:((0:Int)<(s.length:Int)/\bodyR 6 s=g)\/(¬(0:Int)<(s.length:Int)/\bodyR 6 s=false):=by
    rw [HE.out];by_cases e:0<s.length
    ·exact .inl ⟨by omega,by rw [dt e]; rfl⟩
    ·exact .inr ⟨by omega,by rw [df e]; rfl⟩
   rcases hq with ⟨q,e⟩| ⟨q,e⟩
   all_goals
    have HX:=zz e;clear e;go_wp2;go_ret;exact⟨by rw [HX.out]; rfl,sE _⟩
theorem DT(t:Nat)(s:Bytes)(hs:s.length<=140737488355327)(w:World):Calls Tryz.prog 125 #[.int .u8 (t:Nat),S s] w fun r w'=>r= .returned (.bool (R5.body t s))/\Same w w':=by
 by_cases h1:t=1
 ·subst h1; exact MT s w
 by_cases h2:t=2
 ·subst h2; exact MU s w
 by_cases h3:t=3
 ·subst h3; exact MW s hs w
 by_cases h5:t=5
 ·subst h5; exact MV s w
 by_cases h6:t=6
 ·subst h6; exact MX s hs w
 by_cases h12:t=12
 ·subst h12; exact Ly s (by unfold maxLen; omega) w
 exact JC t ⟨h1,h2,h3,h5,h6,h12⟩ s w
theorem AJ{s:Bytes}{lim:Lim}{x y:R5.St}{p:Nat}(h:R5.want s lim x p=(true,y)):p<s.length/\(p:Int)<lim.b:=by
 unfold R5.want at h;by_cases h1:p<s.length/\(p:Int)<lim.b
 ·exact h1
 ·rw [if_neg h1]at h
  split at h<;>simp at h
theorem FT(b T q n:Nat)(s:Bytes)(lim:Lim)(x:R5.St)(vn:Value)(tl:List Value)(w:World)(h:Rd w b T s lim x vn tl)(hs:s.length<=maxLen)(hb:1<=lim.b)(hb2:lim.b<=262144)(hq:q<=1000000)(hn:n<4294967296):
  Calls Tryz.prog 146 #[.pointer (some ⟨b,0,none⟩),.int .i64 (q:Nat),.int .i64 (n:Nat)] w fun r w'=>r= .returned (.bool (if n=0 then(true,x)else R5.want s lim x (q+n - 1)).1)/\Rd w' b T s lim (if n=0 then(true,x)else R5.want s lim x (q+n - 1)).2 vn tl/\Fr (It b) w w':=by
 by_cases h0:n=0
 ·rw [if_pos h0];have H:=zz h;have n0:((n:Int)==0)=true:=beq_iff_eq.2 (by omega);clear h h0;go_enter Tryz.func146,Tryz.ntmps146;go_wp2;go_ret;exact⟨rfl,H.out,fR _ _⟩
 ·rw [if_neg h0];have hw:=AW b T (q+n - 1) s lim x vn tl w h hs hb hb2 (by unfold maxLen; omega);rw [show((q+n - 1:Nat):Int)=(q:Int)+n - 1 by omega]at hw;have HW:=zz hw;have n0:((n:Int)==0)=false:=bn (by omega);clear h h0 hw;go_enter Tryz.func146,Tryz.ntmps146;go_wp2_with fail;refine HW.out.mono ?_;rintro r w1 ⟨rfl,hr,hf⟩;have HR:=zz (aN hr hf);clear hr hf;go_wp2;go_ret;exact⟨rfl,HR.out.1,HR.out.2⟩
def lenV:Option (Nat×Nat)->Value
 | none=> .tuple #[.int .i64 0,.int .i64 0,.bool false]
 | some v=> .tuple #[.int .i64 (v.1:Nat),.int .i64 (v.2:Nat),.bool true]
def rlenFin(p m:Nat)(r:Option Nat×R5.St):Option (Nat×Nat)×R5.St:=
 match r with
 | (none,z)=>(none,z)
 | (some n,z)=>if n<128 then(none,R5.fault z (p+m:Nat) 9)else(some (n,p+1+m),z)
theorem Io{p m n:Nat}{z:R5.St}(h:n<128):rlenFin p m (some n,z)=(none,R5.fault z (p+m:Nat) 9):=if_pos h
theorem JD{p m n:Nat}{z:R5.St}(h:¬n<128):rlenFin p m (some n,z)=(some (n,p+1+m),z):=if_neg h
def RLen(w:World)(b T:Nat)(s:Bytes)(lim:Lim)(vn:Value)(tl:List Value)(res:Option (Nat×Nat)×R5.St)(r:Ending)(w':World):Prop:=
 r= .returned (lenV res.1)/\Rd w' b T s lim res.2 vn tl/\Fr (It b) w w'
theorem Km(s:Bytes)(lim:Lim)(m i n p:Nat)(y:R5.St)(hi:i<=m):R5.lenN s lim (m+1 - i) y (p+i) (i==1) n=match R5.want s lim y (p+i)with
  | (false,z)=>(none,z)
  | (true,z)=>if(i==1) && (s.getD (p+i) 0).toNat==0 then(none,R5.fault z (p+i:Nat) 9)else R5.lenN s lim (m+1 - (i+1)) z (p+(i+1)) false (256*n+(s.getD (p+i) 0).toNat):=by
 rw [show m+1 - i=(m+1 - (i+1))+1 by omega];rfl
theorem Be(b T p:Nat)(s:Bytes)(lim:Lim)(x:R5.St)(vn:Value)(tl:List Value)(w:World)(h:Rd w b T s lim x vn tl)(hs:s.length<=140737488355327)(hb1:1<=lim.b)(hb2:lim.b<=262144)(hp:p<=1000000):
  Calls Tryz.prog 145 #[.pointer (some ⟨b,0,none⟩),.int .i64 (p:Nat)] w fun r w'=>RLen w b T s lim vn tl (R5.length s lim x p) r w':=by
 have hsm:s.length<=maxLen:=by unfold maxLen; omega
 have hw:=AW b T p s lim x vn tl w h hsm hb1 hb2 (by unfold maxLen; omega);have hsz:(ByteArray.mk s.toArray).size=s.length:=Ad s;unfold R5.length;cases hv:R5.want s lim x p with
 | mk bv y=>
  rw [hv]at hw;have HW:=zz hw;cases bv with
  | false=>
   clear hv hw h;simp only;go_enter Tryz.func145,Tryz.ntmps145;go_wp2_with fail;refine HW.out.mono ?_;rintro r w1 ⟨rfl,hr,hf⟩;have HR:=zz (aN hr hf);clear hr hf;go_wp2;go_ret3
   exact⟨rfl,HR.out.1,HR.out.2⟩
  | true=>
   obtain⟨hpl,hpb⟩:=AJ hv;have ip:=AK s p hpl;obtain⟨c,hc⟩:∃c,c=(s.getD p 0).toNat:=⟨_,rfl⟩
   have hcb:c<256:=by rw [hc]; exact UInt8.toNat_lt _
   rw [<-hc]at ip;simp only;rw [<-hc];clear hv hw h hc;by_cases h1:c<128
   ·rw [if_pos h1];have h1z:(c:Int)<128:=by omega
    clear h1;go_enter Tryz.func145,Tryz.ntmps145;go_wp2_with fail;refine HW.out.mono ?_;rintro r w1 ⟨rfl,hr,hf⟩;have HR:=zz (aN hr hf);have c0:=hr.cells.1;clear hr hf;go_wp2;go_ret3
    exact⟨rfl,HR.out.1,HR.out.2⟩
   ·rw [if_neg h1];have h1z:¬(c:Int)<128:=by omega
    by_cases h2:c=128\/132<c
    ·rw [if_pos h2];have h2z:((c:Int)==128)=true\/(((c:Int)==128)=false/\(132:Int)<c):=by
      by_cases e:c=128
      ·exact .inl (by rw [e]; rfl)
      ·exact .inr ⟨by simp; omega,by omega⟩
     clear h1 h2;rcases h2z with h2z | ⟨h2z,h3z⟩
     all_goals
      go_enter Tryz.func145,Tryz.ntmps145;go_wp2_with fail;refine HW.out.mono ?_;rintro r w1 ⟨rfl,hr,hf⟩;have HR:=zz (aN hr hf);have c0:=hr.cells.1;clear hr hf;go_wp2_with fail;refine(AS b T p 9 s lim _ vn tl _ HR.out.1).mono ?_;rintro r w2 ⟨rfl,hr,hf⟩;have HR2:=zz (aN hr (fT HR.out.2 hf (fun _ _ e=>e)));clear hr hf;go_wp2;go_ret3
      exact⟨rfl,HR2.out.1,HR2.out.2⟩
    ·rw [if_neg h2];obtain⟨m,hm⟩:∃m,m=c % 128:=⟨_,rfl⟩
     rw [<-hm];change Calls _ _ _ _ fun r w'=>RLen w b T s lim vn tl (rlenFin p m (R5.lenN s lim m y (p+1) true 0)) r w'
     have hm1:1<=m:=by omega
     have hm4:m<=4:=by omega
     have HC:=zz (show(c:Int) - 128=(m:Int) by omega);have h2z:((c:Int)==128)=false:=by simp; omega
     have h3z:¬(132:Int)<c:=by omega
     clear h1 h2 hm;go_enter Tryz.func145,Tryz.ntmps145;go_wp2_with fail;refine HW.out.mono ?_;rintro r w1 ⟨rfl,hr,hf⟩;have HR:=zz (aN hr hf);have c0:=hr.cells.1;clear hr hf;go_wp2;clear c0;go_loopw [8,9] (fun nn ii wr=>∃(i n:Nat) (z:R5.St),1<=i/\i<=m+1/\ii= .int .i64 (i:Nat)/\nn= .int .i64 (n:Nat)/\Hid (n<256 ^ (i - 1)/\Rd wr b T s lim z vn tl/\Fr (It b) w wr/\R5.lenN s lim m y (p+1) true 0=R5.lenN s lim (m+1 - i) z (p+i) (i==1) n)) (fun _ ii _=>m+1 - (intOf ii).toNat)
     case atStart=>exact⟨1,0,y,Nat.le_refl _,by omega,rfl,rfl,zz ⟨by simp,HR.out.1,HR.out.2,rfl⟩⟩
     case round=>
      clear HR;obtain⟨i,n,z,hi1,him,rfl,rfl,HR⟩:=hrel;obtain⟨hn,hrd,hfr,hln⟩:=HR.out;by_cases hlt:i<=m
      ·have hltz:(i:Int)<=(c:Int) - 128:=by have:=HC.out; omega
       have hn3:n<=16777215:=by
        have h1:256 ^ (i - 1)<=256 ^ 3:=Nat.pow_le_pow_right (by omega) (by omega);have h2:(256:Nat) ^ 3=16777216:=rfl;omega
       have hst:=Km s lim m i n p z hlt;have hw:=AW b T (p+i) s lim z vn tl wr hrd hsm hb1 hb2 (by unfold maxLen; omega);have hpi:((p+i:Nat):Int)=(p:Int)+i:=by omega
       rw [hpi]at hw;cases hv:R5.want s lim z (p+i)with
       | mk bv z2=>
        rw [hv]at hst hw;have HW2:=zz hw;cases bv with
        | false=>
         have HE:=zz (hln.trans hst);clear hst hln hw hv hpi hn hrd hfr;go_wp2_with fail;refine HW2.out.mono ?_;rintro r w2 ⟨rfl,hr,hf⟩;have HR2:=zz (aN hr (fT HR.out.2.2.1 hf (fun _ _ e=>e)));clear hr hf;go_wp2;go_ret3
         rw [HE.out];exact⟨rfl,HR2.out.1,HR2.out.2⟩
        | true=>
         obtain⟨hpl2,_⟩:=AJ hv;have ip2:=AK s (p+i) hpl2;obtain⟨c2,hc2⟩:∃c2,c2=(s.getD (p+i) 0).toNat:=⟨_,rfl⟩
         have hcb2:c2<256:=by rw [hc2]; exact UInt8.toNat_lt _
         rw [<-hc2,hpi]at ip2;simp only at hst;rw [<-hc2]at hst;have hpow:256*n+c2<256 ^ (i+1 - 1):=by
          rw [show i+1 - 1=(i - 1)+1 by omega,Nat.pow_succ]; omega
         have hwn:IntKind.i64.wrap (256*(n:Int))=256*(n:Int):=IntWalk.i64_in _ ⟨by omega,by omega⟩;have hq:(((i:Int)==1)=true/\((c2:Int)==0)=true/\((i==1) && c2==0)=true)\/(((((i:Int)==1)=true/\((c2:Int)==0)=false)\/((i:Int)==1)=false)/\¬((i==1) && c2==0)=true):=by
          by_cases e1:i=1
          ·by_cases e2:c2=0
           ·exact .inl ⟨by simp; omega,by simp; omega,by simp [e1,e2]⟩
           ·exact .inr ⟨.inl ⟨by simp; omega,by simp; omega⟩,by simp [e2]⟩
          ·exact .inr ⟨.inr (by simp; omega),by simp [e1]⟩
         rcases hq with ⟨q1,q2,q3⟩| ⟨q1,q3⟩
         ·rw [if_pos q3]at hst;have HE:=zz (hln.trans hst);have HPI:=zz hpi;clear hst hln hw hv hpi hn hrd hfr q3 hc2 hpow hwn;go_wp2_with fail;refine HW2.out.mono ?_;rintro r w2 ⟨rfl,hr,hf⟩;have HR2:=zz (aN hr (fT HR.out.2.2.1 hf (fun _ _ e=>e)));have c0:=hr.cells.1;clear hr hf;go_wp2_with fail;refine(AS b T _ 9 s lim _ vn tl _ HR2.out.1).mono ?_;rintro r w3 ⟨rfl,hr,hf⟩;rw [<-HPI.out]at hr;have HR3:=zz (aN hr (fT HR2.out.2 hf (fun _ _ e=>e)));clear hr hf;go_wp2;go_ret3
          rw [HE.out];exact⟨rfl,HR3.out.1,HR3.out.2⟩
         ·rw [if_neg q3]at hst;have HE:=zz (aN (hln.trans hst) hpow);clear hst hln hw hv hpi hn hrd hfr q3 hc2 hpow;rcases q1 with ⟨q1,q2⟩| q1
          all_goals
           go_wp2_with fail;refine HW2.out.mono ?_;rintro r w2 ⟨rfl,hr,hf⟩;have HR2:=zz (aN hr (fT HR.out.2.2.1 hf (fun _ _ e=>e)));have c0:=hr.cells.1;clear hr hf;go_wp2;go_roundw
           case rel=>exact⟨i+1,256*n+c2,z2,by omega,by omega,by go_num,by go_num,zz ⟨HE.out.2,HR2.out.1,HR2.out.2,by rw [HE.out.1,show(i+1==1)=false from bn (by omega)]⟩⟩
           case measure=>simp [intOf]; omega
      ·have hltz:¬(i:Int)<=(c:Int) - 128:=by have:=HC.out; omega
       have hie:i=m+1:=by omega
       have hok:R5.lenN s lim m y (p+1) true 0=(some n,z):=by rw [hln,hie,Nat.sub_self]; rfl
       have hcz:(c:Int)=(m:Int)+128:=by have:=HC.out; omega
       have HK:=zz (aN hrd (aN hfr (aN hok hcz)));have hn4:n<=4294967295:=by
        have h1:256 ^ (i - 1)<=256 ^ 4:=Nat.pow_le_pow_right (by omega) (by omega);have h2:(256:Nat) ^ 4=4294967296:=rfl;omega
       clear hln hok hn hlt hie hfr hrd hcz;by_cases hl:n<128
       ·have HE:=zz hl;have z1:(n:Int)<128:=by omega
        clear hl;go_wp2_with fail;refine(AS b T _ 9 s lim _ vn tl _ HK.out.1).mono ?_;rintro r w3 ⟨rfl,hr,hf⟩;have HR3:=zz (aN hr (fT HK.out.2.1 hf (fun _ _ e=>e)));clear hr hf;go_wp2;go_ret3
        rw [HK.out.2.2.1,Io HE.out];refine⟨rfl,?_,HR3.out.2⟩;have:=HR3.out.1;rw [show(p:Int)+c - 128=((p+m:Nat):Int) by have:=HK.out.2.2.2; omega]at this;exact this
       ·have HE:=zz hl;have z1:¬(n:Int)<128:=by omega
        clear hl;go_wp2;go_ret3
        rw [HK.out.2.2.1,JD HE.out];refine⟨?_,HK.out.1,HK.out.2.1⟩;unfold lenV;simp only;rw [show((p+1+m:Nat):Int)=(p:Int)+c - 127 by have:=HK.out.2.2.2; omega];rfl
end Go.Proofs.YtpfhollohodcjaaGreatDoor
