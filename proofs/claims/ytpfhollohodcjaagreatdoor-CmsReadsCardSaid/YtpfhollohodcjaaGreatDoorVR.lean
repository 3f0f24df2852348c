import Derived.Test.YtpfhollohodcjaaGreatDoorVQ
import Derived.Test.YtpfhollohodcjaaGreatDoorVG
import Derived.Laws.EntriesVeiled
import Derived.IntWalk
import Derived.BigRegion
import Derived.Deep.LoopGhost
set_option maxRecDepth 100000
set_option maxHeartbeats 8000000
namespace Go.Proofs.YtpfhollohodcjaaGreatDoor
open Go.RowKit Go.Px Go.Px.Co Go.Px.Cm
def cuCells(va vl:Value)(a:Nat)(rs:List Value):Array Value:=(va:: .int .i64 (a:Nat)::vl::rs).toArray
def limL(lim:Lim):List Value:=[.int .i64 lim.d,.int .i64 lim.i,.int .i64 lim.b,.int .i64 lim.r]
structure CuRep (T:TypeId) (rs:List Value) (w:World) (b:Nat) (va:Value) (L:List Px.Node) (k:Cu) (vl:Value):Prop where
 blk:Blk w b (cuCells va vl k.at_ rs) T
 own:Owns w 3 1 cNum vl k.left.reverse
 lb:Apart vl.ownBlock (some b)
 lies:Lies w 3 cNode va L
 ab:Apart va.ownBlock (some b)
 al:Apart va.ownBlock vl.ownBlock
 ne:k.left≠ []
 wf:L.length<=4096/\Wf L
 al2:∀q,va.ownBlock=some q->q<w.heap.size
def cuFoot(b:Nat)(vl:Value)(q:Nat):Prop:=q=b\/vl.ownBlock=some q
def CuAt(w:World)(b:Nat)(va:Value)(L:List Px.Node)(lim:Lim)(k:Cu)(F:Nat->Prop):Prop:=∃vl,CuRep 53 (limL lim) w b va L k vl/\F=cuFoot b vl
section
variable {T : TypeId} {rs : List Value} {w w' : World} {b : Nat} {va vl : Value} {L : List Px.Node} {lim : Lim} {k : Cu}
theorem CuRep.lt(h:CuRep T rs w b va L k vl):b<w.heap.size:=h.blk.lt
theorem CuRep.footLt(h:CuRep T rs w b va L k vl):∀q,cuFoot b vl q->q<w.heap.size:=by
 rintro q (rfl | hq)
 ·exact h.lt
 ·exact h.own.lt hq
theorem Lies.own{α:Type}{w:World}{sz:Nat}{c:α->List Value}{v:Value}{l:List α}(h:Lies w sz c v l){j:Nat}{x:α}(hj:l[j]?=some x):∃q,v.ownBlock=some q/\q<w.heap.size:=by
 obtain⟨b,off,cap,h1,h2,_⟩:=h.cell j x hj;exact⟨b,by rw [h1]; rfl,h2⟩
theorem Lies.keepF{α:Type}{w w':World}{sz:Nat}{c:α->List Value}{v:Value}{l:List α}{F:Nat->Prop}(h:Lies w sz c v l)(hf:Fr F w w')(ha:∀q,v.ownBlock=some q->¬F q):Lies w' sz c v l:=
 ⟨h.slice,fun j x hj=>by
  obtain⟨b,off,cap,h1,h2,h3⟩:=h.cell j x hj;refine⟨b,off,cap,h1,Nat.lt_of_lt_of_le h2 hf.size,fun i u hu=>?_⟩;exact(hf.cell (p:=⟨b,off+(j*sz+i),none⟩) h2 (ha b (by rw [h1]; rfl))).trans (h3 i u hu)⟩
theorem CuRep.fr{F:Nat->Prop}(h:CuRep T rs w b va L k vl)(hf:Fr F w w')(h1:∀q,cuFoot b vl q->¬F q)(h2:∀q,va.ownBlock=some q->¬F q):CuRep T rs w' b va L k vl:=
 ⟨h.blk.fr hf (h1 b (.inl rfl)),h.own.fr hf fun q e=>h1 q (.inr e),h.lb,Lies.keepF h.lies hf h2,h.ab,h.al,h.ne,h.wf,fun q e=>Nat.lt_of_lt_of_le (h.al2 q e) hf.size⟩
theorem CuRep.same(h:CuRep T rs w b va L k vl)(hs:Same w w'):CuRep T rs w' b va L k vl:=h.fr hs (fun _ _=>id) (fun _ _=>id)
theorem CuAt.same{F:Nat->Prop}(h:CuAt w b va L lim k F)(hs:Same w w'):CuAt w' b va L lim k F:=by
 obtain⟨vl,h,e⟩:=h;exact⟨vl,h.same hs,e⟩
theorem CuRep.cells(h:CuRep T rs w b va L k vl):w.cell? ⟨b,0,none⟩=some va/\w.cell? ⟨b,1,none⟩=some (.int .i64 (k.at_:Nat))/\w.cell? ⟨b,2,none⟩=some vl:=⟨h.blk.cell 0 rfl,h.blk.cell 1 rfl,h.blk.cell 2 rfl⟩
theorem CuRep.free(h:CuRep T rs w b va L k vl)(i:Nat):w.frozen? ⟨b,i,none⟩=false:=h.blk.free i
theorem CuRep.top(h:CuRep T rs w b va L k vl):∃n r g cap,k.left=n::r/\vl= .slice (some ⟨g,0,none⟩) (r.length+1) cap/\r.length+1<=cap/\cap<=maxLen/\w.cell? ⟨g,r.length,none⟩=some (.int .i64 (n:Nat))/\w.frozen? ⟨g,r.length,none⟩=false/\g<w.heap.size:=by
 cases hk:k.left with
 | nil=>exact absurd hk h.ne
 | cons n r=>
  have h':=h.own;rw [hk,List.reverse_cons]at h';obtain⟨g,cap,h1,h2,h3,h4,h5⟩:=h'.last Bk;rw [List.length_reverse]at h1 h2 h4;have:=h4 0 _ rfl;rw [Nat.add_zero,Nat.mul_one]at this;exact⟨n,r,g,cap,rfl,h1,h2,h3,this,h5 _,h'.lt (by rw [h1]; rfl)⟩
theorem CuRep.elem(h:CuRep T rs w b va L k vl){i:Nat}(hi:i<L.length):∃vb off cap,va= .slice (some ⟨vb,off,none⟩) L.length cap/\vb<w.heap.size/\
  w.cell? ⟨vb,off+i*3,none⟩=some (.int .u8 ((L.getD i nz).tag.toNat:Nat))/\w.cell? ⟨vb,off+i*3+1,none⟩=some (.int .i64 (L.getD i nz).kids)/\w.cell? ⟨vb,off+i*3+2,none⟩=some (S (L.getD i nz).body):=by
 have hg:L.getD i nz=L[i]:=by simp [List.getD,hi]
 obtain⟨vb,off,cap,e1,e2,e3⟩:=h.lies.cell i L[i] (List.getElem?_eq_getElem hi);rw [hg];refine⟨vb,off,cap,e1,e2,?_,?_,?_⟩
 ·have:=e3 0 _ rfl
  rwa [Nat.add_zero]at this
 ·have:=e3 1 _ rfl
  rwa [<-Nat.add_assoc]at this
 ·have:=e3 2 _ rfl
  rwa [<-Nat.add_assoc]at this
theorem Jj{d:Nat}:∀ {n:Nat} {l:List Px.Node},E5.RowsN (E5.El d) n l->n<=l.length
 | 0,_,_=>Nat.zero_le _
 | n+1,_,⟨x,r,_,_,e,h1,h2⟩=>by
  have:=Jj h2;have:=h1.pos;rw [e,List.length_append];omega
theorem Cw{n:Nat}{r:List Nat}(hf:Fits L k)(hk:k.left=n::r):n<=L.length:=by
 have hst:=hf.2;rw [hk]at hst;obtain⟨l1,l2,e,h1,_⟩:=hst;have h2:=Jj h1;have h3:=congrArg List.length e;rw [List.length_drop,List.length_append]at h3;omega
theorem fits_lt{n:Nat}{r:List Nat}(hf:Fits L k)(hk:k.left=(n+1)::r):k.at_<L.length:=by
 have hst:=hf.2;rw [hk]at hst;obtain⟨x,y,o,q,h1,h2,_⟩:=B0 hst;have h3:=congrArg List.length h1;have h4:=h2.pos;rw [List.length_drop,List.length_append]at h3;omega
theorem CuRep.step{n:Nat}{r:List Nat}{g cap:Nat}(h:CuRep T rs w b va L k (.slice (some ⟨g,0,none⟩) (r.length+1) cap))(hk:k.left=(n+1)::r):
  CuRep T rs ((w.setCell ⟨g,r.length,none⟩ (.int .i64 (n:Nat))).setCell ⟨b,1,none⟩ (.int .i64 ((k.at_+1:Nat):Int))) b va L ⟨k.at_+1,n::r⟩ (.slice (some ⟨g,0,none⟩) (r.length+1) cap):=by
 have hgb:¬b=g:=fun e=>h.lb g rfl (by rw [e])
 have hva:∀q,va.ownBlock=some q->¬(q=g\/q=b):=by
  rintro q hq (e | e)
  ·exact h.al q hq (by rw [e]; rfl)
  ·exact h.ab q hq (by rw [e])
 refine⟨?_,?_,h.lb,?_,h.ab,h.al,by simp,h.wf,fun q e=>by simpa [World.setCell] using h.al2 q e⟩
 ·have q:=(h.blk.other (p:=⟨g,r.length,none⟩) (.int .i64 (n:Nat)) hgb).set 1 (.int .i64 ((k.at_+1:Nat):Int));rw [show(cuCells va (.slice (some ⟨g,0,none⟩) (r.length+1) cap) k.at_ rs).setIfInBounds 1 (.int .i64 ((k.at_+1:Nat):Int))=cuCells va (.slice (some ⟨g,0,none⟩) (r.length+1) cap) (k.at_+1) rs by simp [cuCells]]at q;exact q
 ·have h':=h.own;rw [hk,List.reverse_cons,<- @List.length_reverse _ r]at h';have q:=h'.setLast (b:=n) Bk 0 (.int .i64 (n:Nat)) rfl;rw [List.length_reverse,Nat.mul_one,Nat.add_zero]at q;rw [show(⟨k.at_+1,n::r⟩:Cu).left.reverse=r.reverse++ [n]from List.reverse_cons];exact q.setCell (p:=⟨b,1,none⟩) h.lb.ne _
 ·exact Lies.keepF (F:=fun q=>q=g\/q=b) h.lies (((fR _ w).setCell (p:=⟨g,r.length,none⟩) (.inl (.inl rfl)) _).setCell (p:=⟨b,1,none⟩) (.inl (.inr rfl)) _) hva
theorem CuRep.push {w1 w2:World} {n g cap:Nat} {o:Obj} (h:CuRep T rs w b va L k vl) (hown:w1.ownsRow 0 3 1 (.slice (some ⟨g,0,none⟩) (k.left.length+1) cap) (k.left.length+1) (k.left.reverse.flatMap cNum++cNum n)) (hg:((w.alloc o).drew).grownBy w1 vl.ownBlock) (hat:vl.ownBlock=some g\/w.heap.size<=g)
  (hw:w2=w1.setCell ⟨b,2,none⟩ (.slice (some ⟨g,0,none⟩) (k.left.length+1) cap)):
  CuRep T rs w2 b va L ⟨k.at_,n::k.left⟩ (.slice (some ⟨g,0,none⟩) (k.left.length+1) cap)/\Fr (cuFoot b vl) w w2/\Fresh w (cuFoot b vl) (cuFoot b (.slice (some ⟨g,0,none⟩) (k.left.length+1) cap)):=by
 have hg2:=BF hg;have hbg:¬b=g:=by
  rcases hat with e | e
  ·intro h2;exact h.lb g e (by rw [h2])
  ·have:=h.lt;omega
 have hf1:Fr (cuFoot b vl) w w1:=Fr.grown (fR _ w) hg2 fun q e=> .inl (.inr e)
 have hf2:Fr (cuFoot b vl) w w2:=by
  rw [hw];exact hf1.setCell (.inl (.inl rfl)) _
 have hb1:Blk w1 b (cuCells va vl k.at_ rs) T:=(hg2.block b h.lt fun e=>h.lb b e.symm rfl).trans h.blk;have hva:∀q,va.ownBlock=some q->q<w.heap.size->¬cuFoot b vl q:=by
  rintro q hq _ (e | e)
  ·exact h.ab q hq (by rw [e])
  ·exact h.al q hq e
 have hk:Owns w1 3 1 cNum (.slice (some ⟨g,0,none⟩) (k.left.length+1) cap) (k.left.reverse++ [n]):=by
  have hrl:k.left.reverse.length=k.left.length:=List.length_reverse;have q:=Bb (l:=k.left.reverse) (c:=cNum) (a:=n) (w:=w1) (T:=3) (sz:=1) (g:=g) (cap:=cap) (by rw [hrl]; exact hown);rw [hrl]at q;exact q
 refine⟨⟨?_,?_,?_,?_,h.ab,?_,by simp,h.wf,fun q e=>Nat.lt_of_lt_of_le (h.al2 q e) hf2.size⟩,hf2,?_⟩
 ·rw [hw];have q:=hb1.set 2 (.slice (some ⟨g,0,none⟩) (k.left.length+1) cap);rw [show(cuCells va vl k.at_ rs).setIfInBounds 2 (.slice (some ⟨g,0,none⟩) (k.left.length+1) cap)=cuCells va (.slice (some ⟨g,0,none⟩) (k.left.length+1) cap) k.at_ rs by simp [cuCells]]at q;exact q
 ·rw [hw,show(⟨k.at_,n::k.left⟩:Cu).left.reverse=k.left.reverse++ [n]from List.reverse_cons];exact hk.setCell (p:=⟨b,2,none⟩) (fun e=>hbg (by simp only [Value.ownBlock,Option.some.injEq]at e; exact e.symm)) _
 ·intro q hq e;simp only [Value.ownBlock,Option.some.injEq]at hq e;exact hbg (e.trans hq.symm)
 ·refine⟨h.lies.slice,fun j x hj=>?_⟩;obtain⟨q,off,cap',e1,e2,e3⟩:=h.lies.cell j x hj;refine⟨q,off,cap',e1,Nat.lt_of_lt_of_le e2 hf2.size,fun i u hu=>?_⟩;exact(hf2.cell (p:=⟨q,off+(j*3+i),none⟩) e2 (hva q (by rw [e1]; rfl) e2)).trans (e3 i u hu)
 ·intro q hq e;simp only [Value.ownBlock,Option.some.injEq]at e;subst e;rcases hat with e2 | e2
  ·exact h.al g hq e2
  ·have:=h.al2 g hq;omega
 ·rintro q (e | e)
  ·exact .inl (.inl e)
  ·simp only [Value.ownBlock,Option.some.injEq]at e;subst e;rcases hat with e2 | e2
   ·exact .inl (.inr e2)
   ·exact .inr e2
theorem CuRep.pop{n:Nat}{r:List Nat}{g cap:Nat}(h:CuRep T rs w b va L k (.slice (some ⟨g,0,none⟩) (r.length+1) cap))(hk:k.left=n::r)(hr:r≠ []):
  CuRep T rs (w.setCell ⟨b,2,none⟩ (.slice (some ⟨g,0,none⟩) r.length cap)) b va L ⟨k.at_,r⟩ (.slice (some ⟨g,0,none⟩) r.length cap):=by
 have hf:Fr (fun q=>q=b) w (w.setCell ⟨b,2,none⟩ (.slice (some ⟨g,0,none⟩) r.length cap)):=fC (F:=fun q=>q=b) (fR _ w) (p:=⟨b,2,none⟩) (.inl rfl) _;have hbk:=h.blk.set 2 (.slice (some ⟨g,0,none⟩) r.length cap);rw [show(cuCells va (.slice (some ⟨g,0,none⟩) (r.length+1) cap) k.at_ rs).setIfInBounds 2 (.slice (some ⟨g,0,none⟩) r.length cap)=cuCells va (.slice (some ⟨g,0,none⟩) r.length cap) k.at_ rs by simp [cuCells]]at hbk;refine⟨hbk,?_,fun q hq e=>h.lb q (by simpa [Value.ownBlock] using hq) e,Lies.keepF h.lies hf (fun q hq e=>h.ab q hq (by rw [e])),h.ab,fun q hq e=>h.al q hq (by simpa [Value.ownBlock] using e),hr,h.wf,fun q e=>by simpa [World.setCell] using h.al2 q e⟩;have h':=h.own;rw [hk,List.reverse_cons,<- @List.length_reverse _ r]at h';have q:=h'.pop Bk;rw [List.length_reverse]at q;have:=q.setCell (p:=⟨b,2,none⟩) (fun e=>h.lb g rfl (by simp only [Value.ownBlock,Option.some.injEq]at e ⊢; exact e.symm)) (.slice (some ⟨g,0,none⟩) r.length cap);exact this
end
def ErrV(w:World)(v:Value)(n:Int):Prop:=∃fb,v= .iface 62 (.pointer (some ⟨fb,0,none⟩))/\Blk w fb #[.int .i64 n] 66
theorem ErrV.same{w w':World}{v:Value}{n:Int}(h:ErrV w v n)(hs:Same w w'):ErrV w' v n:=by
 obtain⟨fb,e,hb⟩:=h;exact⟨fb,e,hb.fr hs (fun x=>x)⟩
theorem Al(n:Int)(w:World):Calls Tryz.prog 62 #[.int .i64 n] w fun e w'=>∃v,e= .returned v/\ErrV w' v n/\Same w w':=by
 go_enter Tryz.func62,Tryz.ntmps62;go_wp2;go_ret;exact⟨_,rfl,⟨_,rfl,Af w _ _⟩,fA (fR _ w) _⟩
theorem A6(b:Nat)(va:Value)(L:List Px.Node)(lim:Lim)(k:Cu)(F:Nat->Prop)(w:World)(h:CuAt w b va L lim k F)(hf:Fits L k):
  Calls Tryz.prog 65 #[.pointer (some ⟨b,0,none⟩)] w fun e w'=>e= .returned (.int .u8 (peek L k:Nat))/\Same w w':=by
 obtain⟨vl,h,_⟩:=h;obtain⟨c0,c1,c2⟩:=h.cells;obtain⟨n,r,g,cap,hk,rfl,hc1,hc2,t0,_,_⟩:=h.top;unfold maxLen at hc2;cases n with
 | zero=>
  have hp:peek L k=0:=by
   unfold peek;rw [hk]
  rw [hp];clear hp hk h hf;go_enter Tryz.func65,Tryz.ntmps65;go_wp2_with fail;go_quiet (fail)
  go_wp2;go_ret;exact⟨rfl,Fr.drewN (fR _ w) _⟩
 | succ n=>
  have hp:peek L k=(L.getD k.at_ nz).tag.toNat:=by
   unfold peek;rw [hk]
  have hlt:=fits_lt hf hk;obtain⟨vb,off,cap2,rfl,_,x0,_,_⟩:=h.elem hlt;rw [hp];obtain⟨t,ht⟩:∃t,t=(L.getD k.at_ nz).tag.toNat:=⟨_,rfl⟩
  obtain⟨a,ha⟩:∃a,a=k.at_:=⟨_,rfl⟩
  rw [<-ht]at x0 ⊢;rw [<-ha]at x0 c1 hlt;have hltz:(a:Int)<(L.length:Int):=by omega
  have hn0:(((n+1:Nat):Int)==0)=false:=bn (by omega);clear hp hk h hf ht ha hlt;go_enter Tryz.func65,Tryz.ntmps65;go_wp2_with fail;go_quiet (fail)
  go_wp2_with fail;go_quiet (fail)
  go_wp2;go_ret;exact⟨rfl,Fr.drewN (Fr.drewN (fR _ w) _) _⟩
def TakeP(w:World)(b:Nat)(va:Value)(L:List Px.Node)(lim:Lim)(F:Nat->Prop)(r:Except Int (Bytes×Cu))(e:Ending)(w':World):Prop:=match r with
 | .ok (s,k')=>e= .returned (.tuple #[S s,.nilIface])/\CuAt w' b va L lim k' F/\Fr F w w'
 | .error n=>(∃v,e= .returned (.tuple #[S [],v])/\ErrV w' v n)/\Same w w'
theorem Bg(b:Nat)(va:Value)(L:List Px.Node)(lim:Lim)(k:Cu)(F:Nat->Prop)(t:Nat)(ht0:t≠0)(w:World)(h:CuAt w b va L lim k F)(hf:Fits L k):
  Calls Tryz.prog 61 #[.pointer (some ⟨b,0,none⟩),.int .u8 (t:Nat)] w (TakeP w b va L lim F (Cm.take L t k)):=by
 have H:=zz (aN h hf);clear h hf;go_enter Tryz.func61,Tryz.ntmps61;go_wp2_with fail;refine(A6 b va L lim k F w H.out.1 H.out.2).mono ?_;rintro e w1 ⟨rfl,hs⟩;have HS:=zz hs;clear hs;by_cases hp:peek L k=t
 ·have hT:Cm.take L t k= .ok ((L.getD k.at_ nz).body,⟨k.at_+1,E5.dec k.left⟩):=by
   unfold Cm.take;rw [if_pos hp]
  have HTK:=zz hT;have hpz:(((peek L k:Nat):Int) !=((t:Nat):Int))=false:=by
   rw [hp];simp
  obtain⟨vl,h,hF⟩:=H.out.1.same HS.out;obtain⟨c0,c1,c2⟩:=h.cells;obtain⟨n,r,g,cap,hk,rfl,hc1,hc2,t0,tf,hg⟩:=h.top;have fb:=h.free 1;have fb2:=h.free 2;have hgb:¬b=g:=fun e=>h.lb g rfl (by rw [e])
  have hgb2:¬g=b:=fun e=>hgb e.symm
  have hbl:=h.lt;unfold maxLen at hc2;cases n with
  | zero=>
   exfalso;apply ht0;rw [<-hp];unfold peek;rw [hk]
  | succ n=>
   have hlt:=fits_lt H.out.2 hk;obtain⟨vb,off,cap2,rfl,hvb,_,_,x2⟩:=h.elem hlt;have hvg:¬vb=g:=fun e=>h.al vb rfl (by rw [e]; rfl)
   have hvb2:¬vb=b:=fun e=>h.ab vb rfl (by rw [e])
   have hst:=h.step hk;have HD:=zz (show E5.dec k.left=n::r by rw [hk]; rfl);have hnl:=Cw H.out.2 hk;have hnw:(n:Int)+1<=5000:=by have:=h.wf.1; omega
   obtain⟨s,hs⟩:∃s,s=(L.getD k.at_ nz).body:=⟨_,rfl⟩
   obtain⟨a,ha⟩:∃a,a=k.at_:=⟨_,rfl⟩
   have HSA:=zz (aN hs ha);rw [<-hs]at x2;rw [<-ha]at x2 c1 hlt hst;have hL:=h.wf.1;have hltz:(a:Int)<(L.length:Int):=by omega
   have hgF:F g:=by rw [hF]; exact .inr rfl
   have hbF:F b:=by rw [hF]; exact .inl rfl
   have HH:=zz (aN hst (aN hF (aN hgF hbF)));clear hst hs ha hk h hp hT hF hlt hgF hbF;go_wp2_with fail;go_region
   go_wp2_with fail;go_quiet (fail)
   go_wp2;go_ret2
   rw [HTK.out,HD.out,<-HSA.out.1,<-HSA.out.2];exact⟨rfl,⟨_,HH.out.1.same ⟨rfl,rfl,rfl,Nat.le_refl _,fun _ _ _=>rfl⟩,HH.out.2.1⟩,Fr.drewN (fC (fC (fD (HS.out.fr F)) (.inl HH.out.2.2.1) _) (.inl HH.out.2.2.2) _) _⟩
 ·have hT:Cm.take L t k= .error 9:=by
   unfold Cm.take;rw [if_neg hp]
  have HTK:=zz hT;have hpz:(((peek L k:Nat):Int) !=((t:Nat):Int))=true:=by
   rw [bne_iff_ne];omega
  clear hT hp;go_wp2_with fail;refine(Al 9 _).mono ?_;rintro e w2 ⟨v,rfl,he,hs⟩;have HE:=zz (aN he (HS.out.trans hs));clear he hs;go_wp2;go_ret2
  rw [HTK.out];exact⟨⟨v,rfl,HE.out.1⟩,HE.out.2⟩
def RunsE{α:Type}(w:World)(b:Nat)(va:Value)(L:List Px.Node)(lim:Lim)(F G:Nat->Prop)(Post:α->(Nat->Prop)->World->Prop)(r:Except Int (α×Cu))(e:Ending)(w':World):Prop:=match r with
 | .ok (v,k')=>e= .returned .nilIface/\(∃F',CuAt w' b va L lim k' F'/\Fresh w F F'/\Post v F' w')/\Fr (fun q=>F q\/G q) w w'
 | .error n=>(∃v,e= .returned v/\ErrV w' v n)/\Fr (fun q=>F q\/G q) w w'
theorem GS{F F2 G:Nat->Prop}{w wc w3:World}(h:Fr F w wc)(hs:Fresh w F F2)(k:Fr (fun q=>F2 q\/G q) wc w3):Fr (fun q=>F q\/G q) w w3:=
 fT (Fr.mono h fun _ x=> .inl x) k fun b hb x=>by
  rcases x with x | x
  ·rcases hs b x with y | y
   ·exact .inl y
   ·omega
  ·exact .inr x
theorem Tryz.infoInt:(Tryz.prog.info? 3).map (fun i=>(i.zero,i.size,i.bytes))=some (some (.int .i64 0),1,8):=by kernel_rfl
theorem Bd {α:Type} (b:Nat) (va:Value) (L:List Px.Node) (lim:Lim) (k:Cu) (F G:Nat->Prop) (t:UInt8) (ht:t≠0) (hi:R5.inner t.toNat=true) (kf:Nat) (cap:Array Value) (p:P α) (Post:α->(Nat->Prop)->World->Prop) (w:World) (h:CuAt w b va L lim k F) (hf:Fits L k) (hd:k.left.length<=100) (hr:∀a∈L,E5.right a=true)
  (hen:∀W,(callFunc kf cap).run Tryz.prog W= .ok (.enter kf cap) W) (hE:Eats L p (fun _ _=>True)) (hst:∀v F w w',Post v F w->Fr F w w'->Post v F w')
  (hcl:∀w1 F1 k1,CuAt w1 b va L lim k1 F1->Fits L k1->k1.left.length=k.left.length+1->Fr F w w1->Fresh w F F1->Calls Tryz.prog kf cap w1 (RunsE w1 b va L lim F1 G Post (p k1))):
  Calls Tryz.prog 23 #[.pointer (some ⟨b,0,none⟩),.int .u8 (t.toNat:Nat),.func (.func kf) #[] cap] w (RunsE w b va L lim F G Post (inn L t.toNat p k)):=by
 have H:=zz (aN h hf);have HC:=zz hcl;have ht0:t.toNat≠0:=fun e=>ht (UInt8.toNat_inj.1 e)
 have HT:=zz (Bg b va L lim k F t.toNat ht0 w h hf);have HFI:=zz (fun(c':Cu) (s:Bytes) (e:Cm.take L t.toNat k= .ok (s,c'))=>CU hr ht hi e hf);obtain⟨R,hR⟩:∃R,R=inn L t.toNat p k:=⟨_,rfl⟩
 rw [<-hR];have HR:=zz hR;clear hR;have HEN:=zz hen;clear h hf hcl hen;go_enter Tryz.func23,Tryz.ntmps23;go_wp2_with fail;refine HT.out.mono ?_;intro e w1 hT;cases hk:Cm.take L t.toNat k with
 | error n=>
  rw [hk]at hT;have hI:inn L t.toNat p k= .error n:=by
   unfold inn;rw [hk]
  obtain⟨⟨v,rfl,fb,rfl,hb⟩,hs⟩:=hT;have HE:=zz (aN hb hs);have HI:=zz (HR.out.trans hI);clear hb hs hk hI HT;go_wp2;go_ret;rw [HI.out];exact⟨⟨_,rfl,fb,rfl,HE.out.1⟩,HE.out.2.fr _⟩
 | ok q=>
  obtain⟨s,k1⟩:=q;rw [hk]at hT;obtain⟨rfl,⟨vl,hrep,hF⟩,hfr⟩:=hT;have hfi:=HFI.out _ _ hk;obtain⟨n0,r0,hkl,hk1⟩:∃n0 r0,k.left=(n0+1)::r0/\k1=⟨k.at_+1,n0::r0⟩:=by
   obtain⟨a,n,r,_,_,_,_,_,h5,h6⟩:=By hk (fun e=>ht0 e);exact⟨n,r,h5,h6⟩
  have hlt:=fits_lt H.out.2 hkl;obtain⟨kk,hkk⟩:∃kk:Nat,kk=(L.getD k.at_ nz).kids.toNat:=⟨_,rfl⟩
  have hkz:(L.getD k.at_ nz).kids=(kk:Int):=by
   obtain⟨a,n,r,_,h2,hg,h3,_⟩:=By hk (fun e=>ht0 e);rw [hkk,hg];have ha:=hr a h2;unfold E5.right at ha;simp only [Bool.and_eq_true,beq_iff_eq]at ha;have h4:R5.inner a.tag.toNat=true:=by rw [h3]; exact hi
   have h5:=ha.1.2;rw [h4]at h5;have h6:¬a.kids<0:=by
    intro h7;have:E5.leaf a=true:=dt h7;rw [this]at h5;cases h5
   omega
  have hI:inn L t.toNat p k=match p ⟨k1.at_,kk::k1.left⟩with | .error e=> .error e | .ok (v,c2)=>out v c2:=by
   unfold inn;rw [hk,hkk];rfl
  rw [<-hkk]at hfi;have HI:=zz (HR.out.trans hI);have HK:=zz (aN hfi (aN hF hfr));subst hk1;obtain⟨c0,c1,c2⟩:=hrep.cells;obtain⟨vb,off,cap2,hva,hvb,_,y1,_⟩:=hrep.elem hlt;rw [hkz]at y1;rw [hva]at c0;obtain⟨a,ha⟩:∃a,a=k.at_:=⟨_,rfl⟩
  rw [<-ha]at y1 hlt;replace c1:w1.cell? ⟨b,1,none⟩=some (.int .i64 ((a:Int)+1)):=by rw [c1,ha]; rfl
  have hL:=hrep.wf.1;have hltz:(a:Int)<(L.length:Int):=by omega
  have hvl:=hrep.own.len;rw [List.length_reverse]at hvl;obtain⟨la,lc,hvl1,hlc1,hlc2,_⟩:=hvl;have f2:=hrep.free 2;have HX:=zz hrep;have hbl:=hrep.lt;obtain⟨i0,hi0,hz0,hz1,hz2⟩:=info_parts Tryz.infoInt;unfold maxLen at hlc2;obtain⟨m,hm⟩:∃m,m=(n0::r0).length:=⟨_,rfl⟩
  have HM:=zz hm;have HV:=zz hva;have hown:w1.ownsRow 0 3 1 vl m ((n0::r0).reverse.flatMap cNum):=by
   have:=hrep.own;unfold Owns at this;rw [List.length_reverse,<-hm]at this;exact this
  have HO:=zz hown;rw [<-hm]at hvl1 hlc1;have hml:m<=100:=by
   rw [hkl]at hd;rw [hm];exact hd
  have HKL:=zz hkl;clear hrep hm hva hown hI hkk hkz ha hk hF hfr hfi hkl hd;have LB:=HX.out.lb.ne;have hwr:IntKind.i64.wrap ((a:Nat):Int)=(a:Int):=IntWalk.i64_in _ ⟨by omega,by omega⟩;have hnn:(0:Int)<=(a:Int):=by omega
  have htn:((a:Nat):Int).toNat=a:=by omega
  have HA:=zz hlt;clear hlt hvl1 hlc1 hlc2;go_upto_region 4 with fail
  go_cut [] (fun wx=>∃F2,CuAt wx b va L lim ⟨k.at_+1,kk::n0::r0⟩ F2/\Fr F w1 wx/\Fresh w1 F F2)
  case first=>
   go_region_law
    ((refine step_append_lies _ (by rfl) _ _ _ (by rfl) 0 3 i0 _ 1 8 Tryz.underlying51 hi0 hz0 hz1 hz2 rfl (by omega) vl m ((n0::r0).reverse.flatMap cNum) (by rfl) (World.ownsRow.alloc HO.out _)
       ⟨w1.heap.size,0,none⟩ 1 1 [.int .i64 (kk:Int)] (by rfl) (by rfl) (World.news_of_block (cs:= #[.int .i64 (kk:Int)]) (t:=3) (fr:=(0,0)) (heap_alloc_new w1 _)) (by simp [Value.oneCell'])
       (by omega) (by unfold maxLen; omega) (by omega) (by simp) (w1.heap.size+1) (by simp) ?_; intro gg cap w2 hown1 hgrow hat hlt; have k2:=AO hgrow c2 LB; have e2:=AP hgrow c2 f2 LB))
   all_goals
    go_wp2_with fail;go_meet
    have hm:=HM.out;subst hm;obtain⟨q1,q2,q3⟩:=HX.out.push hown1 hgrow (hat.imp id (fun e=>by omega)) rfl;refine⟨_,⟨_,q1,rfl⟩,?_,?_⟩
    ·rw [HK.out.2.1];exact q2
    ·rw [HK.out.2.1];exact q3
  case rest=>
   obtain⟨F2,hcu,hf2,hfr2⟩:=hcut;have hfw:Fr F w wc:=fT HK.out.2.2 hf2 (fun _ _ x=>x);have hfs:Fresh w F F2:=fun q hq=>by
    rcases hfr2 q hq with x | x
    ·exact .inl x
    ·exact .inr (Nat.le_trans HK.out.2.2.size x)
   have HR2:=zz (HC.out wc F2 ⟨k.at_+1,kk::n0::r0⟩ hcu HK.out.1 (by rw [HKL.out]; rfl) hfw hfs);have HW:=zz (aN hfw hfs);clear hcu hf2 hfr2 hfw hfs c0 c1 c2 y1 f2 HX HO HM HV LB hwr hnn htn HA hml hltz hL hvb hbl;have hen:=HEN.out wc;go_wp2_with fail;refine HR2.out.mono ?_;intro e w3 hR3;cases hp:p ⟨k.at_+1,kk::n0::r0⟩with
   | error n=>
    rw [hp]at hR3;obtain⟨⟨v,rfl,fb,rfl,hb⟩,hf3⟩:=hR3;have HE:=zz (aN hb (GS HW.out.1 HW.out.2 hf3));have HI2:Hid (R= .error n):=zz (HI.out.trans (by rw [hp]));clear hb hf3 hp HI;go_wp2;go_ret;rw [HI2.out];exact⟨⟨_,rfl,fb,rfl,HE.out.1⟩,HE.out.2⟩
   | ok q=>
    obtain⟨v,k2⟩:=q;rw [hp]at hR3;obtain⟨rfl,⟨F3,⟨vl3,hrep3,hF3⟩,hfs3,hpost⟩,hf3⟩:=hR3;obtain⟨hfit2,ts,n2,r2,_,e1,e2,_⟩:=hE _ v k2 hp HK.out.1;simp only [List.cons.injEq]at e1;obtain⟨_,e1⟩:=e1;obtain⟨n,r,g,cp,hk2,rfl,hc1,hc2,t0,tf,hg⟩:=hrep3.top;have hrr:r=n0::r0:=by
     rw [e2]at hk2;simp only [List.cons.injEq]at hk2;rw [<-hk2.2,e1]
    have hrne:r≠ []:=by rw [hrr]; simp
    have hI2:R=out v k2:=HI.out.trans (by rw [hp]);obtain⟨c0,c1,c2⟩:=hrep3.cells;have f2:=hrep3.free 2;have hbl:=hrep3.lt;have hnl:=Cw hfit2 hk2;have hL:=hrep3.wf.1;unfold maxLen at hc2;have hgb:¬g=b:=fun e=>hrep3.lb g rfl (by rw [e])
    have HFA:=zz (GS HW.out.1 HW.out.2 hf3);have HFS:=zz (show Fresh w F F3 from fun q hq=>by
     rcases hfs3 q hq with x | x
     ·exact HW.out.2 q x
     ·exact .inr (Nat.le_trans HW.out.1.size x))
    cases n with
    | zero=>
     have hpop:=hrep3.pop hk2 hrne;have hout:R= .ok (v,⟨k2.at_,r⟩):=by
      rw [hI2];unfold out;rw [hk2];rfl
     have hbF:F3 b:=by rw [hF3]; exact .inl rfl
     have HQ:=zz (aN hpop (aN hout (aN hF3 (aN hpost hbF))));clear hpop hout hF3 hpost hbF hrep3 hI2 hk2 e2 e1 hrr hp hf3 hfs3 hfit2 HI hrne;go_wp2;go_ret;rw [HQ.out.2.1];refine⟨rfl,⟨F3,⟨_,HQ.out.1,HQ.out.2.2.1⟩,HFS.out,hst _ _ _ _ HQ.out.2.2.2.1 (fC (F:=F3) (fR _ w3) (p:=⟨b,2,none⟩) (.inl HQ.out.2.2.2.2) _)⟩,?_⟩;refine fC HFA.out (p:=⟨b,2,none⟩) ?_ _;rcases HFS.out b HQ.out.2.2.2.2 with x | x
     ·exact .inl (.inl x)
     ·exact .inr x
    | succ n=>
     have hout:R= .error 9:=by
      rw [hI2];unfold out;rw [hk2]
     have hnz:(0:Int)<(n:Int)+1:=by omega
     have HQ:=zz hout;clear hout hF3 hpost hrep3 hI2 hk2 e2 e1 hrr hp hf3 hfs3 hfit2 HI hrne;go_wp2_with fail;refine(Al 9 _).mono ?_;rintro e w4 ⟨v4,rfl,he,hs⟩;have HE:=zz (aN he hs);clear he hs;go_wp2;go_ret;rw [HQ.out];exact⟨⟨v4,rfl,HE.out.1⟩,fT HFA.out HE.out.2 (fun _ _ x=>x.elim)⟩
theorem A3(a c m:Nat)(w:World):Calls Tryz.prog 71 #[.int .i64 (a:Nat),.int .i64 (c:Nat),.int .i64 (m:Nat)] w fun e w'=>
  e= .returned (.func (.func 116) #[] #[.pointer (some ⟨w.heap.size,0,none⟩),.pointer (some ⟨w.heap.size+1,0,none⟩),.pointer (some ⟨w.heap.size+1+1,0,none⟩)])/\
   Blk w' w.heap.size #[.int .i64 (a:Nat)] 3/\Blk w' (w.heap.size+1) #[.int .i64 (c:Nat)] 3/\Blk w' (w.heap.size+1+1) #[.int .i64 (m:Nat)] 3/\Same w w':=by
 have hmf:∀(fn:Fn) (first cap:Array Value) (w:World),(Instr.makeFunc fn first cap).run Tryz.prog w= .ok (.func fn first cap) w:=fun _ _ _ _=>rfl
 go_enter Tryz.func71,Tryz.ntmps71;go_wp2;go_ret;have b0:=Af w #[.int .i64 (a:Nat)] 3;have b1:=Af (w.alloc (.cells #[.int .i64 (a:Nat)] 3)) #[.int .i64 (c:Nat)] 3;have b2:=Af ((w.alloc (.cells #[.int .i64 (a:Nat)] 3)).alloc (.cells #[.int .i64 (c:Nat)] 3)) #[.int .i64 (m:Nat)] 3;rw [show(w.alloc (.cells #[.int .i64 (a:Nat)] 3)).heap.size=w.heap.size+1 by simp]at b1;rw [show((w.alloc (.cells #[.int .i64 (a:Nat)] 3)).alloc (.cells #[.int .i64 (c:Nat)] 3)).heap.size=w.heap.size+1+1 by simp]at b2;exact⟨rfl,(b0.alloc _).alloc _,b1.alloc _,b2,((fR _ w).alloc _).alloc _ |>.alloc _⟩
structure MayIn (w:World) (F:Nat->Prop) (v:Value) (a c m:Nat):Prop where
 ex:∃pa pc pm,v= .func (.func 116) #[] #[.pointer (some ⟨pa,0,none⟩),.pointer (some ⟨pc,0,none⟩),.pointer (some ⟨pm,0,none⟩)]/\
  Blk w pa #[.int .i64 (a:Nat)] 3/\Blk w pc #[.int .i64 (c:Nat)] 3/\Blk w pm #[.int .i64 (m:Nat)] 3/\¬F pa/\¬F pc/\¬F pm
def mayB(a c m n:Nat):Bool:=decide (a<=n) && decide (n<=c) && n % m==0
theorem Nq(pa pc pm a c m n:Nat)(w:World)(ha:Blk w pa #[.int .i64 (a:Nat)] 3)(hc:Blk w pc #[.int .i64 (c:Nat)] 3)(hm:Blk w pm #[.int .i64 (m:Nat)] 3)(hm0:0<m)(hb:a<=5000/\c<=5000/\m<=5000):
  Calls Tryz.prog 116 #[.int .i64 (n:Nat),.pointer (some ⟨pa,0,none⟩),.pointer (some ⟨pc,0,none⟩),.pointer (some ⟨pm,0,none⟩)] w fun e w'=>e= .returned (.bool (mayB a c m n))/\w=w':=by
 have c0:=ha.cell 0 (v:= .int .i64 (a:Nat)) rfl;have c1:=hc.cell 0 (v:= .int .i64 (c:Nat)) rfl;have c2:=hm.cell 0 (v:= .int .i64 (m:Nat)) rfl;have hmz:(0:Int)<(m:Int):=by omega
 have hmz2:((m:Int)==0)=false:=bn (by omega);obtain⟨hb1,hb2,hb3⟩:=hb;clear ha hc hm;by_cases h1:a<=n
 ·have h1z:(a:Int)<=(n:Int):=by omega
  by_cases h2:n<=c
  ·have h2z:(n:Int)<=(c:Int):=by omega
   have HB:=zz (show mayB a c m n=(n % m==0) by unfold mayB; rw [dt h1,dt h2]; rfl);obtain⟨z,hz⟩:∃z,z=n % m:=⟨_,rfl⟩
   have hmod:(n:Int).tmod (m:Int)=(z:Int):=by rw [hz]; rfl
   have hmod2:(n:Int) % (m:Int)=(z:Int):=by rw [hz]; rfl
   rw [<-hz]at HB;clear hz h1 h2;go_enter Tryz.func116,Tryz.ntmps116;go_wp2;go_ret;rw [HB.out];by_cases hz:z=0
   ·subst hz;exact⟨rfl,rfl⟩
   ·have e1:(z==0)=false:=bn hz;have e2:((z:Int)==0)=false:=bn (by omega);rw [e1];exact⟨by simp [e2],rfl⟩
  ·have h2z:¬(n:Int)<=(c:Int):=by omega
   have HB:=zz (show mayB a c m n=false by unfold mayB; rw [df h2,Bool.and_false,Bool.false_and]);clear h1 h2;go_enter Tryz.func116,Tryz.ntmps116;go_wp2;go_ret;rw [HB.out];exact⟨rfl,rfl⟩
 ·have h1z:¬(a:Int)<=(n:Int):=by omega
  have HB:=zz (show mayB a c m n=false by unfold mayB; rw [df h1]; rfl);clear h1;go_enter Tryz.func116,Tryz.ntmps116;go_wp2;go_ret;rw [HB.out];exact⟨rfl,rfl⟩
def cStr(l:Bytes):List Value:=[S l]
def idx:Option Nat->Int
 | some i=>(i:Int)
 | none=> -1
theorem Gy{l:List Bytes}{t x:Bytes}{k:Nat}(hx:l[k]?=some x)(he:(x==t)=true)(hno:∀j y,j<k->l[j]?=some y->(y==t)=false):l.findIdx? (fun y=>y==t)=some k:=by
 obtain⟨hk,hx2⟩:=List.getElem?_eq_some_iff.1 hx;rw [List.findIdx?_eq_some_iff_getElem];refine⟨hk,by rw [hx2]; exact he,fun j hj=>?_⟩;have:=hno j l[j] hj (List.getElem?_eq_getElem (by omega));simp [this]
theorem Gz{l:List Bytes}{t:Bytes}(hno:∀j y,j<l.length->l[j]?=some y->(y==t)=false):l.findIdx? (fun y=>y==t)=none:=by
 rw [List.findIdx?_eq_none_iff];intro y hy;obtain⟨j,hj,e⟩:=List.mem_iff_getElem.1 hy;exact hno j y hj (by rw [List.getElem?_eq_getElem hj,e])
theorem KS(v:Value)(l:List Bytes)(t:Bytes)(hl:l.length<=1000000)(w:World)(h:Lies w 1 cStr v l):
  Calls Tryz.prog 63 #[v,S t] w fun e w'=>e= .returned (.int .i64 (idx (l.findIdx? (fun y=>y==t))))/\w=w':=by
 obtain⟨a,cap,hv,_⟩:=h.slice;subst hv;have H:=zz h;obtain⟨r,hr⟩:∃r,r=idx (l.findIdx? (fun y=>y==t)):=⟨_,rfl⟩
 rw [<-hr];have HR:=zz hr;clear h hr;go_enter Tryz.func63,Tryz.ntmps63;go_wp2;go_loopw [8] (fun i wr=>∃k,k<=l.length/\i= .int .i64 (k:Nat)/\w=wr/\∀j y,j<k->l[j]?=some y->(y==t)=false) (fun i _=>l.length - (intOf i).toNat)
 case atStart=>exact⟨0,Nat.zero_le _,rfl,rfl,fun j _ hj=>by omega⟩
 case round=>
  obtain⟨k,hk,rfl,rfl,hno⟩:=hrel;by_cases hlt:k<l.length
  ·have hltz:(k:Int)<(l.length:Int):=by omega
   obtain⟨x,hx⟩:∃x,l[k]?=some x:=⟨_,List.getElem?_eq_getElem hlt⟩
   obtain⟨g,off,cap',hv',_,hc⟩:=H.out.cell k x hx;simp only [Value.slice.injEq]at hv';have ha:=hv'.1;subst ha;have ck:w.cell? ⟨g,off+k,none⟩=some (S x):=by have:=hc 0 (S x) rfl; simpa using this
   have HX:=zz (aN hx hno);have HLT:=zz hlt;clear hv' hc hx hno hlt;obtain⟨q,hq⟩:∃q,(t==x)=q:=⟨_,rfl⟩
   have HQ:=zz hq;cases q with
   | true=>
    have HF:=zz (Gy HX.out.1 (by have:=HQ.out; rw [beq_iff_eq]at this ⊢; exact this.symm) HX.out.2);go_wp2;go_ret;rw [HR.out,HF.out];exact⟨rfl,rfl⟩
   | false=>
    go_wp2;go_roundw
    case rel=>
     refine⟨k+1,HLT.out,by go_num,trivial,fun j y hj hy=>?_⟩;by_cases e:j=k
     ·subst e;rw [HX.out.1]at hy;cases hy;have:=HQ.out;rw [beq_eq_false_iff_ne]at this ⊢;exact this.symm
     ·exact HX.out.2 j y (by omega) hy
    case measure=>have:=HLT.out; simp [intOf]; omega
  ·have hlt':¬(k:Int)<(l.length:Int):=by omega
   have HNO:=zz (Gz (l:=l) (t:=t) (fun j y hj hy=>hno j y (by omega) hy));clear hno;go_wp2;go_ret;rw [HR.out,HNO.out];exact⟨rfl,rfl⟩
def TkP{α:Type}(val:α->Value)(bad:Value)(w:World)(b:Nat)(va:Value)(L:List Px.Node)(lim:Lim)(F:Nat->Prop)(r:Except Int (α×Cu))(e:Ending)(w':World):Prop:=match r with
 | .ok (s,k')=>e= .returned (.tuple #[val s,.nilIface])/\CuAt w' b va L lim k' F/\Fr F w w'
 | .error n=>(∃v,e= .returned (.tuple #[bad,v])/\ErrV w' v n)/\Fr F w w'
def TkE(w:World)(b:Nat)(va:Value)(L:List Px.Node)(lim:Lim)(F:Nat->Prop)(r:Except Int (Unit×Cu))(e:Ending)(w':World):Prop:=match r with
 | .ok (_,k')=>e= .returned .nilIface/\CuAt w' b va L lim k' F/\Fr F w w'
 | .error n=>(∃v,e= .returned v/\ErrV w' v n)/\Fr F w w'
theorem Dh(b:Nat)(va:Value)(L:List Px.Node)(lim:Lim)(k:Cu)(F:Nat->Prop)(s:Bytes)(w:World)(h:CuAt w b va L lim k F)(hf:Fits L k):
  Calls Tryz.prog 64 #[.pointer (some ⟨b,0,none⟩),S s] w (TkE w b va L lim F (version L s k)):=by
 have HT:=zz (Bg b va L lim k F 2 (by decide) w h hf);obtain⟨R,hR⟩:∃R,R=version L s k:=⟨_,rfl⟩
 rw [<-hR];have HR:=zz hR;clear hR h hf;go_enter Tryz.func64,Tryz.ntmps64;go_wp2_with fail;refine HT.out.mono ?_;intro e w1 hT;cases hk:Cm.take L 2 k with
 | error n=>
  rw [hk]at hT;have HI:=zz (HR.out.trans (show version L s k= .error n by unfold version bnd; rw [hk]));obtain⟨⟨v,rfl,fb,rfl,hb⟩,hs⟩:=hT;have HE:=zz (aN hb hs);clear hb hs hk HT;go_wp2;go_ret;rw [HI.out];exact⟨⟨_,rfl,fb,rfl,HE.out.1⟩,HE.out.2.fr _⟩
 | ok q=>
  obtain⟨t,k1⟩:=q;rw [hk]at hT;obtain⟨rfl,hc,hfr⟩:=hT;have HC:=zz (aN hc hfr);have HI:=zz (HR.out.trans (show version L s k=if t=s then .ok ((),k1)else .error 11 by
   unfold version bnd;rw [hk];by_cases e:t=s
   ·rw [if_pos e];simp only [e,if_true];rfl
   ·rw [if_neg e];simp only [e,if_false];rfl))
  clear hc hfr hk HT;by_cases e:t=s
  ·have HI2:=zz (HI.out.trans (if_pos e));have hne:(t==s)=true:=by rw [beq_iff_eq]; exact e
   clear e HI HR;go_wp2;go_ret;rw [HI2.out];exact⟨rfl,HC.out.1,HC.out.2⟩
  ·have HI2:=zz (HI.out.trans (if_neg e));have hne:(t==s)=false:=by rw [beq_eq_false_iff_ne]; exact e
   clear e HI HR;go_wp2_with fail;refine(Al 11 _).mono ?_;rintro e w2 ⟨v,rfl,he,hs⟩;have HE:=zz (aN he (HC.out.2.trans (hs.fr F) (fun _ _ x=>x)));clear he hs;go_wp2;go_ret;rw [HI2.out];exact⟨⟨v,rfl,HE.out.1⟩,HE.out.2⟩
theorem BK(b:Nat)(va:Value)(L:List Px.Node)(lim:Lim)(k:Cu)(F:Nat->Prop)(v:Value)(tbl:List Bytes)(htl:tbl.length<=1000)(w:World)(h:CuAt w b va L lim k F)(hf:Fits L k)(hv:Lies w 1 cStr v tbl)(hF:∀q,v.ownBlock=some q->¬F q):
  Calls Tryz.prog 25 #[.pointer (some ⟨b,0,none⟩),v] w (TkP (fun i:Nat=> .int .i64 (i:Nat)) (.int .i64 0) w b va L lim F (kind L tbl k)):=by
 have HT:=zz (Bg b va L lim k F 6 (by decide) w h hf);have HV:=zz (aN hv hF);obtain⟨R,hR⟩:∃R,R=kind L tbl k:=⟨_,rfl⟩
 rw [<-hR];have HR:=zz hR;clear hR h hf hv hF;go_enter Tryz.func25,Tryz.ntmps25;go_wp2_with fail;refine HT.out.mono ?_;intro e w1 hT;cases hk:Cm.take L 6 k with
 | error n=>
  rw [hk]at hT;have HI:=zz (HR.out.trans (show kind L tbl k= .error n by unfold kind bnd; rw [hk]));obtain⟨⟨v,rfl,fb,rfl,hb⟩,hs⟩:=hT;have HE:=zz (aN hb hs);clear hb hs hk HT;go_wp2;go_ret2
  rw [HI.out];exact⟨⟨_,rfl,fb,rfl,HE.out.1⟩,HE.out.2.fr _⟩
 | ok q=>
  obtain⟨t,k1⟩:=q;rw [hk]at hT;obtain⟨rfl,hc,hfr⟩:=hT;have HC:=zz (aN hc hfr);have hI:kind L tbl k=match tbl.findIdx? (fun y=>y==t)with | some i=> .ok (i,k1)| none=> .error 11:=by
   unfold kind bnd;rw [hk];show(match tbl.findIdx? (fun y=>y==t)with | some i=>ret i | none=>fail 11:P Nat) k1=_;cases tbl.findIdx? (fun y=>y==t)<;>rfl
  have HIX:=zz (KS v tbl t (by omega) w1 (Lies.keepF HV.out.1 hfr HV.out.2));have HI:=zz (HR.out.trans hI);clear hc hfr hk HT hI;go_wp2_with fail;refine HIX.out.mono ?_;rintro e w2 ⟨rfl,rfl⟩;cases hfi:tbl.findIdx? (fun y=>y==t)with
  | some i=>
   have HI2:=zz (HI.out.trans (by rw [hfi]));have hi0:¬(i:Int)<0:=by omega
   have hid:idx (some i)=(i:Int):=rfl;rw [hid];clear hfi HI HR hid HIX;go_wp2;go_ret2
   rw [HI2.out];exact⟨rfl,HC.out.1,HC.out.2⟩
  | none=>
   have HI2:=zz (HI.out.trans (by rw [hfi]));have hid:idx none= -1:=rfl;rw [hid];clear hfi HI HR hid HIX;go_wp2_with fail;refine(Al 11 _).mono ?_;rintro e w3 ⟨v2,rfl,he,hs⟩;have HE:=zz (aN he (HC.out.2.trans (hs.fr F) (fun _ _ x=>x)));clear he hs;go_wp2;go_ret2
   rw [HI2.out];exact⟨⟨v2,rfl,HE.out.1⟩,HE.out.2⟩
theorem MayIn.keep{w w':World}{F G:Nat->Prop}{v:Value}{a c m:Nat}(h:MayIn w F v a c m)(hf:Fr F w w')(hg:∀q,G q->q<w.heap.size->F q):MayIn w' G v a c m:=by
 obtain⟨pa,pc,pm,e,ha,hc,hm,fa,fc,fm⟩:=h;exact⟨pa,pc,pm,e,ha.fr hf fa,hc.fr hf fc,hm.fr hf fm,fun x=>fa (hg _ x ha.lt),fun x=>fc (hg _ x hc.lt),fun x=>fm (hg _ x hm.lt)⟩
theorem Jk{a c m n:Nat}:mayB a c m n=decide (a<=n/\n<=c/\n % m=0):=by
 unfold mayB;by_cases h1:a<=n<;>by_cases h2:n<=c<;>by_cases h3:n % m=0<;>simp [h1,h2,h3]
theorem BL(b:Nat)(va:Value)(L:List Px.Node)(lim:Lim)(k:Cu)(F:Nat->Prop)(v:Value)(a c m:Nat)(hm0:0<m)(hb:a<=5000/\c<=5000/\m<=5000)(w:World)(h:CuAt w b va L lim k F)(hf:Fits L k)(hv:MayIn w F v a c m):
  Calls Tryz.prog 70 #[.pointer (some ⟨b,0,none⟩),v] w (TkP S (S []) w b va L lim F (octs L a c m k)):=by
 have HT:=zz (Bg b va L lim k F 4 (by decide) w h hf);obtain⟨pa,pc,pm,rfl,ha,hc,hm,fa,fc,fm⟩:=hv.ex;have HV:=zz (aN ha (aN hc (aN hm (aN fa (aN fc fm)))));obtain⟨R,hR⟩:∃R,R=octs L a c m k:=⟨_,rfl⟩
 rw [<-hR];have HR:=zz hR;clear hR h hf hv ha hc hm fa fc fm;go_enter Tryz.func70,Tryz.ntmps70;go_wp2_with fail;refine HT.out.mono ?_;intro e w1 hT;cases hk:Cm.take L 4 k with
 | error n=>
  rw [hk]at hT;have HI:=zz (HR.out.trans (show octs L a c m k= .error n by unfold octs bnd; rw [hk]));obtain⟨⟨v,rfl,fb,rfl,hb⟩,hs⟩:=hT;have HE:=zz (aN hb hs);clear hb hs hk HT;go_wp2;go_ret2
  rw [HI.out];exact⟨⟨_,rfl,fb,rfl,HE.out.1⟩,HE.out.2.fr _⟩
 | ok q=>
  obtain⟨t,k1⟩:=q;rw [hk]at hT;obtain⟨rfl,hc,hfr⟩:=hT;have HC:=zz (aN hc hfr);have hI:octs L a c m k=if a<=t.length/\t.length<=c/\t.length % m=0 then .ok (t,k1)else .error 9:=by
   unfold octs bnd;rw [hk];show(if a<=t.length/\t.length<=c/\t.length % m=0 then ret t else fail 9:P Bytes) k1=_;by_cases e:a<=t.length/\t.length<=c/\t.length % m=0
   ·rw [if_pos e,if_pos e];rfl
   ·rw [if_neg e,if_neg e];rfl
  have HI:=zz (HR.out.trans hI);obtain⟨ha,hc,hm,fa,fc,fm⟩:=HV.out;have HM:=zz (Nq pa pc pm a c m t.length w1 (ha.fr hfr fa) (hc.fr hfr fc) (hm.fr hfr fm) hm0 hb);clear hfr hk HT hI ha hc hm fa fc fm;go_wp2_with fail;refine HM.out.mono ?_;rintro e w2 ⟨rfl,rfl⟩;cases hq:mayB a c m t.length with
  | true=>
   have HI2:=zz (HI.out.trans (if_pos (by rw [Jk]at hq; exact of_decide_eq_true hq)));clear hq HI HR HM;go_wp2;go_ret2
   rw [HI2.out];exact⟨rfl,HC.out.1,HC.out.2⟩
  | false=>
   have HI2:=zz (HI.out.trans (if_neg (by rw [Jk]at hq; exact of_decide_eq_false hq)));clear hq HI HR HM;go_wp2_with fail;refine(Al 9 _).mono ?_;rintro e w3 ⟨v2,rfl,he,hs⟩;have HE:=zz (aN he (HC.out.2.trans (hs.fr F) (fun _ _ x=>x)));clear he hs;go_wp2;go_ret2
   rw [HI2.out];exact⟨⟨v2,rfl,HE.out.1⟩,HE.out.2⟩
end Go.Proofs.YtpfhollohodcjaaGreatDoor
