import Derived.WalkKit
import Derived.Deep.AppendLies
import Derived.WalkSmall
import Derived.Test.YtpfhollohodcjaaGreatDoorVA
import Derived.Deep.RegionHeld3
import Derived.Shelf.Unicode.ValidAny
import Derived.Lib.LaidU8T
import Derived.Test.YtpfhollohodcjaaGreatDoorProg
import Derived.WalkLawsBesides
import Derived.WalkSpells
import Derived.Deep.QuietTactic
import Derived.BigQuiet
import Derived.Deep.LoopGhost
import Derived.Deep.RegionLaw
import Derived.Deep.DeepCutAuto
namespace Go.Px
open Go.RowKit
theorem I3(n c:Nat)(hc:c<256)(h:n*256+c<18446744073709551616):bits .or .u64 ((n:Int)*256) (c:Int)=((n*256+c:Nat):Int):=by
 have e:((n:Int)*256)=((n*256:Nat):Int):=by omega
 rw [e,u64_or_nat (n*256) c (Nat.lt_of_le_of_lt (Nat.le_add_right _ _) h) (Nat.lt_of_le_of_lt (Nat.le_add_left _ _) h)];have:=Nat.shiftLeft_add_eq_or_of_lt (show c<2 ^ 8 by simpa using hc) n;rw [Nat.shiftLeft_eq]at this;rw [<-this]
theorem hid{p:Prop}(h:p):Hid p:=h
structure Fr (F:Nat->Prop) (w w':World):Prop where
 os:w'.os=w.os
 tape:w'.tape=w.tape
 output:w'.output=w.output
 size:w.heap.size<=w'.heap.size
 block:∀k,k<w.heap.size->¬F k->w'.heap[k]?=w.heap[k]?
section
variable {F G H : Nat -> Prop} {w w1 w2 : World}
theorem Fr.refl(F:Nat->Prop)(w:World):Fr F w w:=⟨rfl,rfl,rfl,Nat.le_refl _,fun _ _ _=>rfl⟩
theorem Fr.trans(h:Fr F w w1)(k:Fr G w1 w2)(hg:∀b,b<w.heap.size->G b->F b):Fr F w w2:=
 ⟨k.os.trans h.os,k.tape.trans h.tape,k.output.trans h.output,Nat.le_trans h.size k.size,fun b hb hn=>(k.block b (Nat.lt_of_lt_of_le hb h.size) (fun x=>hn (hg b hb x))).trans (h.block b hb hn)⟩
theorem Fr.mono(h:Fr F w w1)(hg:∀b,F b->G b):Fr G w w1:=⟨h.os,h.tape,h.output,h.size,fun b hb hn=>h.block b hb (fun x=>hn (hg b x))⟩
theorem Fr.drew(h:Fr F w w1):Fr F w w1.drew:=⟨h.os,h.tape,h.output,h.size,h.block⟩
theorem Fr.drewN(h:Fr F w w1)(n:Nat):Fr F w (w1.drewN n):=⟨h.os,h.tape,h.output,h.size,h.block⟩
theorem Fr.alloc(h:Fr F w w1)(o:Obj):Fr F w (w1.alloc o):=
 ⟨h.os,h.tape,h.output,by have:=h.size; simp; omega,fun b hb hn=>(Below.heap_alloc w1 o b (Nat.lt_of_lt_of_le hb h.size)).trans (h.block b hb hn)⟩
theorem Fr.setCell(h:Fr F w w1){p:Addr}(hp:F p.block\/w.heap.size<=p.block)(u:Value):Fr F w (w1.setCell p u):=
 ⟨h.os,h.tape,h.output,by have:=h.size; simpa [World.setCell] using this,fun b hb hn=>(heap_setCell_other w1 p b u (fun e=>by subst e; rcases hp with hp | hp; exact hn hp; omega)).trans (h.block b hb hn)⟩
theorem Fr.grown(h:Fr F w w1){row:Option Nat}(hg:w1.grownBy w2 row)(hr:∀k,row=some k->F k\/w.heap.size<=k):Fr F w w2:=
 ⟨hg.os.trans h.os,hg.tape.trans h.tape,hg.output.trans h.output,Nat.le_trans h.size hg.size,fun b hb hn=>(hg.block b (Nat.lt_of_lt_of_le hb h.size) (fun e=>by rcases hr b e.symm with x | x; exact hn x; omega)).trans (h.block b hb hn)⟩
theorem Fr.below(h:Below w.heap.size w w1):Fr F w w1:=⟨h.os,h.tape,h.output,h.size,fun b hb _=>h.block b hb⟩
theorem Fr.toBelow(h:Fr F w w1)(B:Nat)(hB:∀k,F k->B<=k)(hw:B<=w.heap.size):Below B w w1:=
 ⟨h.os,h.tape,h.output,h.size,fun b hb=>h.block b (by omega) (fun x=>by have:=hB b x; omega)⟩
theorem Fr.cell(h:Fr F w w1){p:Addr}(hp:p.block<w.heap.size)(hn:¬F p.block):w1.cell? p=w.cell? p:=World.cell?_of_block (w:=w) (h.block _ hp hn)
theorem Fr.frozen(h:Fr F w w1){p:Addr}(hp:p.block<w.heap.size)(hn:¬F p.block):w1.frozen? p=w.frozen? p:=World.frozen?_of_block (w:=w) (h.block _ hp hn)
end
def Fresh(w:World)(F F':Nat->Prop):Prop:=∀k,F' k->F k\/w.heap.size<=k
theorem Fresh.refl(w:World)(F:Nat->Prop):Fresh w F F:=fun _ h=> .inl h
theorem Fresh.trans{w w1:World}{F F1 F2:Nat->Prop}(h:Fresh w F F1)(hs:w.heap.size<=w1.heap.size)(k:Fresh w1 F1 F2):Fresh w F F2:=fun b hb=>by
 rcases k b hb with x | x
 ·exact h b x
 ·exact .inr (Nat.le_trans hs x)
theorem Fr.step{w w1 w2:World}{F F1:Nat->Prop}(h:Fr F w w1)(hf:Fresh w F F1)(k:Fr F1 w1 w2):Fr F w w2:=h.trans k fun b hb x=>by
 rcases hf b x with y | y
 ·exact y
 ·omega
theorem Ab{w:World}{b:Nat}{cs:Array Value}{T:TypeId}{z:Nat×Nat}(h:w.heap[b]?=some (.cells cs T z))(i:Nat){v:Value}(hv:cs[i]?=some v):w.cell? ⟨b,i,none⟩=some v:=by
 simp [World.cell?,h,hv]
theorem AZ{w:World}{b:Nat}{cs:Array Value}{T:TypeId}(h:w.heap[b]?=some (.cells cs T (0,0)))(i:Nat):w.frozen? ⟨b,i,none⟩=false:=by
 simp [World.frozen?,h]
theorem Au{w:World}{b:Nat}{o:Obj}(h:w.heap[b]?=some o):b<w.heap.size:=(Array.getElem?_eq_some_iff.1 h).1
theorem CO{w:World}{a:Addr}{o:Obj}(h:(w.cell? a).isSome=true):(w.alloc o).frozen? a=w.frozen? a:=by
 obtain⟨u,hu⟩:=Option.isSome_iff_exists.1 h;exact World.frozen?_of_block (w:=w) (Below.heap_alloc w o _ (World.block_lt_of_cell? w a hu))
theorem Ah{w:World}{a:Addr}{o:Obj}{v:Value}(h:w.cell? a=some v):(w.alloc o).cell? a=some v:=
 (World.cell?_of_block (w:=w) (Below.heap_alloc w o _ (World.block_lt_of_cell? w a h))).trans h
theorem AO{w w1:World}{o:Obj}{row:Option Nat}(hg:((w.alloc o).drew).grownBy w1 row){a:Addr}{v:Value}(hc:w.cell? a=some v)(hne:row≠some a.block):w1.cell? a=some v:=
 hg.cell (show(w.alloc o).cell? a=some v from Ah hc) (Ne.symm hne)
theorem AP{w w1:World}{o:Obj}{row:Option Nat}(hg:((w.alloc o).drew).grownBy w1 row){a:Addr}{v:Value}(hc:w.cell? a=some v)(hf:w.frozen? a=false)(hne:row≠some a.block):w1.frozen? a=false:=
 (World.frozen?_of_block (hg.block a.block (by have:=World.block_lt_of_cell? w a hc; simp; omega) (Ne.symm hne))).trans ((CO (w:=w) (o:=o) (by simp [hc])).trans hf)
theorem BF{w w1:World}{o:Obj}{row:Option Nat}(hg:((w.alloc o).drew).grownBy w1 row):w.grownBy w1 row:=
 ⟨hg.os,hg.tape,hg.output,by have:=hg.size; simp at this; omega,fun k hk hne=>(hg.block k (by simp; omega) hne).trans (Below.heap_alloc w o k hk)⟩
def Owns{α:Type}(w:World)(T sz:Nat)(c:α->List Value)(v:Value)(l:List α):Prop:=w.ownsRow 0 T sz v l.length (l.flatMap c)
def Apart(a b:Option Nat):Prop:=∀k,a=some k->b≠some k
theorem Apart.symm{a b:Option Nat}(h:Apart a b):Apart b a:=fun k hb ha=>h k ha hb
theorem Apart.ne{a:Option Nat}{b:Nat}(h:Apart a (some b)):a≠some b:=fun e=>h b e rfl
section
variable {α : Type} {w w' : World} {T sz : Nat} {c : α -> List Value} {v : Value} {l : List α}
theorem Br(hc:∀a,(c a).length=sz)(l:List α):(l.flatMap c).length=l.length*sz:=by
 induction l with
 | nil=>simp
 | cons a l ih=>simp [List.flatMap_cons,hc,ih,Nat.add_mul]; omega
theorem Owns.keep(h:Owns w T sz c v l)(hb:∀k,v.ownBlock=some k->w'.heap[k]?=w.heap[k]?):Owns w' T sz c v l:=by
 refine⟨h.1,?_⟩;rcases h.2 with hn | ⟨g,cap,cur,rfl,h0,hg,rest⟩
 ·exact .inl hn
 ·exact .inr ⟨g,cap,cur,rfl,h0,by rw [hb g rfl]; exact hg,rest⟩
theorem Owns.lt(h:Owns w T sz c v l){k:Nat}(hk:v.ownBlock=some k):k<w.heap.size:=(World.ownsRow.lt h k hk).2
theorem Owns.alloc(h:Owns w T sz c v l)(o:Obj):Owns (w.alloc o) T sz c v l:=h.keep fun k hk=>Below.heap_alloc w o k (h.lt hk)
theorem Owns.drew(h:Owns w T sz c v l):Owns w.drew T sz c v l:=h
theorem Owns.drewN(h:Owns w T sz c v l)(n:Nat):Owns (w.drewN n) T sz c v l:=h
theorem Owns.setCell(h:Owns w T sz c v l){p:Addr}(hp:v.ownBlock≠some p.block)(u:Value):Owns (w.setCell p u) T sz c v l:=
 h.keep fun k hk=>heap_setCell_other w p k u (fun e=>hp (by rw [hk,e]))
theorem Owns.grown(h:Owns w T sz c v l){row:Option Nat}(hg:w.grownBy w' row)(hp:Apart v.ownBlock row):Owns w' T sz c v l:=
 h.keep fun k hk=>hg.block k (h.lt hk) (fun e=>hp k hk e.symm)
theorem Owns.fr(h:Owns w T sz c v l){F:Nat->Prop}(hg:Fr F w w')(hp:∀k,v.ownBlock=some k->¬F k):Owns w' T sz c v l:=
 h.keep fun k hk=>hg.block k (h.lt hk) (hp k hk)
theorem A4(w:World)(T sz:Nat)(c:α->List Value):Owns w T sz c (.slice none 0 0) []:=World.ownsRow_nil _ _ _ _
theorem Owns.len(h:Owns w T sz c v l):∃a cap,v= .slice a l.length cap/\l.length<=cap/\cap<=maxLen/\(a=none->l=[]/\cap=0):=by
 rcases h.2 with ⟨hv,h0⟩| ⟨g,cap,cur,hv,_,_,hc1,hc2,_⟩
 ·refine⟨none,0,?_,?_,Nat.zero_le _,fun _=>⟨List.length_eq_zero_iff.1 h0,rfl⟩⟩
  ·rw [h0]; exact hv
  ·omega
 ·exact⟨some ⟨g,0,none⟩,cap,hv,hc1,hc2,fun e=>by cases e⟩
theorem Owns.at(h:Owns w T sz c v l)(hc:∀a,(c a).length=sz){j:Nat}{a:α}(hj:l[j]?=some a):
  ∃g cap,v= .slice (some ⟨g,0,none⟩) l.length cap/\l.length<=cap/\cap<=maxLen/\(∀i u,(c a)[i]?=some u->w.cell? ⟨g,j*sz+i,none⟩=some u)/\(∀i,w.frozen? ⟨g,i,none⟩=false):=by
 have hjl:j<l.length:=(List.getElem?_eq_some_iff.1 hj).1;rcases h.2 with ⟨_,h0⟩| ⟨g,cap,cur,rfl,h0,hg,hc1,hc2,hs,ht⟩
 ·omega
 ·refine⟨g,cap,rfl,hc1,hc2,fun i u hu=>?_,fun i=>AZ hg i⟩;have hi:i<sz:=by rw [<-hc a]; exact(List.getElem?_eq_some_iff.1 hu).1
  have hlt:j*sz+i<l.length*sz:=by
   have:(j+1)*sz<=l.length*sz:=Nat.mul_le_mul_right _ hjl;rw [Nat.add_mul]at this; omega
  rw [World.ownsRow.cellAt h (j*sz+i) hlt];have hsplit:l=l.take j++a::l.drop (j+1):=by
   conv=>lhs; rw [<-List.take_append_drop j l]
   rw [List.drop_eq_getElem_cons hjl]
   congr 2
   exact(List.getElem?_eq_some_iff.1 hj).2
  rw [hsplit,List.flatMap_append,List.flatMap_cons,List.getElem?_append_right (by rw [Br hc,List.length_take,Nat.min_eq_left (by omega)]; omega),
   Br hc,List.length_take,Nat.min_eq_left (by omega),Nat.add_sub_cancel_left,List.getElem?_append_left (by rw [hc]; exact hi)]
  exact hu
theorem Owns.last{a:α}(h:Owns w T sz c v (l++ [a]))(hc:∀a,(c a).length=sz):
  ∃g cap,v= .slice (some ⟨g,0,none⟩) (l.length+1) cap/\l.length+1<=cap/\cap<=maxLen/\(∀i u,(c a)[i]?=some u->w.cell? ⟨g,l.length*sz+i,none⟩=some u)/\(∀i,w.frozen? ⟨g,i,none⟩=false):=by
 obtain⟨g,cap,h1,h2,h3,h4,h5⟩:=h.at hc (j:=l.length) (a:=a) (by simp);exact⟨g,cap,by simpa using h1,by simpa using h2,h3,h4,h5⟩
theorem Owns.pop{a:α}{g cap:Nat}(hc:∀a,(c a).length=sz)(h:Owns w T sz c (.slice (some ⟨g,0,none⟩) (l.length+1) cap) (l++ [a])):Owns w T sz c (.slice (some ⟨g,0,none⟩) l.length cap) l:=by
 have h':w.ownsRow 0 T sz (.slice (some ⟨g,0,none⟩) (l.length+1) cap) (l.length+1) (l.flatMap c++c a):=by
  have:=h;unfold Owns at this;simpa [List.flatMap_append] using this
 exact ownsRow_pop (Br hc l) h'
theorem Owns.setLast{a b:α}{g cap:Nat}(hc:∀a,(c a).length=sz)(h:Owns w T sz c (.slice (some ⟨g,0,none⟩) (l.length+1) cap) (l++ [a]))(i:Nat)(u:Value)(hb:c b=(c a).set i u):
  Owns (w.setCell ⟨g,l.length*sz+i,none⟩ u) T sz c (.slice (some ⟨g,0,none⟩) (l.length+1) cap) (l++ [b]):=by
 have h':w.ownsRow 0 T sz (.slice (some ⟨g,0,none⟩) (l.length+1) cap) (l.length+1) (l.flatMap c++c a):=by
  have:=h;unfold Owns at this;simpa [List.flatMap_append] using this
 have hs:=World.ownsRow.stored h' (l.length*sz+i) u;unfold Owns;have hl:(l++ [b]).length=l.length+1:=by simp
 rw [hl,List.flatMap_append,List.flatMap_cons,List.flatMap_nil,List.append_nil,hb];rw [List.set_append_right _ _ (by rw [Br hc]; omega),Br hc,Nat.add_sub_cancel_left]at hs;exact hs.1
theorem Bb{g cap:Nat}{a:α}(h:w.ownsRow 0 T sz (.slice (some ⟨g,0,none⟩) (l.length+1) cap) (l.length+1) (l.flatMap c++c a)):
  Owns w T sz c (.slice (some ⟨g,0,none⟩) (l.length+1) cap) (l++ [a]):=by
 unfold Owns;have hl:(l++ [a]).length=l.length+1:=by simp
 rw [hl,List.flatMap_append,List.flatMap_cons,List.flatMap_nil,List.append_nil];exact h
end
abbrev S(l:List UInt8):Value:= .string ⟨l.toArray⟩
def cByte(c:UInt8):List Value:=[.int .u8 c.toNat]
theorem A7(a:UInt8):(cByte a).length=1:=rfl
theorem Ad(l:List UInt8):(ByteArray.mk l.toArray).size=l.length:=by simp [ByteArray.size]
theorem Ob(s:ByteArray):Value.string s=S s.data.toList:=by simp [S]
theorem Ey(l:List UInt8):Go.strOfNums (l.map fun c=>((c.toNat:Nat):Int))=⟨l.toArray⟩:=by
 apply ByteArray.ext;simp [Go.strOfNums,Function.comp_def]
section
variable {P : Program} {w : World} {e : TypeId} {v : Value} {l : List UInt8}
theorem Owns.bytes (h:Owns w e 1 cByte v l) {p:Nat} (hp:p<l.length) {t dst:TypeId} (ht:P.underlying t=some (.slice e)) (he:P.underlying e=some (.int .u8)) (hd:P.underlying dst=some .string)
  (hz:∀w,(Go.sizeOf e).run P w= .ok 1 w):
  ∃g cap,v= .slice (some ⟨g,0,none⟩) l.length cap/\l.length<=cap/\cap<=maxLen/\
   (∀w',(Instr.slice t (.slice (some ⟨g,0,none⟩) l.length cap) (some (.int .i64 (p:Int))) none none).run P w'= .ok (.slice (some ⟨g,p,none⟩) (l.length - p) (cap - p)) w')/\
   (convert t dst (.slice (some ⟨g,p,none⟩) (l.length - p) (cap - p))).run P w= .ok (S (l.drop p)) w:=by
 obtain⟨g,cap,rfl,h1,h2,_,_⟩:=h.at A7 (j:=p) (a:=l[p]) (by simp [hp]);have hcell:∀j,(hj:j<l.length)->w.cell? ⟨g,j,none⟩=some (.int .u8 (l[j].toNat)):=by
  intro j hj;obtain⟨g',cap',hv,_,_,hc,_⟩:=h.at A7 (j:=j) (a:=l[j]) (by simp [hj]);simp only [Value.slice.injEq,Option.some.injEq,Addr.mk.injEq,and_true,true_and]at hv;obtain⟨rfl,rfl⟩:=hv;have:=hc 0 _ rfl;simpa using this
 refine⟨g,cap,rfl,h1,h2,fun w'=>?_,?_⟩
 ·have ht':P.underlying t=some (.slice (P.elem t)):=by simp [Program.elem,ht]
  have hel:P.elem t=e:=by simp [Program.elem,ht]
  rw [run_slice_l w' t _ _ _ ht' .i64 _ (by omega) (by omega),hel,hz];have hne:¬cap=p:=by omega
  by_cases h0:p=0
  ·subst h0; simp [Result.andThen,sliced,Addr.add,hne]
  ·simp [Result.andThen,sliced,Addr.add,hne,h0]
 ·rw [run_convert_bytes_arg w t e ht he g p (l.length - p) (cap - p) ((l.drop p).map fun c=>((c.toNat:Nat):Int)) (by simp) ?_ dst hd,Ey];intro i hi;rw [hcell (p+i) (by omega)];simp [List.getD,List.getElem?_drop,show p+i<l.length by omega]
theorem Owns.bytesTo (h:Owns w e 1 cByte v l) {p:Nat} (hp:p<=l.length) {t dst:TypeId} (ht:P.underlying t=some (.slice e)) (he:P.underlying e=some (.int .u8)) (hd:P.underlying dst=some .string)
  (hz:∀w,(Go.sizeOf e).run P w= .ok 1 w):
  ∃sv,(∀w',(Instr.slice t v (some (.int .i64 (p:Int))) none none).run P w'= .ok sv w')/\
   (∀n,(convert t dst sv).run P (w.drewN n)= .ok (S (l.drop p)) (w.drewN n)):=by
 by_cases hlt:p<l.length
 ·obtain⟨g,cap,rfl,_,_,hs,_⟩:=h.bytes hlt ht he hd hz;exact⟨_,hs,fun n=>by
   obtain⟨g',cap',hv,_,_,_,hc⟩:=(h.drewN n).bytes hlt ht he hd hz;simp only [Value.slice.injEq,Option.some.injEq,Addr.mk.injEq,and_true,true_and]at hv;obtain⟨rfl,rfl⟩:=hv;exact hc⟩
 ·have hpe:p=l.length:=by omega
  subst hpe;have ht':P.underlying t=some (.slice (P.elem t)):=by simp [Program.elem,ht]
  have hel:P.elem t=e:=by simp [Program.elem,ht]
  rcases h.2 with ⟨rfl,h0⟩| ⟨g,cap,cur,rfl,_,hg,hc1,hc2,_⟩
  ·rw [h0];refine⟨.slice none 0 0,fun w'=>?_,fun n=>?_⟩
   ·rw [run_slice_l w' t _ _ _ ht' .i64 _ (by omega) (by omega),hel,hz];simp [Result.andThen,sliced]
   ·rw [run_convert_bytes_nil _ t e ht he 0 0 dst hd,List.length_eq_zero_iff.1 h0];rfl
  ·refine⟨sliced (some ⟨g,0,none⟩) l.length l.length cap 1,fun w'=>?_,fun n=>?_⟩
   ·rw [run_slice_l w' t _ _ _ ht' .i64 _ (by omega) (by omega),hel,hz];simp [Result.andThen]
   ·have hsv:∃o,sliced (some ⟨g,0,none⟩) l.length l.length cap 1= .slice (some ⟨g,o,none⟩) 0 (cap - l.length):=by
     unfold sliced;by_cases hc:cap=l.length
     ·exact⟨0,by simp [hc]⟩
     ·refine⟨l.length,?_⟩;by_cases h0:l.length=0
      ·simp [h0,Addr.add]
      ·simp [h0,Addr.add,hc]
    obtain⟨o,ho⟩:=hsv;rw [ho,run_convert_bytes_arg _ t e ht he g o 0 (cap - l.length) [] rfl (fun i hi=>by omega) dst hd];simp [S,Go.strOfNums]
end
section
variable {F G : Nat -> Prop} {w w1 w2 : World}
theorem fR(F:Nat->Prop)(w:World):Fr F w w:=Fr.refl F w
theorem fT(h:Fr F w w1)(k:Fr G w1 w2)(hg:∀b,b<w.heap.size->G b->F b):Fr F w w2:=Fr.trans h k hg
theorem fD(h:Fr F w w1):Fr F w w1.drew:=Fr.drew h
theorem fA(h:Fr F w w1)(o:Obj):Fr F w (w1.alloc o):=Fr.alloc h o
theorem fC(h:Fr F w w1){p:Addr}(hp:F p.block\/w.heap.size<=p.block)(u:Value):Fr F w (w1.setCell p u):=Fr.setCell h hp u
end
theorem zz{p:Prop}(h:p):Hid p:=hid h
section
variable {P : Program} {ops : Array Oper} {Q : Exit -> Act -> World -> Prop} {md : Region.Mode} {S : World -> Prop} {fuel : Nat} {listed : Array Bool} {a : Act} {w : World}
theorem tQ (i:Nat) (v:Value) {oi:Oper} {d:Nat} (hy:∀w,S w->(execOp a.eval oi).run P w= .ok (.value v) w) (h:wpAnyH P md ops Q S fuel (listed.setIfInBounds i true) (Act.put a (some d) v) w)
  (hi:ops[i]?=some oi:=by rfl) (hS:S w:=by assumption) (hd:oi.dst=some d:=by rfl) (hw:Region.wanted oi (yielded ops a.tmps)=true:=by rfl) (hs:Region.noSelect ops=true:=by kernel_rfl) (hf:Region.free md ops listed i=true:=by kernel_rfl) (hr:(Region.ready md ops listed).contains i=true:=by kernel_rfl)
  (hQ:∀c a w,Q (.panic c) (a.put oi.dst v) w->Q (.panic c) a w:=by exact fun _ _ _ h=>h):wpAnyH P md ops Q S (fuel+1) listed a w:=
 wpAnyH_take hi hs hf hr hQ (.inl ⟨hw,hy⟩) hS (by rw [hd]; exact h)
theorem rD (i:Nat) {o:Oper} (ho:ops[i]?=some o)
  (h:∀K':Act->World->Prop,Shut (∀a w,S w->(S w->wpAnyH P md ops Q S fuel (listed.setIfInBounds i true) a w)->K' a w)->if Region.wanted o (yielded ops a.tmps)=true then Oper.wp P o a w K' Q else K' (a.put o.dst undef) w)
  (hr:Region.ready md ops listed=[i]:=by kernel_rfl):wpAnyH P md ops Q S (fuel+1) listed a w:=
 wpAnyH_ready hr (by simp) (AllReadyH.cons ho h AllReadyH.nil)
theorem sO{K':Act->World->Prop}(hK:Shut (∀a w,S w->(S w->wpAnyH P md ops Q S fuel listed a w)->K' a w))(x:S w)(y:S w->wpAnyH P md ops Q S fuel listed a w):K' a w:=hK a w x y
theorem sR{id:Nat}(hS:S w.drew)(h:S w.drew->wpAnyH P .any ops Q S ops.size (Array.replicate ops.size false) a w.drew)(hm:P.follows .mixedOrders=true:=by kernel_rfl):(Code.region id ops true).wp P Q a w:=
 wp_region_held_drew hm hS h
end
end Go.Px
namespace Go.Proofs.YtpfhollohodcjaaGreatDoor
open Go.Shelf Go.RowKit Go.Px
def Tryz.laysValid_ren:Go.Shelf.Ren:=⟨fun | 196=>151 | 259=>163 | n=>n,fun | 9=>9 | 4=>4 | 3=>3 | 5=>5 | 12=>12 | 119=>224 | 0=>0 | 46=>192 | 139=>227 | 138=>226 | 53=>147 | n=>n,fun | 3=>1 | 4=>2 | n=>n⟩
theorem Tryz.laysValid:Go.Proofs.Lays.n196 Tryz.prog Tryz.laysValid_ren:= {
 mixed:=by kernel_rfl
 f196:=Tryz.func151.trans (congrArg some (by kernel_rfl))
 f259:=Tryz.func163.trans (congrArg some (by kernel_rfl))
 t0:=Tryz.underlying0
 a0:=Tryz.isAgg0
 z0:=Tryz.sizeOf0
 v0:=Tryz.zeroValue0
 t3:=Tryz.underlying3
 a3:=Tryz.isAgg3
 z3:=Tryz.sizeOf3
 v3:=Tryz.zeroValue3
 t4:=Tryz.underlying4
 a4:=Tryz.isAgg4
 z4:=Tryz.sizeOf4
 v4:=Tryz.zeroValue4
 t5:=Tryz.underlying5
 a5:=Tryz.isAgg5
 z5:=Tryz.sizeOf5
 v5:=Tryz.zeroValue5
 t9:=Tryz.underlying9
 a9:=Tryz.isAgg9
 z9:=Tryz.sizeOf9
 v9:=Tryz.zeroValue9
 t12:=Tryz.underlying12
 a12:=Tryz.isAgg12
 z12:=Tryz.sizeOf12
 v12:=Tryz.zeroValue12
 t46:=Tryz.underlying192
 a46:=Tryz.isAgg192
 z46:=Tryz.sizeOf192
 v46:=Tryz.zeroValue192
 t53:=Tryz.underlying147
 a53:=Tryz.isAgg147
 z53:=Tryz.sizeOf147
 v53:=Tryz.zeroValue147
 t119:=Tryz.underlying224
 a119:=Tryz.isAgg224
 z119:=Tryz.sizeOf224
 t138:=Tryz.underlying226
 a138:=Tryz.isAgg226
 z138:=Tryz.sizeOf226
 v138:=Tryz.zeroValue226
 t139:=Tryz.underlying227
 a139:=Tryz.isAgg227
 z139:=Tryz.sizeOf227
 v139:=Tryz.zeroValue227
 g3:=by kernel_rfl
 g4:=by kernel_rfl}
def Tabs(w:World):Prop:=Lib.Utf8Tabs 1 2 w
theorem Ke(l:List UInt8)(w:World)(hl:l.length<=9223372036854775807)(hT:Tabs w):
  Calls Tryz.prog 151 #[S l] w fun e w'=>e= .returned (.bool (Lib.validD l))/\Below w.heap.size w w':=
 Any.utf8_ValidString Tryz.laysValid ⟨l.toArray⟩ w (by rw [Ad]; exact hl) hT
theorem Tabs.below{w w':World}(h:Tabs w)(hb:Below w.heap.size w w'):Tabs w':=Utf8Tabs_below h hb
theorem Tabs.drew{w:World}(h:Tabs w):Tabs w.drew:=h
theorem Tabs.drewN{w:World}(h:Tabs w)(n:Nat):Tabs (w.drewN n):=h
end Go.Proofs.YtpfhollohodcjaaGreatDoor
namespace Go.Proofs.YtpfhollohodcjaaGreatDoor
open Go.RowKit Go.Px
def limV(l:Lim):Value:= .agg #[.int .i64 l.d,.int .i64 l.i,.int .i64 l.b,.int .i64 l.r]
def Same(w w':World):Prop:=Fr (fun _=>False) w w'
theorem Same.refl(w:World):Same w w:=Fr.refl _ w
theorem Same.trans{a b c:World}(h:Same a b)(k:Same b c):Same a c:=Fr.trans h k fun _ _ x=>x
theorem Same.below{a b:World}(h:Same a b):Below a.heap.size a b:=⟨h.os,h.tape,h.output,h.size,fun k hk=>h.block k hk (fun x=>x)⟩
theorem Same.fr{a b:World}(h:Same a b)(F:Nat->Prop):Fr F a b:=Fr.mono h fun _ x=>x.elim
theorem Owns.same{α:Type}{w w':World}{T sz:Nat}{c:α->List Value}{v:Value}{l:List α}(h:Owns w T sz c v l)(hs:Same w w'):Owns w' T sz c v l:=h.fr hs (fun _ _ x=>x)
theorem Tabs.same{w w':World}(h:Tabs w)(hs:Same w w'):Tabs w':=h.below hs.below
theorem B8(l:Lim)(w:World):Calls Tryz.prog 57 #[limV l] w fun e w'=>e= .returned (.bool l.may)/\Same w w':=by
 unfold limV;go_enter Tryz.func57,Tryz.ntmps57;go_wp2;all_goals
  go_ret;exact⟨by(first | (simp [Lim.may, *]; done)| (simp [Lim.may, *]; omega)),(Fr.refl _ w).alloc _⟩
theorem Jv(l:Lim)(w:World):Calls Tryz.prog 76 #[limV l] w fun e w'=>e= .returned (.bool l.may)/\Same w w':=by
 unfold limV;go_enter Tryz.func76,Tryz.ntmps76;go_wp2;all_goals
  go_ret;exact⟨by(first | (simp [Lim.may, *]; done)| (simp [Lim.may, *]; omega)),(Fr.refl _ w).alloc _⟩
theorem sE(w:World):Same w w:=Same.refl w
theorem sT{a b c:World}(h:Same a b)(k:Same b c):Same a c:=Same.trans h k
theorem AK(l:List UInt8)(k:Nat)(hk:k<l.length)(w:World):(Instr.index 9 (S l) (.int .i64 (k:Int))).run Tryz.prog w= .ok (.int .u8 (l.getD k 0).toNat) w:=by
 rw [run_index_string w 9 _ .i64 _ Tryz.underlying9,dif_pos ⟨by omega,by rw [Ad]; omega⟩]
 congr 3
 simp [List.getD,hk];rfl
theorem Bc(l:List UInt8)(a b:Nat)(hab:a<=b)(hb:b<=l.length)(w:World):
  (Instr.slice 9 (S l) (some (.int .i64 (a:Int))) (some (.int .i64 (b:Int))) none).run Tryz.prog w= .ok (S ((l.take b).drop a)) w:=by
 rw [run_slice_string w _ _ _ _ _ _ Tryz.underlying9 (by omega) (by omega) (by rw [Ad]; omega),ByteArray.extract_mk];have e1:((a:Int)).toNat=a:=by omega
 have e2:((b:Int)).toNat=b:=by omega
 rw [e1,e2];simp [List.drop_take]
theorem NB(l:List UInt8)(a:Nat)(ha:a<=l.length)(w:World):
  (Instr.slice 9 (S l) (some (.int .i64 (a:Int))) none none).run Tryz.prog w= .ok (S (l.drop a)) w:=by
 rw [run_slice_string_l w _ _ Tryz.underlying9 _ _ (by omega) (by rw [Ad]; omega),ByteArray.extract_mk];have e1:((a:Int)).toNat=a:=by omega
 rw [e1,Ad];simp;exact List.take_of_length_le (by simp)
end Go.Proofs.YtpfhollohodcjaaGreatDoor
