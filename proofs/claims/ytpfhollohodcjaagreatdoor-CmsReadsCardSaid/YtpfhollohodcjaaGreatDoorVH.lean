import Derived.Test.YtpfhollohodcjaaGreatDoorVE
import Derived.Test.YtpfhollohodcjaaGreatDoorVF
set_option maxRecDepth 100000
set_option maxHeartbeats 8000000
namespace Go.Proofs.YtpfhollohodcjaaGreatDoor
open Go.RowKit Go.Px Go.Px.R5
structure RdRep (w:World) (b:Nat) (s:Bytes) (lim:Lim) (x:St) (vo:Value):Prop where
 rd:Rd w b 136 s lim x vo []
 out:Owns w 90 3 cNode vo x.out
 ob:Apart vo.ownBlock (some b)
def rfoot(b:Nat)(vo:Value)(k:Nat):Prop:=k=b\/vo.ownBlock=some k
def RdAt(w:World)(b:Nat)(s:Bytes)(lim:Lim)(x:St)(F:Nat->Prop):Prop:=∃vo,RdRep w b s lim x vo/\F=rfoot b vo
section
variable {w w' : World} {b : Nat} {s : Bytes} {lim : Lim} {x y : St} {vo : Value}
theorem RdRep.keep(h:RdRep w b s lim x vo)(hk:∀k,rfoot b vo k->w'.heap[k]?=w.heap[k]?):RdRep w' b s lim x vo:=
 ⟨h.rd.keep (hk b (.inl rfl)),h.out.keep (fun k e=>hk k (.inr e)),h.ob⟩
theorem RdRep.footLt(h:RdRep w b s lim x vo):∀k,rfoot b vo k->k<w.heap.size:=by
 rintro k (rfl | hk)
 ·exact h.rd.lt
 ·exact h.out.lt hk
theorem RdRep.same(h:RdRep w b s lim x vo)(hs:Same w w'):RdRep w' b s lim x vo:=h.keep fun k hk=>hs.block k (h.footLt k hk) (fun x=>x)
theorem RdRep.alloc(h:RdRep w b s lim x vo)(o:Obj):RdRep (w.alloc o) b s lim x vo:=h.keep fun k hk=>Below.heap_alloc w o k (h.footLt k hk)
theorem RdRep.drewN(h:RdRep w b s lim x vo)(n:Nat):RdRep (w.drewN n) b s lim x vo:=h.keep fun _ _=>rfl
theorem RdRep.step(h:RdRep w b s lim x vo)(hr:Rd w' b 136 s lim y vo [])(hf:Fr (It b) w w')(ho:y.out=x.out):RdRep w' b s lim y vo:=
 ⟨hr,by rw [ho]; exact h.out.fr hf (fun k hk e=>h.ob k hk (by rw [show k=b from e])),h.ob⟩
theorem It.foot(hf:Fr (It b) w w'):Fr (rfoot b vo) w w':=hf.mono fun _ e=> .inl e
theorem RdRep.cell5(h:RdRep w b s lim x vo):w.cell? ⟨b,5,none⟩=some vo:=Ab h.rd.blk 5 (by simp [rdCells])
def RAfter(w w':World)(b:Nat)(s:Bytes)(lim:Lim)(x:St)(a:Px.Node)(vo:Value):Prop:=
 ∃vo',RdRep w' b s lim {x with out:=x.out++ [a]} vo'/\Fr (rfoot b vo) w w'/\Fresh w (rfoot b vo) (rfoot b vo')
theorem RdRep.afterOut (h:RdRep w b s lim x vo) {g cap:Nat} {a:Px.Node}
  (hown:w'.ownsRow 0 90 3 (.slice (some ⟨g,0,none⟩) (x.out.length+1) cap) (x.out.length+1) (x.out.flatMap cNode++cNode a))
  (hg:w.grownBy w' vo.ownBlock) (hat:vo.ownBlock=some g\/w.heap.size<=g):
  RAfter w (w'.setCell ⟨b,5,none⟩ (.slice (some ⟨g,0,none⟩) (x.out.length+1) cap)) b s lim x a vo:=by
 have hgb:g≠b:=by rcases hat with e | e; exact fun x=>h.ob g e (by rw [x]); have:=h.rd.lt; omega
 have hb':Rd w' b 136 s lim x vo []:=h.rd.keep (hg.block b h.rd.lt (fun e=>h.ob b e.symm rfl));refine⟨.slice (some ⟨g,0,none⟩) (x.out.length+1) cap,⟨hb'.set 5 _ {x with out:=x.out++ [a]} _ _ (by simp [rdCells]),?_,?_⟩,((fR _ w).grown hg (fun k e=> .inl (.inr e))).setCell (.inl (.inl rfl)) _,?_⟩
 ·exact(Bb hown).setCell (p:=⟨b,5,none⟩) (by simpa [Value.ownBlock] using hgb) _
 ·intro k hk; simp [Value.ownBlock]at hk; subst hk; simpa using Ne.symm hgb
 ·rintro k (rfl | hk)
  ·exact .inl (.inl rfl)
  ·simp only [Value.ownBlock,Option.some.injEq]at hk;subst hk;rcases hat with e | e
   ·exact .inl (.inr e)
   ·exact .inr e
theorem RdRep.bumpAt{g cap n j:Nat}{a:Px.Node}(h:RdRep w b s lim x (.slice (some ⟨g,0,none⟩) n cap))(hj:x.out[j]?=some a):
  RdRep (w.setCell ⟨g,j*3+1,none⟩ (.int .i64 (a.kids+1))) b s lim {x with out:=R5.bump x.out j} (.slice (some ⟨g,0,none⟩) n cap):=by
 refine⟨⟨?_⟩,?_,h.ob⟩
 ·rw [heap_setCell_other _ _ _ _ (fun e=>h.ob g rfl (by rw [e]))];exact h.rd.blk
 ·rw [GX x.out j a hj];exact Dm AF h.out hj 1 (by decide) _ rfl
theorem RdRep.kids(h:RdRep w b s lim x vo){j:Nat}{a:Px.Node}(hj:x.out[j]?=some a):
  ∃g cap,vo= .slice (some ⟨g,0,none⟩) x.out.length cap/\x.out.length<=cap/\cap<=maxLen/\w.cell? ⟨g,j*3+1,none⟩=some (.int .i64 a.kids)/\(∀i,w.frozen? ⟨g,i,none⟩=false):=by
 obtain⟨g,cap,h1,h2,h3,h4,h5⟩:=h.out.at AF hj;exact⟨g,cap,h1,h2,h3,h4 1 _ rfl,h5⟩
end
theorem AD(s:Bytes)(lim:Lim)(x:St)(p:Nat):(R5.want s lim x p).2.out=x.out:=by
 unfold R5.want; repeat' split
 all_goals rfl
theorem Gu(s:Bytes)(lim:Lim):∀(m:Nat) (x:St) (p:Nat) (f:Bool) (n:Nat),(R5.lenN s lim m x p f n).2.out=x.out
 | 0,x,p,f,n=>rfl
 | m+1,x,p,f,n=>by
  unfold R5.lenN;have hw:=AD s lim x p;cases h:R5.want s lim x p with
  | mk b y=>
   rw [h]at hw;cases b
   ·exact hw
   ·simp only
    split
    ·exact hw
    ·exact(Gu s lim m y _ _ _).trans hw
theorem Bf(s:Bytes)(lim:Lim)(x:St)(p:Nat):(R5.length s lim x p).2.out=x.out:=by
 unfold R5.length;have hw:=AD s lim x p;cases h:R5.want s lim x p with
 | mk b y=>
  rw [h]at hw;cases b
  ·exact hw
  ·simp only;by_cases h1:(s.getD p 0).toNat<128
   ·rw [if_pos h1]; exact hw
   ·rw [if_neg h1];by_cases h2:(s.getD p 0).toNat=128\/132<(s.getD p 0).toNat
    ·rw [if_pos h2]; exact hw
    ·rw [if_neg h2];have hl:=Gu s lim ((s.getD p 0).toNat % 128) y (p+1) true 0;cases h3:R5.lenN s lim ((s.getD p 0).toNat % 128) y (p+1) true 0 with
     | mk o z=>
      rw [h3]at hl;cases o with
      | none=>exact hl.trans hw
      | some v=>
       simp only
       split
       ·exact hl.trans hw
       ·exact hl.trans hw
theorem EW{s:Bytes}{lim:Lim}{room:Bool}{x z:St}{p n q:Nat}{e:Option Nat}(h:R5.head s lim room x p e=(some (n,q),z)):
  ∃y,R5.want s lim x p=(true,y)/\¬lim.i<=x.out.length/\tagE (s.getD p 0).toNat=0/\(inner (s.getD p 0).toNat=true->room=true)/\R5.length s lim y (p+1)=(some (n,q),z)/\(∀v,e=some v->q+n<=v):=by
 unfold R5.head at h;have hwo:=AD s lim x p;cases hw:R5.want s lim x p with
 | mk b y=>
  rw [hw]at h hwo;simp only at hwo;cases b
  ·simp at h
  ·refine⟨y,rfl,?_⟩;simp only at h;rw [hwo]at h;by_cases h1:lim.i<=x.out.length
   ·rw [if_pos h1]at h; simp at h
   ·rw [if_neg h1]at h;by_cases h2:tagE (s.getD p 0).toNat≠0
    ·rw [if_pos h2]at h; simp at h
    ·rw [if_neg h2]at h;by_cases h3:(inner (s.getD p 0).toNat && !room)=true
     ·rw [if_pos h3]at h; simp at h
     ·rw [if_neg h3]at h;cases hl:R5.length s lim y (p+1)with
      | mk o u=>
       rw [hl]at h;cases o with
       | none=>simp at h
       | some v=>
        obtain⟨n',q'⟩:=v;simp only at h;by_cases h4:(e.any fun v=>decide (v<q'+n'))=true
        ·rw [if_pos h4]at h; simp at h
        ·rw [if_neg h4]at h;simp only [Prod.mk.injEq,Option.some.injEq]at h;obtain⟨⟨rfl,rfl⟩,rfl⟩:=h;refine⟨h1,by omega,fun hi=>?_,rfl,fun v hv=>?_⟩
         ·cases room with
          | true=>rfl
          | false=>exact absurd (by rw [hi]; rfl) h3
         ·subst hv;simp only [Option.any_some,decide_eq_true_eq]at h4;omega
theorem KH{s:Bytes}{lim:Lim}{room:Bool}{x z:St}{p:Nat}{e:Option Nat}(h:R5.head s lim room x p e=(none,z)):
  R5.want s lim x p=(false,z)\/∃y,R5.want s lim x p=(true,y)/\
   ((lim.i<=x.out.length/\z=fault y p 10)\/(¬lim.i<=x.out.length/\((tagE (s.getD p 0).toNat≠0/\z=fault y p (tagE (s.getD p 0).toNat))\/(tagE (s.getD p 0).toNat=0/\((inner (s.getD p 0).toNat=true/\room=false/\z=fault y p 10)\/((inner (s.getD p 0).toNat=true->room=true)/\
    (R5.length s lim y (p+1)=(none,z)\/∃n q u v,R5.length s lim y (p+1)=(some (n,q),u)/\e=some v/\v<q+n/\z=fault u p 9))))))):=by
 unfold R5.head at h;have hwo:=AD s lim x p;cases hw:R5.want s lim x p with
 | mk b y=>
  rw [hw]at h hwo;simp only at hwo;cases b
  ·simp only [Prod.mk.injEq,true_and]at h;left; rw [h]
  ·right;refine⟨y,rfl,?_⟩;simp only at h;rw [hwo]at h;by_cases h1:lim.i<=x.out.length
   ·rw [if_pos h1]at h;simp only [Prod.mk.injEq,true_and]at h;exact .inl ⟨h1,h.symm⟩
   ·rw [if_neg h1]at h;refine .inr ⟨h1,?_⟩;by_cases h2:tagE (s.getD p 0).toNat≠0
    ·rw [if_pos h2]at h;simp only [Prod.mk.injEq,true_and]at h;exact .inl ⟨h2,h.symm⟩
    ·rw [if_neg h2]at h;refine .inr ⟨by omega,?_⟩;by_cases h3:(inner (s.getD p 0).toNat && !room)=true
     ·rw [if_pos h3]at h;simp only [Prod.mk.injEq,true_and]at h;simp only [Bool.and_eq_true,Bool.not_eq_true']at h3;exact .inl ⟨h3.1,h3.2,h.symm⟩
     ·rw [if_neg h3]at h;refine .inr ⟨fun hi=>?_,?_⟩
      ·cases room with
       | true=>rfl
       | false=>exact absurd (by rw [hi]; rfl) h3
      ·cases hl:R5.length s lim y (p+1)with
       | mk o u=>
        rw [hl]at h;cases o with
        | none=>
         simp only [Prod.mk.injEq,true_and]at h;left; rw [h]
        | some v=>
         right;obtain⟨n',q'⟩:=v;simp only at h;cases e with
         | none=>simp at h
         | some v=>
          simp only [Option.any_some]at h;by_cases h4:v<q'+n'
          ·rw [if_pos (by simpa using h4)]at h;simp only [Prod.mk.injEq,true_and]at h;exact⟨n',q',u,v,rfl,rfl,h4,h.symm⟩
          ·rw [if_neg (by simpa using h4)]at h;simp at h
theorem DP{s:Bytes}{lim:Lim}{x y:St}{p:Nat}(h:R5.want s lim x p=(true,y)):y=take x (p+1):=by
 unfold R5.want at h;by_cases h1:p<s.length/\(p:Int)<lim.b
 ·rw [if_pos h1]at h;simp only [Prod.mk.injEq,true_and]at h;exact h.symm
 ·rw [if_neg h1]at h
  split at h<;>simp at h
theorem ED{s:Bytes}{lim:Lim}{x z:St}{t:UInt8}{p q n r:Nat}(h:R5.leaf s lim x t p q n=(some r,z)):z.frames=x.frames:=by
 unfold R5.leaf at h;by_cases hn:n=0
 ·rw [if_pos hn]at h;simp only at h
  split at h
  ·simp only [Prod.mk.injEq]at h;rw [<-h.2]
  ·simp at h
 ·rw [if_neg hn]at h;cases hw:R5.want s lim x (q+n - 1)with
  | mk b y=>
   rw [hw]at h;cases b
   ·simp at h
   ·have:=DP hw;simp only at h
    split at h
    ·simp only [Prod.mk.injEq]at h;rw [<-h.2,this];rfl
    ·simp at h
def ElFr(s:Bytes)(lim:Lim)(d:Nat):Prop:=∀(x y:St) (p q:Nat) (e:Option Nat),D5.Ok s lim x p->R5.elem s lim d x p e=(some q,y)->y.frames=x.frames
theorem DQ{s:Bytes}{lim:Lim}{d:Nat}(hR:ElFr s lim d)(tg me e:Nat):∀(m:Nat) (x y:St) (p q:Nat) (last:Bytes),D5.Ok s lim x p->R5.insideN s (fun x p=>R5.elem s lim d x p (some e)) tg me e m x p last=(some q,y)->y.frames=x.frames
 | 0,x,y,p,q,last,_,h=>by
  unfold R5.insideN at h;simp only [Prod.mk.injEq]at h;rw [h.2]
 | m+1,x,y,p,q,last,hok,h=>by
  unfold R5.insideN at h;by_cases hp:p<e
  ·rw [if_pos hp]at h;cases hr:R5.elem s lim d x p (some e)with
   | mk o z=>
    rw [hr]at h;cases o with
    | none=>simp at h
    | some t=>
     simp only at h;obtain⟨l,hs⟩:=E5.Ce s lim d x z p t (some e) hok hr;have hf:=hR x z p t (some e) hok hr
     split at h
     ·simp at h
     ·have hok2:D5.Ok s lim {z with out:=bump z.out me} t:=⟨hs.ok.ps,hs.ok.pb,hs.ok.taken,by
       have:=hs.ok.out;show((bump z.out me).length:Int)<=lim.i;rw [D5.Ba]; exact this⟩
      exact(DQ hR tg me e m _ y t q _ hok2 h).trans hf
  ·rw [if_neg hp]at h;simp only [Prod.mk.injEq]at h;rw [h.2]
theorem Iy(s:Bytes)(lim:Lim):∀d,ElFr s lim d:=by
 intro d
 induction d with
 | zero=>
  intro x y p q e hok h;unfold R5.elem at h;cases hr:R5.head s lim false x p e with
  | mk o z=>
   rw [hr]at h;cases o with
   | none=>simp at h
   | some v=>
    obtain⟨n,q1⟩:=v;have:=(E5.Cd hok hr).1;have h2:=ED h;rw [h2,this]
 | succ d ih=>
  intro x y p q e hok h;unfold R5.elem at h;cases hr:R5.head s lim true x p e with
  | mk o z=>
   rw [hr]at h;cases o with
   | none=>simp at h
   | some v=>
    obtain⟨n,q1⟩:=v;obtain⟨h2,h3,h4,h5,h7,h8,h9,h10⟩:=E5.Cd hok hr;simp only at h;by_cases hin:inner (s.getD p 0).toNat=true
    ·rw [if_pos hin]at h;unfold R5.inside at h;have hzo:z.out=x.out:=by rw [h2]
     cases hi:R5.insideN s (fun x p=>R5.elem s lim d x p (some (q1+n))) (s.getD p 0).toNat z.out.length (q1+n) (q1+n - q1) {z with out:=z.out++ [⟨s.getD p 0,0,[]⟩],frames:=z.frames+1} q1 []with
     | mk o2 u=>
      rw [hi]at h;cases o2 with
      | none=>simp at h
      | some r=>
       simp only [Prod.mk.injEq,Option.some.injEq]at h;obtain⟨_,rfl⟩:=h;have hok2:D5.Ok s lim {z with out:=z.out++ [⟨s.getD p 0,0,[]⟩],frames:=z.frames+1} q1:=⟨h3,h4,by rw [h2],by simp only [hzo,List.length_append,List.length_singleton]; omega⟩
       have:=DQ ih _ _ _ _ _ _ _ _ _ hok2 hi;show u.frames - 1=x.frames;rw [this];show z.frames+1 - 1=x.frames;rw [h2];rfl
    ·rw [if_neg hin]at h;have h11:=ED h;rw [h11,h2]
def itemV:Option Nat->Value
 | none=> .tuple #[.int .i64 0,.bool false]
 | some q=> .tuple #[.int .i64 (q:Nat),.bool true]
def Did(w:World)(b:Nat)(s:Bytes)(lim:Lim)(F:Nat->Prop)(y:St)(w':World):Prop:=∃F',RdAt w' b s lim y F'/\Fr F w w'/\Fresh w F F'
theorem Did.trans{w w1 w2:World}{b:Nat}{s:Bytes}{lim:Lim}{F F1:Nat->Prop}{z:St}(h:Fr F w w1)(hn:Fresh w F F1)(k:Did w1 b s lim F1 z w2):Did w b s lim F z w2:=by
 obtain⟨F2,k1,k2,k3⟩:=k;exact⟨F2,k1,h.step hn k2,Fresh.trans hn h.size k3⟩
def endI:Option Nat->Int
 | none=> -1
 | some v=>v
def ElemC(s:Bytes)(lim:Lim)(d:Nat):Prop:=∀(b p dp:Nat) (x:St) (e:Option Nat) (F:Nat->Prop) (w:World),RdAt w b s lim x F->D5.Ok s lim x p->x.frames<=dp->((dp+d:Nat):Int)=lim.d->(∀v,e=some v->v<=5000000000)->
 Calls Tryz.prog 120 #[.pointer (some ⟨b,0,none⟩),.int .i64 (p:Nat),.int .i64 (dp:Nat),.int .i64 (endI e)] w fun r w'=>r= .returned (itemV (R5.elem s lim d x p e).1)/\Did w b s lim F (R5.elem s lim d x p e).2 w'
theorem Ng(s:Bytes)(lim:Lim)(hs:s.length<=140737488355327)(hm:lim.may=true)(b p dp:Nat)(E:Int)(x:St)(vo:Value)(w:World)(h:RdRep w b s lim x vo)(hok:D5.Ok s lim x p)(y:St)(hv:R5.want s lim x p=(false,y)):
  Calls Tryz.prog 120 #[.pointer (some ⟨b,0,none⟩),.int .i64 (p:Nat),.int .i64 (dp:Nat),.int .i64 E] w fun r w'=>r= .returned (itemV none)/\Did w b s lim (rfoot b vo) y w':=by
 have hmay:=E5.Aw hm;have hb1:=hmay.2.2.2.2.1;have hb2:=hmay.2.2.2.2.2.1;have hp:p<=262144:=by have:=hok.pb; omega
 have hsm:s.length<=maxLen:=by unfold maxLen; omega
 have hol:x.out.length<=1000000:=by have:=hok.out; omega
 have hsz:(ByteArray.mk s.toArray).size=s.length:=Ad s;have hwt:=AW b _ p s lim x vo [] w h.rd hsm hb1 hb2 (by unfold maxLen; omega);rw [hv]at hwt;have HW:=zz hwt;have HH:=zz h;have HYO:=zz (show y.out=x.out by have:=AD s lim x p; rw [hv]at this; exact this);clear hwt hv h hok hol hsz hsm hmay hb1 hb2 hm hs;go_enter Tryz.func120,Tryz.ntmps120;go_wp2_with fail;refine HW.out.mono ?_;rintro r w1 ⟨rfl,hr,hf⟩;have HR:=zz (show RdRep w1 b s lim y vo/\Fr (rfoot b vo) w w1 from⟨HH.out.step hr hf HYO.out,It.foot hf⟩);clear hr hf;go_wp2;go_ret2
 exact⟨rfl,_,⟨vo,HR.out.1,rfl⟩,HR.out.2,Fresh.refl _ _⟩
theorem Nh(s:Bytes)(lim:Lim)(hs:s.length<=140737488355327)(hm:lim.may=true)(b p dp:Nat)(E:Int)(x:St)(vo:Value)(w:World)(h:RdRep w b s lim x vo)(hok:D5.Ok s lim x p)(y:St)(hv:R5.want s lim x p=(true,y))(hi:lim.i<=x.out.length):
  Calls Tryz.prog 120 #[.pointer (some ⟨b,0,none⟩),.int .i64 (p:Nat),.int .i64 (dp:Nat),.int .i64 E] w fun r w'=>r= .returned (itemV none)/\Did w b s lim (rfoot b vo) (fault y p 10) w':=by
 have hmay:=E5.Aw hm;have hb1:=hmay.2.2.2.2.1;have hb2:=hmay.2.2.2.2.2.1;have hp:p<=262144:=by have:=hok.pb; omega
 have hsm:s.length<=maxLen:=by unfold maxLen; omega
 have hol:x.out.length<=1000000:=by have:=hok.out; omega
 have hsz:(ByteArray.mk s.toArray).size=s.length:=Ad s;have hwt:=AW b _ p s lim x vo [] w h.rd hsm hb1 hb2 (by unfold maxLen; omega);rw [hv]at hwt;have HW:=zz hwt;have HH:=zz h;have HYO:=zz (show y.out=x.out by have:=AD s lim x p; rw [hv]at this; exact this);have hpl:=(AJ hv).1;have ip:=AK s p hpl;obtain⟨t,htt⟩:∃t,t=s.getD p 0:=⟨_,rfl⟩
 rw [<-htt]at ip;have hcb:t.toNat<256:=UInt8.toNat_lt _;obtain⟨oa,oc,hov,_⟩:=h.out.len;have HOV:=zz hov;have HTT:=zz htt;clear hov hwt htt;have hid2:decide (lim.i<=(x.out.length:Int))=true:=dt (by omega);clear hv h hok hi hmay hm hs hpl;go_enter Tryz.func120,Tryz.ntmps120;go_wp2_with fail;refine HW.out.mono ?_;rintro r w1 ⟨rfl,hr,hf⟩;have HR:=zz (show RdRep w1 b s lim y vo/\Fr (rfoot b vo) w w1 from⟨HH.out.step hr hf HYO.out,It.foot hf⟩);clear hr hf;have c2:=HR.out.1.rd.cells.2.2.1;have c5:=HR.out.1.cell5;rw [HOV.out]at c5;go_wp2_with fail;go_quiet (fail)
 obtain⟨w2,hw2⟩:∃w2,w2=w1.drewN nq:=⟨_,rfl⟩
 rw [<-hw2];have HR2:=zz (show RdRep w2 b s lim y vo/\Fr (rfoot b vo) w w2 from by rw [hw2]; exact⟨HR.out.1.drewN nq,HR.out.2.drewN nq⟩);clear hw2 c2 c5 HR;go_wp2_with fail;refine(AS b _ p 10 s lim y vo [] _ HR2.out.1.rd).mono ?_;rintro r wf ⟨rfl,hr,hf⟩;have HF:=zz (show RdRep wf b s lim (fault y p 10) vo/\Fr (rfoot b vo) w wf from⟨HR2.out.1.step hr hf rfl,fT HR2.out.2 (It.foot hf) (fun _ _ e=>e)⟩);clear hr hf;go_wp2;go_ret2
 exact⟨rfl,_,⟨vo,HF.out.1,rfl⟩,HF.out.2,Fresh.refl _ _⟩
theorem NS(s:Bytes)(lim:Lim)(hs:s.length<=140737488355327)(hm:lim.may=true)(b p dp:Nat)(E:Int)(x:St)(vo:Value)(w:World)(h:RdRep w b s lim x vo)(hok:D5.Ok s lim x p)(y:St)(hv:R5.want s lim x p=(true,y))(hi:¬lim.i<=x.out.length)(ht:tagE (s.getD p 0).toNat≠0):
  Calls Tryz.prog 120 #[.pointer (some ⟨b,0,none⟩),.int .i64 (p:Nat),.int .i64 (dp:Nat),.int .i64 E] w fun r w'=>r= .returned (itemV none)/\Did w b s lim (rfoot b vo) (fault y p (tagE (s.getD p 0).toNat)) w':=by
 have hmay:=E5.Aw hm;have hb1:=hmay.2.2.2.2.1;have hb2:=hmay.2.2.2.2.2.1;have hp:p<=262144:=by have:=hok.pb; omega
 have hsm:s.length<=maxLen:=by unfold maxLen; omega
 have hol:x.out.length<=1000000:=by have:=hok.out; omega
 have hsz:(ByteArray.mk s.toArray).size=s.length:=Ad s;have hwt:=AW b _ p s lim x vo [] w h.rd hsm hb1 hb2 (by unfold maxLen; omega);rw [hv]at hwt;have HW:=zz hwt;have HH:=zz h;have HYO:=zz (show y.out=x.out by have:=AD s lim x p; rw [hv]at this; exact this);have hpl:=(AJ hv).1;have ip:=AK s p hpl;obtain⟨t,htt⟩:∃t,t=s.getD p 0:=⟨_,rfl⟩
 rw [<-htt]at ip ht ⊢;have hcb:t.toNat<256:=UInt8.toNat_lt _;obtain⟨oa,oc,hov,_⟩:=h.out.len;have HOV:=zz hov;have HTT:=zz htt;clear hov hwt htt;have hid2:decide (lim.i<=(x.out.length:Int))=false:=df (by omega);obtain⟨te,hte⟩:∃te,te=tagE t.toNat:=⟨_,rfl⟩
 rw [<-hte]at ht ⊢;have HT:=zz hte.symm;have htb:(te==0)=false:=bn ht;clear hv h hok hi hmay hm hs ht hte;go_enter Tryz.func120,Tryz.ntmps120;go_wp2_with fail;refine HW.out.mono ?_;rintro r w1 ⟨rfl,hr,hf⟩;have HR:=zz (show RdRep w1 b s lim y vo/\Fr (rfoot b vo) w w1 from⟨HH.out.step hr hf HYO.out,It.foot hf⟩);clear hr hf;have c2:=HR.out.1.rd.cells.2.2.1;have c5:=HR.out.1.cell5;rw [HOV.out]at c5;go_wp2_with fail;go_quiet (fail)
 obtain⟨w2,hw2⟩:∃w2,w2=w1.drewN nq:=⟨_,rfl⟩
 rw [<-hw2];have HR2:=zz (show RdRep w2 b s lim y vo/\Fr (rfoot b vo) w w2 from by rw [hw2]; exact⟨HR.out.1.drewN nq,HR.out.2.drewN nq⟩);clear hw2 c2 c5 HR;have c0:=HR2.out.1.rd.cells.1;go_wp2_with fail;refine(AX t.toNat hcb _).mono ?_;rintro r w2x ⟨rfl,hw2x⟩;subst hw2x;rw [HT.out];go_wp2_with fail;refine(AS b _ p te s lim y vo [] _ HR2.out.1.rd).mono ?_;rintro r wf ⟨rfl,hr,hf⟩;have HF:=zz (show RdRep wf b s lim (fault y p te) vo/\Fr (rfoot b vo) w wf from⟨HR2.out.1.step hr hf rfl,fT HR2.out.2 (It.foot hf) (fun _ _ e=>e)⟩);clear hr hf;go_wp2;go_ret2
 exact⟨rfl,_,⟨vo,HF.out.1,rfl⟩,HF.out.2,Fresh.refl _ _⟩
theorem Ni(s:Bytes)(lim:Lim)(hs:s.length<=140737488355327)(hm:lim.may=true)(b p dp:Nat)(E:Int)(x:St)(vo:Value)(w:World)(h:RdRep w b s lim x vo)(hok:D5.Ok s lim x p)(y:St)(hv:R5.want s lim x p=(true,y))(hi:¬lim.i<=x.out.length)(ht:tagE (s.getD p 0).toNat=0)(hin:inner (s.getD p 0).toNat=true)(hd:lim.d<=(dp:Int)):
  Calls Tryz.prog 120 #[.pointer (some ⟨b,0,none⟩),.int .i64 (p:Nat),.int .i64 (dp:Nat),.int .i64 E] w fun r w'=>r= .returned (itemV none)/\Did w b s lim (rfoot b vo) (fault y p 10) w':=by
 have hmay:=E5.Aw hm;have hb1:=hmay.2.2.2.2.1;have hb2:=hmay.2.2.2.2.2.1;have hp:p<=262144:=by have:=hok.pb; omega
 have hsm:s.length<=maxLen:=by unfold maxLen; omega
 have hol:x.out.length<=1000000:=by have:=hok.out; omega
 have hsz:(ByteArray.mk s.toArray).size=s.length:=Ad s;have hwt:=AW b _ p s lim x vo [] w h.rd hsm hb1 hb2 (by unfold maxLen; omega);rw [hv]at hwt;have HW:=zz hwt;have HH:=zz h;have HYO:=zz (show y.out=x.out by have:=AD s lim x p; rw [hv]at this; exact this);have hpl:=(AJ hv).1;have ip:=AK s p hpl;obtain⟨t,htt⟩:∃t,t=s.getD p 0:=⟨_,rfl⟩
 rw [<-htt]at ip ht hin;have hcb:t.toNat<256:=UInt8.toNat_lt _;obtain⟨oa,oc,hov,_⟩:=h.out.len;have HOV:=zz hov;have HTT:=zz htt;clear hov hwt htt;have hid2:decide (lim.i<=(x.out.length:Int))=false:=df (by omega);have HT:=zz ht;have hbt:((t.toNat:Int) / 32 % 2==1)=true:=by
  unfold inner at hin;rw [beq_iff_eq]at hin ⊢;omega
 have hdd:decide (lim.d<=(dp:Int))=true:=dt hd;clear hv h hok hi hmay hm hs ht hin hd;go_enter Tryz.func120,Tryz.ntmps120;go_wp2_with fail;refine HW.out.mono ?_;rintro r w1 ⟨rfl,hr,hf⟩;have HR:=zz (show RdRep w1 b s lim y vo/\Fr (rfoot b vo) w w1 from⟨HH.out.step hr hf HYO.out,It.foot hf⟩);clear hr hf;have c2:=HR.out.1.rd.cells.2.2.1;have c5:=HR.out.1.cell5;rw [HOV.out]at c5;go_wp2_with fail;go_quiet (fail)
 obtain⟨w2,hw2⟩:∃w2,w2=w1.drewN nq:=⟨_,rfl⟩
 rw [<-hw2];have HR2:=zz (show RdRep w2 b s lim y vo/\Fr (rfoot b vo) w w2 from by rw [hw2]; exact⟨HR.out.1.drewN nq,HR.out.2.drewN nq⟩);clear hw2 c2 c5 HR;have c0:=HR2.out.1.rd.cells.1;go_wp2_with fail;refine(AX t.toNat hcb _).mono ?_;rintro r w2x ⟨rfl,hw2x⟩;subst hw2x;rw [HT.out];have c1:=HR2.out.1.rd.cells.2.1;go_wp2_with fail;refine(AS b _ p 10 s lim y vo [] _ HR2.out.1.rd).mono ?_;rintro r wf ⟨rfl,hr,hf⟩;have HF:=zz (show RdRep wf b s lim (fault y p 10) vo/\Fr (rfoot b vo) w wf from⟨HR2.out.1.step hr hf rfl,fT HR2.out.2 (It.foot hf) (fun _ _ e=>e)⟩);clear hr hf;go_wp2;go_ret2
 exact⟨rfl,_,⟨vo,HF.out.1,rfl⟩,HF.out.2,Fresh.refl _ _⟩
theorem LX(s:Bytes)(lim:Lim)(hs:s.length<=140737488355327)(hm:lim.may=true)(b p dp:Nat)(E:Int)(x:St)(vo:Value)(w:World)(h:RdRep w b s lim x vo)(hok:D5.Ok s lim x p)(y:St)(hv:R5.want s lim x p=(true,y))(hi:¬lim.i<=x.out.length)(ht:tagE (s.getD p 0).toNat=0)(hin:inner (s.getD p 0).toNat=true)(hd:¬lim.d<=(dp:Int))(z:St)(hl:R5.length s lim y (p+1)=(none,z)):
  Calls Tryz.prog 120 #[.pointer (some ⟨b,0,none⟩),.int .i64 (p:Nat),.int .i64 (dp:Nat),.int .i64 E] w fun r w'=>r= .returned (itemV none)/\Did w b s lim (rfoot b vo) z w':=by
 have hmay:=E5.Aw hm;have hb1:=hmay.2.2.2.2.1;have hb2:=hmay.2.2.2.2.2.1;have hp:p<=262144:=by have:=hok.pb; omega
 have hsm:s.length<=maxLen:=by unfold maxLen; omega
 have hol:x.out.length<=1000000:=by have:=hok.out; omega
 have hsz:(ByteArray.mk s.toArray).size=s.length:=Ad s;have hwt:=AW b _ p s lim x vo [] w h.rd hsm hb1 hb2 (by unfold maxLen; omega);rw [hv]at hwt;have HW:=zz hwt;have HH:=zz h;have HYO:=zz (show y.out=x.out by have:=AD s lim x p; rw [hv]at this; exact this);have hpl:=(AJ hv).1;have ip:=AK s p hpl;obtain⟨t,htt⟩:∃t,t=s.getD p 0:=⟨_,rfl⟩
 rw [<-htt]at ip ht hin;have hcb:t.toNat<256:=UInt8.toNat_lt _;obtain⟨oa,oc,hov,_⟩:=h.out.len;have HOV:=zz hov;have HTT:=zz htt;clear hov hwt htt;have hid2:decide (lim.i<=(x.out.length:Int))=false:=df (by omega);have HT:=zz ht;have HL:=zz hl;have HZO:=zz (show z.out=y.out by have:=Bf s lim y (p+1); rw [hl]at this; exact this);have hbt:((t.toNat:Int) / 32 % 2==1)=true:=by
  unfold inner at hin;rw [beq_iff_eq]at hin ⊢;omega
 have hdd:decide (lim.d<=(dp:Int))=false:=df hd;clear hd;clear hv h hok hi hmay hm ht hin hl;go_enter Tryz.func120,Tryz.ntmps120;go_wp2_with fail;refine HW.out.mono ?_;rintro r w1 ⟨rfl,hr,hf⟩;have HR:=zz (show RdRep w1 b s lim y vo/\Fr (rfoot b vo) w w1 from⟨HH.out.step hr hf HYO.out,It.foot hf⟩);clear hr hf;have c2:=HR.out.1.rd.cells.2.2.1;have c5:=HR.out.1.cell5;rw [HOV.out]at c5;go_wp2_with fail;go_quiet (fail)
 obtain⟨w2,hw2⟩:∃w2,w2=w1.drewN nq:=⟨_,rfl⟩
 rw [<-hw2];have HR2:=zz (show RdRep w2 b s lim y vo/\Fr (rfoot b vo) w w2 from by rw [hw2]; exact⟨HR.out.1.drewN nq,HR.out.2.drewN nq⟩);clear hw2 c2 c5 HR;have c0:=HR2.out.1.rd.cells.1;go_wp2_with fail;refine(AX t.toNat hcb _).mono ?_;rintro r w2x ⟨rfl,hw2x⟩;subst hw2x;rw [HT.out];have c1:=HR2.out.1.rd.cells.2.1;have hp1:((p+1:Nat):Int)=(p:Int)+1:=by omega
 have hcl:=Be b _ (p+1) s lim y vo [] w2 HR2.out.1.rd hs hb1 hb2 (by omega);rw [hp1]at hcl;have HCL:=zz hcl;clear hcl hp1;go_wp2_with fail;refine HCL.out.mono ?_;intro r w3 hpost;unfold RLen at hpost;rw [HL.out]at hpost;obtain⟨rfl,hr,hf⟩:=hpost;have HR3:=zz (show RdRep w3 b s lim z vo/\Fr (rfoot b vo) w w3 from⟨HR2.out.1.step hr hf HZO.out,fT HR2.out.2 (It.foot hf) (fun _ _ e=>e)⟩);clear hr hf c0 c1;unfold lenV;go_wp2;go_ret2
 exact⟨rfl,_,⟨vo,HR3.out.1,rfl⟩,HR3.out.2,Fresh.refl _ _⟩
theorem LY(s:Bytes)(lim:Lim)(hs:s.length<=140737488355327)(hm:lim.may=true)(b p dp:Nat)(E:Int)(x:St)(vo:Value)(w:World)(h:RdRep w b s lim x vo)(hok:D5.Ok s lim x p)(y:St)(hv:R5.want s lim x p=(true,y))(hi:¬lim.i<=x.out.length)(ht:tagE (s.getD p 0).toNat=0)(hin:inner (s.getD p 0).toNat=true)(hd:¬lim.d<=(dp:Int))(n q:Nat)(z:St)(hl:R5.length s lim y (p+1)=(some (n,q),z))(hqn:q<=262144/\n<4294967296)(hE:0<=E)(hv2:E<(q:Int)+n):
  Calls Tryz.prog 120 #[.pointer (some ⟨b,0,none⟩),.int .i64 (p:Nat),.int .i64 (dp:Nat),.int .i64 E] w fun r w'=>r= .returned (itemV none)/\Did w b s lim (rfoot b vo) (fault z p 9) w':=by
 have hmay:=E5.Aw hm;have hb1:=hmay.2.2.2.2.1;have hb2:=hmay.2.2.2.2.2.1;have hp:p<=262144:=by have:=hok.pb; omega
 have hsm:s.length<=maxLen:=by unfold maxLen; omega
 have hol:x.out.length<=1000000:=by have:=hok.out; omega
 have hsz:(ByteArray.mk s.toArray).size=s.length:=Ad s;have hwt:=AW b _ p s lim x vo [] w h.rd hsm hb1 hb2 (by unfold maxLen; omega);rw [hv]at hwt;have HW:=zz hwt;have HH:=zz h;have HYO:=zz (show y.out=x.out by have:=AD s lim x p; rw [hv]at this; exact this);have hpl:=(AJ hv).1;have ip:=AK s p hpl;obtain⟨t,htt⟩:∃t,t=s.getD p 0:=⟨_,rfl⟩
 rw [<-htt]at ip ht hin;have hcb:t.toNat<256:=UInt8.toNat_lt _;obtain⟨oa,oc,hov,_⟩:=h.out.len;have HOV:=zz hov;have HTT:=zz htt;clear hov hwt htt;have hid2:decide (lim.i<=(x.out.length:Int))=false:=df (by omega);have HT:=zz ht;have HL:=zz hl;have HZO:=zz (show z.out=y.out by have:=Bf s lim y (p+1); rw [hl]at this; exact this);have hbt:((t.toNat:Int) / 32 % 2==1)=true:=by
  unfold inner at hin;rw [beq_iff_eq]at hin ⊢;omega
 have hdd:decide (lim.d<=(dp:Int))=false:=df hd;clear hd;have hq1:=hqn.1;have hn1:=hqn.2;clear hv h hok hi hmay hm ht hin hl hqn;go_enter Tryz.func120,Tryz.ntmps120;go_wp2_with fail;refine HW.out.mono ?_;rintro r w1 ⟨rfl,hr,hf⟩;have HR:=zz (show RdRep w1 b s lim y vo/\Fr (rfoot b vo) w w1 from⟨HH.out.step hr hf HYO.out,It.foot hf⟩);clear hr hf;have c2:=HR.out.1.rd.cells.2.2.1;have c5:=HR.out.1.cell5;rw [HOV.out]at c5;go_wp2_with fail;go_quiet (fail)
 obtain⟨w2,hw2⟩:∃w2,w2=w1.drewN nq:=⟨_,rfl⟩
 rw [<-hw2];have HR2:=zz (show RdRep w2 b s lim y vo/\Fr (rfoot b vo) w w2 from by rw [hw2]; exact⟨HR.out.1.drewN nq,HR.out.2.drewN nq⟩);clear hw2 c2 c5 HR;have c0:=HR2.out.1.rd.cells.1;go_wp2_with fail;refine(AX t.toNat hcb _).mono ?_;rintro r w2x ⟨rfl,hw2x⟩;subst hw2x;rw [HT.out];have c1:=HR2.out.1.rd.cells.2.1;have hp1:((p+1:Nat):Int)=(p:Int)+1:=by omega
 have hcl:=Be b _ (p+1) s lim y vo [] w2 HR2.out.1.rd hs hb1 hb2 (by omega);rw [hp1]at hcl;have HCL:=zz hcl;clear hcl hp1;go_wp2_with fail;refine HCL.out.mono ?_;intro r w3 hpost;unfold RLen at hpost;rw [HL.out]at hpost;obtain⟨rfl,hr,hf⟩:=hpost;have HR3:=zz (show RdRep w3 b s lim z vo/\Fr (rfoot b vo) w w3 from⟨HR2.out.1.step hr hf HZO.out,fT HR2.out.2 (It.foot hf) (fun _ _ e=>e)⟩);clear hr hf c0 c1;unfold lenV;go_wp2_with fail;refine(AS b _ p 9 s lim z vo [] _ HR3.out.1.rd).mono ?_;rintro r wf ⟨rfl,hr,hf⟩;have HF:=zz (show RdRep wf b s lim (fault z p 9) vo/\Fr (rfoot b vo) w wf from⟨HR3.out.1.step hr hf rfl,fT HR3.out.2 (It.foot hf) (fun _ _ e=>e)⟩);clear hr hf;go_wp2;go_ret2
 exact⟨rfl,_,⟨vo,HF.out.1,rfl⟩,HF.out.2,Fresh.refl _ _⟩
theorem LZ(s:Bytes)(lim:Lim)(hs:s.length<=140737488355327)(hm:lim.may=true)(b p dp:Nat)(E:Int)(x:St)(vo:Value)(w:World)(h:RdRep w b s lim x vo)(hok:D5.Ok s lim x p)(y:St)(hv:R5.want s lim x p=(true,y))(hi:¬lim.i<=x.out.length)(ht:tagE (s.getD p 0).toNat=0)(hin:inner (s.getD p 0).toNat=false)(z:St)(hl:R5.length s lim y (p+1)=(none,z)):
  Calls Tryz.prog 120 #[.pointer (some ⟨b,0,none⟩),.int .i64 (p:Nat),.int .i64 (dp:Nat),.int .i64 E] w fun r w'=>r= .returned (itemV none)/\Did w b s lim (rfoot b vo) z w':=by
 have hmay:=E5.Aw hm;have hb1:=hmay.2.2.2.2.1;have hb2:=hmay.2.2.2.2.2.1;have hp:p<=262144:=by have:=hok.pb; omega
 have hsm:s.length<=maxLen:=by unfold maxLen; omega
 have hol:x.out.length<=1000000:=by have:=hok.out; omega
 have hsz:(ByteArray.mk s.toArray).size=s.length:=Ad s;have hwt:=AW b _ p s lim x vo [] w h.rd hsm hb1 hb2 (by unfold maxLen; omega);rw [hv]at hwt;have HW:=zz hwt;have HH:=zz h;have HYO:=zz (show y.out=x.out by have:=AD s lim x p; rw [hv]at this; exact this);have hpl:=(AJ hv).1;have ip:=AK s p hpl;obtain⟨t,htt⟩:∃t,t=s.getD p 0:=⟨_,rfl⟩
 rw [<-htt]at ip ht hin;have hcb:t.toNat<256:=UInt8.toNat_lt _;obtain⟨oa,oc,hov,_⟩:=h.out.len;have HOV:=zz hov;have HTT:=zz htt;clear hov hwt htt;have hid2:decide (lim.i<=(x.out.length:Int))=false:=df (by omega);have HT:=zz ht;have HL:=zz hl;have HZO:=zz (show z.out=y.out by have:=Bf s lim y (p+1); rw [hl]at this; exact this);have hbt:((t.toNat:Int) / 32 % 2==1)=false:=by
  unfold inner at hin;rw [beq_eq_false_iff_ne]at hin ⊢;omega
 clear hv h hok hi hmay hm ht hin hl;go_enter Tryz.func120,Tryz.ntmps120;go_wp2_with fail;refine HW.out.mono ?_;rintro r w1 ⟨rfl,hr,hf⟩;have HR:=zz (show RdRep w1 b s lim y vo/\Fr (rfoot b vo) w w1 from⟨HH.out.step hr hf HYO.out,It.foot hf⟩);clear hr hf;have c2:=HR.out.1.rd.cells.2.2.1;have c5:=HR.out.1.cell5;rw [HOV.out]at c5;go_wp2_with fail;go_quiet (fail)
 obtain⟨w2,hw2⟩:∃w2,w2=w1.drewN nq:=⟨_,rfl⟩
 rw [<-hw2];have HR2:=zz (show RdRep w2 b s lim y vo/\Fr (rfoot b vo) w w2 from by rw [hw2]; exact⟨HR.out.1.drewN nq,HR.out.2.drewN nq⟩);clear hw2 c2 c5 HR;have c0:=HR2.out.1.rd.cells.1;go_wp2_with fail;refine(AX t.toNat hcb _).mono ?_;rintro r w2x ⟨rfl,hw2x⟩;subst hw2x;rw [HT.out];have c1:=HR2.out.1.rd.cells.2.1;have hp1:((p+1:Nat):Int)=(p:Int)+1:=by omega
 have hcl:=Be b _ (p+1) s lim y vo [] w2 HR2.out.1.rd hs hb1 hb2 (by omega);rw [hp1]at hcl;have HCL:=zz hcl;clear hcl hp1;go_wp2_with fail;refine HCL.out.mono ?_;intro r w3 hpost;unfold RLen at hpost;rw [HL.out]at hpost;obtain⟨rfl,hr,hf⟩:=hpost;have HR3:=zz (show RdRep w3 b s lim z vo/\Fr (rfoot b vo) w w3 from⟨HR2.out.1.step hr hf HZO.out,fT HR2.out.2 (It.foot hf) (fun _ _ e=>e)⟩);clear hr hf c0 c1;unfold lenV;go_wp2;go_ret2
 exact⟨rfl,_,⟨vo,HR3.out.1,rfl⟩,HR3.out.2,Fresh.refl _ _⟩
theorem L0(s:Bytes)(lim:Lim)(hs:s.length<=140737488355327)(hm:lim.may=true)(b p dp:Nat)(E:Int)(x:St)(vo:Value)(w:World)(h:RdRep w b s lim x vo)(hok:D5.Ok s lim x p)(y:St)(hv:R5.want s lim x p=(true,y))(hi:¬lim.i<=x.out.length)(ht:tagE (s.getD p 0).toNat=0)(hin:inner (s.getD p 0).toNat=false)(n q:Nat)(z:St)(hl:R5.length s lim y (p+1)=(some (n,q),z))(hqn:q<=262144/\n<4294967296)(hE:0<=E)(hv2:E<(q:Int)+n):
  Calls Tryz.prog 120 #[.pointer (some ⟨b,0,none⟩),.int .i64 (p:Nat),.int .i64 (dp:Nat),.int .i64 E] w fun r w'=>r= .returned (itemV none)/\Did w b s lim (rfoot b vo) (fault z p 9) w':=by
 have hmay:=E5.Aw hm;have hb1:=hmay.2.2.2.2.1;have hb2:=hmay.2.2.2.2.2.1;have hp:p<=262144:=by have:=hok.pb; omega
 have hsm:s.length<=maxLen:=by unfold maxLen; omega
 have hol:x.out.length<=1000000:=by have:=hok.out; omega
 have hsz:(ByteArray.mk s.toArray).size=s.length:=Ad s;have hwt:=AW b _ p s lim x vo [] w h.rd hsm hb1 hb2 (by unfold maxLen; omega);rw [hv]at hwt;have HW:=zz hwt;have HH:=zz h;have HYO:=zz (show y.out=x.out by have:=AD s lim x p; rw [hv]at this; exact this);have hpl:=(AJ hv).1;have ip:=AK s p hpl;obtain⟨t,htt⟩:∃t,t=s.getD p 0:=⟨_,rfl⟩
 rw [<-htt]at ip ht hin;have hcb:t.toNat<256:=UInt8.toNat_lt _;obtain⟨oa,oc,hov,_⟩:=h.out.len;have HOV:=zz hov;have HTT:=zz htt;clear hov hwt htt;have hid2:decide (lim.i<=(x.out.length:Int))=false:=df (by omega);have HT:=zz ht;have HL:=zz hl;have HZO:=zz (show z.out=y.out by have:=Bf s lim y (p+1); rw [hl]at this; exact this);have hbt:((t.toNat:Int) / 32 % 2==1)=false:=by
  unfold inner at hin;rw [beq_eq_false_iff_ne]at hin ⊢;omega
 have hq1:=hqn.1;have hn1:=hqn.2;clear hv h hok hi hmay hm ht hin hl hqn;go_enter Tryz.func120,Tryz.ntmps120;go_wp2_with fail;refine HW.out.mono ?_;rintro r w1 ⟨rfl,hr,hf⟩;have HR:=zz (show RdRep w1 b s lim y vo/\Fr (rfoot b vo) w w1 from⟨HH.out.step hr hf HYO.out,It.foot hf⟩);clear hr hf;have c2:=HR.out.1.rd.cells.2.2.1;have c5:=HR.out.1.cell5;rw [HOV.out]at c5;go_wp2_with fail;go_quiet (fail)
 obtain⟨w2,hw2⟩:∃w2,w2=w1.drewN nq:=⟨_,rfl⟩
 rw [<-hw2];have HR2:=zz (show RdRep w2 b s lim y vo/\Fr (rfoot b vo) w w2 from by rw [hw2]; exact⟨HR.out.1.drewN nq,HR.out.2.drewN nq⟩);clear hw2 c2 c5 HR;have c0:=HR2.out.1.rd.cells.1;go_wp2_with fail;refine(AX t.toNat hcb _).mono ?_;rintro r w2x ⟨rfl,hw2x⟩;subst hw2x;rw [HT.out];have c1:=HR2.out.1.rd.cells.2.1;have hp1:((p+1:Nat):Int)=(p:Int)+1:=by omega
 have hcl:=Be b _ (p+1) s lim y vo [] w2 HR2.out.1.rd hs hb1 hb2 (by omega);rw [hp1]at hcl;have HCL:=zz hcl;clear hcl hp1;go_wp2_with fail;refine HCL.out.mono ?_;intro r w3 hpost;unfold RLen at hpost;rw [HL.out]at hpost;obtain⟨rfl,hr,hf⟩:=hpost;have HR3:=zz (show RdRep w3 b s lim z vo/\Fr (rfoot b vo) w w3 from⟨HR2.out.1.step hr hf HZO.out,fT HR2.out.2 (It.foot hf) (fun _ _ e=>e)⟩);clear hr hf c0 c1;unfold lenV;go_wp2_with fail;refine(AS b _ p 9 s lim z vo [] _ HR3.out.1.rd).mono ?_;rintro r wf ⟨rfl,hr,hf⟩;have HF:=zz (show RdRep wf b s lim (fault z p 9) vo/\Fr (rfoot b vo) w wf from⟨HR3.out.1.step hr hf rfl,fT HR3.out.2 (It.foot hf) (fun _ _ e=>e)⟩);clear hr hf;go_wp2;go_ret2
 exact⟨rfl,_,⟨vo,HF.out.1,rfl⟩,HF.out.2,Fresh.refl _ _⟩
theorem NT(s:Bytes)(lim:Lim)(hs:s.length<=140737488355327)(hm:lim.may=true)(b p dp:Nat)(E:Int)(x:St)(vo:Value)(w:World)(h:RdRep w b s lim x vo)(hok:D5.Ok s lim x p)(y:St)(hv:R5.want s lim x p=(true,y))(hi:¬lim.i<=x.out.length)(ht:tagE (s.getD p 0).toNat=0)(hin:inner (s.getD p 0).toNat=false)(n q:Nat)(z:St)(hl:R5.length s lim y (p+1)=(some (n,q),z))(hqn:q<=262144/\n<4294967296/\q<=s.length)(hE:¬0<=E\/(0<=E/\¬E<(q:Int)+n))(u:St)(ha:(if n=0 then(true,z)else R5.want s lim z (q+n - 1))=(false,u)):
  Calls Tryz.prog 120 #[.pointer (some ⟨b,0,none⟩),.int .i64 (p:Nat),.int .i64 (dp:Nat),.int .i64 E] w fun r w'=>r= .returned (itemV none)/\Did w b s lim (rfoot b vo) u w':=by
 have hmay:=E5.Aw hm;have hb1:=hmay.2.2.2.2.1;have hb2:=hmay.2.2.2.2.2.1;have hp:p<=262144:=by have:=hok.pb; omega
 have hsm:s.length<=maxLen:=by unfold maxLen; omega
 have hol:x.out.length<=1000000:=by have:=hok.out; omega
 have hsz:(ByteArray.mk s.toArray).size=s.length:=Ad s;have hwt:=AW b _ p s lim x vo [] w h.rd hsm hb1 hb2 (by unfold maxLen; omega);rw [hv]at hwt;have HW:=zz hwt;have HH:=zz h;have HYO:=zz (show y.out=x.out by have:=AD s lim x p; rw [hv]at this; exact this);have hpl:=(AJ hv).1;have ip:=AK s p hpl;obtain⟨t,htt⟩:∃t,t=s.getD p 0:=⟨_,rfl⟩
 rw [<-htt]at ip ht hin;have hcb:t.toNat<256:=UInt8.toNat_lt _;obtain⟨oa,oc,hov,_⟩:=h.out.len;have HOV:=zz hov;have HTT:=zz htt;clear hov hwt htt;have hid2:decide (lim.i<=(x.out.length:Int))=false:=df (by omega);have HT:=zz ht;have HL:=zz hl;have HZO:=zz (show z.out=y.out by have:=Bf s lim y (p+1); rw [hl]at this; exact this);have hbt:((t.toNat:Int) / 32 % 2==1)=false:=by
  unfold inner at hin;rw [beq_eq_false_iff_ne]at hin ⊢;omega
 have hq1:=hqn.1;have hn1:=hqn.2.1;have HA:=zz ha;have HUO:=zz (show u.out=z.out by
  by_cases h0:n=0
  ·rw [if_pos h0]at ha;simp only [Prod.mk.injEq]at ha;rw [<-ha.2]
  ·rw [if_neg h0]at ha;have:=AD s lim z (q+n - 1);rw [ha]at this;exact this)
 clear hv h hok hi hmay hm ht hin hl hqn ha;go_enter Tryz.func120,Tryz.ntmps120;go_wp2_with fail;refine HW.out.mono ?_;rintro r w1 ⟨rfl,hr,hf⟩;have HR:=zz (show RdRep w1 b s lim y vo/\Fr (rfoot b vo) w w1 from⟨HH.out.step hr hf HYO.out,It.foot hf⟩);clear hr hf;have c2:=HR.out.1.rd.cells.2.2.1;have c5:=HR.out.1.cell5;rw [HOV.out]at c5;go_wp2_with fail;go_quiet (fail)
 obtain⟨w2,hw2⟩:∃w2,w2=w1.drewN nq:=⟨_,rfl⟩
 rw [<-hw2];have HR2:=zz (show RdRep w2 b s lim y vo/\Fr (rfoot b vo) w w2 from by rw [hw2]; exact⟨HR.out.1.drewN nq,HR.out.2.drewN nq⟩);clear hw2 c2 c5 HR;have c0:=HR2.out.1.rd.cells.1;go_wp2_with fail;refine(AX t.toNat hcb _).mono ?_;rintro r w2x ⟨rfl,hw2x⟩;subst hw2x;rw [HT.out];have c1:=HR2.out.1.rd.cells.2.1;have hp1:((p+1:Nat):Int)=(p:Int)+1:=by omega
 have hcl:=Be b _ (p+1) s lim y vo [] w2 HR2.out.1.rd hs hb1 hb2 (by omega);rw [hp1]at hcl;have HCL:=zz hcl;clear hcl hp1;go_wp2_with fail;refine HCL.out.mono ?_;intro r w3 hpost;unfold RLen at hpost;rw [HL.out]at hpost;obtain⟨rfl,hr,hf⟩:=hpost;have HR3:=zz (show RdRep w3 b s lim z vo/\Fr (rfoot b vo) w w3 from⟨HR2.out.1.step hr hf HZO.out,fT HR2.out.2 (It.foot hf) (fun _ _ e=>e)⟩);clear hr hf c0 c1;unfold lenV;go_upto_region 15 with fail
 go_cut [83] (fun t83 wx=>t83= .bool false/\wx=w3)
 case first=>
  rcases hE with hE | ⟨hE,hE2⟩
  all_goals
   go_wp2_with fail;go_meet
   first
    | exact⟨rfl,rfl⟩
    | exact⟨by rw [df (by omega)],rfl⟩
 case rest=>
  obtain⟨rfl,hwc⟩:=hcut;subst hwc;clear hE;go_wp2_with fail;have hall:=FT b _ q n s lim z vo [] wc HR3.out.1.rd hsm hb1 hb2 (by omega) hn1;rw [HA.out]at hall;refine hall.mono ?_;clear hall;rintro r w4 ⟨rfl,hr,hf⟩;have HR4:=zz (show RdRep w4 b s lim u vo/\Fr (rfoot b vo) w w4 from⟨HR3.out.1.step hr hf HUO.out,fT HR3.out.2 (It.foot hf) (fun _ _ e=>e)⟩);clear hr hf HR3;go_wp2;go_ret2
  exact⟨rfl,_,⟨vo,HR4.out.1,rfl⟩,HR4.out.2,Fresh.refl _ _⟩
theorem Nj(s:Bytes)(lim:Lim)(hs:s.length<=140737488355327)(hm:lim.may=true)(b p dp:Nat)(E:Int)(x:St)(vo:Value)(w:World)(h:RdRep w b s lim x vo)(hok:D5.Ok s lim x p)(y:St)(hv:R5.want s lim x p=(true,y))(hi:¬lim.i<=x.out.length)(ht:tagE (s.getD p 0).toNat=0)(hin:inner (s.getD p 0).toNat=false)(n q:Nat)(z:St)(hl:R5.length s lim y (p+1)=(some (n,q),z))(hqn:q<=262144/\n<4294967296/\q<=s.length)(hE:¬0<=E\/(0<=E/\¬E<(q:Int)+n))(u:St)(ha:(if n=0 then(true,z)else R5.want s lim z (q+n - 1))=(true,u))(hbd:R5.body (s.getD p 0).toNat ((s.take (q+n)).drop q)=false):
  Calls Tryz.prog 120 #[.pointer (some ⟨b,0,none⟩),.int .i64 (p:Nat),.int .i64 (dp:Nat),.int .i64 E] w fun r w'=>r= .returned (itemV none)/\Did w b s lim (rfoot b vo) (fault u p 9) w':=by
 have hmay:=E5.Aw hm;have hb1:=hmay.2.2.2.2.1;have hb2:=hmay.2.2.2.2.2.1;have hp:p<=262144:=by have:=hok.pb; omega
 have hsm:s.length<=maxLen:=by unfold maxLen; omega
 have hol:x.out.length<=1000000:=by have:=hok.out; omega
 have hsz:(ByteArray.mk s.toArray).size=s.length:=Ad s;have hwt:=AW b _ p s lim x vo [] w h.rd hsm hb1 hb2 (by unfold maxLen; omega);rw [hv]at hwt;have HW:=zz hwt;have HH:=zz h;have HYO:=zz (show y.out=x.out by have:=AD s lim x p; rw [hv]at this; exact this);have hpl:=(AJ hv).1;have ip:=AK s p hpl;obtain⟨t,htt⟩:∃t,t=s.getD p 0:=⟨_,rfl⟩
 rw [<-htt]at ip ht hin hbd;have hcb:t.toNat<256:=UInt8.toNat_lt _;obtain⟨oa,oc,hov,_⟩:=h.out.len;have HOV:=zz hov;have HTT:=zz htt;clear hov hwt htt;have hid2:decide (lim.i<=(x.out.length:Int))=false:=df (by omega);have HT:=zz ht;have HL:=zz hl;have HZO:=zz (show z.out=y.out by have:=Bf s lim y (p+1); rw [hl]at this; exact this);have hbt:((t.toNat:Int) / 32 % 2==1)=false:=by
  unfold inner at hin;rw [beq_eq_false_iff_ne]at hin ⊢;omega
 have hq1:=hqn.1;have hn1:=hqn.2.1;have HA:=zz ha;have HUO:=zz (show u.out=z.out by
  by_cases h0:n=0
  ·rw [if_pos h0]at ha;simp only [Prod.mk.injEq]at ha;rw [<-ha.2]
  ·rw [if_neg h0]at ha;have:=AD s lim z (q+n - 1);rw [ha]at this;exact this)
 have hqs:q+n<=s.length:=by
  by_cases h0:n=0
  ·omega
  ·rw [if_neg h0]at ha;have:=(AJ ha).1;omega
 obtain⟨bb,hbb⟩:∃bb,bb=(s.take (q+n)).drop q:=⟨_,rfl⟩
 have hslc:=fun w=>Bc s q (q+n) (Nat.le_add_right _ _) hqs w
 rw [show((q+n:Nat):Int)=(q:Int)+n by omega]at hslc;rw [<-hbb]at hslc hbd;have hbl:bb.length<=140737488355327:=by rw [hbb,List.length_drop,List.length_take]; omega
 have hszb:(ByteArray.mk bb.toArray).size=bb.length:=Ad bb;have hwn:IntKind.i64.wrap ((q:Int)+n)=(q:Int)+n:=IntWalk.i64_in _ ⟨by omega,by omega⟩;have HBD:=zz hbd;have HBL:=zz hbl;clear hbb hbd hqs hbl;clear hv h hok hi hmay hm ht hin hl hqn ha;go_enter Tryz.func120,Tryz.ntmps120;go_wp2_with fail;refine HW.out.mono ?_;rintro r w1 ⟨rfl,hr,hf⟩;have HR:=zz (show RdRep w1 b s lim y vo/\Fr (rfoot b vo) w w1 from⟨HH.out.step hr hf HYO.out,It.foot hf⟩);clear hr hf;have c2:=HR.out.1.rd.cells.2.2.1;have c5:=HR.out.1.cell5;rw [HOV.out]at c5;go_wp2_with fail;go_quiet (fail)
 obtain⟨w2,hw2⟩:∃w2,w2=w1.drewN nq:=⟨_,rfl⟩
 rw [<-hw2];have HR2:=zz (show RdRep w2 b s lim y vo/\Fr (rfoot b vo) w w2 from by rw [hw2]; exact⟨HR.out.1.drewN nq,HR.out.2.drewN nq⟩);clear hw2 c2 c5 HR;have c0:=HR2.out.1.rd.cells.1;go_wp2_with fail;refine(AX t.toNat hcb _).mono ?_;rintro r w2x ⟨rfl,hw2x⟩;subst hw2x;rw [HT.out];have c1:=HR2.out.1.rd.cells.2.1;have hp1:((p+1:Nat):Int)=(p:Int)+1:=by omega
 have hcl:=Be b _ (p+1) s lim y vo [] w2 HR2.out.1.rd hs hb1 hb2 (by omega);rw [hp1]at hcl;have HCL:=zz hcl;clear hcl hp1;go_wp2_with fail;refine HCL.out.mono ?_;intro r w3 hpost;unfold RLen at hpost;rw [HL.out]at hpost;obtain⟨rfl,hr,hf⟩:=hpost;have HR3:=zz (show RdRep w3 b s lim z vo/\Fr (rfoot b vo) w w3 from⟨HR2.out.1.step hr hf HZO.out,fT HR2.out.2 (It.foot hf) (fun _ _ e=>e)⟩);clear hr hf c0 c1;unfold lenV;go_upto_region 15 with fail
 go_cut [83] (fun t83 wx=>t83= .bool false/\wx=w3)
 case first=>
  rcases hE with hE | ⟨hE,hE2⟩
  all_goals
   go_wp2_with fail;go_meet
   first
    | exact⟨rfl,rfl⟩
    | exact⟨by rw [df (by omega)],rfl⟩
 case rest=>
  obtain⟨rfl,hwc⟩:=hcut;subst hwc;clear hE;go_wp2_with fail;have hall:=FT b _ q n s lim z vo [] wc HR3.out.1.rd hsm hb1 hb2 (by omega) hn1;rw [HA.out]at hall;refine hall.mono ?_;clear hall;rintro r w4 ⟨rfl,hr,hf⟩;have HR4:=zz (show RdRep w4 b s lim u vo/\Fr (rfoot b vo) w w4 from⟨HR3.out.1.step hr hf HUO.out,fT HR3.out.2 (It.foot hf) (fun _ _ e=>e)⟩);clear hr hf HR3;have c0:=HR4.out.1.rd.cells.1;go_wp2_with fail;refine(DT t.toNat bb HBL.out _).mono ?_;rintro r w5 ⟨rfl,hs5⟩;rw [HBD.out];have HR5:=zz (show RdRep w5 b s lim u vo/\Fr (rfoot b vo) w w5 from⟨HR4.out.1.same hs5,fT HR4.out.2 (hs5.fr _) (fun _ _ e=>e)⟩);clear hs5 HR4 c0;go_wp2_with fail;refine(AS b _ p 9 s lim u vo [] _ HR5.out.1.rd).mono ?_;rintro r wf ⟨rfl,hr,hf⟩;have HF:=zz (show RdRep wf b s lim (fault u p 9) vo/\Fr (rfoot b vo) w wf from⟨HR5.out.1.step hr hf rfl,fT HR5.out.2 (It.foot hf) (fun _ _ e=>e)⟩);clear hr hf;go_wp2;go_ret2
  exact⟨rfl,_,⟨vo,HF.out.1,rfl⟩,HF.out.2,Fresh.refl _ _⟩
theorem Nk(s:Bytes)(lim:Lim)(hs:s.length<=140737488355327)(hm:lim.may=true)(b p dp:Nat)(E:Int)(x:St)(vo:Value)(w:World)(h:RdRep w b s lim x vo)(hok:D5.Ok s lim x p)(y:St)(hv:R5.want s lim x p=(true,y))(hi:¬lim.i<=x.out.length)(ht:tagE (s.getD p 0).toNat=0)(hin:inner (s.getD p 0).toNat=false)(n q:Nat)(z:St)(hl:R5.length s lim y (p+1)=(some (n,q),z))(hqn:q<=262144/\n<4294967296/\q<=s.length)(hE:¬0<=E\/(0<=E/\¬E<(q:Int)+n))(u:St)(ha:(if n=0 then(true,z)else R5.want s lim z (q+n - 1))=(true,u))(hbd:R5.body (s.getD p 0).toNat ((s.take (q+n)).drop q)=true):
  Calls Tryz.prog 120 #[.pointer (some ⟨b,0,none⟩),.int .i64 (p:Nat),.int .i64 (dp:Nat),.int .i64 E] w fun r w'=>r= .returned (itemV (some (q+n)))/\Did w b s lim (rfoot b vo) {u with out:=u.out++ [⟨s.getD p 0,-1,(s.take (q+n)).drop q⟩]} w':=by
 have hmay:=E5.Aw hm;have hb1:=hmay.2.2.2.2.1;have hb2:=hmay.2.2.2.2.2.1;have hp:p<=262144:=by have:=hok.pb; omega
 have hsm:s.length<=maxLen:=by unfold maxLen; omega
 have hol:x.out.length<=1000000:=by have:=hok.out; omega
 have hsz:(ByteArray.mk s.toArray).size=s.length:=Ad s;have hwt:=AW b _ p s lim x vo [] w h.rd hsm hb1 hb2 (by unfold maxLen; omega);rw [hv]at hwt;have HW:=zz hwt;have HH:=zz h;have HYO:=zz (show y.out=x.out by have:=AD s lim x p; rw [hv]at this; exact this);have hpl:=(AJ hv).1;have ip:=AK s p hpl;obtain⟨t,htt⟩:∃t,t=s.getD p 0:=⟨_,rfl⟩
 rw [<-htt]at ip ht hin hbd ⊢;have hcb:t.toNat<256:=UInt8.toNat_lt _;obtain⟨oa,oc,hov,_⟩:=h.out.len;have HOV:=zz hov;have HTT:=zz htt;clear hov hwt htt;have hid2:decide (lim.i<=(x.out.length:Int))=false:=df (by omega);have HT:=zz ht;have HL:=zz hl;have HZO:=zz (show z.out=y.out by have:=Bf s lim y (p+1); rw [hl]at this; exact this);have hbt:((t.toNat:Int) / 32 % 2==1)=false:=by
  unfold inner at hin;rw [beq_eq_false_iff_ne]at hin ⊢;omega
 have hq1:=hqn.1;have hn1:=hqn.2.1;have HA:=zz ha;have HUO:=zz (show u.out=z.out by
  by_cases h0:n=0
  ·rw [if_pos h0]at ha;simp only [Prod.mk.injEq]at ha;rw [<-ha.2]
  ·rw [if_neg h0]at ha;have:=AD s lim z (q+n - 1);rw [ha]at this;exact this)
 have hqs:q+n<=s.length:=by
  by_cases h0:n=0
  ·omega
  ·rw [if_neg h0]at ha;have:=(AJ ha).1;omega
 obtain⟨bb,hbb⟩:∃bb,bb=(s.take (q+n)).drop q:=⟨_,rfl⟩
 have hslc:=fun w=>Bc s q (q+n) (Nat.le_add_right _ _) hqs w
 rw [show((q+n:Nat):Int)=(q:Int)+n by omega]at hslc;rw [<-hbb]at hslc hbd ⊢;have hbl:bb.length<=140737488355327:=by rw [hbb,List.length_drop,List.length_take]; omega
 have hszb:(ByteArray.mk bb.toArray).size=bb.length:=Ad bb;have hwn:IntKind.i64.wrap ((q:Int)+n)=(q:Int)+n:=IntWalk.i64_in _ ⟨by omega,by omega⟩;have HBD:=zz hbd;have HBL:=zz hbl;clear hbb hbd hqs hbl;clear hv h hok hi hmay hm ht hin hl hqn ha;go_enter Tryz.func120,Tryz.ntmps120;go_wp2_with fail;refine HW.out.mono ?_;rintro r w1 ⟨rfl,hr,hf⟩;have HR:=zz (show RdRep w1 b s lim y vo/\Fr (rfoot b vo) w w1 from⟨HH.out.step hr hf HYO.out,It.foot hf⟩);clear hr hf;have c2:=HR.out.1.rd.cells.2.2.1;have c5:=HR.out.1.cell5;rw [HOV.out]at c5;go_wp2_with fail;go_quiet (fail)
 obtain⟨w2,hw2⟩:∃w2,w2=w1.drewN nq:=⟨_,rfl⟩
 rw [<-hw2];have HR2:=zz (show RdRep w2 b s lim y vo/\Fr (rfoot b vo) w w2 from by rw [hw2]; exact⟨HR.out.1.drewN nq,HR.out.2.drewN nq⟩);clear hw2 c2 c5 HR;have c0:=HR2.out.1.rd.cells.1;go_wp2_with fail;refine(AX t.toNat hcb _).mono ?_;rintro r w2x ⟨rfl,hw2x⟩;subst hw2x;rw [HT.out];have c1:=HR2.out.1.rd.cells.2.1;have hp1:((p+1:Nat):Int)=(p:Int)+1:=by omega
 have hcl:=Be b _ (p+1) s lim y vo [] w2 HR2.out.1.rd hs hb1 hb2 (by omega);rw [hp1]at hcl;have HCL:=zz hcl;clear hcl hp1;go_wp2_with fail;refine HCL.out.mono ?_;intro r w3 hpost;unfold RLen at hpost;rw [HL.out]at hpost;obtain⟨rfl,hr,hf⟩:=hpost;have HR3:=zz (show RdRep w3 b s lim z vo/\Fr (rfoot b vo) w w3 from⟨HR2.out.1.step hr hf HZO.out,fT HR2.out.2 (It.foot hf) (fun _ _ e=>e)⟩);clear hr hf c0 c1;unfold lenV;go_upto_region 15 with fail
 go_cut [83] (fun t83 wx=>t83= .bool false/\wx=w3)
 case first=>
  rcases hE with hE | ⟨hE,hE2⟩
  all_goals
   go_wp2_with fail;go_meet
   first
    | exact⟨rfl,rfl⟩
    | exact⟨by rw [df (by omega)],rfl⟩
 case rest=>
  obtain⟨rfl,hwc⟩:=hcut;subst hwc;clear hE;go_wp2_with fail;have hall:=FT b _ q n s lim z vo [] wc HR3.out.1.rd hsm hb1 hb2 (by omega) hn1;rw [HA.out]at hall;refine hall.mono ?_;clear hall;rintro r w4 ⟨rfl,hr,hf⟩;have HR4:=zz (show RdRep w4 b s lim u vo/\Fr (rfoot b vo) w w4 from⟨HR3.out.1.step hr hf HUO.out,fT HR3.out.2 (It.foot hf) (fun _ _ e=>e)⟩);clear hr hf HR3;have c0:=HR4.out.1.rd.cells.1;go_wp2_with fail;refine(DT t.toNat bb HBL.out _).mono ?_;rintro r w5 ⟨rfl,hs5⟩;rw [HBD.out];have HR5:=zz (show RdRep w5 b s lim u vo/\Fr (rfoot b vo) w w5 from⟨HR4.out.1.same hs5,fT HR4.out.2 (hs5.fr _) (fun _ _ e=>e)⟩);clear hs5 HR4 c0;have c0:=HR5.out.1.rd.cells.1;have c5:=HR5.out.1.cell5;have f5:=HR5.out.1.rd.free 5;have hb:b<w5.heap.size:=HR5.out.1.rd.lt;have hou:u.out.length<=1000000:=by rw [HUO.out,HZO.out,HYO.out]; exact hol
  obtain⟨i0,hi0,hz0,hz1,hz2⟩:=info_parts Tryz.infoNode;go_upto_region 22 with fail
  go_cut [] (fun wx=>RAfter w5 wx b s lim u ⟨t,-1,bb⟩ vo)
  case first=>
   go_region_law
    ((refine step_append_lies _ (by rfl) _ _ _ (by rfl) 0 90 i0 _ 3 32 Tryz.underlying47 hi0 hz0 hz1 hz2 rfl (by omega) vo u.out.length (u.out.flatMap cNode) (by rfl) ((HR5.out.1.out.alloc _).drew) ⟨w5.heap.size,0,none⟩ 1 1 (cNode ⟨t,-1,bb⟩) (by rfl) (by rfl) (World.news_of_block (cs:= #[.int .u8 t.toNat,.int .i64 (-1),S bb]) (t:=90) (fr:=(0,0)) (heap_alloc_new w5 _)) (by simp [cNode,Value.oneCell']) (by omega) (by unfold maxLen; omega) (by omega) (by simp) (w5.heap.size+1) (by simp) ?_; intro gg cap w1x hown1 hgrow hat hlt; have k5:=AO hgrow c5 HR5.out.1.ob.ne; have e5:=AP hgrow c5 f5 HR5.out.1.ob.ne))
   all_goals (go_wp2_with fail; go_meet; exact HR5.out.1.afterOut hown1 (BF hgrow) (hat.elim .inl (fun e=> .inr (by omega))))
  case rest=>
   obtain⟨vo',hy,hyf,hyn⟩:=hcut;have HY:=zz (aN hy (aN hyf hyn));clear hy hyf hyn c0 c5 f5;go_wp2;go_ret2
   exact⟨rfl,_,⟨vo',HY.out.1,rfl⟩,HR5.out.2.step (Fresh.refl _ _) HY.out.2.1,Fresh.trans (Fresh.refl _ _) HR5.out.2.size HY.out.2.2⟩
def InsideC(s:Bytes)(lim:Lim)(d:Nat):Prop:=∀(b q e dp:Nat) (t:UInt8) (x:St) (F:Nat->Prop) (w:World),RdAt w b s lim x F->D5.Ok s lim x q->x.frames<=dp->((dp+1+d:Nat):Int)=lim.d->q<=e->e<=5000000000->(x.out.length:Int)<lim.i->
 Calls Tryz.prog 147 #[.pointer (some ⟨b,0,none⟩),.int .u8 t.toNat,.int .i64 (q:Nat),.int .i64 (e:Nat),.int .i64 (dp:Nat)] w fun r w'=>r= .returned (itemV (R5.inside s (fun x p=>R5.elem s lim d x p (some e)) x t q e).1)/\Did w b s lim F (R5.inside s (fun x p=>R5.elem s lim d x p (some e)) x t q e).2 w'
theorem L3(s:Bytes)(lim:Lim)(hs:s.length<=140737488355327)(hm:lim.may=true)(b p dp:Nat)(E:Int)(x:St)(vo:Value)(w:World)(h:RdRep w b s lim x vo)(hok:D5.Ok s lim x p)(y:St)(hv:R5.want s lim x p=(true,y))(hi:¬lim.i<=x.out.length)(ht:tagE (s.getD p 0).toNat=0)(hin:inner (s.getD p 0).toNat=true)(hd:¬lim.d<=(dp:Int))(n q:Nat)(z:St)(hl:R5.length s lim y (p+1)=(some (n,q),z))(hqn:q<=262144/\n<4294967296/\q<=s.length)(hE:¬0<=E\/(0<=E/\¬E<(q:Int)+n))(d:Nat)(hI:InsideC s lim d)(hdl:((dp+1+d:Nat):Int)=lim.d)(hfr:z.frames<=dp)(hz:D5.Ok s lim z q)(hzl:(z.out.length:Int)<lim.i):
  Calls Tryz.prog 120 #[.pointer (some ⟨b,0,none⟩),.int .i64 (p:Nat),.int .i64 (dp:Nat),.int .i64 E] w fun r w'=>r= .returned (itemV (R5.inside s (fun x p=>R5.elem s lim d x p (some (q+n))) z (s.getD p 0) q (q+n)).1)/\Did w b s lim (rfoot b vo) (R5.inside s (fun x p=>R5.elem s lim d x p (some (q+n))) z (s.getD p 0) q (q+n)).2 w':=by
 have hmay:=E5.Aw hm;have hb1:=hmay.2.2.2.2.1;have hb2:=hmay.2.2.2.2.2.1;have hp:p<=262144:=by have:=hok.pb; omega
 have hsm:s.length<=maxLen:=by unfold maxLen; omega
 have hol:x.out.length<=1000000:=by have:=hok.out; omega
 have hsz:(ByteArray.mk s.toArray).size=s.length:=Ad s;have hwt:=AW b _ p s lim x vo [] w h.rd hsm hb1 hb2 (by unfold maxLen; omega);rw [hv]at hwt;have HW:=zz hwt;have HH:=zz h;have HYO:=zz (show y.out=x.out by have:=AD s lim x p; rw [hv]at this; exact this);have hpl:=(AJ hv).1;have ip:=AK s p hpl;obtain⟨t,htt⟩:∃t,t=s.getD p 0:=⟨_,rfl⟩
 rw [<-htt]at ip ht hin ⊢;have hcb:t.toNat<256:=UInt8.toNat_lt _;obtain⟨oa,oc,hov,_⟩:=h.out.len;have HOV:=zz hov;have HTT:=zz htt;clear hov hwt htt;have hid2:decide (lim.i<=(x.out.length:Int))=false:=df (by omega);have HT:=zz ht;have HL:=zz hl;have HZO:=zz (show z.out=y.out by have:=Bf s lim y (p+1); rw [hl]at this; exact this);have hbt:((t.toNat:Int) / 32 % 2==1)=true:=by
  unfold inner at hin;rw [beq_iff_eq]at hin ⊢;omega
 have hdd:decide (lim.d<=(dp:Int))=false:=df hd;clear hd;have hq1:=hqn.1;have hn1:=hqn.2.1;have HIN:=zz (aN hI (aN hdl (aN hfr (aN hz hzl))));have hqn2:((q+n:Nat):Int)=(q:Int)+n:=by omega
 have HQN:=zz hqn2;obtain⟨RES,hRES⟩:∃RES,RES=(R5.inside s (fun x p=>R5.elem s lim d x p (some (q+n))) z t q (q+n)):=⟨_,rfl⟩
 rw [<-hRES];have HRES:=zz hRES;clear hv h hok hi hmay hm ht hin hl hqn hI hdl hfr hz hzl hqn2 hRES;go_enter Tryz.func120,Tryz.ntmps120;go_wp2_with fail;refine HW.out.mono ?_;rintro r w1 ⟨rfl,hr,hf⟩;have HR:=zz (show RdRep w1 b s lim y vo/\Fr (rfoot b vo) w w1 from⟨HH.out.step hr hf HYO.out,It.foot hf⟩);clear hr hf;have c2:=HR.out.1.rd.cells.2.2.1;have c5:=HR.out.1.cell5;rw [HOV.out]at c5;go_wp2_with fail;go_quiet (fail)
 obtain⟨w2,hw2⟩:∃w2,w2=w1.drewN nq:=⟨_,rfl⟩
 rw [<-hw2];have HR2:=zz (show RdRep w2 b s lim y vo/\Fr (rfoot b vo) w w2 from by rw [hw2]; exact⟨HR.out.1.drewN nq,HR.out.2.drewN nq⟩);clear hw2 c2 c5 HR;have c0:=HR2.out.1.rd.cells.1;go_wp2_with fail;refine(AX t.toNat hcb _).mono ?_;rintro r w2x ⟨rfl,hw2x⟩;subst hw2x;rw [HT.out];have c1:=HR2.out.1.rd.cells.2.1;have hp1:((p+1:Nat):Int)=(p:Int)+1:=by omega
 have hcl:=Be b _ (p+1) s lim y vo [] w2 HR2.out.1.rd hs hb1 hb2 (by omega);rw [hp1]at hcl;have HCL:=zz hcl;clear hcl hp1;go_wp2_with fail;refine HCL.out.mono ?_;intro r w3 hpost;unfold RLen at hpost;rw [HL.out]at hpost;obtain⟨rfl,hr,hf⟩:=hpost;have HR3:=zz (show RdRep w3 b s lim z vo/\Fr (rfoot b vo) w w3 from⟨HR2.out.1.step hr hf HZO.out,fT HR2.out.2 (It.foot hf) (fun _ _ e=>e)⟩);clear hr hf c0 c1;unfold lenV;go_upto_region 15 with fail
 go_cut [83] (fun t83 wx=>t83= .bool false/\wx=w3)
 case first=>
  rcases hE with hE | ⟨hE,hE2⟩
  all_goals
   go_wp2_with fail;go_meet
   first
    | exact⟨rfl,rfl⟩
    | exact⟨by rw [df (by omega)],rfl⟩
 case rest=>
  obtain⟨rfl,hwc⟩:=hcut;subst hwc;clear hE;have hcall:=HIN.out.1 b q (q+n) dp t z (rfoot b vo) wc ⟨vo,HR3.out.1,rfl⟩ HIN.out.2.2.2.1 HIN.out.2.2.1 HIN.out.2.1 (Nat.le_add_right _ _) (by omega) HIN.out.2.2.2.2;rw [<-HRES.out,HQN.out]at hcall;have HCALL:=zz hcall;clear hcall;go_wp2_with fail;refine HCALL.out.mono ?_;rintro r w4 ⟨rfl,hd4⟩;have HD:=zz (Did.trans HR3.out.2 (Fresh.refl _ _) hd4);clear hd4;cases hres:RES.1 with
  | none=>
   have HE:=zz hres;clear hres;unfold itemV;go_wp2;go_ret2
   rw [HE.out];exact⟨rfl,HD.out⟩
  | some v=>
   have HE:=zz hres;clear hres;unfold itemV;go_wp2;go_ret2
   rw [HE.out];exact⟨rfl,HD.out⟩
theorem L4(u:List Px.Node)(t:UInt8)(i:Int)(l:List Px.Node):R5.bump (u++⟨t,i,[]⟩::l) u.length=u++⟨t,i+1,[]⟩::l:=by
 have h1:=D5.Ck (u++ [⟨t,i,[]⟩]) l u.length (by simp);rw [List.append_assoc]at h1;have h2:=E5.DV u ⟨t,i,[]⟩;rw [h2,List.append_assoc]at h1;exact h1
structure Ins (s:Bytes) (lim:Lim) (d e:Nat) (t:UInt8) (x x1:St) (at0:Nat) (b:Nat) (F:Nat->Prop) (w wr:World) (k:Nat) (last:Bytes) (m:Nat) (z:St) (i:Int) (l:List Px.Node) (F1:Nat->Prop):Prop where
 at_:RdAt wr b s lim z F1
 fr:Fr F w wr
 fresh:Fresh w F F1
 ok:D5.Ok s lim z k
 frames:z.frames=x.frames+1
 out:z.out=x.out++⟨t,i,[]⟩::l
 i0:0<=i
 ik:i<=k
 le:k<=e
 fuel:e - k<=m
 run:R5.insideN s (fun x p=>R5.elem s lim d x p (some e)) t.toNat x.out.length e (e - at0) x1 at0 []=R5.insideN s (fun x p=>R5.elem s lim d x p (some e)) t.toNat x.out.length e m z k last
theorem L5(s:Bytes)(lim:Lim)(d e me:Nat)(t:Nat)(m:Nat)(z:St)(k:Nat)(last:Bytes)(hk:k<e)(hm:e - k<=m):
  R5.insideN s (fun x p=>R5.elem s lim d x p (some e)) t me e m z k last=match R5.elem s lim d z k (some e)with
   | (none,y)=>(none,y)
   | (some q,y)=>if t==49 && Op.bytesLess ((s.take q).drop k) last then(none,fault {y with out:=bump y.out me} k 9)else R5.insideN s (fun x p=>R5.elem s lim d x p (some e)) t me e (m - 1) {y with out:=bump y.out me} q ((s.take q).drop k):=by
 obtain⟨m',rfl⟩:∃m',m=m'+1:=⟨m - 1,by omega⟩
 conv=>lhs; unfold R5.insideN
 rw [if_pos hk,Nat.add_sub_cancel];rfl
theorem Nl(s:Bytes)(rc:St->Nat->Option Nat×St)(me e t m:Nat)(z:St)(last:Bytes):R5.insideN s rc t me e m z e last=(some e,z):=by
 cases m with
 | zero=>rfl
 | succ m=>unfold R5.insideN; rw [if_neg (Nat.lt_irrefl e)]
theorem JM(s:Bytes)(lim:Lim)(hs:s.length<=140737488355327)(hm:lim.may=true)(d:Nat)(hE:ElemC s lim d):InsideC s lim d:=by
 intro b q0 e dp t x F w hat hok hfrm hdl hqe he5 hol;obtain⟨vo,h,rfl⟩:=hat;have hmay:=E5.Aw hm;have hsz:(ByteArray.mk s.toArray).size=s.length:=Ad s;have hxl:x.out.length<=1000000:=by omega
 have hdp:dp<=1000:=by omega
 have hxf:x.frames<=1000:=by omega
 obtain⟨x1,hx1⟩:∃x1:St,x1= {x with out:=x.out++ [⟨t,0,[]⟩],frames:=x.frames+1}:=⟨_,rfl⟩
 obtain⟨IN,hIN⟩:∃IN,IN=R5.insideN s (fun x p=>R5.elem s lim d x p (some e)) t.toNat x.out.length e (e - q0) x1 q0 []:=⟨_,rfl⟩
 obtain⟨RES,hRES⟩:∃RES:Option Nat×St,RES=R5.inside s (fun x p=>R5.elem s lim d x p (some e)) x t q0 e:=⟨_,rfl⟩
 have hr1:∀y,IN=(none,y)->RES=(none,y):=fun y hy=>by
  rw [hRES]; unfold R5.inside; rw [<-hx1,<-hIN,hy]
 have hr2:∀y,IN=(some e,y)->RES=(some e,{y with frames:=y.frames - 1}):=fun y hy=>by
  rw [hRES]; unfold R5.inside; rw [<-hx1,<-hIN,hy]
 rw [<-hRES];obtain⟨oa,oc,hov,_⟩:=h.out.len;have hb:b<w.heap.size:=h.rd.lt;have c5:=h.cell5;have f5:=h.rd.free 5;obtain⟨i0,hi0,hz0,hz1,hz2⟩:=info_parts Tryz.infoNode;have HH:=zz (aN h (aN hok (aN hE (aN hr1 (aN hr2 (aN hIN (aN hx1 (aN hov (aN hdl (aN hfrm (aN hol (aN hm hs))))))))))));clear hRES hr1 hr2 hIN hx1 h hok hE hov hdl hfrm hol hm hs;have c5b:w.cell? ⟨b,5,none⟩=some (.slice oa x.out.length oc):=by rw [<-HH.out.2.2.2.2.2.2.2.1]; exact c5
 clear c5;go_enter Tryz.func147,Tryz.ntmps147;go_upto_region 2 with fail
 have c5:w.cell? ⟨b,5,none⟩=some vo:=HH.out.1.cell5;clear c5b;go_cut [] (fun wx=>RAfter w wx b s lim x ⟨t,0,[]⟩ vo)
 case first=>
  go_wp2_with (at_builtin; go_must (refine wpList_append_lies _ rfl _ _ _ rfl 0 90 i0 _ 3 32 Tryz.underlying47 hi0 hz0 hz1 hz2 rfl (by omega) vo x.out.length (x.out.flatMap cNode) rfl (HH.out.1.out.alloc _) ⟨w.heap.size,0,none⟩ 1 1 (cNode ⟨t,0,[]⟩) rfl rfl (World.news_of_block (cs:= #[.int .u8 t.toNat,.int .i64 0,.string ⟨#[]⟩]) (t:=90) (fr:=(0,0)) (heap_alloc_new w _)) (by simp [cNode,Value.oneCell']) (by omega) (by unfold maxLen; omega) (by omega) (by omega) (w.heap.size+1) (by simp) ?_))
  intro gg cap w1x hown1 hgrow hat hlt;have k5:=Bs hgrow c5 HH.out.1.ob.ne;have e5:=Bt hgrow c5 f5 HH.out.1.ob.ne;go_wp2_with fail;go_meet
  exact HH.out.1.afterOut hown1 (AA hgrow) (hat.elim .inl (fun e=> .inr (by omega)))
 case rest=>
  obtain⟨vo',hy,hyf,hyn⟩:=hcut;have HY:=zz (aN hy (aN hyf hyn));clear hy hyf hyn c5 f5;obtain⟨_,_,_,_,_,_,_,c9,_⟩:=HY.out.1.rd.cells;have f9:=HY.out.1.rd.free 9;have hzz:=HY.out.1.rd.setFrames (x.frames+1);have en:((x.frames+1:Nat):Int)=(x.frames:Int)+1:=by omega
  rw [en]at hzz;have hzf:Fr (It b) wc (wc.setCell ⟨b,9,none⟩ (.int .i64 ((x.frames:Int)+1))):=It.set _;have HZ:=zz (show Ins s lim d e t x x1 q0 b (rfoot b vo) w (wc.setCell ⟨b,9,none⟩ (.int .i64 ((x.frames:Int)+1))) q0 [] (e - q0) x1 0 [] (rfoot b vo')from by
   have hx1:=HH.out.2.2.2.2.2.2.1;have hok:=HH.out.2.1;have hol:=HH.out.2.2.2.2.2.2.2.2.2.2.1;refine⟨⟨vo',by rw [hx1]; exact HY.out.1.step hzz hzf rfl,rfl⟩,HY.out.2.1.step HY.out.2.2 (It.foot hzf),HY.out.2.2,?_,by rw [hx1],by rw [hx1],Int.le_refl _,by omega,hqe,Nat.le_refl _,rfl⟩;rw [hx1];exact⟨hok.ps,hok.pb,hok.taken,by show((x.out++ [_]).length:Int)<=lim.i; rw [List.length_append]; simp only [List.length_cons,List.length_nil]; omega⟩)
  clear hzz hzf en HY;go_wp2;clear c9 f9;go_loopw [2,13] (fun aa ll wr=>∃(k m:Nat) (last:Bytes) (z:St) (i:Int) (l:List Px.Node) (F1:Nat->Prop),k<=e/\aa= .int .i64 (k:Nat)/\ll=S last/\Hid (Ins s lim d e t x x1 q0 b (rfoot b vo) w wr k last m z i l F1)) (fun aa _ _=>e - (intOf aa).toNat)
  case atStart=>exact⟨q0,_,[],x1,0,[],_,hqe,rfl,rfl,HZ⟩
  case round=>
   clear HZ;obtain⟨k,m,last,z,i,l,F1,hke,rfl,rfl,HR⟩:=hrel;by_cases hlt:k<e
   ·have hltz:(k:Int)<(e:Int):=by omega
    have hst:=L5 s lim d e x.out.length t.toNat m z k last hlt HR.out.fuel;have hcall:=HH.out.2.2.1 b k (dp+1) z (some e) F1 wr HR.out.at_ HR.out.ok (by have:=HR.out.frames; have:=HH.out.2.2.2.2.2.2.2.2.2.1; omega) (by have:=HH.out.2.2.2.2.2.2.2.2.1; omega) (fun v hv=>by cases hv; exact he5);rw [show((dp+1:Nat):Int)=(dp:Int)+1 by omega,show endI (some e)=(e:Int)from rfl]at hcall;have HC:=zz hcall;clear hcall;go_wp2_with fail;refine HC.out.mono ?_;rintro r w2 ⟨rfl,hd⟩;cases hr:R5.elem s lim d z k (some e)with
    | mk o z2=>
     rw [hr]at hd hst;cases o with
     | none=>
      have HE2:=zz (HH.out.2.2.2.1 z2 (HH.out.2.2.2.2.2.1.trans (HR.out.run.trans hst)));have HDD:=zz (Did.trans HR.out.fr HR.out.fresh hd);clear hr hd hst HC;unfold itemV;go_wp2;go_ret2
      rw [HE2.out];exact⟨rfl,HDD.out⟩
     | some q=>
      obtain⟨l2,hsn⟩:=E5.Ce s lim d z z2 k q (some e) HR.out.ok hr;have hfr2:=Iy s lim d z z2 k q (some e) HR.out.ok hr;have hout2:z2.out=x.out++⟨t,i,[]⟩::(l++l2):=by rw [hsn.out,HR.out.out,List.append_assoc,List.cons_append]
      have hqe2:q<=e:=hsn.le e rfl;have hkq:k<q:=hsn.lt;have hqs:q<=s.length:=hsn.ok.ps;have hme:z2.out[x.out.length]?=some ⟨t,i,[]⟩:=by rw [hout2]; simp
      obtain⟨F2,⟨vo2,hrp,rfl⟩,d2,d3⟩:=hd;obtain⟨go,capo,hvo2,ho1,ho2,kk,kfo⟩:=hrp.kids hme;have hml:(x.out.length:Int)<(z2.out.length:Int):=by rw [hout2,List.length_append,List.length_cons]; omega
      have hbz:R5.bump z2.out x.out.length=x.out++⟨t,i+1,[]⟩::(l++l2):=by rw [hout2]; exact L4 _ _ _ _
      have hqb:(q:Int)<=lim.b:=hsn.ok.pb;have hik:=HR.out.ik;have hi0':=HR.out.i0;have hqk:q<=262144:=by omega
      have hwk:IntKind.i64.wrap (i+1)=i+1:=IntWalk.i64_in _ ⟨by omega,by omega⟩;have HX:=zz (aN hrp (aN (HR.out.fr.step HR.out.fresh d2) (aN (Fresh.trans HR.out.fresh HR.out.fr.size d3) (aN hsn (aN hfr2 (aN hout2 (aN hme (aN hvo2 hbz))))))));have c5:=hrp.cell5;rw [hvo2]at c5;simp only at kk;clear hr hrp d2 d3 hsn hfr2 hout2 hme hvo2 hbz hqb HC;unfold itemV;go_upto_region 11 with fail
      go_region
      obtain⟨w3,hw3⟩:∃w3,w3=(w2.setCell ⟨go,x.out.length*3+1,none⟩ (.int .i64 (i+1))).drew:=⟨_,rfl⟩
      rw [<-hw3];have HX2:=zz (show RdRep w3 b s lim {z2 with out:=R5.bump z2.out x.out.length} vo2/\Fr (rfoot b vo) w w3 from by
       have h1:=HX.out.1;have h0:=HX.out.2.2.2.2.2.2.2.1;rw [h0]at h1;have h2:=(h1.bumpAt HX.out.2.2.2.2.2.2.1).drewN 1;rw [<-h0]at h2;rw [hw3];refine⟨h2,HX.out.2.1.step HX.out.2.2.1 ?_⟩;exact((fR (rfoot b vo2) w2).setCell (p:=⟨go,x.out.length*3+1,none⟩) (.inl (.inr (by rw [h0]; rfl))) _).drew)
      clear hw3 c5 kk kfo hwk;have c0:=HX2.out.1.rd.cells.1;have hslc:=fun w=>Bc s k q (Nat.le_of_lt hkq) hqs w
      obtain⟨key,hkey⟩:∃key,key=(s.take q).drop k:=⟨_,rfl⟩
      rw [<-hkey]at hslc hst;clear hkey;have hq:((((t.toNat:Int)==49)=true/\Op.bytesLess key last=true)/\(t.toNat==49 && Op.bytesLess key last)=true)\/(((((t.toNat:Int)==49)=true/\Op.bytesLess key last=false)\/((t.toNat:Int)==49)=false)/\¬(t.toNat==49 && Op.bytesLess key last)=true):=by
       by_cases e1:t.toNat=49
       ·have b1:((t.toNat:Int)==49)=true:=beq_iff_eq.2 (by omega);cases e2:Op.bytesLess key last with
        | true=>exact .inl ⟨⟨b1,rfl⟩,by rw [beq_iff_eq.2 e1]; rfl⟩
        | false=>exact .inr ⟨.inl ⟨b1,rfl⟩,by simp⟩
       ·exact .inr ⟨.inr (bn (by omega)),by simp [e1]⟩
      rcases hq with ⟨⟨q1,q2⟩,q3⟩| ⟨q1,q3⟩
      ·rw [if_pos q3]at hst;have HE2:=zz (HH.out.2.2.2.1 _ (HH.out.2.2.2.2.2.1.trans (HR.out.run.trans hst)));clear hst q3;go_wp2_with fail;refine(AS b _ k 9 s lim _ vo2 [] _ HX2.out.1.rd).mono ?_;rintro r wf ⟨rfl,hrf,hf⟩;have HF:=zz (aN (HX2.out.1.step hrf hf rfl) (HX2.out.2.step HX.out.2.2.1 (It.foot hf)));clear hrf hf;go_wp2;go_ret2
       rw [HE2.out];exact⟨rfl,_,⟨vo2,HF.out.1,rfl⟩,HF.out.2,HX.out.2.2.1⟩
      ·rw [if_neg q3]at hst;have HI:=zz (show Ins s lim d e t x x1 q0 b (rfoot b vo) w w3 q key (m - 1) {z2 with out:=R5.bump z2.out x.out.length} (i+1) (l++l2) (rfoot b vo2)from by
        have hsn:=HX.out.2.2.2.1;refine⟨⟨vo2,HX2.out.1,rfl⟩,HX2.out.2,HX.out.2.2.1,⟨hsn.ok.ps,hsn.ok.pb,hsn.ok.taken,?_⟩,HX.out.2.2.2.2.1.trans HR.out.frames,HX.out.2.2.2.2.2.2.2.2,by omega,by omega,hqe2,by have:=HR.out.fuel; omega,HR.out.run.trans hst⟩;have:=hsn.ok.out;show((R5.bump z2.out x.out.length).length:Int)<=lim.i;rw [D5.Ba]; exact this)
       clear hst q3;rcases q1 with ⟨q1,q2⟩| q1
       all_goals
        go_wp2;go_roundw
        case rel=>exact⟨q,m - 1,key,_,_,_,_,hqe2,rfl,rfl,HI⟩
        case measure=>simp [intOf]; omega
   ·have hltz:¬(k:Int)<(e:Int):=by omega
    obtain rfl:k=e:=by omega
    have hend:=Nl s (fun x p=>R5.elem s lim d x p (some k)) x.out.length k t.toNat m z last;have HE2:=zz (HH.out.2.2.2.2.1 z (HH.out.2.2.2.2.2.1.trans (HR.out.run.trans hend)));obtain⟨F1,⟨vo1,hrp,rfl⟩,hfr1,hfs1⟩:Did w b s lim (rfoot b vo) z wr:=⟨F1,HR.out.at_,HR.out.fr,HR.out.fresh⟩
    obtain⟨_,_,_,_,_,_,_,c9,_⟩:=hrp.rd.cells;rw [HR.out.frames]at c9;have f9:=hrp.rd.free 9;have en:((x.frames+1:Nat):Int)=(x.frames:Int)+1:=by omega
    rw [en]at c9;have hzz:=hrp.rd.setFrames x.frames;have hzf:Fr (It b) wr (wr.setCell ⟨b,9,none⟩ (.int .i64 (x.frames:Nat))):=It.set _;have HF:=zz (aN (hrp.step hzz hzf rfl) (aN (hfr1.step hfs1 (It.foot hzf)) hfs1));clear hend hrp hfr1 hfs1 hzz hzf en hlt;go_wp2;go_ret2
    rw [HE2.out];refine⟨rfl,_,⟨vo1,?_,rfl⟩,HF.out.2.1,HF.out.2.2⟩;have hf:=HR.out.frames;show RdRep _ b s lim {z with frames:=z.frames - 1} vo1;rw [hf,Nat.add_sub_cancel];exact HF.out.1
theorem DD{s:Bytes}{lim:Lim}{x y z:St}{p n q:Nat}(hok:D5.Ok s lim x p)(hv:R5.want s lim x p=(true,y))(h:R5.length s lim y (p+1)=(some (n,q),z)):
  q<=s.length/\(q:Int)<=lim.b/\n<4294967296:=by
 have ht:y.taken=p+1:=by
  rw [DP hv];unfold take;simp only;rw [hok.taken,Nat.max_eq_right (Nat.le_succ p)]
 have:=D5.CH (s:=s) (lim:=lim) ht;rw [h]at this;obtain⟨_,_,h1,h2,_,h3⟩:=this;exact⟨h1,h2,h3⟩
theorem Hq(s:Bytes)(lim:Lim)(hs:s.length<=140737488355327)(hm:lim.may=true)(b p dp:Nat)(e:Option Nat)(room:Bool)(hr1:room=false->lim.d<=(dp:Int))(hr2:room=true->¬lim.d<=(dp:Int))(x:St)(vo:Value)(w:World)(h:RdRep w b s lim x vo)(hok:D5.Ok s lim x p)(z:St)(hh:R5.head s lim room x p e=(none,z)):
  Calls Tryz.prog 120 #[.pointer (some ⟨b,0,none⟩),.int .i64 (p:Nat),.int .i64 (dp:Nat),.int .i64 (endI e)] w fun r w'=>r= .returned (itemV none)/\Did w b s lim (rfoot b vo) z w':=by
 have hmay:=E5.Aw hm;rcases KH hh with hv | ⟨y,hv,⟨hi,rfl⟩| ⟨hi,⟨ht,rfl⟩| ⟨ht,⟨hin,hrm,rfl⟩| ⟨hrm,hl | ⟨n,q,u,v,hl,hev,hlt,rfl⟩⟩⟩⟩⟩
 ·exact Ng s lim hs hm b p dp _ x vo w h hok z hv
 ·exact Nh s lim hs hm b p dp _ x vo w h hok y hv hi
 ·exact NS s lim hs hm b p dp _ x vo w h hok y hv hi ht
 ·exact Ni s lim hs hm b p dp _ x vo w h hok y hv hi ht hin (hr1 hrm)
 ·cases hin:inner (s.getD p 0).toNat with
  | true=>exact LX s lim hs hm b p dp _ x vo w h hok y hv hi ht hin (hr2 (hrm hin)) z hl
  | false=>exact LZ s lim hs hm b p dp _ x vo w h hok y hv hi ht hin z hl
 ·subst hev;obtain⟨f1,f2,f3⟩:=DD hok hv hl;cases hin:inner (s.getD p 0).toNat with
  | true=>exact LY s lim hs hm b p dp _ x vo w h hok y hv hi ht hin (hr2 (hrm hin)) n q u hl ⟨by omega,f3⟩ (show(0:Int)<=(v:Int) by omega) (show(v:Int)<(q:Int)+n by omega)
  | false=>exact L0 s lim hs hm b p dp _ x vo w h hok y hv hi ht hin n q u hl ⟨by omega,f3⟩ (show(0:Int)<=(v:Int) by omega) (show(v:Int)<(q:Int)+n by omega)
theorem KI{e:Option Nat}{n q:Nat}(he:∀v,e=some v->q+n<=v):¬0<=endI e\/(0<=endI e/\¬endI e<(q:Int)+n):=by
 cases e with
 | none=>left; show ¬(0:Int)<= -1; omega
 | some v=>right; have:=he v rfl; show(0:Int)<=(v:Int)/\¬(v:Int)<(q:Int)+n; constructor<;>omega
theorem Gv(s:Bytes)(lim:Lim)(hs:s.length<=140737488355327)(hm:lim.may=true)(b p dp:Nat)(e:Option Nat)(room:Bool)(x:St)(vo:Value)(w:World)(h:RdRep w b s lim x vo)(hok:D5.Ok s lim x p)(n q:Nat)(z:St)(hh:R5.head s lim room x p e=(some (n,q),z))(hin:inner (s.getD p 0).toNat=false):
  Calls Tryz.prog 120 #[.pointer (some ⟨b,0,none⟩),.int .i64 (p:Nat),.int .i64 (dp:Nat),.int .i64 (endI e)] w fun r w'=>r= .returned (itemV (R5.leaf s lim z (s.getD p 0) p q n).1)/\Did w b s lim (rfoot b vo) (R5.leaf s lim z (s.getD p 0) p q n).2 w':=by
 have hmay:=E5.Aw hm;obtain⟨y,hv,hi,ht,_,hl,he⟩:=EW hh;obtain⟨f1,f2,f3⟩:=DD hok hv hl;have hE:=KI he;unfold R5.leaf;cases ha:(if n=0 then(true,z)else R5.want s lim z (q+n - 1))with
 | mk bv u=>
  cases bv with
  | false=>exact NT s lim hs hm b p dp _ x vo w h hok y hv hi ht hin n q z hl ⟨by omega,f3,f1⟩ hE u ha
  | true=>
   simp only;cases hbd:R5.body (s.getD p 0).toNat ((s.take (q+n)).drop q)with
   | false=>
    rw [if_neg (by simp)];exact Nj s lim hs hm b p dp _ x vo w h hok y hv hi ht hin n q z hl ⟨by omega,f3,f1⟩ hE u ha hbd
   | true=>
    rw [if_pos rfl];exact Nk s lim hs hm b p dp _ x vo w h hok y hv hi ht hin n q z hl ⟨by omega,f3,f1⟩ hE u ha hbd
theorem L6(s:Bytes)(lim:Lim)(hs:s.length<=140737488355327)(hm:lim.may=true):∀d,ElemC s lim d:=by
 intro d
 induction d with
 | zero=>
  intro b p dp x e F w hat hok hfr hdl hev;obtain⟨vo,h,rfl⟩:=hat;unfold R5.elem;cases hh:R5.head s lim false x p e with
  | mk o z=>
   cases o with
   | none=>exact Hq s lim hs hm b p dp e false (fun _=>by omega) (fun e=>by cases e) x vo w h hok z hh
   | some v=>
    obtain⟨n,q⟩:=v;obtain⟨_,_,_,_,hrm,_⟩:=EW hh;exact Gv s lim hs hm b p dp e false x vo w h hok n q z hh (by
     cases hin:inner (s.getD p 0).toNat with
     | false=>rfl
     | true=>exact absurd (hrm hin) (by decide))
 | succ d ih=>
  intro b p dp x e F w hat hok hfr hdl hev;obtain⟨vo,h,rfl⟩:=hat;unfold R5.elem;cases hh:R5.head s lim true x p e with
  | mk o z=>
   cases o with
   | none=>exact Hq s lim hs hm b p dp e true (fun e=>by cases e) (fun _=>by omega) x vo w h hok z hh
   | some v=>
    obtain⟨n,q⟩:=v;simp only;cases hin:inner (s.getD p 0).toNat with
    | false=>
     rw [if_neg (by simp)];exact Gv s lim hs hm b p dp e true x vo w h hok n q z hh hin
    | true=>
     rw [if_pos rfl];have hmay:=E5.Aw hm;obtain⟨y,hv,hi,ht,_,hl,he⟩:=EW hh;obtain⟨f1,f2,f3⟩:=DD hok hv hl;obtain⟨h2,h3,h4,h5,h7,h8,h9,h10⟩:=E5.Cd hok hh;exact L3 s lim hs hm b p dp _ x vo w h hok y hv hi ht hin (by omega) n q z hl ⟨by omega,f3,f1⟩ (KI he) d (JM s lim hs hm d ih) (by omega) (by rw [h2]; exact hfr) ⟨h3,h4,by rw [h2],by rw [h2]; show(x.out.length:Int)<=lim.i; omega⟩ (by rw [h2]; exact h7)
end Go.Proofs.YtpfhollohodcjaaGreatDoor
