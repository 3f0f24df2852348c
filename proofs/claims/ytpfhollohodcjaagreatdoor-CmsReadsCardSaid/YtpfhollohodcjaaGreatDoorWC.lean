import Derived.Test.YtpfhollohodcjaaGreatDoorWB
import Derived.WalkKit
import Derived.LaidEql
import Derived.Stop.Asserts
import Derived.RowKitTokens
set_option maxRecDepth 100000
set_option maxHeartbeats 8000000
namespace Go.Proofs.YtpfhollohodcjaaGreatDoor
open Go.RowKit Go.Px Go.Px.Co Go.Px.Cm
structure RdW (N:Nat) (w:World) (F:Nat->Prop) (pc b be:Nat) (vto:Value):Prop where
 cc:w.cell? ⟨pc,0,none⟩=some (.pointer (some ⟨b,0,none⟩))
 nc:¬F pc
 ew:EnvW w F be env0 vto
 tb:Tabs w
 gf:∀q,q=1\/q=2->¬(F q\/envFoot be vto q)
 nn:N<=w.heap.size/\∀q,vto.ownBlock=some q->N<=q
theorem RdW.keep{w w':World}{F G:Nat->Prop}{pc b be:Nat}{N:Nat}{vto:Value}(h:RdW N w F pc b be vto)(hf:Fr F w w')(hs:Fresh w F G):RdW N w' G pc b be vto:=by
 have l0:=World.block_lt_of_cell? _ _ h.cc;have l1:=World.block_lt_of_cell? _ _ (h.tb.1 0 (by decide));have l2:=World.block_lt_of_cell? _ _ (h.tb.2 0 (by decide)).1;simp only at l0 l1 l2;refine⟨(hf.cell (p:=⟨pc,0,none⟩) l0 h.nc).trans h.cc,fun e=>(hs _ e).elim h.nc (fun y=>by omega),h.ew.keep hf hs,Tabs.frg h.tb hf (fun e=>h.gf _ (.inl rfl) (.inl e)) (fun e=>h.gf _ (.inr rfl) (.inl e)),fun q hq e=>?_,⟨Nat.le_trans h.nn.1 hf.size,h.nn.2⟩⟩;rcases e with e | e
 ·rcases hs q e with y | y
  ·exact h.gf q hq (.inl y)
  ·rcases hq with rfl | rfl<;>omega
 ·exact h.gf q hq (.inr e)
theorem K6(N pc b be:Nat)(va vto:Value)(L:List Px.Node)(lim:Lim)(k:Cu)(F:Nat->Prop)(w:World)(h:CuAt w b va L lim k F)(hf:Fits L k)(hd:k.left.length<=50)(hr:∀a∈L,E5.right a=true)(hl:0<=lim.r/\lim.r<=4096)(hx:RdW N w F pc b be vto)(hv:∀q,va.ownBlock=some q->¬envFoot be vto q):
  Calls Tryz.prog 27 #[.pointer (some ⟨pc,0,none⟩),.pointer (some ⟨be,0,none⟩)] w (RunsE w b va L lim F (envFoot be vto) (BodP N be) (body L lim k)):=by
 have HD:=zz (K5 N b be va vto L lim k F w h hf hd hr hl hx.ew hv hx.tb hx.gf hx.nn);obtain⟨R,hR⟩:∃R,R=body L lim k:=⟨_,rfl⟩
 rw [<-hR]at HD ⊢;have c1:=hx.cc;clear hR h hf hd hr hl hx hv;go_enter Tryz.func27,Tryz.ntmps27;go_wp2_with fail;refine HD.out.mono ?_;intro e w1 hT;cases R with
 | error n=>
  obtain⟨⟨v,rfl,fb,rfl,hb⟩,hs⟩:=hT;have HE:=zz (aN hb hs);clear hb hs HD;go_wp2;go_ret;exact⟨⟨_,rfl,fb,rfl,HE.out.1⟩,HE.out.2⟩
 | ok q=>
  obtain⟨d,k1⟩:=q;obtain⟨rfl,hq,hfr⟩:=hT;have HE:=zz (aN hq hfr);clear hq hfr HD;go_wp2;go_ret;exact⟨rfl,HE.out.1,HE.out.2⟩
theorem BodP.stable{N be:Nat}{e:Co.Env}{F:Nat->Prop}{w w':World}(h:BodP N be e F w)(hf:Fr F w w'):BodP N be e F w':=by
 obtain⟨v,h,h2⟩:=h;exact⟨v,h.keep hf (Aa _ _),h2⟩
theorem K7(N pc b be:Nat)(va vto:Value)(L:List Px.Node)(lim:Lim)(k:Cu)(F:Nat->Prop)(w:World)(h:CuAt w b va L lim k F)(hf:Fits L k)(hd:k.left.length<=49)(hr:∀a∈L,E5.right a=true)(hl:0<=lim.r/\lim.r<=4096)(hx:RdW N w F pc b be vto)(hv:∀q,va.ownBlock=some q->¬envFoot be vto q):
  Calls Tryz.prog 26 #[.pointer (some ⟨pc,0,none⟩),.pointer (some ⟨be,0,none⟩)] w (RunsE w b va L lim F (envFoot be vto) (BodP N be) (inn L 48 (body L lim) k)):=by
 have hin:=Bd b va L lim k F (envFoot be vto) 0x30 (by decide) (by decide) 27 #[.pointer (some ⟨pc,0,none⟩),.pointer (some ⟨be,0,none⟩)] (body L lim) (BodP N be) w h hf (by omega) hr (fun _=>rfl) (Ay (C9 hr hl.2)) (fun v F w w' h hf=>h.stable hf)
  (fun w1 F1 k2 h1 h2 h3 h4 h5=>K6 N pc b be va vto L lim k2 F1 w1 h1 h2 (by omega) hr hl (hx.keep h4 h5) hv)
 rw [show((0x30:UInt8).toNat)=48 from rfl]at hin;have HD:=zz hin;obtain⟨R,hR⟩:∃R,R=inn L 48 (body L lim) k:=⟨_,rfl⟩
 rw [<-hR]at HD ⊢;have c1:=hx.cc;clear hR h hf hd hr hl hx hv hin;go_enter Tryz.func26,Tryz.ntmps26;go_wp2_with fail;refine HD.out.mono ?_;intro e w1 hT;cases R with
 | error n=>
  obtain⟨⟨v,rfl,fb,rfl,hb⟩,hs⟩:=hT;have HE:=zz (aN hb hs);clear hb hs HD;go_wp2;go_ret;exact⟨⟨_,rfl,fb,rfl,HE.out.1⟩,HE.out.2⟩
 | ok q=>
  obtain⟨d,k1⟩:=q;obtain⟨rfl,hq,hfr⟩:=hT;have HE:=zz (aN hq hfr);clear hq hfr HD;go_wp2;go_ret;exact⟨rfl,HE.out.1,HE.out.2⟩
noncomputable def wholeP (L:List Px.Node) (lim:Lim):P Co.Env:=bnd (kind L [sealedT]) fun _=>inn L 0xa0 (inn L 0x30 (body L lim))
theorem IP{L:List Px.Node}{lim:Lim}(hr:∀a∈L,E5.right a=true)(hl:lim.r<=4096):Eats L (wholeP L lim) (fun _ _=>True):=
 Ay ((Av hr [sealedT]).bnd fun _=>(((C9 hr hl).inn hr (t:=0x30) (by decide) (by decide)).inn hr (t:=0xa0) (by decide) (by decide)))
theorem K8(N pc b be:Nat)(va vto:Value)(L:List Px.Node)(lim:Lim)(k:Cu)(F:Nat->Prop)(w:World)(h:CuAt w b va L lim k F)(hf:Fits L k)(hd:k.left.length<=48)(hr:∀a∈L,E5.right a=true)(hl:0<=lim.r/\lim.r<=4096)(hx:RdW N w F pc b be vto)(hv:∀q,va.ownBlock=some q->¬envFoot be vto q):
  Calls Tryz.prog 24 #[.pointer (some ⟨pc,0,none⟩),.pointer (some ⟨be,0,none⟩)] w (RunsE w b va L lim F (envFoot be vto) (BodP N be) (wholeP L lim k)):=by
 obtain⟨R,hR⟩:∃R,R=wholeP L lim k:=⟨_,rfl⟩
 rw [<-hR];have HR:=zz hR;have H:=zz (aN h (aN hf (aN hd (aN hr (aN hl (aN hx hv))))));have c1:=hx.cc;have hal:Same w (w.alloc (.cells ([sealedT].map S).toArray 9)):=fA (fR _ w) _;have HKD:=zz (BK b va L lim k F (.slice (some ⟨w.heap.size,0,none⟩) 1 1) [sealedT] (by decide) (w.alloc (.cells ([sealedT].map S).toArray 9)) (h.same hal) hf (BM (Af w _ _) (by decide)) (fun q hq hF=>by simp only [Value.ownBlock,Option.some.injEq]at hq; have:=h.lt q hF; omega));have HAL:=zz hal;clear hR h hf hd hr hl hx hv hal;go_enter Tryz.func24,Tryz.ntmps24;go_wp2_with fail;refine HKD.out.mono ?_;intro e w1 hT;clear HKD;cases hk:kind L [sealedT] k with
 | error n=>
  rw [hk]at hT;have HI:=zz (HR.out.trans (An hk));obtain⟨⟨v,rfl,fb2,rfl,hfb⟩,hs⟩:=hT;have HE:=zz (aN hfb ((HAL.out.fr F).trans hs fun _ _ x=>x));clear hs hfb c1 hk;go_wp2;go_ret;rw [HI.out];exact⟨⟨_,rfl,fb2,rfl,HE.out.1⟩,Fr.mono HE.out.2 (fun _ x=> .inl x)⟩
 | ok q=>
  obtain⟨u,k1⟩:=q;rw [hk]at hT;obtain⟨rfl,hc,hs⟩:=hT;have HI:=zz (HR.out.trans (Ao hk));obtain⟨hf1,hl1⟩:=Aq (Av H.out.2.2.2.1 [sealedT]) hk H.out.2.1;have hfw:=(HAL.out.fr F).trans hs fun _ _ x=>x
  have hx1:=H.out.2.2.2.2.2.1.keep hfw (Aa _ _);have hin:=Bd b va L lim k1 F (envFoot be vto) 0xa0 (by decide) (by decide) 26 #[.pointer (some ⟨pc,0,none⟩),.pointer (some ⟨be,0,none⟩)] (inn L 0x30 (body L lim)) (BodP N be) w1 hc hf1 (by have:=H.out.2.2.1; omega) H.out.2.2.2.1 (fun _=>rfl) (Ay ((C9 H.out.2.2.2.1 H.out.2.2.2.2.1.2).inn H.out.2.2.2.1 (t:=0x30) (by decide) (by decide))) (fun v F w w' h hf=>h.stable hf)
   (fun w2 F1 k2 h1 h2 h3 h4 h5=>K7 N pc b be va vto L lim k2 F1 w2 h1 h2 (by have:=H.out.2.2.1; omega) H.out.2.2.2.1 H.out.2.2.2.2.1 (hx1.keep h4 h5) H.out.2.2.2.2.2.2)
  rw [show((0xa0:UInt8).toNat)=160 from rfl]at hin;have HIN:=zz hin;have c3:=hx1.cc;have HFW:=zz hfw;clear hc hs hk hf1 hl1 c1 hin hx1 hfw;go_wp2_with fail;refine HIN.out.mono ?_;intro e w2 hT;clear c3 HIN;cases hk:inn L 160 (inn L 0x30 (body L lim)) k1 with
  | error n=>
   rw [hk]at hT;have HI2:=zz (HI.out.trans hk);obtain⟨⟨v,rfl,fb2,rfl,hfb⟩,hs⟩:=hT;have HE:=zz (aN hfb ((Fr.mono HFW.out (fun _ y=>Or.inl y)).trans hs fun _ _ y=>y));clear hs hfb hk;go_wp2;go_ret;rw [HI2.out];exact⟨⟨_,rfl,fb2,rfl,HE.out.1⟩,HE.out.2⟩
  | ok q=>
   obtain⟨d,k2⟩:=q;rw [hk]at hT;have HI2:=zz (HI.out.trans hk);obtain⟨rfl,⟨F1,hc,hs1,hp⟩,hs⟩:=hT;have HE:=zz (aN hc (aN (show Fresh w F F1 from fun q hq=>(hs1 q hq).imp id (fun y=>Nat.le_trans HFW.out.size y)) (aN hp ((Fr.mono HFW.out (fun _ y=>Or.inl y)).trans hs fun _ _ y=>y))));clear hc hs hs1 hk hp;go_wp2;go_ret;rw [HI2.out];exact⟨rfl,⟨F1,HE.out.1,HE.out.2.1,HE.out.2.2.1⟩,HE.out.2.2.2⟩
end Go.Proofs.YtpfhollohodcjaaGreatDoor
namespace Go.Proofs.YtpfhollohodcjaaGreatDoor
open Go.RowKit Go.Px Go.Extern.Stop Go.Stop Go.Extern
theorem NX(t:Value)(w:World):
  Calls Tryz.prog 29 #[.nilIface,t] w fun e w'=>e= .returned (.bool false)/\w'=w:=by
 go_enter Tryz.func29,Tryz.ntmps29;go_wp2;go_ret;exact⟨rfl,rfl⟩
theorem As.valueOf27(t:Addr)(w:World):(ReflectliteValue.unpack (.iface 64 (.pointer (some t)))).run Tryz.prog w
  = .ok (.agg #[.pointer (some ⟨5,64,none⟩),.pointer (some ⟨w.heap.size,0,none⟩),.int .u64 150]) (w.alloc (.cells #[.pointer (some t)] 64)):=by kernel_rfl
theorem As.type27(a:Addr)(w:World):(ReflectliteValue.methodAny (ReflectliteValue.valueError "reflectlite.Value.Type" 0) (fun t _ _ _=>ReflectliteType.toType t) #[.agg #[.pointer (some ⟨5,64,none⟩),.pointer (some a),.int .u64 150]]).run Tryz.prog w
  = .ok (.iface 171 (.agg #[.pointer (some ⟨5,64,none⟩)])) w:=by kernel_rfl
theorem As.methodKind(h:Value)(w:World):(method 366 171 (.agg #[h]) "Kind").run Tryz.prog w= .ok (184,h) w:=by kernel_rfl
theorem As.kind27(w:World):((ReflectliteType.abiMethod fun t=>(fun a:Nat=>Value.int IntKind.u8 (a:Int))<$>Rtype.kind t) #[.pointer (some ⟨5,64,none⟩)]).run Tryz.prog w= .ok (.int .u8 22) w:=by kernel_rfl
theorem As.kind25(w:World):((ReflectliteType.abiMethod fun t=>(fun a:Nat=>Value.int IntKind.u8 (a:Int))<$>Rtype.kind t) #[.pointer (some ⟨5,62,none⟩)]).run Tryz.prog w= .ok (.int .u8 22) w:=by kernel_rfl
theorem rlm(z:Sem Value)(f:TypeId->Addr->Nat->Nat->Sem Value)(v:Value):
  ReflectliteValue.method z f #[v]=(do match<-ReflectliteValue.parts v with | none=>z | some (t,a,fl)=>f t a fl (fl % 32)):=rfl
theorem As.parts27(a:Addr)(w:World):(ReflectliteValue.parts (.agg #[.pointer (some ⟨5,64,none⟩),.pointer (some a),.int .u64 150])).run Tryz.prog w= .ok (some (64,a,150)) w:=by kernel_rfl
theorem As.isNil27(a p:Addr)(W:World)(ha:W.cell? a=some (.pointer (some p))):
  (ReflectliteValue.method (ReflectliteValue.valueError "reflectlite.Value.IsNil" 0) ReflectliteValue.isNil #[.agg #[.pointer (some ⟨5,64,none⟩),.pointer (some a),.int .u64 150]]).run Tryz.prog W= .ok (.bool false) W:=by
 rw [rlm];simp only [Sem.run_bind,As.parts27,Result.andThen];simp [ReflectliteValue.isNil,loadVar,isAgg,underlying,Tryz.underlying64,ha,Result.andThen]
theorem As.methodElem(h:Value)(w:World):(method 366 171 (.agg #[h]) "Elem").run Tryz.prog w= .ok (195,.agg #[h]) w:=by kernel_rfl
theorem As.methodImplements(h:Value)(w:World):(method 366 171 (.agg #[h]) "Implements").run Tryz.prog w= .ok (196,.agg #[h]) w:=by kernel_rfl
theorem As.methodAssignableTo(h:Value)(w:World):(method 366 171 (.agg #[h]) "AssignableTo").run Tryz.prog w= .ok (193,.agg #[h]) w:=by kernel_rfl
theorem As.elem27(w:World):(ReflectliteType.method ReflectliteType.elem #[.agg #[.pointer (some ⟨5,64,none⟩)]]).run Tryz.prog w= .ok (.iface 171 (.agg #[.pointer (some ⟨5,62,none⟩)])) w:=by kernel_rfl
theorem As.implements25(w:World):(ReflectliteType.relation "Implements" ReflectliteType.implements_ #[.agg #[.pointer (some ⟨5,62,none⟩)],.iface 171 (.agg #[.pointer (some ⟨5,55,none⟩)])]).run Tryz.prog w= .ok (.bool true) w:=by kernel_rfl
theorem As.typeOf25(v:Value)(w:World):(ReflectliteType.typeOf #[.iface 62 v]).run Tryz.prog w= .ok (.iface 171 (.agg #[.pointer (some ⟨5,62,none⟩)])) w:=by kernel_rfl
theorem As.assignable25(w:World):(ReflectliteType.relation "AssignableTo" ReflectliteType.assignableTo #[.agg #[.pointer (some ⟨5,62,none⟩)],.iface 171 (.agg #[.pointer (some ⟨5,62,none⟩)])]).run Tryz.prog w= .ok (.bool true) w:=by kernel_rfl
theorem As.valueOf25(e:Addr)(w:World):(ReflectliteValue.unpack (.iface 62 (.pointer (some e)))).run Tryz.prog w
  = .ok (.agg #[.pointer (some ⟨5,62,none⟩),.pointer (some ⟨w.heap.size,0,none⟩),.int .u64 150]) (w.alloc (.cells #[.pointer (some e)] 62)):=by kernel_rfl
theorem As.elemOf27(w:World):(Rtype.elem? 64).run Tryz.prog w= .ok (some 62) w:=by kernel_rfl
theorem As.mk25(p:Addr)(w:World):(ReflectliteValue.mk 62 p ReflectliteValue.flagAddr).run Tryz.prog w= .ok (.agg #[.pointer (some ⟨5,62,none⟩),.pointer (some p),.int .u64 406]) w:=by kernel_rfl
theorem As.elemV27(a p:Addr)(W:World)(ha:W.cell? a=some (.pointer (some p))):
  (ReflectliteValue.method (ReflectliteValue.valueError "reflectlite.Value.Elem" 0) ReflectliteValue.elem #[.agg #[.pointer (some ⟨5,64,none⟩),.pointer (some a),.int .u64 150]]).run Tryz.prog W
   = .ok (.agg #[.pointer (some ⟨5,62,none⟩),.pointer (some p),.int .u64 406]) W:=by
 rw [rlm];simp only [Sem.run_bind,As.parts27,Result.andThen];simp [ReflectliteValue.elem,loadVar,isAgg,underlying,Tryz.underlying64,ha,Result.andThen,As.elemOf27,As.mk25]
theorem rls(v x:Value):ReflectliteValue.set #[v,x]=(do
  let (some (dst,a,fl),some (src,b,_)):=(<-ReflectliteValue.parts v,<-ReflectliteValue.parts x)
   | unsupported (.noEntry "extern/(internal/reflectlite.Value).Set.zeroValue")
  if fl / ReflectliteValue.flagAddr % 2==0 then unsupported (.noEntry "extern/(internal/reflectlite.Value).Set.unaddressable")
  let val<-loadVar src b
  if<-Rtype.directlyAssignable dst src then storeVar dst a val
  else if<-Rtype.implements dst src then
   if(<-Rtype.kind src)==20 then
    match val with
    | .nilIface=>unsupported (.noEntry "extern/reflectlite: a nil value of one interface type handed on as a value of another")
    | _=>storeVar dst a val
   else storeVar dst a (.iface src val)
  else panicString ("reflectlite.Set: value of type " ++(<-Rtype.spelt src)++ " is not assignable to type " ++(<-Rtype.spelt dst))
  pure (.tuple #[])):=rfl
theorem As.parts25a(a:Addr)(w:World):(ReflectliteValue.parts (.agg #[.pointer (some ⟨5,62,none⟩),.pointer (some a),.int .u64 406])).run Tryz.prog w= .ok (some (62,a,406)) w:=by kernel_rfl
theorem As.parts25(a:Addr)(w:World):(ReflectliteValue.parts (.agg #[.pointer (some ⟨5,62,none⟩),.pointer (some a),.int .u64 150])).run Tryz.prog w= .ok (some (62,a,150)) w:=by kernel_rfl
theorem As.direct25(w:World):(Rtype.directlyAssignable 62 62).run Tryz.prog w= .ok true w:=by kernel_rfl
theorem As.set25(ta b e:Addr)(old:Value)(W:World)(hb:W.cell? b=some (.pointer (some e)))(ht:W.cell? ta=some old)(hf:W.frozen? ta=false):
  (ReflectliteValue.set #[.agg #[.pointer (some ⟨5,62,none⟩),.pointer (some ta),.int .u64 406],.agg #[.pointer (some ⟨5,62,none⟩),.pointer (some b),.int .u64 150]]).run Tryz.prog W
   = .ok (.tuple #[]) (W.setCell ta (.pointer (some e))):=by
 rw [rls];simp only [Sem.run_bind,As.parts25a,As.parts25,Result.andThen];simp [ReflectliteValue.flagAddr,loadVar,isAgg,underlying,Tryz.underlying62,hb,Result.andThen,As.direct25,storeVar,Value.cells,storeCells,Addr.add];rw [run_store Tryz.prog W ta _ _ (by rfl)];simp [ht,hf]
theorem NY(e t:Addr)(old:Value)(w:World)(hg:w.cell? ⟨0,0,none⟩=some (.iface 171 (.agg #[.pointer (some ⟨5,55,none⟩)])))(ht0:w.cell? t=some old)(hf0:w.frozen? t=false):
  Calls Tryz.prog 29 #[.iface 62 (.pointer (some e)),.iface 64 (.pointer (some t))] w fun ev w'=>ev= .returned (.bool true)/\w'=((((w.alloc (.cells #[.pointer (some t)] 64)).alloc (.cells #[.pointer (some ⟨5,64,none⟩),.pointer (some ⟨w.heap.size,0,none⟩),.int .u64 150] 124)).alloc (.cells #[.pointer (some ⟨5,64,none⟩),.pointer (some ⟨w.heap.size,0,none⟩),.int .u64 150] 124)).alloc (.cells #[.pointer (some e)] 62)).setCell t (.pointer (some e)):=by
 have h6:= @run_callFunc_extern Tryz.prog 72 _ (fun args=>ReflectliteValue.unpack (args.getD 0 (.tuple #[]))) Tryz.func72 (by kernel_rfl) (by kernel_rfl) (by kernel_rfl) (by kernel_rfl);have h7:= @run_callFunc_extern Tryz.prog 73 _ (ReflectliteValue.methodAny (ReflectliteValue.valueError "reflectlite.Value.Type" 0) (fun t _ _ _=>ReflectliteType.toType t)) Tryz.func73 (by kernel_rfl) (by kernel_rfl) (by kernel_rfl) (by kernel_rfl);have h8:= @run_callFunc_extern Tryz.prog 74 _ (ReflectliteValue.method (ReflectliteValue.valueError "reflectlite.Value.IsNil" 0) ReflectliteValue.isNil) Tryz.func74 (by kernel_rfl) (by kernel_rfl) (by kernel_rfl) (by kernel_rfl);have h27:= @run_callFunc_extern Tryz.prog 184 _ (ReflectliteType.abiMethod fun t=>do pure (.int .u8 (<-Rtype.kind t))) Tryz.func184 (by kernel_rfl) (by kernel_rfl) (by kernel_rfl) (by kernel_rfl);have h37:= @run_callFunc_extern Tryz.prog 195 _ (ReflectliteType.method ReflectliteType.elem) Tryz.func195 (by kernel_rfl) (by kernel_rfl) (by kernel_rfl) (by kernel_rfl);have h38:= @run_callFunc_extern Tryz.prog 196 _ (ReflectliteType.relation "Implements" ReflectliteType.implements_) Tryz.func196 (by kernel_rfl) (by kernel_rfl) (by kernel_rfl) (by kernel_rfl);have h10:= @run_callFunc_extern Tryz.prog 117 _ ReflectliteType.typeOf Tryz.func117 (by kernel_rfl) (by kernel_rfl) (by kernel_rfl) (by kernel_rfl);have h35:= @run_callFunc_extern Tryz.prog 193 _ (ReflectliteType.relation "AssignableTo" ReflectliteType.assignableTo) Tryz.func193 (by kernel_rfl) (by kernel_rfl) (by kernel_rfl) (by kernel_rfl);have h11:= @run_callFunc_extern Tryz.prog 118 _ (ReflectliteValue.method (ReflectliteValue.valueError "reflectlite.Value.Elem" 0) ReflectliteValue.elem) Tryz.func118 (by kernel_rfl) (by kernel_rfl) (by kernel_rfl) (by kernel_rfl);have h12:= @run_callFunc_extern Tryz.prog 119 _ ReflectliteValue.set Tryz.func119 (by kernel_rfl) (by kernel_rfl) (by kernel_rfl) (by kernel_rfl);have tO:=As.typeOf25;have mA:=As.methodAssignableTo;have a25:=As.assignable25;have v25:=As.valueOf25;have f6:=As.valueOf27;have f7:=As.type27;have mK:=As.methodKind;have mE:=As.methodElem;have mI:=As.methodImplements;have k27:=As.kind27;have k25:=As.kind25;have e27:=As.elem27;have i25:=As.implements25;have n8:=As.isNil27 ⟨w.heap.size,0,none⟩ t ((w.alloc (.cells #[.pointer (some t)] 64)).alloc (.cells #[.pointer (some ⟨5,64,none⟩),.pointer (some ⟨w.heap.size,0,none⟩),.int .u64 150] 124)) (by simp);have hlt:0<w.heap.size:=by
  rcases Nat.eq_zero_or_pos w.heap.size with h0 | h
  ·simp [World.cell?,h0]at hg
  ·exact h
 have hg2:((w.alloc (.cells #[.pointer (some t)] 64)).alloc (.cells #[.pointer (some ⟨5,64,none⟩),.pointer (some ⟨w.heap.size,0,none⟩),.int .u64 150] 124)).cell? ⟨0,0,none⟩=some (.iface 171 (.agg #[.pointer (some ⟨5,55,none⟩)])):=by
  rw [World.cell?_alloc_lt _ _ ⟨0,0,none⟩ (by simp),World.cell?_alloc_lt _ _ ⟨0,0,none⟩ hlt]; exact hg
 have htl:t.block<w.heap.size:=by
  rcases Nat.lt_or_ge t.block w.heap.size with h | h
  ·exact h
  ·simp [World.cell?,Array.getElem?_eq_none h]at ht0
 have el:=As.elemV27 ⟨w.heap.size,0,none⟩ t (((w.alloc (.cells #[.pointer (some t)] 64)).alloc (.cells #[.pointer (some ⟨5,64,none⟩),.pointer (some ⟨w.heap.size,0,none⟩),.int .u64 150] 124)).alloc (.cells #[.pointer (some ⟨5,64,none⟩),.pointer (some ⟨w.heap.size,0,none⟩),.int .u64 150] 124)) (by rw [World.cell?_alloc_lt _ _ ⟨w.heap.size,0,none⟩ (by simp; omega)]; simp);have st:=As.set25 t ⟨w.heap.size+1+1+1,0,none⟩ e old ((((w.alloc (.cells #[.pointer (some t)] 64)).alloc (.cells #[.pointer (some ⟨5,64,none⟩),.pointer (some ⟨w.heap.size,0,none⟩),.int .u64 150] 124)).alloc (.cells #[.pointer (some ⟨5,64,none⟩),.pointer (some ⟨w.heap.size,0,none⟩),.int .u64 150] 124)).alloc (.cells #[.pointer (some e)] 62))
  (by rw [World.cell?_alloc_at _ _ _ _ (by simp)]; rfl)
  (by rw [World.cell?_alloc_lt _ _ t (by simp; omega),World.cell?_alloc_lt _ _ t (by simp; omega),World.cell?_alloc_lt _ _ t (by simp; omega),World.cell?_alloc_lt _ _ t htl]; exact ht0)
  (by rw [World.frozen?_alloc_old _ _ t (by simp; omega),World.frozen?_alloc_old _ _ t (by simp; omega),World.frozen?_alloc_old _ _ t (by simp; omega),World.frozen?_alloc_old _ _ t (Nat.ne_of_lt htl)]; exact hf0)
 go_enter Tryz.func29,Tryz.ntmps29;go_wp2;refine wp_loop_rounds 1 ?_;rw [rounds_succ];go_wp2;go_ret;exact⟨rfl,rfl⟩
end Go.Proofs.YtpfhollohodcjaaGreatDoor
