import Derived.Test.YtpfhollohodcjaaGreatDoorWD
import Derived.Test.YtpfhollohodcjaaGreatDoorWT
set_option maxRecDepth 100000
set_option maxHeartbeats 1000000
namespace Go.Proofs.YtpfhollohodcjaaGreatDoor
open Go.ChangeShapes Go.WideShapes Go.ChangeAt Go.RowKit Go.Px
theorem FS(os:Os)(started:os.Started)(H:Type)(enc:TypeId×Value->H):
  ReturnsInHanded {} Tryz.checked os 3 .any (fun w args=>(Rows.cmsReadsSpec.pre enc Tryz.prog Tryz.f3 [] false w args/\laidMetH Tryz.prog laidL w)/\sizedMet enc Tryz.prog Tryz.f3 (OpenSpec.ofChange Rows.cmsReadsSpec) false w args)
   (Rows.cmsReadsSpec.post enc Tryz.prog Tryz.f3 false true false false):=by
 refine returnsInHanded_of_change_and (C:=Tryz.checked) (X:=fun w _=>laidMetH Tryz.prog laidL w) (fun _ _ _ hh h=>h.of_heap hh) own started (by kernel_rfl) Tryz.func3
  (ChangeSpec.witness_shaped (enc:=enc) (C:=Tryz.checked) (os:=os) (X:=fun w _=>laidMetH Tryz.prog laidL w) false (laidWorld os) #[.string ⟨#[]⟩,.agg #[.int .i64 0,.int .i64 0,.int .i64 0,.int .i64 0]] 8 (Hz os)
   (World.shaped_of_ZipB (by kernel_rfl) (by kernel_rfl)) (by kernel_rfl) (by kernel_rfl) (by kernel_rfl)
   (GN os _)) ?_
 intro W base args ds gs before hval0 hW _ hsz0 hL _;have hsz:(DataW.weightsEach Tryz.prog (Tryz.f3.params.toList++Rows.cmsReadsSpec.plain.varTypes Tryz.prog) (ds++gs)).all (· <=reachBytes)=true:=hsz0;have hval:∀(j:Nat) t v,Tryz.f3.params[j]?=some t->args[j]?=some v->Value.okWide Tryz.prog W .any base t v:=hval0;have hW':=hW;obtain⟨p,q,hA0,hV,rfl,_,_⟩:=hW;have hA:DataW.TrodAll enc Tryz.prog W 0 (fun _=>true) true Tryz.f3.params.toList args.toList ds p:=hA0;rw [Tryz.params3]at hA hval hsz;obtain⟨v0,v1,d0,d1,p0,p1,rfl,rfl,rfl,h0,h1⟩:=trodAll_two hA;obtain⟨rfl,rfl⟩:=trodVars_none hV;have k0:=h0;have k1:=h1;obtain⟨s0,rfl,rfl,_⟩:=J4 (hval 0 9 v0 rfl rfl) h0;have b0:=Mo (sized_string hsz (j:=0) (t:=9) rfl rfl);obtain⟨l1,rfl,b1⟩:=Mn (hval 1 23 v1 rfl rfl) h1;have hlt:∀x∈p0++p1,x.block<W.heap.size:=fun x hx=>hW'.lt x (by simpa using hx)
 have lt0:∀x∈p0,x.block<W.heap.size:=fun x hx=>hlt x (by simp [hx])
 have lt1:∀x∈p1,x.block<W.heap.size:=fun x hx=>hlt x (by simp [hx])
 refine(Ih s0 l1 W b0 (Nu hL) (N1 hL)).mono fun e W' ⟨he,hb⟩=>?_
 subst he;exact⟨_,rfl,_,_,_,[],_,[],hW',trodAll_mk1 (shut_bool Tryz.underlying4 _),trodAll_mk2 (Below.trod Jn (by kernel_rfl) (of_decide_eq_true (by kernel_rfl)) k0 hb lt0) (Below.trod Jn (by kernel_rfl) (of_decide_eq_true (by kernel_rfl)) k1 hb lt1),rfl,hb.frame _,fun h=>by cases h⟩
theorem Ii:Rows.CmsReadsSaid:=
 OpenClaim.holds_of_wide 3 Tryz.f3 rfl rfl rfl rfl rfl rfl rfl ⟨rfl,rfl,rfl,rfl,rfl⟩ rfl rfl rfl rfl rfl (by kernel_rfl) Tryz.func3 (by kernel_rfl)
  (of_decide_eq_true (by kernel_rfl)) (by unfold Func.isWrapper; first | (rw [if_pos (by decide+kernel)]; kernel_rfl)| (rw [if_neg (by decide+kernel)]; exact⟨rfl,rfl⟩))
  (fun os started H enc _=>FS os started H enc)
theorem cmsReads_holds:Rows.CmsReadsCardSaid:=
 Claim7.holds_tied_plain_at .later [] [.data,.handle,.pinned] true Rows.cmsReadsCard.stood.harness true Ii (fun _ h=>by cases h) (by kernel_rfl) (fun _ h=>by cases h) cmsReads_row_tie rfl ⟨rfl,rfl⟩ (by kernel_rfl) rfl
  (fun f fn hf hfn=>by
   obtain rfl:f=3:=Option.some.inj ((show Tryz.prog.funcNamed "pyxis/pyxislaw23.CmsReads" =some 3 by kernel_rfl).symm.trans hf)|>.symm
   obtain rfl:fn=Tryz.f3:=(Option.some.inj (Tryz.func3.symm.trans hfn)).symm;exact⟨by kernel_rfl,fun j t ht=>by
    rw [Tryz.params3]at ht;have hm:t∈ [9,23]:=by simpa using Array.mem_of_getElem? ht
    have hall:([9,23].all fun u=> !Tryz.prog.wantsStandIn u)=true:=by kernel_rfl
    exact(show Tryz.prog.wantsStandIn t=false by simpa using List.all_eq_true.1 hall t hm)⟩)
  (by kernel_rfl)
#print axioms cmsReads_holds
end Go.Proofs.YtpfhollohodcjaaGreatDoor
