/-
  The statement CmsBackUpto (the second form of CmsBack), proved: its row and its card. Printed by gen_upto.py.
-/
import Derived.Test.YtpfhollohodcjaaGreatDoorYX
namespace Go.Proofs.YtpfhollohodcjaaGreatDoor
open Go.ChangeShapes Go.WideShapes Go.ChangeAt Go.RowKit Go.Px Go.Px.Co

def cmsBackArgs : Array Value := #[.agg #[.int .i64 0, .int .i64 0, .slice none 0 0, .string ⟨#[]⟩, .string ⟨#[]⟩, .string ⟨#[]⟩, .string ⟨#[]⟩, .string ⟨#[]⟩, .string ⟨#[]⟩]]
theorem cmsBack_reads (os : Os) {H : Type} (enc : TypeId × Value → H) : ∃ places, DataW.whole enc Tryz.prog ((laidWorld os).forCall (fun _ _ => 0) ⟨#[], cmsBackArgs, []⟩).memory Tryz.f5.params.toList Rows.cmsBackSpec.vars false (cmsBackArgs).toList 8 = some ([.agg [.lit (.int .i64 0), .lit (.int .i64 0), .nil, .lit (.string []), .lit (.string []), .lit (.string []), .lit (.string []), .lit (.string []), .lit (.string [])]], [], places) :=
  ⟨[], by kernel_rfl⟩
set_option maxRecDepth 100000 in
set_option maxHeartbeats 3000000 in
theorem cmsBackUpto_lifted (os : Os) (started : os.Started) (H : Type) (enc : TypeId × Value → H) (F : Stop.Interp) :
    ReturnsInHanded {} Tryz.checked os 5 .any ((Rows.OpenSpec.upto Rows.cmsBackSpec).preRow enc Tryz.prog Tryz.f5 Rows.cmsBackUptoRow.domain false Rows.cmsBackUptoRow.laid)
      (((Rows.OpenSpec.upto Rows.cmsBackSpec).at F).post enc Tryz.prog Tryz.f5 false true false false) := by
  obtain ⟨places, hx⟩ := cmsBack_reads os enc
  refine returnsInHanded_of_row (C := Tryz.checked) (s := Rows.OpenSpec.upto Rows.cmsBackSpec) own started (by kernel_rfl) Tryz.func5
    (witness_zip (enc := enc) (C := Tryz.checked) false (laidWorld os) cmsBackArgs (laidWorld_os os) (World.shaped_of_ZipB (by kernel_rfl) (by kernel_rfl)) (by kernel_rfl)
      (OpenSpec.preRow_of_cond 8 hx (by kernel_rfl) (fun k hk => by cases hk; kernel_rfl) (by kernel_rfl) (laidWorld_met os _))) ?_
  intro W base args ds gs before hval0 hW _ hcond hsz0 hL _ _
  have hsz : (DataW.weightsEach Tryz.prog (Tryz.f5.params.toList ++ Rows.cmsBackSpec.plain.varTypes Tryz.prog) (ds ++ gs)).all (· ≤ reachBytes) = true := hsz0
  have hval : ∀ (j : Nat) t v, Tryz.f5.params[j]? = some t → args[j]? = some v → Value.okWide Tryz.prog W .any base t v := hval0
  have hL : laidMetH Tryz.prog laidL W := hL
  have hW' := hW
  obtain ⟨p, q, hA0, hV, rfl, _, _⟩ := hW
  have hA : DataW.TrodAll enc Tryz.prog W 0 (fun _ => true) true Tryz.f5.params.toList args.toList ds p := hA0
  rw [Tryz.params5] at hA hval hsz
  obtain ⟨v0, d0, rfl, rfl, h0⟩ := trodAll_one hA
  obtain ⟨rfl, rfl⟩ := trodVars_none hV
  have k0 := h0
  obtain ⟨x0, t0, a0, e0⟩ := open_env (hval 0 27 v0 rfl rfl) h0
  have r0 := env_reach hsz (j := 0) rfl rfl e0
  have n0 := env_bulk (hcond _ rfl) e0
  obtain ⟨q0, a0, i0⟩ := a0
  subst q0
  have lt0 : ∀ x ∈ p, x.block < W.heap.size := fun x hx => hW'.lt x (by simpa using hx)
  refine (law_CmsBack x0 t0 W a0 (by omega) (env_s r0 i0.2.2) (tabs_of hL) (err_of hL)).mono fun e W' ⟨he, hb⟩ => ?_
  subst he
  exact ⟨_, rfl, _, _, _, [], _, [], hW', trodAll_mk1 (shut_bool Tryz.underlying4 _), trodAll_mk1 (Below.trod laidOut (by kernel_rfl) (of_decide_eq_true (by kernel_rfl)) k0 hb lt0), rfl, hb.frame _, fun h => by cases h⟩

theorem cmsBackUpto_row : Rows.CmsBackUptoSaid :=
  OpenClaim.holds_of_cond 5 Tryz.f5 rfl rfl rfl rfl rfl rfl rfl ⟨rfl, rfl, rfl, rfl, rfl⟩ rfl rfl rfl rfl rfl (by kernel_rfl) Tryz.func5 (by kernel_rfl)
    (of_decide_eq_true (by kernel_rfl)) (by unfold Func.isWrapper; first | (rw [if_pos (by decide +kernel)]; kernel_rfl) | (rw [if_neg (by decide +kernel)]; exact ⟨rfl, rfl⟩))
    (fun os started H enc _ F => by rw [OpenClaim.pre_eq_preRow]; exact cmsBackUpto_lifted os started H enc F)
theorem cmsBackUpto_holds : Rows.CmsBackUptoCardSaid :=
  Claim7.holds_tied_plain_at .later [] [.data, .handle, .pinned] true Rows.cmsBackUptoCard.stood.harness true cmsBackUpto_row (fun _ h => by cases h) (by kernel_rfl) (fun _ h => by cases h) cmsBackUpto_row_tie rfl ⟨rfl, rfl⟩ (by kernel_rfl) rfl
    (fun f fn hf hfn => by
      obtain rfl : f = 5 := Option.some.inj ((show Tryz.prog.funcNamed "pyxis/pyxislaw23.CmsBack" = some 5 by kernel_rfl).symm.trans hf) |>.symm
      obtain rfl : fn = Tryz.f5 := (Option.some.inj (Tryz.func5.symm.trans hfn)).symm
      exact ⟨by kernel_rfl, fun j t ht => by
        rw [Tryz.params5] at ht
        have hm : t ∈ [27] := by simpa using Array.mem_of_getElem? ht
        have hall : ([27].all fun u => !Tryz.prog.wantsStandIn u) = true := by kernel_rfl
        exact (show Tryz.prog.wantsStandIn t = false by simpa using List.all_eq_true.1 hall t hm)⟩)
    (by kernel_rfl)
#print axioms cmsBackUpto_holds
end Go.Proofs.YtpfhollohodcjaaGreatDoor
