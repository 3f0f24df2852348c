/-
  The walk over the reference's begins, layer 16.
-/
import Derived.Test.YtahojodgmjmpnaaDoorZfJ
namespace Go.Proofs.YtahojodgmjmpnaaDoor
open Go.RowKit Go.Px

theorem wpList_append_rowT {w : World} {ops : Array Oper} {rest : List Oper} {o : Oper} {a : Act} {Q : Exit → Act → World → Prop} (hgd : o.guard = none) (s x : Operand)
    (ho : o.op = .call { callee := .builtin .append, args := #[s, x], argTypes := #[62, 62] }) {g cap n : Nat} {l : Bytes} (hn : l.length = n) (hs : a.eval s = .slice (some ⟨g, 0, none⟩) n cap) (h : RowT w g cap l) (hl : l.length ≤ 1000000)
    (c : UInt8) (ad : Nat) (hx : a.eval x = .slice (some ⟨ad, 0, none⟩) 1 1) (hc : w.cell? ⟨ad, 0, none⟩ = some (.int .u8 (c.toNat : Nat)))
    (k : ∀ g' cap' w', RowT w' g' cap' (l ++ [c]) → Fr (fun k => k = g) w w' → (g' = g ∨ g' = w.heap.size) → wpList Tryd.prog ops Q rest (a.put o.dst (.slice (some ⟨g', 0, none⟩) (n + 1) cap')) w') : wpList Tryd.prog ops Q (o :: rest) a w :=
  wpList_plain hgd fun _ hK => by
    subst hn
    obtain ⟨g', cap', w', hr, h1, h2, h3⟩ := h.push hl c ad o.type hc
    unfold Oper.wp execOp
    simp only [ho, resolve, invoke, builtin, Sem.run_bind, Sem.run_pure, Result.andThen_ok, List.map_toArray, List.map_cons, List.map_nil, hs, hx, hr]
    exact hK _ _ (k g' cap' w' h1 h2 h3)
theorem Fr.toSameG {F : Nat → Prop} {w w' : World} (h : Fr F w w') (hF : ∀ k, F k → w.heap.size ≤ k) : Same w w' :=
  ⟨h.os, h.tape, h.output, h.size, fun b hb _ => h.block b hb (fun x => by have := hF b x; omega)⟩
def fillL : List UInt8 := [128, 191, 144, 160]
/-- Is that a sign? -/
def probe (l : Bytes) (n : Nat) (f : UInt8) : Bool := R6.utf (l ++ List.replicate (n - l.length) f) == n
theorem begins_true (l : Bytes) (n k : Nat) (h1 : l.length ≤ n) (h2 : n ≤ 4) (hk : k < 4) (h : probe l n (fillL.getD k 0) = true) : R6.begins l = true := by
  unfold R6.begins
  simp only [List.any_eq_true, List.mem_range]
  refine ⟨n - l.length, by omega, fillL.getD k 0, ?_, ?_⟩
  · have hk' : k = 0 ∨ k = 1 ∨ k = 2 ∨ k = 3 := by omega
    rcases hk' with rfl | rfl | rfl | rfl <;> simp [fillL]
  · unfold probe at h
    rw [beq_iff_eq] at h ⊢
    rw [h]
    omega
theorem begins_false (l : Bytes) (h : ∀ n, l.length ≤ n → n ≤ 4 → ∀ k, k < 4 → probe l n (fillL.getD k 0) = false) : R6.begins l = false := by
  cases hb : R6.begins l with
  | false => rfl
  | true =>
    exfalso
    unfold R6.begins at hb
    simp only [List.any_eq_true, List.mem_range] at hb
    obtain ⟨m, hm, f, hf, hu⟩ := hb
    have hk : ∃ k, k < 4 ∧ fillL.getD k 0 = f := by
      simp only [List.mem_cons, List.not_mem_nil, or_false] at hf
      rcases hf with rfl | rfl | rfl | rfl
      · exact ⟨0, by omega, rfl⟩
      · exact ⟨1, by omega, rfl⟩
      · exact ⟨2, by omega, rfl⟩
      · exact ⟨3, by omega, rfl⟩
    obtain ⟨k, hk4, hkf⟩ := hk
    have h2 := h (l.length + m) (by omega) (by omega) k hk4
    rw [hkf] at h2
    unfold probe at h2
    rw [show l.length + m - l.length = m by omega] at h2
    rw [hu] at h2
    cases h2
theorem fill_0 (w : World) : (Instr.index 122 (.agg #[.int .u8 128, .int .u8 191, .int .u8 144, .int .u8 160]) (.int .i64 0)).run Tryd.prog w = .ok (.int .u8 128) w := by kernel_rfl
theorem fill_1 (w : World) : (Instr.index 122 (.agg #[.int .u8 128, .int .u8 191, .int .u8 144, .int .u8 160]) (.int .i64 1)).run Tryd.prog w = .ok (.int .u8 191) w := by kernel_rfl
theorem fill_2 (w : World) : (Instr.index 122 (.agg #[.int .u8 128, .int .u8 191, .int .u8 144, .int .u8 160]) (.int .i64 2)).run Tryd.prog w = .ok (.int .u8 144) w := by kernel_rfl
theorem fill_3 (w : World) : (Instr.index 122 (.agg #[.int .u8 128, .int .u8 191, .int .u8 144, .int .u8 160]) (.int .i64 3)).run Tryd.prog w = .ok (.int .u8 160) w := by kernel_rfl
theorem fill_idx (k : Nat) (hk : k < 4) (w : World) : (Instr.index 122 (.agg #[.int .u8 128, .int .u8 191, .int .u8 144, .int .u8 160]) (.int .i64 (k : Int))).run Tryd.prog w = .ok (.int .u8 ((fillL.getD k 0).toNat : Nat)) w := by
  have hk' : k = 0 ∨ k = 1 ∨ k = 2 ∨ k = 3 := by omega
  rcases hk' with rfl | rfl | rfl | rfl
  · exact fill_0 w
  · exact fill_1 w
  · exact fill_2 w
  · exact fill_3 w

set_option maxRecDepth 100000 in
set_option maxHeartbeats 8000000 in
theorem begins6 (l : Bytes) (h0 : 0 < l.length) (hl : l.length ≤ 1000000) (w : World) : Calls Tryd.prog 76 #[S l] w fun r w' => r = .returned (.bool (R6.begins l)) ∧ Same w w' := by
  have hsz : (ByteArray.mk l.toArray).size = l.length := size_S l
  obtain ⟨R, hR⟩ : ∃ R, R = R6.begins l := ⟨_, rfl⟩
  rw [← hR]
  have HRR := Px.hid hR
  have HL := Px.hid (And.intro h0 hl)
  clear hR h0 hl
  go_enter Tryd.func76, Tryd.ntmps76
  go_wp2
  go_loopw [3] (fun i wr => ∃ n : Nat, i = .int .i64 (n : Nat) ∧ l.length ≤ n ∧ n ≤ 1000100 ∧ Same w wr ∧ ∀ m, l.length ≤ m → m < n → m ≤ 4 → ∀ k, k < 4 → probe l m (fillL.getD k 0) = false) (fun i _ => 5 - (intOf i).toNat)
  case atStart => exact ⟨l.length, rfl, Nat.le_refl _, by have := HL.out.2; omega, Same.refl w, fun m h1 h2 => by omega⟩
  case round =>
    obtain ⟨n, rfl, hn, hn2, hS, hno⟩ := hrel
    have HS := Px.hid (And.intro hS (And.intro hno hn))
    clear hS hno hn
    by_cases h4 : n ≤ 4
    · have h4z : (n : Int) ≤ 4 := by omega
      have HN := Px.hid h4
      clear h4
      go_wp2
      go_loopw [14] (fun j wr => ∃ k : Nat, j = .int .i64 (k : Nat) ∧ k ≤ 4 ∧ Same w wr ∧ ∀ i, i < k → probe l n (fillL.getD i 0) = false) (fun i _ => 4 - (intOf i).toNat)
      case atStart => exact ⟨0, rfl, by omega, HS.out.1, fun i hi => by omega⟩
      case round =>
        obtain ⟨k, rfl, hk, hS2, hno2⟩ := hrel
        have HS2 := Px.hid (And.intro hS2 hno2)
        clear hS2 hno2
        by_cases hk4 : k < 4
        · have hk4z : (k : Int) < 4 := by omega
          obtain ⟨f, hf⟩ : ∃ f, fillL.getD k 0 = f := ⟨_, rfl⟩
          have hfx := fill_idx k hk4
          rw [hf] at hfx
          obtain ⟨cap, W1, hcv, hrow, hs1⟩ := conv_str l HL.out.1 HL.out.2 wr
          have H1 := Px.hid (And.intro hrow (And.intro hs1 (And.intro hf hk4)))
          have hgs : w.heap.size ≤ wr.heap.size := HS2.out.1.size
          have HG := Px.hid hgs
          clear hf hk4 hrow hs1 hgs
          go_wp2
          clear hcv
          go_loopw [6] (fun t wx => ∃ tl g cap, t = .slice (some ⟨g, 0, none⟩) tl.length cap ∧ RowT wx g cap tl ∧ tl = l ++ List.replicate (tl.length - l.length) f ∧ l.length ≤ tl.length ∧ tl.length ≤ n ∧ w.heap.size ≤ g ∧ Same w wx) (fun t _ => n - (match t with | .slice _ m _ => m | _ => 0))
          case atStart => exact ⟨l, _, cap, rfl, H1.out.1, by simp, Nat.le_refl _, HS.out.2.2, HG.out, HS2.out.1.trans H1.out.2.1⟩
          case round =>
            obtain ⟨tl, g, cap2, rfl, hrow, htl, hlt1, hlt2, hg, hsx⟩ := hrel
            have HX := Px.hid (And.intro hrow (And.intro htl (And.intro hlt1 (And.intro hlt2 (And.intro hg hsx)))))
            have htm : tl.length ≤ 1000000 := by have := HN.out; omega
            clear hrow htl hlt1 hlt2 hg hsx
            obtain ⟨T, hT⟩ : ∃ T, tl.length = T := ⟨_, rfl⟩
            rw [hT] at htm ⊢
            by_cases hlt : T < n
            · have hltz : (T : Int) < (n : Int) := by omega
              have HT := Px.hid (And.intro hT hlt)
              clear hT hlt
              go_wp2_with (at_builtin; go_must (refine wpList_append_rowT rfl _ _ rfl HT.out.1 rfl (HX.out.1.keep (Below.heap_alloc wr _ g HX.out.1.lt)) (by rw [HT.out.1]; exact htm) f wr.heap.size rfl (cellOf (heap_alloc_new wr _) 0 rfl) ?_))
              intro g' cap' w' hrow hfr hat
              have hsx : Same w w' := by
                refine Fr.toSameG (Fr.step ((HX.out.2.2.2.2.2.fr (fun k => k = g)).alloc _) (Fresh.refl _ _) hfr) (fun k e => by rw [e]; exact HX.out.2.2.2.2.1)
              have HY := Px.hid (And.intro hrow (And.intro hsx hat))
              clear hrow hfr hat hsx
              go_wp2
              go_roundw
              case rel =>
                refine ⟨tl ++ [f], g', cap', ?_, HY.out.1, ?_, ?_, ?_, ?_, HY.out.2.1⟩
                · rw [List.length_append, HT.out.1]; rfl
                · have e : (tl ++ [f]).length - l.length = (tl.length - l.length) + 1 := by
                    have := HX.out.2.2.1
                    rw [List.length_append]
                    simp
                    omega
                  rw [e, List.replicate_succ', ← List.append_assoc, ← HX.out.2.1]
                · have := HX.out.2.2.1; rw [List.length_append]; omega
                · have h1 := HT.out.1; have h2 := HT.out.2; rw [List.length_append, h1]; simp; omega
                · rcases HY.out.2.2 with e | e
                  · rw [e]; exact HX.out.2.2.2.2.1
                  · have := HX.out.2.2.2.2.2.size; rw [e]; simp; omega
              case measure => have := HT.out.2; simp; omega
            · have hTn : T = n := by have := HX.out.2.2.2.1; omega
              subst hTn
              have hstr := HX.out.1.str
              rw [hT] at hstr
              have hltz : ¬ (T : Int) < (T : Int) := by omega
              have HT := Px.hid hT
              have hpr : probe l T f = (R6.utf tl == T) := by
                unfold probe
                have h1 := HX.out.2.1
                rw [hT] at h1
                rw [← h1]
              have hut := utf_r6 tl
              obtain ⟨U, hU⟩ : ∃ U, U = R6.utf tl := ⟨_, rfl⟩
              rw [← hU] at hpr hut
              have hlm : tl.length ≤ maxLen := by unfold maxLen; omega
              have HP := Px.hid (And.intro hpr hlm)
              have HU := Px.hid hut
              clear hlt hT hpr hut hU hlm
              obtain ⟨q, hq⟩ : ∃ q, ((U : Int) == (T : Int)) = q := ⟨_, rfl⟩
              have HQ := Px.hid hq
              go_wp2_with fail
              refine (HU.out _ HP.out.2).mono ?_
              rintro e w2 ⟨rfl, hs2⟩
              have HS3 := Px.hid (HX.out.2.2.2.2.2.trans hs2)
              clear hs2
              cases q with
              | true =>
                go_wp2
                go_ret
                have hp : probe l T (fillL.getD k 0) = true := by
                  rw [H1.out.2.2.1, HP.out.1, beq_iff_eq]
                  have h : (U : Int) = (T : Int) := by simpa using HQ.out
                  omega
                have hbt := begins_true l T k HS.out.2.2 HN.out H1.out.2.2.2 hp
                rw [HRR.out, hbt]
                exact ⟨rfl, HS3.out⟩
              | false =>
                go_wp2
                go_roundw
                case rel =>
                  refine ⟨k + 1, by go_num, by have := H1.out.2.2.2; omega, HS3.out, fun i hi => ?_⟩
                  by_cases e : i = k
                  · subst e
                    rw [H1.out.2.2.1, HP.out.1, beq_eq_false_iff_ne]
                    have h : ¬ (U : Int) = (T : Int) := by simpa using HQ.out
                    omega
                  · exact HS2.out.2 i (by omega)
                case measure => have := H1.out.2.2.2; simp [intOf]; omega
        · have hk4z : ¬ (k : Int) < 4 := by omega
          have HK := Px.hid hk4
          clear hk4
          go_wp2
          go_roundw
          case rel =>
            refine ⟨n + 1, by go_num, by have := HS.out.2.2; omega, by have := HN.out; omega, HS2.out.1, fun m h1 h2 h3 k' hk' => ?_⟩
            by_cases e : m = n
            · subst e
              exact HS2.out.2 k' (by have := HK.out; omega)
            · exact HS.out.2.1 m h1 (by omega) h3 k' hk'
          case measure => have := HN.out; simp [intOf]; omega
    · have h4z : ¬ (n : Int) ≤ 4 := by omega
      have HN := Px.hid h4
      clear h4
      go_wp2
      go_ret
      have hbf := begins_false l (fun m h1 h2 k hk => HS.out.2.1 m h1 (by have := HN.out; omega) h2 k hk)
      rw [HRR.out, hbf]
      exact ⟨rfl, HS.out.1⟩
end Go.Proofs.YtahojodgmjmpnaaDoor
