/-
  Several texts in one: The walks over the reference's Text, quoted and right (layer 16's Encode). Numbers of the call's own as a stack; three such stacks apart from one another. The walk over the reference's Behind (layer 16).
-/
import Derived.Test.YtahojodgmjmpnaaDoorTM
import Derived.Test.YtahojodgmjmpnaaDoorZjJ
import Derived.Test.YtahojodgmjmpnaaDoorTK
import Derived.Test.YtahojodgmjmpnaaDoorTN
import Derived.Deep.DeepCutAuto
import Derived.BigQuiet
/-! The walks over the reference's Text, quoted and right (layer 16's Encode). -/
namespace Go.Proofs.YtahojodgmjmpnaaDoor
open Go.RowKit Go.Px Go.Px.Utf

set_option maxHeartbeats 1000000 in
theorem text_any (l : Bytes) (w : World) (hlen : l.length ≤ maxLen) : Calls Tryd.prog 42 #[S l] w fun e w' => e = .returned (.bool (Lib.validD l)) ∧ Same w w' := by
  have hlen2 := hlen
  unfold maxLen at hlen
  have hsz : (ByteArray.mk l.toArray).size = l.length := size_S l
  have HL := Px.hid hlen2
  clear hlen2
  go_enter Tryd.func42, Tryd.ntmps42
  go_wp2
  go_loopw [3, 4] (fun i _ wr => ∃ k n : Nat, k ≤ l.length ∧ i = .int .i64 (k : Nat) ∧ l.length - k ≤ n ∧ Lib.validGoD n (l.drop k) = Lib.validD l ∧ Same w wr) (fun i _ _ => l.length - (intOf i).toNat)
  case atStart => exact ⟨0, l.length, Nat.zero_le _, rfl, by omega, rfl, Same.refl w⟩
  case round =>
    obtain ⟨k, n, hk, rfl, hn, hv, hs⟩ := hrel
    by_cases hlt : k < l.length
    · have hltz : (k : Int) < (l.length : Int) := by omega
      have hfr : ∀ w, (Instr.slice 9 (S l) (some (.int .i64 (k : Int))) none none).run Tryd.prog w = .ok (S (l.drop k)) w := fun w => from_S l k hk w
      have hne : l.drop k ≠ [] := by intro e; have := congrArg List.length e; simp at this; omega
      obtain ⟨m, rfl⟩ : ∃ m, n = m + 1 := ⟨n - 1, by omega⟩
      have hst := validGoD_step m (l.drop k) hne
      rw [hv] at hst
      have hle := utfW_le (l.drop k)
      rw [List.length_drop] at hle
      rw [List.drop_drop] at hst
      have hll : (l.drop k).length ≤ maxLen := by have := HL.out; rw [List.length_drop]; omega
      have HST := Px.hid (And.intro hst (And.intro hll hs))
      clear hst hll hs hv hne
      go_wp2_with fail
      refine (utf_any (l.drop k) _ HST.out.2.1).mono ?_
      rintro e w' ⟨rfl, hs⟩
      have HS := Px.hid (HST.out.2.2.trans hs)
      have HST := Px.hid HST.out.1
      clear hs
      obtain ⟨u, hu⟩ : ∃ u, u = utfW (l.drop k) := ⟨_, rfl⟩
      rw [← hu] at hle ⊢
      have HU := Px.hid hu
      clear hu
      by_cases h0 : u = 0
      · have hr : Lib.validD l = false := by rw [HST.out, if_pos (by rw [← HU.out]; exact h0)]
        have H := Px.hid hr
        clear hr
        subst h0
        go_wp2
        go_ret
        rw [H.out]
        exact ⟨rfl, HS.out⟩
      · have hr : Lib.validD l = Lib.validGoD m (l.drop (k + u)) := by rw [HST.out, if_neg (by rw [← HU.out]; exact h0), ← HU.out]
        have H := Px.hid hr
        have h0z : ((u : Int) == 0) = false := by simp; omega
        clear hr
        go_wp2
        go_roundw
        case rel => exact ⟨k + u, m, by omega, by go_num, by omega, H.out.symm, HS.out⟩
        case measure => simp [intOf]; omega
    · have hltz : ¬ (k : Int) < (l.length : Int) := by omega
      have hd : l.drop k = [] := List.drop_eq_nil_of_le (by omega)
      rw [hd, validGoD_nil] at hv
      have H := Px.hid (And.intro hv hs)
      clear hd hv hs
      go_wp2
      go_ret
      rw [← H.out.1]
      exact ⟨rfl, H.out.2⟩
theorem Mine.rowT {w wr : World} {v : Value} {out : Bytes} {L : Nat} {RL : List Value} (h : Mine w wr v out) (hL : out.length = L) (hRL : out.flatMap cByte = RL) : wr.ownsRow 0 5 1 v L RL := by
  have := h.own
  unfold Owns at this
  rw [hRL, hL] at this
  exact this
set_option maxRecDepth 100000 in
set_option maxHeartbeats 8000000 in
theorem quoted_any (s : Bytes) (hs : s.length ≤ 1000000) (w : World) : Calls Tryd.prog 43 #[S s] w fun r w' => r = .returned (S (E6.told s)) ∧ Same w w' := by
  have hsz : (ByteArray.mk s.toArray).size = s.length := size_S s
  obtain ⟨i0, hi0, hz0, hz1, hz2⟩ := info_parts Tryd.infoU8
  have hall := Px.hid (show tl s s.length ++ [34] = E6.told s by unfold tl E6.told; rw [List.take_length]; rfl)
  have H0 := Px.hid (mine_new w 34 (by omega))
  go_enter Tryd.func43, Tryd.ntmps43
  go_wp2
  go_loopw [3, 4, 5] (fun v i _ wr => ∃ k, i = .int .i64 (k : Nat) ∧ k ≤ s.length ∧ Hid (Mine w wr v (tl s k))) (fun _ i _ _ => s.length - (intOf i).toNat)
  case atStart => exact ⟨0, rfl, Nat.zero_le _, Px.hid (by unfold tl; exact H0.out)⟩
  case round =>
    clear H0
    obtain ⟨k, rfl, hk, HM⟩ := hrel
    obtain ⟨va, vc, hv⟩ := HM.out.len
    subst hv
    obtain ⟨L, hL⟩ : ∃ L, (tl s k).length = L := ⟨_, rfl⟩
    have hLb : L ≤ 6000001 := by rw [← hL]; have := tl_len s k; omega
    rw [hL] at HM ⊢
    have HL := Px.hid hL
    obtain ⟨RL, hRL⟩ : ∃ RL, (tl s k).flatMap cByte = RL := ⟨_, rfl⟩
    have HR := Px.hid (HM.out.rowT hL hRL)
    have HRL := Px.hid hRL
    clear hRL hL
    by_cases hlt : k < s.length
    · have hltz : (k : Int) < (s.length : Int) := by omega
      have hix := idx6 s k hlt
      have hwk := wrap1 k (by omega)
      have hst := tl_step hlt
      have hc256 := at_lt s k
      obtain ⟨c, hcc⟩ : ∃ c, R6.at_ s k = c := ⟨_, rfl⟩
      have hcd : s.getD k 0 = UInt8.ofNat c := by rw [← hcc]; unfold R6.at_; simp
      rw [hcc] at hc256
      rw [hcd] at hst
      simp only [hcc] at hix
      have HLT := Px.hid (And.intro hlt hst)
      clear hcc hlt hst hcd
      have hcs : c = 34 ∨ c = 92 ∨ (c ≠ 34 ∧ c ≠ 92 ∧ c < 32) ∨ (c ≠ 34 ∧ c ≠ 92 ∧ ¬ c < 32) := by omega
      rcases hcs with rfl | rfl | ⟨h1, h2, h3⟩ | ⟨h1, h2, h3⟩
      · go_wp2_with (at_builtin; go_must (refine wpList_append_lies _ rfl _ _ _ rfl 0 5 i0 _ 1 1 Tryd.underlying62 hi0 hz0 hz1 hz2 rfl (by omega) (.slice va L vc) L RL rfl (HR.out.alloc _) ⟨wr.heap.size, 0, none⟩ 1 1 [.int .u8 92] rfl rfl (World.news_of_block (cs := #[.int .u8 92]) (t := 5) (fr := (0, 0)) (heap_alloc_new wr _)) (by simp [Value.oneCell']) (by omega) (by unfold maxLen; omega) (by omega) (by omega) (wr.heap.size + 1) (by simp) ?_))
        intro gg cap WY hown1 hgrow hat hlt1
        have HP := Px.hid (Mine.app (t := [92]) HM.out HL.out HRL.out rfl rfl hown1 (grown_alloc1 (w := wr) hgrow) (hat.imp id (fun e => by omega)))
        obtain ⟨RL2, hRL2⟩ : ∃ RL2, (tl s k ++ [92]).flatMap cByte = RL2 := ⟨_, rfl⟩
        have HR2 := Px.hid (HP.out.rowT (L := L + 1) (by rw [List.length_append, HL.out]; rfl) hRL2)
        have HRL2 := Px.hid hRL2
        clear hown1 hgrow hat hlt1 hRL2
        go_wp2_with (at_builtin; go_must (refine wpList_append_lies _ rfl _ _ _ rfl 0 5 i0 _ 1 1 Tryd.underlying62 hi0 hz0 hz1 hz2 rfl (by omega) (.slice (some ⟨gg, 0, none⟩) (L + 1) cap) (L + 1) RL2 rfl (HR2.out.alloc _) ⟨WY.heap.size, 0, none⟩ 1 1 [.int .u8 34] rfl rfl (World.news_of_block (cs := #[.int .u8 34]) (t := 5) (fr := (0, 0)) (heap_alloc_new WY _)) (by simp [Value.oneCell']) (by omega) (by unfold maxLen; omega) (by omega) (by omega) (WY.heap.size + 1) (by simp) ?_))
        intro gg2 cap2 WZ hown1 hgrow hat hlt1
        have HQ := Px.hid (show Mine w WZ (.slice (some ⟨gg2, 0, none⟩) (L + 1 + 1) cap2) (tl s (k + 1)) from by
          rw [HLT.out.2, show E6.toldC (UInt8.ofNat 34) = [92] ++ [34] from rfl, ← List.append_assoc]
          exact Mine.app (t := [34]) HP.out (by rw [List.length_append, HL.out]; rfl) HRL2.out rfl rfl hown1 (grown_alloc1 (w := WY) hgrow) (hat.imp id (fun e => by omega)))
        clear hown1 hgrow hat
        go_wp2
        go_roundw
        case rel => exact ⟨k + 1, by go_num, HLT.out.1, HQ⟩
        case measure => have := HLT.out.1; simp [intOf]; omega
      · go_wp2_with (at_builtin; go_must (refine wpList_append_lies _ rfl _ _ _ rfl 0 5 i0 _ 1 1 Tryd.underlying62 hi0 hz0 hz1 hz2 rfl (by omega) (.slice va L vc) L RL rfl (HR.out.alloc _) ⟨wr.heap.size, 0, none⟩ 1 1 [.int .u8 92] rfl rfl (World.news_of_block (cs := #[.int .u8 92]) (t := 5) (fr := (0, 0)) (heap_alloc_new wr _)) (by simp [Value.oneCell']) (by omega) (by unfold maxLen; omega) (by omega) (by omega) (wr.heap.size + 1) (by simp) ?_))
        intro gg cap WY hown1 hgrow hat hlt1
        have HP := Px.hid (Mine.app (t := [92]) HM.out HL.out HRL.out rfl rfl hown1 (grown_alloc1 (w := wr) hgrow) (hat.imp id (fun e => by omega)))
        obtain ⟨RL2, hRL2⟩ : ∃ RL2, (tl s k ++ [92]).flatMap cByte = RL2 := ⟨_, rfl⟩
        have HR2 := Px.hid (HP.out.rowT (L := L + 1) (by rw [List.length_append, HL.out]; rfl) hRL2)
        have HRL2 := Px.hid hRL2
        clear hown1 hgrow hat hlt1 hRL2
        go_wp2_with (at_builtin; go_must (refine wpList_append_lies _ rfl _ _ _ rfl 0 5 i0 _ 1 1 Tryd.underlying62 hi0 hz0 hz1 hz2 rfl (by omega) (.slice (some ⟨gg, 0, none⟩) (L + 1) cap) (L + 1) RL2 rfl (HR2.out.alloc _) ⟨WY.heap.size, 0, none⟩ 1 1 [.int .u8 92] rfl rfl (World.news_of_block (cs := #[.int .u8 92]) (t := 5) (fr := (0, 0)) (heap_alloc_new WY _)) (by simp [Value.oneCell']) (by omega) (by unfold maxLen; omega) (by omega) (by omega) (WY.heap.size + 1) (by simp) ?_))
        intro gg2 cap2 WZ hown1 hgrow hat hlt1
        have HQ := Px.hid (show Mine w WZ (.slice (some ⟨gg2, 0, none⟩) (L + 1 + 1) cap2) (tl s (k + 1)) from by
          rw [HLT.out.2, show E6.toldC (UInt8.ofNat 92) = [92] ++ [92] from rfl, ← List.append_assoc]
          exact Mine.app (t := [92]) HP.out (by rw [List.length_append, HL.out]; rfl) HRL2.out rfl rfl hown1 (grown_alloc1 (w := WY) hgrow) (hat.imp id (fun e => by omega)))
        clear hown1 hgrow hat
        go_wp2
        go_roundw
        case rel => exact ⟨k + 1, by go_num, HLT.out.1, HQ⟩
        case measure => have := HLT.out.1; simp [intOf]; omega
      · have z1 : ((c : Int) == 34) = false := by simp; omega
        have z2 : ((c : Int) == 92) = false := by simp; omega
        have z3 : (c : Int) < 32 := by omega
        obtain ⟨d, hdd⟩ : ∃ d, c % 16 = d := ⟨_, rfl⟩
        have hd : d < ({ data := #[48, 49, 50, 51, 52, 53, 54, 55, 56, 57, 97, 98, 99, 100, 101, 102] } : ByteArray).size := by show d < 16; omega
        have hd16 : (d : Int) < 16 := by omega
        have han : (c : Int) % 16 = (d : Int) := by omega
        have han2 : (c : Int).tmod 16 = (d : Int) := by rw [Int.tmod_eq_emod_of_nonneg (by omega)]; exact han
        have HT := Px.hid (show ∀ j, c / 16 = j → [.int .u8 92, .int .u8 117, .int .u8 48, .int .u8 48, .int .u8 (hexL j : Nat), .int .u8 (hexL d : Nat)] = (E6.toldC (UInt8.ofNat c)).flatMap cByte from fun j hj => by
          rw [toldC_low c h1 h2 h3, hj, hdd]
          have e1 : hexL j = (E6.hexd j).toNat := hexL_eq j (by omega)
          have e2 : hexL d = (E6.hexd d).toNat := hexL_eq d (by omega)
          rw [e1, e2]
          rfl)
        have HT2 := Px.hid (show 6 = (E6.toldC (UInt8.ofNat c)).length by rw [toldC_low c h1 h2 h3]; rfl)
        have hcs : c < 16 ∨ 16 ≤ c := by omega
        clear h1 h2 h3
        rcases hcs with h4 | h4
        · have hsh : (c : Int) / 16 = 0 := by omega
          have hsh2 : (c : Int).tdiv 16 = 0 := by rw [Int.tdiv_eq_ediv_of_nonneg (by omega)]; exact hsh
          have HJ := Px.hid (HT.out 0 (by omega))
          clear h4 hdd
          go_wp2_with (at_builtin; go_must (refine wpList_append_lies _ rfl _ _ _ rfl 0 5 i0 _ 1 1 Tryd.underlying62 hi0 hz0 hz1 hz2 rfl (by omega) (.slice va L vc) L RL rfl (HR.out.alloc _) ⟨wr.heap.size, 0, none⟩ 6 6 [.int .u8 92, .int .u8 117, .int .u8 48, .int .u8 48, .int .u8 48, .int .u8 ((({ data := #[48, 49, 50, 51, 52, 53, 54, 55, 56, 57, 97, 98, 99, 100, 101, 102] } : ByteArray)[d]'hd).toNat : Nat)] rfl rfl (World.news_of_block (cs := #[.int .u8 92, .int .u8 117, .int .u8 48, .int .u8 48, .int .u8 48, .int .u8 ((({ data := #[48, 49, 50, 51, 52, 53, 54, 55, 56, 57, 97, 98, 99, 100, 101, 102] } : ByteArray)[d]'hd).toNat : Nat)]) (t := 5) (fr := (0, 0)) (heap_alloc_new wr _)) (by simp [Value.oneCell']) (by omega) (by unfold maxLen; omega) (by omega) (by omega) (wr.heap.size + 1) (by simp) ?_))
          intro gg cap WY hown1 hgrow hat hlt1
          have HP := Px.hid (show Mine w WY (.slice (some ⟨gg, 0, none⟩) (L + 6) cap) (tl s (k + 1)) from by
            rw [HLT.out.2]
            exact Mine.app (t := E6.toldC (UInt8.ofNat c)) HM.out HL.out HRL.out (by rw [hexL_at hd]; exact HJ.out) HT2.out hown1 (grown_alloc1 (w := wr) hgrow) (hat.imp id (fun e => by omega)))
          clear hown1 hgrow hat
          go_wp2
          go_roundw
          case rel => exact ⟨k + 1, by go_num, HLT.out.1, HP⟩
          case measure => have := HLT.out.1; simp [intOf]; omega
        · have hsh : (c : Int) / 16 = 1 := by omega
          have hsh2 : (c : Int).tdiv 16 = 1 := by rw [Int.tdiv_eq_ediv_of_nonneg (by omega)]; exact hsh
          have HJ := Px.hid (HT.out 1 (by omega))
          clear h4 hdd
          go_wp2_with (at_builtin; go_must (refine wpList_append_lies _ rfl _ _ _ rfl 0 5 i0 _ 1 1 Tryd.underlying62 hi0 hz0 hz1 hz2 rfl (by omega) (.slice va L vc) L RL rfl (HR.out.alloc _) ⟨wr.heap.size, 0, none⟩ 6 6 [.int .u8 92, .int .u8 117, .int .u8 48, .int .u8 48, .int .u8 49, .int .u8 ((({ data := #[48, 49, 50, 51, 52, 53, 54, 55, 56, 57, 97, 98, 99, 100, 101, 102] } : ByteArray)[d]'hd).toNat : Nat)] rfl rfl (World.news_of_block (cs := #[.int .u8 92, .int .u8 117, .int .u8 48, .int .u8 48, .int .u8 49, .int .u8 ((({ data := #[48, 49, 50, 51, 52, 53, 54, 55, 56, 57, 97, 98, 99, 100, 101, 102] } : ByteArray)[d]'hd).toNat : Nat)]) (t := 5) (fr := (0, 0)) (heap_alloc_new wr _)) (by simp [Value.oneCell']) (by omega) (by unfold maxLen; omega) (by omega) (by omega) (wr.heap.size + 1) (by simp) ?_))
          intro gg cap WY hown1 hgrow hat hlt1
          have HP := Px.hid (show Mine w WY (.slice (some ⟨gg, 0, none⟩) (L + 6) cap) (tl s (k + 1)) from by
            rw [HLT.out.2]
            exact Mine.app (t := E6.toldC (UInt8.ofNat c)) HM.out HL.out HRL.out (by rw [hexL_at hd]; exact HJ.out) HT2.out hown1 (grown_alloc1 (w := wr) hgrow) (hat.imp id (fun e => by omega)))
          clear hown1 hgrow hat
          go_wp2
          go_roundw
          case rel => exact ⟨k + 1, by go_num, HLT.out.1, HP⟩
          case measure => have := HLT.out.1; simp [intOf]; omega
      · have z1 : ((c : Int) == 34) = false := by simp; omega
        have z2 : ((c : Int) == 92) = false := by simp; omega
        have z3 : ¬ (c : Int) < 32 := by omega
        have HT := Px.hid (show E6.toldC (UInt8.ofNat c) = [UInt8.ofNat c] ∧ (UInt8.ofNat c).toNat = c from by
          have e : (UInt8.ofNat c).toNat = c := by simp; omega
          refine ⟨?_, e⟩
          unfold E6.toldC
          rw [e]
          simp [h1, h2, h3])
        clear h1 h2 h3
        go_wp2_with (at_builtin; go_must (refine wpList_append_lies _ rfl _ _ _ rfl 0 5 i0 _ 1 1 Tryd.underlying62 hi0 hz0 hz1 hz2 rfl (by omega) (.slice va L vc) L RL rfl (HR.out.alloc _) ⟨wr.heap.size, 0, none⟩ 1 1 [.int .u8 (c : Int)] rfl rfl (World.news_of_block (cs := #[.int .u8 (c : Int)]) (t := 5) (fr := (0, 0)) (heap_alloc_new wr _)) (by simp [Value.oneCell']) (by omega) (by unfold maxLen; omega) (by omega) (by omega) (wr.heap.size + 1) (by simp) ?_))
        intro gg cap WY hown1 hgrow hat hlt1
        have HP := Px.hid (show Mine w WY (.slice (some ⟨gg, 0, none⟩) (L + 1) cap) (tl s (k + 1)) from by
          rw [HLT.out.2]
          exact Mine.app (t := E6.toldC (UInt8.ofNat c)) HM.out HL.out HRL.out (by rw [HT.out.1]; simp [cByte, HT.out.2]) (by rw [HT.out.1]; rfl) hown1 (grown_alloc1 (w := wr) hgrow) (hat.imp id (fun e => by omega)))
        clear hown1 hgrow hat
        go_wp2
        go_roundw
        case rel => exact ⟨k + 1, by go_num, HLT.out.1, HP⟩
        case measure => have := HLT.out.1; simp [intOf]; omega
    · have hltz : ¬ (k : Int) < (s.length : Int) := by omega
      have HE := Px.hid (show k = s.length by omega)
      go_wp2_with (at_builtin; go_must (refine wpList_append_lies _ rfl _ _ _ rfl 0 5 i0 _ 1 1 Tryd.underlying62 hi0 hz0 hz1 hz2 rfl (by omega) (.slice va L vc) L RL rfl (HR.out.alloc _) ⟨wr.heap.size, 0, none⟩ 1 1 [.int .u8 34] rfl rfl (World.news_of_block (cs := #[.int .u8 34]) (t := 5) (fr := (0, 0)) (heap_alloc_new wr _)) (by simp [Value.oneCell']) (by omega) (by unfold maxLen; omega) (by omega) (by omega) (wr.heap.size + 1) (by simp) ?_))
      intro gg cap WY hown1 hgrow hat hlt1
      have HP := Px.hid (show Mine w WY (.slice (some ⟨gg, 0, none⟩) (L + 1) cap) (E6.told s) from by
        have e := hall.out
        rw [← HE.out] at e
        rw [← e]
        exact Mine.app (t := [34]) HM.out HL.out HRL.out rfl rfl hown1 (grown_alloc1 (w := wr) hgrow) (hat.imp id (fun e => by omega)))
      have hcv := Owns.str (P := Tryd.prog) HP.out.own Tryd.underlying62 Tryd.underlying5 Tryd.underlying9
      clear hown1 hgrow hat
      go_wp2
      go_ret
      exact ⟨rfl, HP.out.same⟩
theorem empty_eq2 (t : Bytes) : (t == []) = t.isEmpty := by cases t <;> rfl
set_option maxRecDepth 100000 in
set_option maxHeartbeats 4000000 in
theorem right16_any (v : Val) (w : World) (hl : v.text.length ≤ 140737488355327) :
    Calls Tryd.prog 26 #[valV v] w fun e w' => e = .returned (.bool (R6.right v)) ∧ Same w w' := by
  obtain ⟨k, n, t⟩ := v
  unfold valV
  have HT := Px.hid hl
  have hszt := size_S t
  have htl := hl
  simp only at htl
  have HB := Px.hid (empty_eq2 t)
  clear hl
  obtain ⟨R, hR⟩ : ∃ R, R6.right ⟨k, n, t⟩ = R := ⟨_, rfl⟩
  have HR := Px.hid hR
  rw [hR]
  clear hR
  by_cases hneg : n < 0
  · have HR := Px.hid (show false = R by rw [← HR.out]; unfold R6.right; simp [hneg])
    go_enter Tryd.func26, Tryd.ntmps26
    go_wp2
    go_ret
    rw [← HR.out]
    exact ⟨rfl, (Fr.refl _ w).alloc _⟩
  have hn0 : ¬ n < 0 := hneg
  clear hneg
  have hks : k = 0 ∨ k = 1 ∨ k = 2 ∨ k = 3 ∨ k = 4 ∨ k = 5 ∨ k = 6 ∨ (k ≠ 0 ∧ k ≠ 1 ∧ k ≠ 2 ∧ k ≠ 3 ∧ k ≠ 4 ∧ k ≠ 5 ∧ k ≠ 6) := by omega
  rcases hks with rfl | rfl | rfl | rfl | rfl | rfl | rfl | ⟨a0, a1, a2, a3, a4, a5, a6⟩
  · by_cases hp : 0 < n
    · have HR := Px.hid (show false = R by rw [← HR.out]; unfold R6.right; simp [hp])
      go_enter Tryd.func26, Tryd.ntmps26
      go_wp2
      go_ret
      rw [← HR.out]
      exact ⟨rfl, (Fr.refl _ w).alloc _⟩
    · have HR := Px.hid (show t.isEmpty = R by rw [← HR.out, ← HB.out]; unfold R6.right; simp [hp, hn0])
      go_enter Tryd.func26, Tryd.ntmps26
      go_wp2
      go_ret
      rw [← HR.out]
      exact ⟨rfl, (Fr.refl _ w).alloc _⟩
  · by_cases hp : 0 < n
    · have HR := Px.hid (show false = R by rw [← HR.out]; unfold R6.right; simp [hp])
      go_enter Tryd.func26, Tryd.ntmps26
      go_wp2
      go_ret
      rw [← HR.out]
      exact ⟨rfl, (Fr.refl _ w).alloc _⟩
    · have HR := Px.hid (show t.isEmpty = R by rw [← HR.out, ← HB.out]; unfold R6.right; simp [hp, hn0])
      go_enter Tryd.func26, Tryd.ntmps26
      go_wp2
      go_ret
      rw [← HR.out]
      exact ⟨rfl, (Fr.refl _ w).alloc _⟩
  · by_cases hp : 0 < n
    · have HR := Px.hid (show false = R by rw [← HR.out]; unfold R6.right; simp [hp])
      go_enter Tryd.func26, Tryd.ntmps26
      go_wp2
      go_ret
      rw [← HR.out]
      exact ⟨rfl, (Fr.refl _ w).alloc _⟩
    · have HR := Px.hid (show t.isEmpty = R by rw [← HR.out, ← HB.out]; unfold R6.right; simp [hp, hn0])
      go_enter Tryd.func26, Tryd.ntmps26
      go_wp2
      go_ret
      rw [← HR.out]
      exact ⟨rfl, (Fr.refl _ w).alloc _⟩
  · by_cases hp : 0 < n
    · have HR := Px.hid (show false = R by rw [← HR.out]; unfold R6.right; simp [hp])
      go_enter Tryd.func26, Tryd.ntmps26
      go_wp2
      go_ret
      rw [← HR.out]
      exact ⟨rfl, (Fr.refl _ w).alloc _⟩
    · have HN := Px.hid (fun w => number6 t HT.out w)
      obtain ⟨a, b, hab⟩ : ∃ a b, R6.number t = (a, b) := ⟨_, _, rfl⟩
      simp only [hab] at HN
      have HR := Px.hid (show (b && a == t.length) = R by rw [← HR.out]; unfold R6.right; simp [hp, hn0, hab])
      clear hab
      cases b with
      | false =>
        go_enter Tryd.func26, Tryd.ntmps26
        go_wp2_with fail
        refine (HN.out _).mono ?_
        rintro e w1 ⟨rfl, rfl⟩
        unfold numV
        go_wp2
        go_ret
        rw [← HR.out]
        exact ⟨rfl, (Fr.refl _ w).alloc _⟩
      | true =>
        have HB2 := Px.hid (show ((a : Int) == (t.length : Int)) = R by
          rw [← HR.out]
          by_cases e : a = t.length
          · simp [e]
          · have e2 : ((a : Int) == (t.length : Int)) = false := by simp; omega
            rw [e2]
            simp [e])
        obtain ⟨q, hq⟩ : ∃ q, ((a : Int) == (t.length : Int)) = q := ⟨_, rfl⟩
        rw [hq] at HB2
        go_enter Tryd.func26, Tryd.ntmps26
        go_wp2_with fail
        refine (HN.out _).mono ?_
        rintro e w1 ⟨rfl, rfl⟩
        unfold numV
        go_wp2
        go_ret
        rw [← HB2.out]
        exact ⟨rfl, (Fr.refl _ w).alloc _⟩
  · by_cases hp : 0 < n
    · have HR := Px.hid (show false = R by rw [← HR.out]; unfold R6.right; simp [hp])
      go_enter Tryd.func26, Tryd.ntmps26
      go_wp2
      go_ret
      rw [← HR.out]
      exact ⟨rfl, (Fr.refl _ w).alloc _⟩
    · have HR := Px.hid (show Lib.validD t = R by rw [← HR.out]; unfold R6.right; simp [hp, hn0])
      have HX := Px.hid (fun w => text_any t w (by have := HT.out; simp only at this; unfold maxLen; omega))
      rw [HR.out] at HX
      go_enter Tryd.func26, Tryd.ntmps26
      go_wp2_with fail
      refine (HX.out _).mono ?_
      rintro e w1 ⟨rfl, hs⟩
      have HS := Px.hid (Same.trans ((Same.refl w).alloc _) hs)
      clear hs
      go_wp2
      go_ret
      exact ⟨rfl, HS.out⟩
  · by_cases hp : 0 < n
    · have HR := Px.hid (show t.isEmpty = R by rw [← HR.out, ← HB.out]; unfold R6.right; simp [hp, hn0])
      go_enter Tryd.func26, Tryd.ntmps26
      go_wp2
      go_ret
      rw [← HR.out]
      exact ⟨rfl, (Fr.refl _ w).alloc _⟩
    · have HR := Px.hid (show t.isEmpty = R by rw [← HR.out, ← HB.out]; unfold R6.right; simp [hp, hn0])
      go_enter Tryd.func26, Tryd.ntmps26
      go_wp2
      go_ret
      rw [← HR.out]
      exact ⟨rfl, (Fr.refl _ w).alloc _⟩
  · obtain ⟨m, hm⟩ : ∃ m, n.tmod 2 = m := ⟨_, rfl⟩
    by_cases hm0 : m = 0
    · subst hm0
      by_cases hp : 0 < n
      · have HR := Px.hid (show t.isEmpty = R by rw [← HR.out, ← HB.out]; unfold R6.right; simp [hp, hn0, hm])
        go_enter Tryd.func26, Tryd.ntmps26
        go_wp2
        go_ret
        rw [← HR.out]
        exact ⟨rfl, (Fr.refl _ w).alloc _⟩
      · have HR := Px.hid (show t.isEmpty = R by rw [← HR.out, ← HB.out]; unfold R6.right; simp [hp, hn0, hm])
        go_enter Tryd.func26, Tryd.ntmps26
        go_wp2
        go_ret
        rw [← HR.out]
        exact ⟨rfl, (Fr.refl _ w).alloc _⟩
    · have zm : (m != 0) = true := by simpa using hm0
      by_cases hp : 0 < n
      · have HR := Px.hid (show false = R by rw [← HR.out]; unfold R6.right; simp [hp, hn0, hm, hm0])
        go_enter Tryd.func26, Tryd.ntmps26
        go_wp2
        go_ret
        rw [← HR.out]
        exact ⟨rfl, (Fr.refl _ w).alloc _⟩
      · have HR := Px.hid (show false = R by rw [← HR.out]; unfold R6.right; simp [hp, hn0, hm, hm0])
        go_enter Tryd.func26, Tryd.ntmps26
        go_wp2
        go_ret
        rw [← HR.out]
        exact ⟨rfl, (Fr.refl _ w).alloc _⟩
  · have b0 : (k == 0) = false := by simpa using a0
    have b1 : (k == 1) = false := by simpa using a1
    have b2 : (k == 2) = false := by simpa using a2
    have b3 : (k == 3) = false := by simpa using a3
    have b4 : (k == 4) = false := by simpa using a4
    have b5 : (k == 5) = false := by simpa using a5
    have b6 : (k == 6) = false := by simpa using a6
    have c5 : (k != 5) = true := by simpa using a5
    have c6 : (k != 6) = true := by simpa using a6
    by_cases hp : 0 < n
    · have HR := Px.hid (show false = R by rw [← HR.out]; unfold R6.right; simp [hp, a5, a6])
      go_enter Tryd.func26, Tryd.ntmps26
      go_wp2
      go_ret
      rw [← HR.out]
      exact ⟨rfl, (Fr.refl _ w).alloc _⟩
    · have HR := Px.hid (show false = R by rw [← HR.out]; unfold R6.right; simp [hp, hn0, a0, a1, a2, a3, a4, a5, a6])
      go_enter Tryd.func26, Tryd.ntmps26
      go_wp2
      go_ret
      rw [← HR.out]
      exact ⟨rfl, (Fr.refl _ w).alloc _⟩
end Go.Proofs.YtahojodgmjmpnaaDoor

/-! Numbers of the call's own as a stack; three such stacks apart from one another. -/
namespace Go.Proofs.YtahojodgmjmpnaaDoor
open Go.RowKit Go.Px

/-! Numbers of the call's own -/
theorem Lies.same {α : Type} {w w' : World} {sz : Nat} {c : α → List Value} {v : Value} {l : List α} (h : Lies w sz c v l) (hs : Same w w') : Lies w' sz c v l :=
  ⟨h.slice, fun j x hj => by
    obtain ⟨b, off, cap, h1, h2, h3⟩ := h.cell j x hj
    exact ⟨b, off, cap, h1, Nat.lt_of_lt_of_le h2 hs.size, fun i u hu => (hs.cell (p := ⟨b, off + (j * sz + i), none⟩) h2 (fun x => x)).trans (h3 i u hu)⟩⟩
def cNum (n : Nat) : List Value := [.int .i64 (n : Nat)]
theorem cNum_len (n : Nat) : (cNum n).length = 1 := rfl
theorem Tryd.infoI64 : (Tryd.prog.info? 3).map (fun i => (i.zero, i.size, i.bytes)) = some (some (.int .i64 0), 1, 8) := by kernel_rfl
/-- A list of numbers of the call's own, the last one first. -/
structure Nums (w wr : World) (v : Value) (left : List Nat) : Prop where
  own : Owns wr 3 1 cNum v left.reverse
  same : Same w wr
  new : ∀ g, v.ownBlock = some g → w.heap.size ≤ g
theorem Nums.sm {w wr w2 : World} {v : Value} {left : List Nat} (h : Nums w wr v left) (hs : Same wr w2) : Nums w w2 v left := ⟨Owns.same h.own hs, h.same.trans hs, h.new⟩
theorem Nums.top {w wr : World} {v : Value} {c : Nat} {rest : List Nat} (h : Nums w wr v (c :: rest)) : ∃ g cap, v = .slice (some ⟨g, 0, none⟩) (rest.length + 1) cap ∧ rest.length + 1 ≤ cap ∧ cap ≤ maxLen ∧ wr.cell? ⟨g, rest.length, none⟩ = some (.int .i64 (c : Nat)) ∧ wr.frozen? ⟨g, rest.length, none⟩ = false ∧ g < wr.heap.size := by
  have h' := h.own
  rw [List.reverse_cons] at h'
  obtain ⟨g, cap, h1, h2, h3, h4, h5⟩ := h'.last cNum_len
  rw [List.length_reverse] at h1 h2 h4
  have := h4 0 _ rfl
  rw [Nat.add_zero, Nat.mul_one] at this
  exact ⟨g, cap, h1, h2, h3, this, h5 _, h'.lt (by rw [h1]; rfl)⟩
theorem Nums.set {w wr : World} {c : Nat} {rest : List Nat} {g cap : Nat} (h : Nums w wr (.slice (some ⟨g, 0, none⟩) (rest.length + 1) cap) (c :: rest)) (n : Nat) :
    Nums w (wr.setCell ⟨g, rest.length, none⟩ (.int .i64 (n : Nat))) (.slice (some ⟨g, 0, none⟩) (rest.length + 1) cap) (n :: rest) := by
  have h' := h.own
  rw [List.reverse_cons, ← @List.length_reverse _ rest] at h'
  have k := h'.setLast (b := n) cNum_len 0 (.int .i64 (n : Nat)) rfl
  rw [List.length_reverse, Nat.mul_one, Nat.add_zero] at k
  refine ⟨by rw [List.reverse_cons]; exact k, h.same.setCell (p := ⟨g, rest.length, none⟩) (.inr (h.new g rfl)) _, h.new⟩
theorem Nums.pop {w wr : World} {c : Nat} {rest : List Nat} {g cap : Nat} (h : Nums w wr (.slice (some ⟨g, 0, none⟩) (rest.length + 1) cap) (c :: rest)) : Nums w wr (.slice (some ⟨g, 0, none⟩) rest.length cap) rest := by
  have h' := h.own
  rw [List.reverse_cons, ← @List.length_reverse _ rest] at h'
  have k := h'.pop cNum_len
  rw [List.length_reverse] at k
  exact ⟨k, h.same, h.new⟩
theorem Nums.len {w wr : World} {v : Value} {left : List Nat} (h : Nums w wr v left) : ∃ a cap, v = .slice a left.length cap := by
  obtain ⟨a, cap, h1, _⟩ := h.own.len
  rw [List.length_reverse] at h1
  exact ⟨a, cap, h1⟩
theorem Nums.push {w wr w1 : World} {v : Value} {left : List Nat} {n g cap : Nat} (h : Nums w wr v left)
    (hown : w1.ownsRow 0 3 1 (.slice (some ⟨g, 0, none⟩) (left.length + 1) cap) (left.length + 1) (left.reverse.flatMap cNum ++ cNum n)) (hg : wr.grownBy w1 v.ownBlock) (hat : v.ownBlock = some g ∨ wr.heap.size ≤ g) :
    Nums w w1 (.slice (some ⟨g, 0, none⟩) (left.length + 1) cap) (n :: left) := by
  have hrl : left.reverse.length = left.length := List.length_reverse
  have k := owns_append (l := left.reverse) (c := cNum) (a := n) (w := w1) (T := 3) (sz := 1) (g := g) (cap := cap) (by rw [hrl]; exact hown)
  rw [hrl] at k
  refine ⟨by rw [List.reverse_cons]; exact k, Fr.grown h.same hg (fun k e => .inr (h.new k e)), fun g' hg' => ?_⟩
  simp only [Value.ownBlock, Option.some.injEq] at hg'
  subst hg'
  rcases hat with e | e
  · exact h.new _ e
  · exact Nat.le_trans h.same.size e
theorem Nums.row {w wr : World} {v : Value} {left : List Nat} (h : Nums w wr v left) : wr.ownsRow 0 3 1 v left.length (left.reverse.flatMap cNum) := by
  have := h.own
  unfold Owns at this
  rw [List.length_reverse] at this
  exact this


theorem Nums.keep {w wr w2 : World} {v : Value} {left : List Nat} (h : Nums w wr v left) (hs : Same w w2) (hb : ∀ k, v.ownBlock = some k → w2.heap[k]? = wr.heap[k]?) : Nums w w2 v left := ⟨Owns.keep h.own hb, hs, h.new⟩
theorem Nums.nil (w : World) : Nums w w (.slice none 0 0) [] := ⟨owns_nil _ _ _ _, Same.refl w, fun g h => by simp [Value.ownBlock] at h⟩
/-- Three stacks of the call's own, apart. -/
structure Tri (w wr : World) (a b c : Value) (L A F : List Nat) : Prop where
  x : Nums w wr a L
  y : Nums w wr b A
  z : Nums w wr c F
  xy : Apart a.ownBlock b.ownBlock
  yz : Apart b.ownBlock c.ownBlock
  zx : Apart c.ownBlock a.ownBlock
section
variable {w wr w1 : World} {a b c : Value} {L A F : List Nat} {n g cap : Nat} {la lc : Nat} {p : Option Addr}
theorem Tri.nil (w : World) : Tri w w (.slice none 0 0) (.slice none 0 0) (.slice none 0 0) [] [] [] :=
  ⟨Nums.nil w, Nums.nil w, Nums.nil w, fun k h => by simp [Value.ownBlock] at h, fun k h => by simp [Value.ownBlock] at h, fun k h => by simp [Value.ownBlock] at h⟩
theorem Tri.rot (h : Tri w wr a b c L A F) : Tri w wr b c a A F L := ⟨h.y, h.z, h.x, h.yz, h.zx, h.xy⟩
theorem Tri.push (h : Tri w wr a b c L A F)
    (hown : w1.ownsRow 0 3 1 (.slice (some ⟨g, 0, none⟩) (L.length + 1) cap) (L.length + 1) (L.reverse.flatMap cNum ++ cNum n)) (hg : wr.grownBy w1 a.ownBlock) (hat : a.ownBlock = some g ∨ wr.heap.size ≤ g) :
    Tri w w1 (.slice (some ⟨g, 0, none⟩) (L.length + 1) cap) b c (n :: L) A F := by
  have hx := Nums.push h.x hown hg hat
  have hf : Fr (fun k => a.ownBlock = some k) wr w1 := (Fr.refl _ wr).grown hg (fun k e => .inl e)
  have ky : ∀ k, b.ownBlock = some k → w1.heap[k]? = wr.heap[k]? := fun k e => hf.block k (h.y.own.lt e) (fun x => h.xy k x e)
  have kz : ∀ k, c.ownBlock = some k → w1.heap[k]? = wr.heap[k]? := fun k e => hf.block k (h.z.own.lt e) (fun x => h.zx k e x)
  refine ⟨hx, h.y.keep hx.same ky, h.z.keep hx.same kz, ?_, h.yz, ?_⟩
  · intro k e hb
    simp only [Value.ownBlock, Option.some.injEq] at e
    subst e
    rcases hat with e | e
    · exact h.xy _ e hb
    · have := h.y.own.lt hb; omega
  · intro k hc e
    simp only [Value.ownBlock, Option.some.injEq] at e
    subst e
    rcases hat with e | e
    · exact h.zx _ hc e
    · have := h.z.own.lt hc; omega
theorem Tri.set {m : Nat} (h : Tri w wr (.slice (some ⟨g, 0, none⟩) (L.length + 1) cap) b c (m :: L) A F) (n : Nat) :
    Tri w (wr.setCell ⟨g, L.length, none⟩ (.int .i64 (n : Nat))) (.slice (some ⟨g, 0, none⟩) (L.length + 1) cap) b c (n :: L) A F := by
  have hx := Nums.set h.x n
  have ky : b.ownBlock ≠ some g := fun e => h.xy g rfl e
  have kz : c.ownBlock ≠ some g := fun e => h.zx g e rfl
  exact ⟨hx, ⟨Owns.setCell h.y.own (p := ⟨g, L.length, none⟩) ky _, hx.same, h.y.new⟩, ⟨Owns.setCell h.z.own (p := ⟨g, L.length, none⟩) kz _, hx.same, h.z.new⟩, h.xy, h.yz, h.zx⟩
theorem Tri.pop {m : Nat} (h : Tri w wr (.slice (some ⟨g, 0, none⟩) (L.length + 1) cap) b c (m :: L) A F) : Tri w wr (.slice (some ⟨g, 0, none⟩) L.length cap) b c L A F :=
  ⟨Nums.pop h.x, h.y, h.z, h.xy, h.yz, h.zx⟩
end
end Go.Proofs.YtahojodgmjmpnaaDoor

/-! The walk over the reference's Behind (layer 16). -/
namespace Go.Proofs.YtahojodgmjmpnaaDoor
open Go.RowKit Go.Px

/-- One that is begun, and the place where it stands. -/
abbrev Bq := R6.Bf × Nat
def T3 (w wr : World) (a b c : Value) (bs : List Bq) : Prop := Tri w wr a b c (bs.map fun q => q.1.left) (bs.map fun q => q.1.all) (bs.map fun q => q.2)
def less2 : List Bq → List Bq
  | [] => []
  | q :: r => ({ q.1 with left := q.1.left - 1 }, q.2) :: r
def open2 (x : Val) (k : Nat) (bs : List Bq) : List Bq := if x.kind == 5 || x.kind == 6 then (⟨x.kids.toNat, x.kids.toNat, x.kind == 6⟩, k) :: bs else bs
theorem less2_fst (bs : List Bq) : (less2 bs).map Prod.fst = R6.less (bs.map Prod.fst) := by cases bs <;> rfl
theorem less2_len (bs : List Bq) : (less2 bs).length = bs.length := by cases bs <;> rfl
theorem open2_fst (x : Val) (k : Nat) (bs : List Bq) : (open2 x k bs).map Prod.fst = R6.opened x (bs.map Prod.fst) := by
  unfold open2 R6.opened
  split <;> rfl
theorem open2_len (x : Val) (k : Nat) (bs : List Bq) : (open2 x k bs).length ≤ bs.length + 1 := by
  unfold open2
  split <;> simp
section
variable {w wr w1 : World} {a b c : Value} {bs : List Bq} {q : Bq} {g cap g2 cap2 g3 cap3 N n : Nat} {L A F : List Nat} {RL : List Value}
theorem Tri.sm (h : Tri w wr a b c L A F) (hs : Same wr w1) : Tri w w1 a b c L A F := ⟨h.x.sm hs, h.y.sm hs, h.z.sm hs, h.xy, h.yz, h.zx⟩
theorem Tri.pushN (h : Tri w wr a b c L A F) (hL : L.length = N) (hR : L.reverse.flatMap cNum = RL)
    (hown : w1.ownsRow 0 3 1 (.slice (some ⟨g, 0, none⟩) (N + 1) cap) (N + 1) (RL ++ [.int .i64 (n : Nat)])) (hg : wr.grownBy w1 a.ownBlock) (hat : a.ownBlock = some g ∨ wr.heap.size ≤ g) :
    Tri w w1 (.slice (some ⟨g, 0, none⟩) (N + 1) cap) b c (n :: L) A F := by
  subst hL hR
  exact h.push hown hg hat
theorem Tri.rowN (h : Tri w wr a b c L A F) (hL : L.length = N) (hR : L.reverse.flatMap cNum = RL) : wr.ownsRow 0 3 1 a N RL := by
  subst hL hR
  exact h.x.row
theorem T3.nil (w : World) : T3 w w (.slice none 0 0) (.slice none 0 0) (.slice none 0 0) [] := Tri.nil w
theorem T3.len (h : T3 w wr a b c bs) : ∃ a1 c1 a2 c2 a3 c3, a = .slice a1 bs.length c1 ∧ b = .slice a2 bs.length c2 ∧ c = .slice a3 bs.length c3 := by
  obtain ⟨a1, c1, h1⟩ := h.x.len
  obtain ⟨a2, c2, h2⟩ := h.y.len
  obtain ⟨a3, c3, h3⟩ := h.z.len
  rw [List.length_map] at h1 h2 h3
  exact ⟨a1, c1, a2, c2, a3, c3, h1, h2, h3⟩
theorem T3.top (h : T3 w wr a b c (q :: bs)) : ∃ g cap g2 cap2 g3 cap3, a = .slice (some ⟨g, 0, none⟩) (bs.length + 1) cap ∧ b = .slice (some ⟨g2, 0, none⟩) (bs.length + 1) cap2 ∧ c = .slice (some ⟨g3, 0, none⟩) (bs.length + 1) cap3 ∧
    (bs.length + 1 ≤ cap ∧ cap ≤ maxLen) ∧ (bs.length + 1 ≤ cap2 ∧ cap2 ≤ maxLen) ∧ (bs.length + 1 ≤ cap3 ∧ cap3 ≤ maxLen) ∧
    wr.cell? ⟨g, bs.length, none⟩ = some (.int .i64 (q.1.left : Nat)) ∧ wr.cell? ⟨g2, bs.length, none⟩ = some (.int .i64 (q.1.all : Nat)) ∧ wr.cell? ⟨g3, bs.length, none⟩ = some (.int .i64 (q.2 : Nat)) ∧
    wr.frozen? ⟨g, bs.length, none⟩ = false ∧ g < wr.heap.size := by
  obtain ⟨g, cap, h1, h2, h3, h4, h5, h6⟩ := Nums.top h.x
  obtain ⟨g2, cap2, i1, i2, i3, i4, i5, i6⟩ := Nums.top h.y
  obtain ⟨g3, cap3, j1, j2, j3, j4, j5, j6⟩ := Nums.top h.z
  simp only [List.length_map] at h1 h2 h4 h5 i1 i2 i4 j1 j2 j4
  exact ⟨g, cap, g2, cap2, g3, cap3, h1, i1, j1, ⟨h2, h3⟩, ⟨i2, i3⟩, ⟨j2, j3⟩, h4, i4, j4, h5, h6⟩
theorem T3.sm (h : T3 w wr a b c bs) (hs : Same wr w1) : T3 w w1 a b c bs := Tri.sm h hs
theorem T3.set (h : T3 w wr (.slice (some ⟨g, 0, none⟩) (N + 1) cap) b c (q :: bs)) (n : Nat) (hN : bs.length = N) :
    T3 w (wr.setCell ⟨g, N, none⟩ (.int .i64 (n : Nat))) (.slice (some ⟨g, 0, none⟩) (N + 1) cap) b c (({ q.1 with left := n }, q.2) :: bs) := by
  subst hN
  have h' : Tri w wr (.slice (some ⟨g, 0, none⟩) ((bs.map fun q => q.1.left).length + 1) cap) b c (q.1.left :: bs.map fun q => q.1.left) (q.1.all :: bs.map fun q => q.1.all) (q.2 :: bs.map fun q => q.2) := by
    rw [List.length_map]; exact h
  have k := h'.set n
  rw [List.length_map] at k
  exact k
theorem T3.pop (h : T3 w wr (.slice (some ⟨g, 0, none⟩) (N + 1) cap) (.slice (some ⟨g2, 0, none⟩) (N + 1) cap2) (.slice (some ⟨g3, 0, none⟩) (N + 1) cap3) (q :: bs)) (hN : bs.length = N) :
    T3 w wr (.slice (some ⟨g, 0, none⟩) N cap) (.slice (some ⟨g2, 0, none⟩) N cap2) (.slice (some ⟨g3, 0, none⟩) N cap3) bs := by
  subst hN
  have e1 : (bs.map fun q => q.1.left).length = bs.length := List.length_map ..
  have e2 : (bs.map fun q => q.1.all).length = bs.length := List.length_map ..
  have e3 : (bs.map fun q => q.2).length = bs.length := List.length_map ..
  have h1 : Tri w wr (.slice (some ⟨g, 0, none⟩) ((bs.map fun q => q.1.left).length + 1) cap) (.slice (some ⟨g2, 0, none⟩) (bs.length + 1) cap2) (.slice (some ⟨g3, 0, none⟩) (bs.length + 1) cap3) (q.1.left :: bs.map fun q => q.1.left) (q.1.all :: bs.map fun q => q.1.all) (q.2 :: bs.map fun q => q.2) := by
    rw [e1]; exact h
  have h2 := h1.pop.rot
  rw [e1, ← e2] at h2
  have h3 := h2.pop.rot
  rw [e2, ← e3] at h3
  have h4 := h3.pop.rot
  rw [e3] at h4
  exact h4
end
/-- What Behind tells. -/
def behV (r : Option Nat × Nat) : Value := .tuple #[.int .i64 (match r.1 with | none => -1 | some e => (e : Int)), .int .i64 (r.2 : Nat)]
/-- What holds of those that are begun. -/
def OkQ (l : List Val) (bs : List Bq) : Prop := ∀ q ∈ bs, q.1.left ≤ q.1.all ∧ (q.1.all : Int) ≤ 9223372036854775807 ∧ ∃ y, l[q.2]? = some y ∧ q.1.obj = (y.kind == 6)
/-- What holds at the head of Behind's loop. -/
structure Beh (w wr : World) (a b c : Value) (l : List Val) (p k most : Nat) (bs : List Bq) : Prop where
  tri : T3 w wr a b c bs
  eq : R6.behind l p = R6.behN (l.drop k) (bs.map Prod.fst) most k
  len : bs.length ≤ k
  mlen : bs.length ≤ most
  most : most ≤ k
  ok : OkQ l bs
  top : bs = [] ∨ ∃ n q r, bs = q :: r ∧ q.1.left = n + 1
theorem OkQ.less {l : List Val} {bs : List Bq} (h : OkQ l bs) : OkQ l (less2 bs) := by
  cases bs with
  | nil => exact h
  | cons q r =>
    intro p hp
    rcases List.mem_cons.1 hp with rfl | hp
    · obtain ⟨a1, a2, a3⟩ := h q (by simp)
      exact ⟨by show q.1.left - 1 ≤ q.1.all; omega, a2, a3⟩
    · exact h p (by simp [hp])
theorem OkQ.opened {l : List Val} {bs : List Bq} (h : OkQ l bs) {x : Val} {k : Nat} (hx : l[k]? = some x) (h1 : ¬ x.kids < 0) (h2 : x.kids ≤ 9223372036854775807) : OkQ l (open2 x k bs) := by
  unfold open2
  split
  · intro p hp
    rcases List.mem_cons.1 hp with rfl | hp
    · exact ⟨Nat.le_refl _, by show ((x.kids.toNat : Nat) : Int) ≤ _; omega, x, hx, rfl⟩
    · exact h p hp
  · exact h
theorem behN_neg {l : List Val} {k most : Nat} {st : List R6.Bf} (hk : k < l.length) (h : l[k].kids < 0) : R6.behN (l.drop k) st most k = (none, most) := by
  rw [List.drop_eq_getElem_cons hk, R6.behN, if_pos h]
theorem behN_bad {l : List Val} {k most : Nat} {st : List R6.Bf} (hk : k < l.length) (h : ¬ l[k].kids < 0) (hb : R6.bad l[k] st = true) : R6.behN (l.drop k) st most k = (none, most) := by
  rw [List.drop_eq_getElem_cons hk, R6.behN, if_neg h, if_pos hb]
theorem behN_step {l : List Val} {k most : Nat} {st : List R6.Bf} (hk : k < l.length) (h : ¬ l[k].kids < 0) (hb : R6.bad l[k] st = false) :
    R6.behN (l.drop k) st most k = E6.afterB (R6.opened l[k] (R6.less st)) (l.drop (k + 1)) (max most (R6.opened l[k] (R6.less st)).length) (k + 1) := by
  rw [List.drop_eq_getElem_cons hk, R6.behN, if_neg h, if_neg (by rw [hb]; decide)]
  rfl

theorem bad_ways (x : Val) (q : R6.Bf) (r : List R6.Bf) : (q.obj = true ∧ (q.all - q.left) % 2 = 0 ∧ x.kind ≠ 4 ∧ R6.bad x (q :: r) = true) ∨ (q.obj = true ∧ (q.all - q.left) % 2 = 0 ∧ x.kind = 4 ∧ R6.bad x (q :: r) = false) ∨
    (q.obj = true ∧ (q.all - q.left) % 2 = 1 ∧ R6.bad x (q :: r) = false) ∨ (q.obj = false ∧ R6.bad x (q :: r) = false) := by
  obtain ⟨a, b, o⟩ := q
  unfold R6.bad
  cases o
  · exact .inr (.inr (.inr ⟨rfl, by simp⟩))
  · by_cases h : (b - a) % 2 = 0
    · by_cases h4 : x.kind = 4
      · exact .inr (.inl ⟨rfl, h, h4, by simp [h, h4]⟩)
      · exact .inl ⟨rfl, h, h4, by simp [h, h4]⟩
    · exact .inr (.inr (.inl ⟨rfl, by show (b - a) % 2 = 1; omega, by simp [h]⟩))
set_option maxRecDepth 100000 in
set_option maxHeartbeats 8000000 in
theorem behind_any (v : Value) (l : List Val) (p : Nat) (w : World) (h : Lies w 3 cVal v l) (hl : l.length ≤ 4096) (hp : p ≤ l.length) (hw : ∀ a ∈ l, Fair a) :
    Calls Tryd.prog 27 #[v, .int .i64 (p : Nat)] w fun e w' => e = .returned (behV (R6.behind l p)) ∧ Same w w' := by
  obtain ⟨va, vc, hv, hv1, hv2⟩ := h.slice
  subst hv
  have H := Px.hid (And.intro h hw)
  clear h hv2 hw
  obtain ⟨i0, hi0, hz0, hz1, hz2⟩ := info_parts Tryd.infoI64
  go_enter Tryd.func27, Tryd.ntmps27
  go_wp2
  go_loopg [6, 7, 8, 9, 10] (l.length + 1 - p) (fun gk v6 v7 v8 t9 i wr => ∃ (k most : Nat) (bs : List Bq), gk + k = l.length + 1 ∧ k ≤ l.length ∧ i = .int .i64 (k : Nat) ∧ t9 = .int .i64 (most : Nat) ∧ Hid (Beh w wr v6 v7 v8 l p k most bs))
  case atStart => exact ⟨p, 0, [], by omega, hp, rfl, rfl, Px.hid ⟨T3.nil w, rfl, Nat.zero_le _, Nat.le_refl _, Nat.zero_le _, nofun, .inl rfl⟩⟩
  case round =>
    obtain ⟨k, most, bs, hgk, hk, rfl, rfl, HS⟩ := hrel
    have HG := Px.hid hgk
    clear hgk
    obtain ⟨a1, c1, a2, c2, a3, c3, e1, e2, e3⟩ := HS.out.tri.len
    have hNk := HS.out.len
    have HMO := Px.hid (And.intro HS.out.mlen HS.out.most)
    obtain ⟨N, hN⟩ : ∃ N, bs.length = N := ⟨_, rfl⟩
    rw [hN] at e1 e2 e3 hNk
    subst e1 e2 e3
    have HN := Px.hid hN
    have hN4 : N ≤ 4096 := by omega
    clear hN
    by_cases hlt : k < l.length
    · have hlz : (k : Int) < (l.length : Int) := by omega
      obtain ⟨g', rfl⟩ : ∃ g', gk = g' + 1 := ⟨gk - 1, by have := HG.out; omega⟩
      obtain ⟨xb, xo, xc, hve, hxb, hcx⟩ := H.out.1.cell k l[k] (by simp [hlt])
      simp only [Value.slice.injEq, true_and] at hve
      obtain ⟨rfl, rfl⟩ := hve
      have hx0 := hcx 0 _ rfl
      have hx1 := hcx 1 _ rfl
      rw [← Nat.add_assoc] at hx0 hx1
      rw [Nat.add_zero] at hx0
      obtain ⟨x, hx⟩ : ∃ x, x = l[k] := ⟨_, rfl⟩
      rw [← hx] at hx0 hx1
      obtain ⟨⟨hk1, hk2⟩, ⟨hk3, hk4⟩, _⟩ := H.out.2 x (by rw [hx]; exact List.getElem_mem _)
      have hxk : l[k]? = some x := by rw [hx]; exact List.getElem?_eq_getElem hlt
      have HX := Px.hid (And.intro hx (And.intro hxk (show ∀ W, Same w W → W.cell? ⟨xb, xo + k * 3, none⟩ = some (.int .i64 x.kind) ∧ W.cell? ⟨xb, xo + k * 3 + 1, none⟩ = some (.int .i64 x.kids) from fun W hW => ⟨(hW.cell (p := ⟨xb, xo + k * 3, none⟩) hxb (fun x => x)).trans hx0, (hW.cell (p := ⟨xb, xo + k * 3 + 1, none⟩) hxb (fun x => x)).trans hx1⟩)))
      clear hcx hx hx0 hx1 hxk
      obtain ⟨x0, x1⟩ := HX.out.2.2 wr HS.out.tri.x.same
      by_cases hneg : x.kids < 0
      · have HR := Px.hid (show R6.behind l p = (none, most) by rw [HS.out.eq]; exact behN_neg hlt (by rw [← HX.out.1]; exact hneg))
        go_wp2
        go_ret2
        rw [HR.out]
        exact ⟨rfl, HS.out.tri.x.same⟩
      · go_upto_if 29 with fail
        go_cut [] (fun wx => T3 w wx (.slice a1 N c1) (.slice a2 N c2) (.slice a3 N c3) (less2 bs) ∧ R6.bad x (bs.map Prod.fst) = false)
        case first =>
          rcases HS.out.top with hnil | ⟨n, q, rest, hbs, hqn⟩
          · subst hnil
            have hN0 : N = 0 := HN.out.symm
            subst hN0
            go_wp2_with fail
            go_meet
            exact ⟨HS.out.tri, rfl⟩
          · subst hbs
            obtain ⟨m, hm⟩ : ∃ m, rest.length = m := ⟨_, rfl⟩
            have hNm : N = m + 1 := by rw [← HN.out, List.length_cons, hm]
            subst hNm
            obtain ⟨⟨ll, aa, ob⟩, f⟩ := q
            simp only at hqn
            subst hqn
            obtain ⟨g, cap, g2, cap2, g3, cap3, u1, u2, u3, ⟨_, b1⟩, ⟨_, b2⟩, ⟨_, b3⟩, t1, t2, t3, hfz, hgl⟩ := HS.out.tri.top
            rw [hm] at u1 u2 u3 t1 t2 t3 hfz
            simp only [Value.slice.injEq, true_and] at u1 u2 u3
            obtain ⟨rfl, rfl⟩ := u1
            obtain ⟨rfl, rfl⟩ := u2
            obtain ⟨rfl, rfl⟩ := u3
            obtain ⟨q1, q2, y, hy, hob⟩ := HS.out.ok _ (List.mem_cons_self ..)
            simp only at q1 q2 hy hob t1 t2 t3
            obtain ⟨yb, yo, yc, hve, hyb, hcy⟩ := H.out.1.cell f y hy
            simp only [Value.slice.injEq, Option.some.injEq, Addr.mk.injEq, and_true, true_and] at hve
            obtain ⟨⟨rfl, rfl⟩, rfl⟩ := hve
            have y0 := hcy 0 _ rfl
            rw [Nat.add_zero] at y0
            replace y0 := (HS.out.tri.x.same.cell (p := ⟨xb, xo + f * 3, none⟩) hyb (fun x => x)).trans y0
            have hfl : f < l.length := (List.getElem?_eq_some_iff.1 hy).1
            have hflz : (f : Int) < (l.length : Int) := by omega
            obtain ⟨d, rfl⟩ : ∃ d, aa = n + 1 + d := ⟨aa - (n + 1), by omega⟩
            have hn1 : ((n + 1 : Nat) : Int) = (n : Int) + 1 := by omega
            have hn2 : ((n + 1 + d : Nat) : Int) = (n : Int) + 1 + (d : Int) := by omega
            rw [hn1] at t1
            rw [hn2] at t2 q2
            have hk0 : (0 : Int) < (m : Int) + 1 := by omega
            have hsd : IntKind.i64.wrap ((n : Int) + 1 + (d : Int) - ((n : Int) + 1)) = (d : Int) := by rw [show (n : Int) + 1 + (d : Int) - ((n : Int) + 1) = d by omega]; exact IntWalk.i64_in _ ⟨by omega, by omega⟩
            have hsd2 : (n : Int) + 1 + (d : Int) - ((n : Int) + 1) = (d : Int) := by omega
            have hwr : IntKind.i64.wrap ((n : Int) + 1 - 1) = (n : Int) := by rw [show (n : Int) + 1 - 1 = n by omega]; exact IntWalk.i64_in _ ⟨by omega, by omega⟩
            have hwr2 : IntKind.i64.wrap (n : Int) = (n : Int) := IntWalk.i64_in _ ⟨by omega, by omega⟩
            have HSE := Px.hid (fun W (hW : Same wr W) => (T3.set (T3.sm HS.out.tri hW) n hm))
            have hnd : (n + 1 + d - (n + 1)) = d := by omega
            unfold maxLen at b1 b2 b3
            have HY := Px.hid (And.intro hob hy)
            have HW := bad_ways x ⟨n + 1, n + 1 + d, ob⟩ (rest.map Prod.fst)
            simp only [hnd] at HW
            clear hn1 hn2 hob hy hcy hyb hnd q1
            rcases HW with ⟨z1, z2, z3, z4⟩ | ⟨z1, z2, z3, z4⟩ | ⟨z1, z2, z4⟩ | ⟨z1, z4⟩
            · have HR := Px.hid (show R6.behind l p = (none, most) by rw [HS.out.eq]; exact behN_bad hlt (by rw [← HX.out.1]; exact hneg) (by rw [← HX.out.1]; exact z4))
              have y6 : y.kind = 6 := by have := HY.out.1; rw [z1] at this; simpa using this.symm
              rw [y6] at y0
              have b2 : (d : Int).tmod 2 = 0 := by rw [Int.tmod_eq_emod_of_nonneg (by omega)]; omega
              have b3 : (x.kind != 4) = true := by simpa using z3
              clear z1 z2 z3 z4 y6 HSE
              go_wp2_with fail
              go_quiet (fail)
              have HQ := Px.hid ((Same.refl wr).drewN nq)
              go_wp2
              go_ret2
              rw [HR.out]
              exact ⟨rfl, HS.out.tri.x.same.trans HQ.out⟩
            · have HR := Px.hid z4
              have y6 : y.kind = 6 := by have := HY.out.1; rw [z1] at this; simpa using this.symm
              rw [y6] at y0
              have b2 : (d : Int).tmod 2 = 0 := by rw [Int.tmod_eq_emod_of_nonneg (by omega)]; omega
              rw [z3] at x0
              clear z1 z2 z3 z4 y6
              go_wp2_with fail
              go_quiet (fail)
              have HQ := Px.hid ((Same.refl wr).drewN nq)
              go_wp2_with fail
              go_meet
              exact ⟨HSE.out _ HQ.out, HR.out⟩
            · have HR := Px.hid z4
              have y6 : y.kind = 6 := by have := HY.out.1; rw [z1] at this; simpa using this.symm
              rw [y6] at y0
              have b2 : (d : Int).tmod 2 = 1 := by rw [Int.tmod_eq_emod_of_nonneg (by omega)]; omega
              clear z1 z2 z4 y6
              go_wp2_with fail
              go_quiet (fail)
              have HQ := Px.hid ((Same.refl wr).drewN nq)
              go_wp2_with fail
              go_meet
              exact ⟨HSE.out _ HQ.out, HR.out⟩
            · have HR := Px.hid z4
              have y6 : (y.kind == 6) = false := by rw [← HY.out.1, z1]
              clear z1 z4
              go_wp2_with fail
              go_quiet (fail)
              have HQ := Px.hid ((Same.refl wr).drewN nq)
              go_wp2_with fail
              go_meet
              exact ⟨HSE.out _ HQ.out, HR.out⟩
        case rest =>
          obtain ⟨HT0, hnb⟩ := hcut
          have HSB := Px.hid (show R6.behind l p = E6.afterB (R6.opened x (R6.less (bs.map Prod.fst))) (l.drop (k + 1)) (max most (R6.opened x (R6.less (bs.map Prod.fst))).length) (k + 1) by
            have h1 := HX.out.1
            rw [HS.out.eq, h1]
            exact behN_step hlt (by rw [← h1]; exact hneg) (by rw [← h1]; exact hnb))
          have hlb : (less2 bs).length = N := by rw [less2_len]; exact HN.out
          have HOK := Px.hid (OkQ.opened (OkQ.less HS.out.ok) HX.out.2.1 hneg hk4)
          have hfst : (open2 x k (less2 bs)).map Prod.fst = R6.opened x (R6.less (bs.map Prod.fst)) := by rw [open2_fst, less2_fst]
          rw [← hfst] at HSB
          have hol := open2_len x k (less2 bs)
          rw [hlb] at hol
          obtain ⟨BB, hBB⟩ : ∃ BB, BB = open2 x k (less2 bs) := ⟨_, rfl⟩
          rw [← hBB] at HSB HOK hol
          have HBB := Px.hid hBB
          clear hfst hBB hnb x0 x1
          obtain ⟨L, hL⟩ : ∃ L, L = (less2 bs).map fun q => q.1.left := ⟨_, rfl⟩
          obtain ⟨A, hA⟩ : ∃ A, A = (less2 bs).map fun q => q.1.all := ⟨_, rfl⟩
          obtain ⟨F, hF⟩ : ∃ F, F = (less2 bs).map fun q => q.2 := ⟨_, rfl⟩
          have HT := Px.hid (show Tri w wc (.slice a1 N c1) (.slice a2 N c2) (.slice a3 N c3) L A F by rw [hL, hA, hF]; exact HT0)
          have hL1 : L.length = N := by rw [hL, List.length_map]; exact hlb
          have hA1 : A.length = N := by rw [hA, List.length_map]; exact hlb
          have hF1 : F.length = N := by rw [hF, List.length_map]; exact hlb
          have HLL := Px.hid (And.intro hL (And.intro hA (And.intro hF (And.intro hL1 (And.intro hA1 hF1)))))
          clear hL hA hF hL1 hA1 hF1 HT0 hlb
          obtain ⟨x0, x1⟩ := HX.out.2.2 wc HT.out.x.same
          obtain ⟨B, hB⟩ : ∃ B, B = (x.kind == 5 || x.kind == 6) := ⟨_, rfl⟩
          have HB := Px.hid hB
          go_upto_region 13 with fail
          go_cut [87] (fun t87 wx => t87 = .bool B ∧ wx = wc)
          case first =>
            by_cases h5 : x.kind = 5
            · rw [h5] at x0
              have hBt : B = true := by rw [hB, h5]; rfl
              subst hBt
              clear hB
              go_wp2_with fail
              go_meet
              exact ⟨rfl, rfl⟩
            · have z5 : (x.kind == 5) = false := by simpa using h5
              have hBt : B = (x.kind == 6) := by rw [hB, z5, Bool.false_or]
              subst hBt
              clear hB h5
              go_wp2_with fail
              go_meet
              exact ⟨rfl, rfl⟩
          case rest =>
            obtain ⟨rfl, hwc⟩ := hcut
            subst hwc
            clear hB
            go_upto_if 87 with fail
            go_cut [6, 7, 8] (fun v6 v7 v8 wx => T3 w wx v6 v7 v8 BB)
            case first =>
              cases B
              · have HE := Px.hid (show BB = less2 bs by rw [HBB.out]; unfold open2; rw [← HB.out]; rfl)
                have HT3 := Px.hid (show T3 w wc (.slice a1 N c1) (.slice a2 N c2) (.slice a3 N c3) (less2 bs) by have := HT.out; rw [HLL.out.1, HLL.out.2.1, HLL.out.2.2.1] at this; exact this)
                go_wp2_with fail
                go_meet
                rw [HE.out]
                exact HT3.out
              · have HE := Px.hid (show BB = (⟨x.kids.toNat, x.kids.toNat, x.kind == 6⟩, k) :: less2 bs by rw [HBB.out]; unfold open2; rw [← HB.out]; rfl)
                obtain ⟨cn, hcn⟩ : ∃ cn, cn = x.kids.toNat := ⟨_, rfl⟩
                have hkn : x.kids = (cn : Nat) := by omega
                rw [← hcn] at HE
                have HX2 := Px.hid (show ∀ W, Same w W → W.cell? ⟨xb, xo + k * 3 + 1, none⟩ = some (.int .i64 (cn : Nat)) from fun W hW => by have := (HX.out.2.2 W hW).2; rw [hkn] at this; exact this)
                rw [hkn] at x1
                obtain ⟨RL, hRL⟩ : ∃ RL, L.reverse.flatMap cNum = RL := ⟨_, rfl⟩
                obtain ⟨RA, hRA⟩ : ∃ RA, A.reverse.flatMap cNum = RA := ⟨_, rfl⟩
                obtain ⟨RF, hRF⟩ : ∃ RF, F.reverse.flatMap cNum = RF := ⟨_, rfl⟩
                have HO := Px.hid (HT.out.rowN HLL.out.2.2.2.1 hRL)
                have HRL := Px.hid hRL
                have HRA := Px.hid hRA
                have HRF := Px.hid hRF
                clear hRL hRA hRF hcn hkn
                go_wp2_with (at_builtin; go_must (refine wpList_append_lies _ rfl _ _ _ rfl 0 3 i0 _ 1 8 Tryd.underlying92 hi0 hz0 hz1 hz2 rfl (by omega) (.slice a1 N c1) N RL rfl (HO.out.alloc _) ⟨wc.heap.size, 0, none⟩ 1 1 [.int .i64 (cn : Nat)] rfl rfl (World.news_of_block (cs := #[.int .i64 (cn : Nat)]) (t := 3) (fr := (0, 0)) (heap_alloc_new wc _)) (by simp [Value.oneCell']) (by omega) (by unfold maxLen; omega) (by omega) (by omega) (wc.heap.size + 1) (by simp) ?_))
                intro gg cap WY hown1 hgrow hat hlt1
                have HP := Px.hid (HT.out.pushN HLL.out.2.2.2.1 HRL.out hown1 (grown_alloc1 (w := wc) hgrow) (hat.imp id (fun e => by omega)))
                clear hown1 hgrow hat hlt1 x0 x1
                have x1 := HX2.out WY HP.out.x.same
                have HO2 := Px.hid (HP.out.rot.rowN HLL.out.2.2.2.2.1 HRA.out)
                go_wp2_with (at_builtin; go_must (refine wpList_append_lies _ rfl _ _ _ rfl 0 3 i0 _ 1 8 Tryd.underlying92 hi0 hz0 hz1 hz2 rfl (by omega) (.slice a2 N c2) N RA rfl (HO2.out.alloc _) ⟨WY.heap.size, 0, none⟩ 1 1 [.int .i64 (cn : Nat)] rfl rfl (World.news_of_block (cs := #[.int .i64 (cn : Nat)]) (t := 3) (fr := (0, 0)) (heap_alloc_new WY _)) (by simp [Value.oneCell']) (by omega) (by unfold maxLen; omega) (by omega) (by omega) (WY.heap.size + 1) (by simp) ?_))
                intro gg2 cap2 WZ hown1 hgrow hat hlt1
                have HP2 := Px.hid (HP.out.rot.pushN HLL.out.2.2.2.2.1 HRA.out hown1 (grown_alloc1 (w := WY) hgrow) (hat.imp id (fun e => by omega)))
                clear hown1 hgrow hat hlt1 x1
                have HO3 := Px.hid (HP2.out.rot.rowN HLL.out.2.2.2.2.2 HRF.out)
                go_wp2_with (at_builtin; go_must (refine wpList_append_lies _ rfl _ _ _ rfl 0 3 i0 _ 1 8 Tryd.underlying92 hi0 hz0 hz1 hz2 rfl (by omega) (.slice a3 N c3) N RF rfl (HO3.out.alloc _) ⟨WZ.heap.size, 0, none⟩ 1 1 [.int .i64 (k : Nat)] rfl rfl (World.news_of_block (cs := #[.int .i64 (k : Nat)]) (t := 3) (fr := (0, 0)) (heap_alloc_new WZ _)) (by simp [Value.oneCell']) (by omega) (by unfold maxLen; omega) (by omega) (by omega) (WZ.heap.size + 1) (by simp) ?_))
                intro gg3 cap3 WV hown1 hgrow hat hlt1
                have HP3 := Px.hid (Tri.rot (HP2.out.rot.pushN HLL.out.2.2.2.2.2 HRF.out hown1 (grown_alloc1 (w := WZ) hgrow) (hat.imp id (fun e => by omega))))
                clear hown1 hgrow hat hlt1
                go_wp2_with fail
                go_meet
                rw [HE.out]
                have := HP3.out
                rw [HLL.out.1, HLL.out.2.1, HLL.out.2.2.1] at this
                exact this
            case rest =>
              obtain ⟨MM, hMM⟩ : ∃ MM, MM = max most BB.length := ⟨_, rfl⟩
              rw [List.length_map, ← hMM] at HSB
              rename_i v6 v7 v8 _
              obtain ⟨a1, c1, a2, c2, a3, c3, e1, e2, e3⟩ := hcut.len
              have HT3 := Px.hid hcut
              clear hcut
              obtain ⟨NB, hNB⟩ : ∃ NB, BB.length = NB := ⟨_, rfl⟩
              rw [hNB] at e1 e2 e3 hol hMM
              subst e1 e2 e3
              have HM := Px.hid hMM
              obtain ⟨hm0, hm1⟩ := HMO.out
              rw [HN.out] at hm0
              have HMB := Px.hid (show MM ≤ k + 1 ∧ NB ≤ MM by omega)
              have HNB := Px.hid hNB
              clear hMM x0 x1 hNB hm0 hm1 HT HBB
              go_upto_if 111 with fail
              go_cut [9] (fun t9 wx => t9 = .int .i64 (MM : Nat) ∧ wx = wc)
              case first =>
                by_cases hgt : most < NB
                · have hgz : (most : Int) < (NB : Int) := by omega
                  have HE := Px.hid (show MM = NB by rw [HM.out]; omega)
                  clear hgt
                  go_wp2_with fail
                  go_meet
                  rw [HE.out]
                  exact ⟨rfl, rfl⟩
                · have hgz : ¬ (most : Int) < (NB : Int) := by omega
                  have HE := Px.hid (show MM = most by rw [HM.out]; omega)
                  clear hgt
                  go_wp2_with fail
                  go_meet
                  rw [HE.out]
                  exact ⟨rfl, rfl⟩
              case rest =>
                obtain ⟨rfl, hwc2⟩ := hcut
                subst hwc2
                obtain ⟨wo, rfl⟩ : ∃ wo : World, wo = wc := ⟨_, rfl⟩
                go_wp2
                go_loopg [6, 7, 8] (NB + 1) (fun gk2 v6 v7 v8 w2 => ∃ lf : List Bq, lf.length < gk2 ∧ Hid (T3 w w2 v6 v7 v8 lf ∧ R6.drop0 (lf.map Prod.fst) = R6.drop0 (BB.map Prod.fst) ∧ lf.length ≤ NB ∧ OkQ l lf))
                case atStart => exact ⟨BB, by rw [HNB.out]; omega, Px.hid ⟨HT3.out, rfl, by rw [HNB.out]; exact Nat.le_refl _, HOK.out⟩⟩
                case round =>
                  obtain ⟨lf, hgl, HQ⟩ := hrel
                  have HGL := Px.hid hgl
                  clear hgl
                  rcases hlf : lf with _ | ⟨⟨⟨ll, aa, ob⟩, f⟩, rs⟩
                  · rw [hlf] at HQ
                    obtain ⟨a1, c1, a2, c2, a3, c3, e1, e2, e3⟩ := HQ.out.1.len
                    subst e1 e2 e3
                    have HR := Px.hid (show R6.behind l p = (some (k + 1), MM) by
                      rw [HSB.out]
                      unfold E6.afterB
                      rw [← HQ.out.2.1]
                      rfl)
                    clear hlf HGL
                    go_wp2
                    go_ret2
                    rw [HR.out]
                    exact ⟨by unfold behV; go_num, HQ.out.1.x.same⟩
                  · rw [hlf] at HQ HGL
                    obtain ⟨rn, hrn⟩ : ∃ rn, rs.length = rn := ⟨_, rfl⟩
                    obtain ⟨g, cap, g2, cap2, g3, cap3, rfl, rfl, rfl, ⟨d1, b1⟩, ⟨d2, b2⟩, ⟨d3, b3⟩, t1, t2, t3, hfz, hgl⟩ := HQ.out.1.top
                    rw [hrn] at HQ t1 t2 t3 hfz d1 d2 d3 ⊢
                    simp only at t1
                    have hrk : rn ≤ 5000 := by have := HQ.out.2.2.1; rw [List.length_cons, hrn] at this; omega
                    have HRN := Px.hid hrn
                    unfold maxLen at b1 b2 b3
                    clear hlf t2 t3 hfz hgl hrn
                    by_cases hc0 : ll = 0
                    · subst hc0
                      go_wp2
                      go_roundg (rn + 1)
                      case measure => have := HGL.out; rw [List.length_cons, HRN.out] at this; omega
                      case rel => exact ⟨rs, by rw [HRN.out]; omega, Px.hid ⟨HQ.out.1.pop HRN.out, HQ.out.2.1, Nat.le_of_succ_le HQ.out.2.2.1, fun c hc => HQ.out.2.2.2 c (by simp [hc])⟩⟩
                    · have hcz : ((ll : Int) == 0) = false := by simpa using hc0
                      have hzz : (((rn : Int) + 1) == 0) = false := beq_eq_false_iff_ne.2 (by omega)
                      have HC := Px.hid hc0
                      clear hc0
                      go_wp2
                      go_roundg g'
                      case measure => omega
                      case rel =>
                        have hp := HQ.out.2.1
                        have e : R6.drop0 (List.map Prod.fst (((⟨ll, aa, ob⟩, f) : Bq) :: rs)) = ⟨ll, aa, ob⟩ :: rs.map Prod.fst := by
                          show (if ll = 0 then _ else _) = _
                          rw [if_neg HC.out]
                        have hq3 := HQ.out.2.2.1
                        have hmb := HMB.out
                        refine ⟨k + 1, MM, ((⟨ll, aa, ob⟩, f) : Bq) :: rs, by have := HG.out; omega, by omega, by go_num, rfl, Px.hid ⟨by rw [← HRN.out] at HQ ⊢; exact HQ.out.1, ?_, by omega, by omega, hmb.1, HQ.out.2.2.2, .inr ⟨ll - 1, _, rs, rfl, by have := HC.out; show ll = ll - 1 + 1; omega⟩⟩⟩
                        rw [HSB.out]
                        unfold E6.afterB
                        rw [← hp, e]
                        rfl
    · have hlz : ¬ (k : Int) < (l.length : Int) := by omega
      have HR := Px.hid (show R6.behind l p = (none, most) by
        rw [HS.out.eq, show k = l.length by omega, List.drop_length]
        rfl)
      go_wp2
      go_ret2
      rw [HR.out]
      exact ⟨rfl, HS.out.tri.x.same⟩
end Go.Proofs.YtahojodgmjmpnaaDoor
