/-
  Several texts in one: The walk over the reference's array, layer 16. The walk over the reference's member, layer 16. The walk over the reference's object, layer 16.
-/
import Derived.Test.YtahojodgmjmpnaaDoorVD
import Derived.Test.YtahojodgmjmpnaaDoorGdJ
/-! The walk over the reference's array, layer 16. -/
namespace Go.Proofs.YtahojodgmjmpnaaDoor
open Go.RowKit Go.Px

theorem arrayN_succ (s : Bytes) (lim : Lim) (rc : R6.St → Nat → Option Nat × R6.St) (me m : Nat) (x : R6.St) (p : Nat) : R6.arrayN s lim rc me (m + 1) x p = match rc x p with
    | (none, y) => (none, y)
    | (some q, y) => match R6.pass s lim { y with out := R6.bump y.out me 1 } q with
      | (none, z) => (none, z)
      | (some q, z) =>
        if R6.at_ s q == 93 then (some (q + 1), R6.frame z (-1))
        else if R6.at_ s q != 44 then (none, R6.fault z q 9)
        else match R6.pass s lim z (q + 1) with
          | (none, u) => (none, u)
          | (some q, u) => R6.arrayN s lim rc me m u q := rfl
/-- How far the values of one have come. -/
structure Rnd (s : Bytes) (lim : Lim) (d : Nat) (u : List Val) (fr : Nat) (w : World) (b : Nat) (vo : Value) (wr : World) (vo1 : Value) (z : R6.St) (k : Nat) (i : Int) (l : List Val) (t : Int) : Prop where
  run : Run6 w b s lim vo z wr vo1
  out : z.out = u ++ ⟨t, i, []⟩ :: l
  i0 : 0 ≤ i
  ik : i ≤ 2 * k
  lt : k < s.length
  frames : z.r.frames = fr
theorem frame_up (x : R6.St) : R6.frame x 1 = { x with r := { x.r with frames := x.r.frames + 1 } } := by
  unfold R6.frame
  congr 2
theorem frame_down (x : R6.St) (n : Nat) (h : x.r.frames = n + 1) : R6.frame x (-1) = { x with r := { x.r with frames := n } } := by
  unfold R6.frame
  have : ((x.r.frames : Int) + -1).toNat = n := by omega
  rw [this]

set_option maxRecDepth 100000 in
set_option maxHeartbeats 8000000 in
theorem array_any (s : Bytes) (lim : Lim) (hc : Ctx s lim) (d : Nat) (hV : ValueC s lim d) : ArrayC s lim d := by
  intro b p dp u x vo w h hxo hul hp hfr hdl
  obtain ⟨R, hR⟩ : ∃ R, R = R6.array s lim (R6.value s lim d) u.length x p := ⟨_, rfl⟩
  rw [← hR]
  have hmay := J6.may_of hc.may
  have hlen := hc.len
  have hdp : dp ≤ 32 := by omega
  have hdp1 : 1 ≤ dp := by omega
  obtain ⟨x1, hx1⟩ : ∃ x1 : R6.St, x1 = { x with r := { x.r with frames := x.r.frames + 1 } } := ⟨_, rfl⟩
  have hst := R6.array.eq_1 s lim (R6.value s lim d) u.length x p
  rw [← hR, frame_up, ← hx1] at hst
  have hx1o : x1.out = u ++ [⟨5, 0, []⟩] := by rw [hx1]; exact hxo
  have hx1f : x1.r.frames = dp := by rw [hx1]; exact hfr
  obtain ⟨_, _, _, _, _, _, _, c9, _⟩ := h.rd.cells
  have f9 := h.rd.free 9
  have en : (x.r.frames : Int) + 1 = (dp : Int) := by omega
  have hwd : IntKind.i64.wrap ((x.r.frames : Int) + 1) = (dp : Int) := by rw [en]; exact IntWalk.i64_in _ ⟨by omega, by omega⟩
  have hz := h.setFrames (x.r.frames + 1)
  rw [show ((x.r.frames + 1 : Nat) : Int) = (dp : Int) by omega, ← hx1] at hz
  have HZ := Px.hid ((Run6.refl h).it hz.1 hz.2)
  have hps := fun y q => R6.pass_ok (s := s) (lim := lim) (x := x1) (p := p) (q := q) (y := y)
  have hcp := pass6 b p s lim x1 vo hc hp _ hz.1
  obtain ⟨⟨o, y⟩, hres⟩ : ∃ r, R6.pass s lim x1 p = r := ⟨_, rfl⟩
  rw [hres] at hst hcp
  have hps := hps y
  rw [hres] at hps
  have HC := Px.hid hcp
  have HH := Px.hid (And.intro hc (And.intro hV (And.intro hdl (And.intro hx1o hx1f))))
  clear h hV hdl hx1 hx1o hx1f hz hres hcp hR hxo hfr en hc
  cases o with
  | none =>
    have HS := Px.hid hst
    clear hst hps
    go_enter Tryd.func52, Tryd.ntmps52
    go_wp2_with fail
    refine HC.out.mono ?_
    rintro e w1 ⟨rfl, h1, h2, _⟩
    have H1 := Px.hid (HZ.out.it h1 h2)
    clear h1 h2
    unfold tupV
    go_wp2
    go_ret2
    rw [HS.out]
    exact ⟨rfl, H1.out.did⟩
  | some q =>
    obtain ⟨k1, k2, k3⟩ := hps q rfl
    have HK := Px.hid (And.intro k1 (And.intro k2 k3))
    have hq1 : q ≤ 140737488355327 := by omega
    have hwq := wrap1 q hq1
    have hix := idx6 s q k3
    clear k1 hps
    simp only at hst
    by_cases e93 : R6.at_ s q = 93
    · rw [if_pos (by simpa using e93)] at hst
      have HS := Px.hid hst
      simp only [e93] at hix
      clear hst e93
      go_enter Tryd.func52, Tryd.ntmps52
      go_wp2_with fail
      refine HC.out.mono ?_
      rintro e w1 ⟨rfl, h1, h2, _⟩
      obtain ⟨_, _, _, _, _, _, _, d9, _⟩ := h1.rd.cells
      have e9 := h1.rd.free 9
      have c0 := h1.c0
      have hyf : y.r.frames = (dp - 1) + 1 := by rw [HK.out.1.2, HH.out.2.2.2.2]; omega
      have hdn : ((y.r.frames : Int) - 1) = ((dp - 1 : Nat) : Int) := by omega
      have hwz : IntKind.i64.wrap ((y.r.frames : Int) - 1) = ((dp - 1 : Nat) : Int) := by rw [hdn]; exact IntWalk.i64_in _ ⟨by omega, by omega⟩
      have hz := h1.setFrames (dp - 1)
      have H1 := Px.hid (And.intro ((HZ.out.it h1 h2).it hz.1 hz.2) hyf)
      clear h1 h2 hz hyf hdn c9 f9
      unfold tupV
      go_wp2
      go_ret2
      rw [HS.out, frame_down y (dp - 1) H1.out.2]
      exact ⟨rfl, H1.out.1.did⟩
    rw [if_neg (by simpa using e93)] at hst
    have hby := at_lt s q
    obtain ⟨c, hcc⟩ : ∃ c, R6.at_ s q = c := ⟨_, rfl⟩
    simp only [hcc] at hix
    rw [hcc] at e93 hby
    clear hcc
    have n93 : ((c : Int) == 93) = false := by simp; omega
    have HS := Px.hid hst
    clear hst e93 hby
    go_enter Tryd.func52, Tryd.ntmps52
    go_wp2_with fail
    refine HC.out.mono ?_
    rintro e w1 ⟨rfl, h1, h2, _⟩
    have c0 := h1.c0
    have H1 := Px.hid (show Rnd s lim d u dp w b vo w1 vo y q 0 [] 5 from ⟨HZ.out.it h1 h2, HK.out.1.1.trans HH.out.2.2.2.1, Int.le_refl _, by omega, k3, HK.out.1.2.trans HH.out.2.2.2.2⟩)
    clear h1 h2 c9 f9 HC HZ
    unfold tupV
    go_wp2
    clear c0 hix n93
    go_loopw [1] (fun aa wr => ∃ (k m : Nat) (z : R6.St) (i : Int) (l : List Val) (vo1 : Value), aa = .int .i64 (k : Nat) ∧ s.length + 1 ≤ m + k ∧ k < s.length ∧ Hid (Rnd s lim d u dp w b vo wr vo1 z k i l 5) ∧ Hid (R = R6.arrayN s lim (R6.value s lim d) u.length m z k)) (fun aa _ => s.length - (intOf aa).toNat)
    case atStart => exact ⟨q, s.length + 1 - q, y, 0, [], vo, rfl, by omega, k3, H1, HS⟩
    case round =>
      clear H1 HS HK hwq hq1 k2 k3
      obtain ⟨k, m, z, i, l, vo1, rfl, hmk, hks, HR, HP⟩ := hrel
      obtain ⟨m', rfl⟩ : ∃ m', m = m' + 1 := ⟨m - 1, by omega⟩
      have hps := HP.out
      rw [arrayN_succ] at hps
      have hv := HH.out.2.1 b k dp z vo1 wr HR.out.run.x (Nat.le_of_lt hks) HR.out.frames HH.out.2.2.1
      have hsn := fun q y => R6.value_ok s lim d z k q y
      obtain ⟨⟨o, y1⟩, hres⟩ : ∃ r, R6.value s lim d z k = r := ⟨_, rfl⟩
      rw [hres] at hps hv hsn
      have HV := Px.hid hv
      clear hres hv HP
      cases o with
      | none =>
        have HS := Px.hid hps
        clear hps hsn
        go_wp2_with fail
        refine HV.out.mono ?_
        rintro e w2 ⟨rfl, hd⟩
        have H2 := Px.hid (HR.out.run.andThen hd)
        clear hd
        unfold tupV
        go_wp2
        go_ret2
        rw [HS.out]
        exact ⟨rfl, H2.out⟩
      | some q1 =>
        have hsn := hsn q1 y1 rfl
        obtain ⟨l2, hl2⟩ := hsn.out
        have hy1o : y1.out = u ++ ⟨5, i, []⟩ :: (l ++ l2) := by rw [hl2, HR.out.out, List.append_assoc, List.cons_append]
        have hbump : R6.bump y1.out u.length 1 = u ++ ⟨5, i + 1, []⟩ :: (l ++ l2) := by rw [hy1o]; exact R6.bump_mid _ _ _ _
        have hy1f : y1.r.frames = dp := hsn.frames.trans HR.out.frames
        have hq1s := hsn.ps
        have hkq1 := hsn.le
        have hme : y1.out[u.length]? = some ⟨5, i, []⟩ := by rw [hy1o]; simp
        have hset : y1.out.set u.length ⟨5, i + 1, []⟩ = R6.bump y1.out u.length 1 := by rw [hbump, hy1o]; simp
        have hik := HR.out.ik
        have hi0 := HR.out.i0
        obtain ⟨y2, hy2⟩ : ∃ y2 : R6.St, y2 = { y1 with out := R6.bump y1.out u.length 1 } := ⟨_, rfl⟩
        simp only at hps
        rw [← hy2] at hps
        have hy2o : y2.out = u ++ ⟨5, i + 1, []⟩ :: (l ++ l2) := by rw [hy2]; exact hbump
        have hy2f : y2.r.frames = dp := by rw [hy2]; exact hy1f
        have hwi : IntKind.i64.wrap (i + 1) = i + 1 := IntWalk.i64_in _ ⟨by omega, by omega⟩
        have hpo := fun y q => R6.pass_ok (s := s) (lim := lim) (x := y2) (p := q1) (q := q) (y := y)
        have HCP := Px.hid (fun (w : World) (vo : Value) (h : X6 w b s lim y2 vo) => pass6 b q1 s lim y2 vo HH.out.1 hq1s w h)
        obtain ⟨⟨o, z1⟩, hres⟩ : ∃ r, R6.pass s lim y2 q1 = r := ⟨_, rfl⟩
        have hpo := hpo z1
        rw [hres] at hps hpo
        simp only [hres] at HCP
        have HY := Px.hid (And.intro hme (And.intro hset (And.intro hy2 (And.intro hy2o hy2f))))
        have hml : u.length < y1.out.length := by rw [hy1o, List.length_append, List.length_cons]; omega
        clear hsn hl2 hy1o hbump hy1f hme hset hy2 hy2o hy2f hres
        go_wp2_with fail
        refine HV.out.mono ?_
        rintro e w2 ⟨rfl, vo2, hd⟩
        obtain ⟨go, capo, hvo2, ho1, ho2, _, kk, _, kfo⟩ := hd.x.val HY.out.1
        have c11 := hd.x.cell11
        have H2 := Px.hid (And.intro (HR.out.run.trans hd) hvo2)
        rw [hvo2] at c11
        have hml2 : (u.length : Int) < (y1.out.length : Int) := by omega
        simp only at kk
        clear hd hvo2 HV
        unfold tupV
        go_upto_region 11 with fail
        go_region
        obtain ⟨w3, hw3⟩ : ∃ w3, w3 = (w2.setCell ⟨go, u.length * 3 + 1, none⟩ (.int .i64 (i + 1))).drew := ⟨_, rfl⟩
        rw [← hw3]
        have H3 := Px.hid (show Run6 w b s lim vo y2 w3 vo2 from by
          have h0 := H2.out.1
          have hv := H2.out.2
          rw [hv] at h0 ⊢
          have h1 := (h0.trans (h0.x.setVal HY.out.1 (a' := ⟨5, i + 1, []⟩) 1 (by decide) (.int .i64 (i + 1)) rfl)).drewN 1
          rw [hw3, HY.out.2.2.1, ← HY.out.2.1]
          exact h1)
        clear hw3 c11 kk kfo hwi H2
        have c0 := H3.out.x.c0
        cases o with
        | none =>
          have HS := Px.hid hps
          clear hps hpo
          go_wp2_with fail
          refine (HCP.out _ _ H3.out.x).mono ?_
          rintro e w4 ⟨rfl, h1, h2, _⟩
          have H4 := Px.hid (H3.out.it h1 h2)
          clear h1 h2
          unfold tupV
          go_wp2
          go_ret2
          rw [HS.out]
          exact ⟨rfl, H4.out.did⟩
        | some q2 =>
          obtain ⟨k1, k2, k3⟩ := hpo q2 rfl
          have HK := Px.hid k1
          have hq2 : q2 ≤ 140737488355327 := by have := HH.out.1.len; omega
          have hwq := wrap1 q2 hq2
          have hix := idx6 s q2 k3
          clear k1 hpo
          simp only at hps
          by_cases e93 : R6.at_ s q2 = 93
          · rw [if_pos (by simpa using e93)] at hps
            have HS := Px.hid hps
            simp only [e93] at hix
            clear hps e93 c0
            go_wp2_with fail
            refine (HCP.out _ _ H3.out.x).mono ?_
            rintro e w4 ⟨rfl, h1, h2, _⟩
            obtain ⟨_, _, _, _, _, _, _, d9, _⟩ := h1.rd.cells
            have e9 := h1.rd.free 9
            have c0 := h1.c0
            have hyf : z1.r.frames = (dp - 1) + 1 := by rw [HK.out.2, HY.out.2.2.2.2]; omega
            have hdn : ((z1.r.frames : Int) - 1) = ((dp - 1 : Nat) : Int) := by omega
            have hwz : IntKind.i64.wrap ((z1.r.frames : Int) - 1) = ((dp - 1 : Nat) : Int) := by rw [hdn]; exact IntWalk.i64_in _ ⟨by omega, by omega⟩
            have hz := h1.setFrames (dp - 1)
            have H4 := Px.hid (And.intro ((H3.out.it h1 h2).it hz.1 hz.2) hyf)
            clear h1 h2 hz hyf hdn
            unfold tupV
            go_wp2
            go_ret2
            rw [HS.out, frame_down z1 (dp - 1) H4.out.2]
            exact ⟨rfl, H4.out.1.did⟩
          rw [if_neg (by simpa using e93)] at hps
          by_cases e44 : R6.at_ s q2 = 44
          · rw [if_neg (by simp [e44])] at hps
            simp only [e44] at hix
            have hpo := fun y q => R6.pass_ok (s := s) (lim := lim) (x := z1) (p := q2 + 1) (q := q) (y := y)
            have HCQ := Px.hid (fun (w : World) (vo : Value) (h : X6 w b s lim z1 vo) => pass6 b (q2 + 1) s lim z1 vo HH.out.1 k3 w h)
            obtain ⟨⟨o, v⟩, hres⟩ : ∃ r, R6.pass s lim z1 (q2 + 1) = r := ⟨_, rfl⟩
            have hpo := hpo v
            rw [hres] at hps hpo
            simp only [hres] at HCQ
            clear e93 e44 hres c0
            cases o with
            | none =>
              have HS := Px.hid hps
              clear hps hpo
              go_wp2_with fail
              refine (HCP.out _ _ H3.out.x).mono ?_
              rintro e w4 ⟨rfl, h1, h2, _⟩
              have c0 := h1.c0
              have H4 := Px.hid (H3.out.it h1 h2)
              clear h1 h2
              unfold tupV
              go_wp2_with fail
              refine (HCQ.out _ _ H4.out.x).mono ?_
              rintro e w5 ⟨rfl, h1, h2, _⟩
              have H5 := Px.hid (H4.out.it h1 h2)
              clear h1 h2
              unfold tupV
              go_wp2
              go_ret2
              rw [HS.out]
              exact ⟨rfl, H5.out.did⟩
            | some q3 =>
              have HS := Px.hid hps
              obtain ⟨k4, k5, k6⟩ := hpo q3 rfl
              have HK2 := Px.hid k4
              clear hps hpo k4
              go_wp2_with fail
              refine (HCP.out _ _ H3.out.x).mono ?_
              rintro e w4 ⟨rfl, h1, h2, _⟩
              have c0 := h1.c0
              have H4 := Px.hid (H3.out.it h1 h2)
              clear h1 h2
              unfold tupV
              go_wp2_with fail
              refine (HCQ.out _ _ H4.out.x).mono ?_
              rintro e w5 ⟨rfl, h1, h2, _⟩
              have H5 := Px.hid (show Rnd s lim d u dp w b vo w5 vo2 v q3 (i + 1) (l ++ l2) 5 from ⟨H4.out.it h1 h2, (HK2.out.1.trans HK.out.1).trans HY.out.2.2.2.1, by omega, by omega, k6, (HK2.out.2.trans HK.out.2).trans HY.out.2.2.2.2⟩)
              clear h1 h2
              unfold tupV
              go_wp2
              go_roundw
              case rel => exact ⟨q3, m', v, i + 1, l ++ l2, vo2, rfl, by omega, k6, H5, HS⟩
              case measure => simp [intOf]; omega
          · rw [if_pos (by simpa using e44)] at hps
            have HS := Px.hid hps
            obtain ⟨c, hcc⟩ : ∃ c, R6.at_ s q2 = c := ⟨_, rfl⟩
            simp only [hcc] at hix
            rw [hcc] at e93 e44
            have n93 : ((c : Int) == 93) = false := by simp; omega
            have n44 : ((c : Int) != 44) = true := by simp; omega
            clear hps e93 e44 hcc c0
            go_wp2_with fail
            refine (HCP.out _ _ H3.out.x).mono ?_
            rintro e w4 ⟨rfl, h1, h2, _⟩
            have c0 := h1.c0
            have H4 := Px.hid (H3.out.it h1 h2)
            clear h1 h2
            unfold tupV
            go_wp2_with fail
            refine (fault6 b q2 9 s lim z1 vo2 _ H4.out.x).mono ?_
            rintro e w5 ⟨rfl, h1, h2⟩
            have H5 := Px.hid (H4.out.it h1 h2)
            clear h1 h2
            go_wp2
            go_ret2
            rw [HS.out]
            exact ⟨rfl, H5.out.did⟩
end Go.Proofs.YtahojodgmjmpnaaDoor

/-! The walk over the reference's member, layer 16. -/
namespace Go.Proofs.YtahojodgmjmpnaaDoor
open Go.RowKit Go.Px

/-- What member hands back. -/
def MemV (res : Option (Bytes × Nat)) (r : Ending) : Prop := match res with
  | some (b, q) => r = .returned (.tuple #[S b, .int .i64 (q : Nat), .bool true])
  | none => ∃ t, r = .returned (.tuple #[S t, .int .i64 0, .bool false])
def MemberC (s : Bytes) (lim : Lim) (d : Nat) : Prop := ∀ (b p dp : Nat) (names : List Bytes) (vn : Value) (x : R6.St) (vo : Value) (w : World), X6 w b s lim x vo → Owns w 9 1 cStr vn names → names.length ≤ 1000000 → p ≤ s.length → x.r.frames = dp → ((dp + d : Nat) : Int) = lim.d → (∀ k, vn.ownBlock = some k → k ≠ b) →
  Calls Tryd.prog 65 #[.pointer (some ⟨b, 0, none⟩), .int .i64 (p : Nat), .int .i64 (dp : Nat), vn] w fun r w' => MemV (R6.member s lim (R6.value s lim d) x p names).1 r ∧ Did6 w b s lim vo (R6.member s lim (R6.value s lim d) x p names).2 w'

set_option maxRecDepth 100000 in
set_option maxHeartbeats 8000000 in
theorem member_any (s : Bytes) (lim : Lim) (hc : Ctx s lim) (d : Nat) (hV : ValueC s lim d) : MemberC s lim d := by
  intro b p dp names vn x vo w h hnm hnl hp hfr hdl hnb
  obtain ⟨R, hR⟩ : ∃ R, R = R6.member s lim (R6.value s lim d) x p names := ⟨_, rfl⟩
  rw [← hR]
  have hmay := J6.may_of hc.may
  have hlen := hc.len
  have hst := R6.member.eq_1 s lim (R6.value s lim d) x p names
  rw [← hR] at hst
  obtain ⟨na, nc, hvn, _⟩ := hnm.len
  subst hvn
  have hio := fun y => R6.is_ok (s := s) (lim := lim) (x := x) (p := p) (c := 34) (y := y)
  have hci := is6 b p 34 s lim x vo hc (by omega) w h
  obtain ⟨⟨o, y⟩, hres⟩ : ∃ r, R6.is s lim x p 34 = r := ⟨_, rfl⟩
  have hio := hio y
  rw [hres] at hst hci hio
  have HI := Px.hid hci
  have HH := Px.hid (And.intro hc (And.intro hV (And.intro hdl (And.intro hfr (And.intro hnm (And.intro hnb (Run6.refl h)))))))
  have hp2 : p ≤ 140737488355327 := by omega
  clear h hV hdl hci hres hR hfr hc hnm hnb hp
  cases o with
  | false =>
    have HS := Px.hid hst
    clear hst hio hnl
    go_enter Tryd.func65, Tryd.ntmps65
    go_wp2_with fail
    refine HI.out.mono ?_
    rintro e w1 ⟨rfl, h1, h2⟩
    have H1 := Px.hid (HH.out.2.2.2.2.2.2.it h1 h2)
    clear h1 h2
    go_wp2
    go_ret3
    rw [HS.out]
    exact ⟨⟨[], rfl⟩, H1.out.did⟩
  | true =>
    obtain ⟨k1, k2, _⟩ := hio rfl
    have HK := Px.hid (And.intro k1 k2)
    clear hio k1
    simp only at hst
    by_cases hfull : lim.i ≤ (y.out.length : Int)
    · rw [if_pos hfull] at hst
      have HS := Px.hid hst
      have hge : decide (lim.i ≤ (y.out.length : Int)) = true := decide_eq_true hfull
      clear hst hnl hfull
      go_enter Tryd.func65, Tryd.ntmps65
      go_wp2_with fail
      refine HI.out.mono ?_
      rintro e w1 ⟨rfl, h1, h2⟩
      obtain ⟨_, _, c2, _⟩ := h1.rd.cells
      have c11 := h1.cell11
      obtain ⟨oa, oc, hov, _⟩ := h1.out.len
      have H1 := Px.hid (HH.out.2.2.2.2.2.2.it h1 h2)
      rw [hov] at c11
      clear h1 h2 hov
      go_wp2_with fail
      go_quiet (fail)
      go_wp2_with fail
      refine (fault6 b p 10 s lim y vo _ (H1.out.x.drewN nq)).mono ?_
      rintro e w2 ⟨rfl, h1, h2⟩
      have H2 := Px.hid ((H1.out.drewN nq).it h1 h2)
      clear h1 h2
      go_wp2
      go_ret3
      rw [HS.out]
      exact ⟨⟨[], rfl⟩, H2.out.did⟩
    rw [if_neg hfull] at hst
    have hge : decide (lim.i ≤ (y.out.length : Int)) = false := decide_eq_false hfull
    have hol : y.out.length ≤ 4096 := by omega
    have HT := Px.hid (fun (w : World) (h : X6 w b s lim y vo) => text6 b p s lim y vo HH.out.1 HK.out.2 w h)
    have htx := fun l q z => R6.text_ok (s := s) (lim := lim) (x := y) (p := p) (q := q) (y := z) (b := l)
    obtain ⟨⟨o, z⟩, hres⟩ : ∃ r, R6.text s lim y p = r := ⟨_, rfl⟩
    rw [hres] at hst htx
    simp only [hres] at HT
    clear hres hfull
    cases o with
    | none =>
      have HS := Px.hid hst
      clear hst htx hnl
      go_enter Tryd.func65, Tryd.ntmps65
      go_wp2_with fail
      refine HI.out.mono ?_
      rintro e w1 ⟨rfl, h1, h2⟩
      obtain ⟨_, _, c2, _⟩ := h1.rd.cells
      have c11 := h1.cell11
      obtain ⟨oa, oc, hov, _⟩ := h1.out.len
      have H1 := Px.hid (HH.out.2.2.2.2.2.2.it h1 h2)
      rw [hov] at c11
      clear h1 h2 hov
      go_wp2_with fail
      go_quiet (fail)
      go_wp2_with fail
      refine (HT.out _ (H1.out.x.drewN nq)).mono ?_
      rintro e w2 ⟨rfl, h1, h2, _⟩
      have H2 := Px.hid ((H1.out.drewN nq).it h1 h2)
      clear h1 h2
      unfold escV
      go_wp2
      go_ret3
      rw [HS.out]
      exact ⟨⟨[], rfl⟩, H2.out.did⟩
    | some v =>
      obtain ⟨bn, q1⟩ := v
      obtain ⟨t1, t2, t3⟩ := htx bn q1 z rfl
      have HX := Px.hid t1
      have hq1 : q1 ≤ 140737488355327 := by have := HH.out.1.len; omega
      have HST := Px.hid hst
      clear htx t1 hst
      go_enter Tryd.func65, Tryd.ntmps65
      go_wp2_with fail
      refine HI.out.mono ?_
      rintro e w1 ⟨rfl, h1, h2⟩
      obtain ⟨_, _, c2, _⟩ := h1.rd.cells
      have c11 := h1.cell11
      obtain ⟨oa, oc, hov, _⟩ := h1.out.len
      have H1 := Px.hid (HH.out.2.2.2.2.2.2.it h1 h2)
      have HN1 := Px.hid (Owns.fr HH.out.2.2.2.2.1 h2 HH.out.2.2.2.2.2.1)
      rw [hov] at c11
      clear h1 h2 hov HI
      go_wp2_with fail
      go_quiet (fail)
      go_wp2_with fail
      refine (HT.out _ (H1.out.x.drewN nq)).mono ?_
      rintro e w2 ⟨rfl, h1, h2, _⟩
      have H2 := Px.hid ((H1.out.drewN nq).it h1 h2)
      have HN2 := Px.hid (Owns.fr (HN1.out.drewN nq) h2 HH.out.2.2.2.2.2.1)
      clear h1 h2 c2 c11 HT HN1
      unfold escV
      go_wp2
      go_loopw [14] (fun i wr => ∃ k, k ≤ names.length ∧ i = .int .i64 (k : Nat) ∧ w2 = wr ∧ ∀ j, j < k → names[j]? ≠ some bn) (fun i _ => names.length - (intOf i).toNat)
      case atStart => exact ⟨0, Nat.zero_le _, rfl, rfl, fun j hj => by omega⟩
      case round =>
        obtain ⟨k, hk, rfl, rfl, hno⟩ := hrel
        by_cases hlt : k < names.length
        · have hltz : (k : Int) < (names.length : Int) := by omega
          obtain ⟨xn, hx⟩ : ∃ x, names[k]? = some x := ⟨_, List.getElem?_eq_getElem hlt⟩
          obtain ⟨g, cap', hv', hca, hcb, hcc, _⟩ := Owns.at HN2.out cStr_len hx
          simp only [Value.slice.injEq] at hv'
          have ha := hv'.1
          subst ha
          have ck : w2.cell? ⟨g, k, none⟩ = some (S xn) := by have := hcc 0 (S xn) rfl; simpa using this
          have HXN := Px.hid (And.intro hx hno)
          have HLT := Px.hid hlt
          clear hv' hcc hx hno hlt hca hcb
          obtain ⟨q, hq⟩ : ∃ q, (xn == bn) = q := ⟨_, rfl⟩
          have HQ := Px.hid hq
          cases q with
          | true =>
            have HS := Px.hid (show R = (none, R6.fault z p 9) by
              have hst := HST.out
              rw [if_pos] at hst
              · exact hst
              · have ht : xn = bn := by simpa using HQ.out
                have : bn ∈ names := by rw [← ht]; exact List.mem_of_getElem? HXN.out.1
                simp [this])
            clear HST
            go_wp2_with fail
            refine (fault6 b p 9 s lim z vo _ H2.out.x).mono ?_
            rintro e w3 ⟨rfl, h1, h2⟩
            have H3 := Px.hid (H2.out.it h1 h2)
            clear h1 h2
            go_wp2
            go_ret3
            rw [HS.out]
            exact ⟨⟨[], rfl⟩, H3.out.did⟩
          | false =>
            go_wp2
            go_roundw
            case rel =>
              refine ⟨k + 1, HLT.out, by go_num, trivial, fun j hj => ?_⟩
              by_cases e : j = k
              · subst e
                rw [HXN.out.1]
                have ht : ¬ xn = bn := by simpa using HQ.out
                exact fun h => ht (by simpa using h)
              · exact HXN.out.2 j (by omega)
            case measure => have := HLT.out; simp [intOf]; omega
        · have hlt' : ¬ (k : Int) < (names.length : Int) := by omega
          have hnc : names.contains bn = false := by
            have hk : k = names.length := by omega
            subst hk
            simp only [List.contains_eq_mem, decide_eq_false_iff_not]
            intro hm
            obtain ⟨j, hj⟩ := List.mem_iff_getElem?.1 hm
            have := (List.getElem?_eq_some_iff.1 hj).1
            exact hno j this hj
          have hst := HST.out
          rw [if_neg (by rw [hnc]; simp)] at hst
          obtain ⟨z1, hz1⟩ : ∃ z1 : R6.St, z1 = { z with out := z.out ++ [⟨4, 0, bn⟩] } := ⟨_, rfl⟩
          rw [← hz1] at hst
          have hzl : z.out.length ≤ 4096 := by rw [HX.out.1]; exact hol
          have HZ1 := Px.hid (And.intro hz1 (show z1.r.frames = dp by rw [hz1]; exact (HX.out.2.trans HK.out.1.2).trans HH.out.2.2.2.1))
          have hpo := fun y q => R6.pass_ok (s := s) (lim := lim) (x := z1) (p := q1) (q := q) (y := y)
          have HCP := Px.hid (fun (w : World) (vo : Value) (h : X6 w b s lim z1 vo) => pass6 b q1 s lim z1 vo HH.out.1 t3 w h)
          obtain ⟨⟨o, u⟩, hres⟩ : ∃ r, R6.pass s lim z1 q1 = r := ⟨_, rfl⟩
          have hpo := hpo u
          rw [hres] at hst hpo
          simp only [hres] at HCP
          clear hnc hno hlt hz1 hres HST HN2
          obtain ⟨i0, hi0, hz0, hzz1, hz2⟩ := info_parts Tryd.infoVal
          have c11 := H2.out.x.cell11
          have f11 := H2.out.x.rd.free 11
          have hbl := H2.out.x.lt
          have HOB := Px.hid H2.out.x.ob.ne
          have key : ∀ (gg cap : Nat) (w3 : World), w3.ownsRow 0 58 3 (.slice (some ⟨gg, 0, none⟩) (z.out.length + 1) cap) (z.out.length + 1) (z.out.flatMap cVal ++ cVal ⟨4, 0, bn⟩) → w2.grownBy w3 vo.ownBlock → (vo.ownBlock = some gg ∨ w2.heap.size ≤ gg) → Did6 w b s lim vo z1 (w3.setCell ⟨b, 11, none⟩ (.slice (some ⟨gg, 0, none⟩) (z.out.length + 1) cap)) := fun gg cap w3 h1 h2 h3 => by
            rw [HZ1.out.1]
            exact H2.out.andThen (H2.out.x.afterOut h1 h2 h3)
          have KEY := Px.hid key
          clear key
          go_wp2_with (at_builtin; go_must (refine wpList_append_lies _ rfl _ _ _ rfl 0 58 i0 _ 3 32 Tryd.underlying25 hi0 hz0 hzz1 hz2 rfl (by omega) vo z.out.length (z.out.flatMap cVal) rfl (H2.out.x.out.alloc _) ⟨w2.heap.size, 0, none⟩ 1 1 (cVal ⟨4, 0, bn⟩) rfl rfl (World.news_of_block (cs := #[.int .i64 4, .int .i64 0, S bn]) (t := 58) (fr := (0, 0)) (heap_alloc_new w2 _)) (by simp [cVal, Value.oneCell']) (by omega) (by unfold maxLen; omega) (by omega) (by omega) (w2.heap.size + 1) (by simp) ?_))
          intro gg cap w3 hown1 hgrow hat hltg
          have k11 := grown_cell1 hgrow c11 HOB.out
          have e11 := grown_free1 hgrow c11 f11 HOB.out
          obtain ⟨vo3, hd3⟩ := KEY.out gg cap w3 hown1 (grown_alloc1 hgrow) (hat.elim .inl (fun e => .inr (by omega)))
          have H3 := Px.hid hd3
          clear hown1 hgrow hat hltg hd3 c11 f11
          cases o with
          | none =>
            have HS := Px.hid hst
            clear hst hpo
            go_wp2_with fail
            refine (HCP.out _ _ H3.out.x).mono ?_
            rintro e w4 ⟨rfl, h1, h2, _⟩
            have H4 := Px.hid (H3.out.it h1 h2)
            clear h1 h2
            unfold tupV
            go_wp2
            go_ret3
            rw [HS.out]
            exact ⟨⟨[], rfl⟩, H4.out.did⟩
          | some q2 =>
            obtain ⟨p1, p2, p3⟩ := hpo q2 rfl
            have HU := Px.hid p1
            have hq2 : q2 ≤ 140737488355327 := by have := HH.out.1.len; omega
            have hwq := wrap1 q2 hq2
            clear p1 hpo
            simp only at hst
            have HCI := Px.hid (fun (w : World) (vo : Value) (h : X6 w b s lim u vo) => is6 b q2 58 s lim u vo HH.out.1 (by omega) w h)
            have hio := fun y => R6.is_ok (s := s) (lim := lim) (x := u) (p := q2) (c := 58) (y := y)
            obtain ⟨⟨o, u2⟩, hres⟩ : ∃ r, R6.is s lim u q2 58 = r := ⟨_, rfl⟩
            have hio := hio u2
            rw [hres] at hst hio
            simp only [hres] at HCI
            clear hres
            go_wp2_with fail
            refine (HCP.out _ _ H3.out.x).mono ?_
            rintro e w4 ⟨rfl, h1, h2, _⟩
            have H4 := Px.hid (H3.out.it h1 h2)
            clear h1 h2 k11 e11
            unfold tupV
            go_wp2_with fail
            refine (HCI.out _ _ H4.out.x).mono ?_
            rintro e w5 ⟨rfl, h1, h2⟩
            have H5 := Px.hid (H4.out.it h1 h2)
            clear h1 h2
            cases o with
            | false =>
              have HS := Px.hid hst
              clear hst hio
              go_wp2
              go_ret3
              rw [HS.out]
              exact ⟨⟨[], rfl⟩, H5.out.did⟩
            | true =>
              obtain ⟨r1, _⟩ := hio rfl
              have HU2 := Px.hid r1
              clear r1 hio
              simp only at hst
              have hpo := fun y q => R6.pass_ok (s := s) (lim := lim) (x := u2) (p := q2 + 1) (q := q) (y := y)
              have HCQ := Px.hid (fun (w : World) (vo : Value) (h : X6 w b s lim u2 vo) => pass6 b (q2 + 1) s lim u2 vo HH.out.1 p3 w h)
              obtain ⟨⟨o, u3⟩, hres⟩ : ∃ r, R6.pass s lim u2 (q2 + 1) = r := ⟨_, rfl⟩
              have hpo := hpo u3
              rw [hres] at hst hpo
              simp only [hres] at HCQ
              clear hres
              cases o with
              | none =>
                have HS := Px.hid hst
                clear hst hpo
                go_wp2_with fail
                refine (HCQ.out _ _ H5.out.x).mono ?_
                rintro e w6 ⟨rfl, h1, h2, _⟩
                have H6 := Px.hid (H5.out.it h1 h2)
                clear h1 h2
                unfold tupV
                go_wp2
                go_ret3
                rw [HS.out]
                exact ⟨⟨[], rfl⟩, H6.out.did⟩
              | some q3 =>
                obtain ⟨s1, s2, s3⟩ := hpo q3 rfl
                simp only at hst
                have hu3f : u3.r.frames = dp := (s1.2.trans (HU2.out.2.trans HU.out.2)).trans HZ1.out.2
                have HCV := Px.hid (fun (w : World) (vo : Value) (h : X6 w b s lim u3 vo) => HH.out.2.1 b q3 dp u3 vo w h (Nat.le_of_lt s3) hu3f HH.out.2.2.1)
                obtain ⟨⟨o, u4⟩, hres⟩ : ∃ r, R6.value s lim d u3 q3 = r := ⟨_, rfl⟩
                rw [hres] at hst
                simp only [hres] at HCV
                clear hres s1 hu3f hpo
                have HS := Px.hid hst
                clear hst
                go_wp2_with fail
                refine (HCQ.out _ _ H5.out.x).mono ?_
                rintro e w6 ⟨rfl, h1, h2, _⟩
                have H6 := Px.hid (H5.out.it h1 h2)
                clear h1 h2
                unfold tupV
                go_wp2_with fail
                refine (HCV.out _ _ H6.out.x).mono ?_
                rintro e w7 ⟨rfl, hd⟩
                have H7 := Px.hid (H6.out.andThen hd)
                clear hd
                cases o with
                | none =>
                  unfold tupV
                  go_wp2
                  go_ret3
                  rw [HS.out]
                  exact ⟨⟨bn, rfl⟩, H7.out⟩
                | some q4 =>
                  unfold tupV
                  go_wp2
                  go_ret3
                  rw [HS.out]
                  exact ⟨rfl, H7.out⟩
end Go.Proofs.YtahojodgmjmpnaaDoor

/-! The walk over the reference's object, layer 16. -/
namespace Go.Proofs.YtahojodgmjmpnaaDoor
open Go.RowKit Go.Px

theorem passN_lb {s : Bytes} {lim : Lim} {q : Nat} {y : R6.St} : ∀ (m : Nat) (x : R6.St) (p : Nat), R6.passN s lim m x p = (some q, y) → (q : Int) < lim.b
  | 0, _, _, h => by cases h
  | m + 1, x, p, h => by
    unfold R6.passN at h
    obtain ⟨⟨c, z⟩, hres⟩ : ∃ r, R6.want s lim x p = r := ⟨_, rfl⟩
    rw [hres] at h
    cases c with
    | false => cases h
    | true =>
      obtain ⟨k1, k2, k3⟩ := R6.want_ok hres
      simp only at h
      split at h
      · exact passN_lb m z (p + 1) h
      · cases h
        exact k3
theorem pass_okb {s : Bytes} {lim : Lim} {x y : R6.St} {p q : Nat} (h : R6.pass s lim x p = (some q, y)) : R6.Kept x y ∧ p ≤ q ∧ q < s.length ∧ (q : Int) < lim.b := ⟨(R6.pass_ok h).1, (R6.pass_ok h).2.1, (R6.pass_ok h).2.2, passN_lb _ _ _ h⟩
theorem objectN_succ (s : Bytes) (lim : Lim) (rc : R6.St → Nat → Option Nat × R6.St) (me m : Nat) (x : R6.St) (p : Nat) (names : List Bytes) : R6.objectN s lim rc me (m + 1) x p names = match R6.member s lim rc x p names with
    | (none, y) => (none, y)
    | (some (b, q), y) => match R6.pass s lim { y with out := R6.bump y.out me 2 } q with
      | (none, z) => (none, z)
      | (some q, z) =>
        if R6.at_ s q == 125 then (some (q + 1), R6.frame z (-1))
        else if R6.at_ s q != 44 then (none, R6.fault z q 9)
        else match R6.pass s lim z (q + 1) with
          | (none, u) => (none, u)
          | (some q, u) => R6.objectN s lim rc me m u q (names ++ [b]) := rfl
theorem sowns0 {w : World} {base : Nat} {v : Value} {l : List Bytes} (h : w.ownsRow base 9 1 v l.length (l.flatMap cStr)) : Owns w 9 1 cStr v l := by
  refine ⟨h.1, ?_⟩
  rcases h.2 with x | ⟨g, cap, cur, h1, _, h3⟩
  · exact .inl x
  · exact .inr ⟨g, cap, cur, h1, Nat.zero_le _, h3⟩
theorem srow_keep {w w' : World} {base : Nat} {v : Value} {n : Nat} {xs : List Value} (h : w.ownsRow base 9 1 v n xs) (hk : ∀ k, v.ownBlock = some k → w'.heap[k]? = w.heap[k]?) : w'.ownsRow base 9 1 v n xs := by
  refine ⟨h.1, ?_⟩
  rcases h.2 with x | ⟨g, cap, cur, rfl, h2, h3, h4⟩
  · exact .inl x
  · exact .inr ⟨g, cap, cur, rfl, h2, (hk g rfl).trans h3, h4⟩
/-- An object's names, in a slice of the call's own beside the reader. -/
structure Nms (w wr : World) (b : Nat) (vo1 vn : Value) (names : List Bytes) : Prop where
  row : wr.ownsRow w.heap.size 9 1 vn names.length (names.flatMap cStr)
  ap : ∀ k, vn.ownBlock = some k → ¬ foot6 b vo1 k
section
variable {w w1 w2 w3 : World} {b : Nat} {s : Bytes} {lim : Lim} {vo vo1 vo2 vn : Value} {z : R6.St} {names : List Bytes}
theorem Nms.nil (w wr : World) (b : Nat) (vo1 : Value) : Nms w wr b vo1 (.slice none 0 0) [] := ⟨World.ownsRow_nil _ _ _ _, fun k e => by simp [Value.ownBlock] at e⟩
theorem Nms.lt (h : Nms w w1 b vo1 vn names) {k : Nat} (hk : vn.ownBlock = some k) : w.heap.size ≤ k ∧ k < w1.heap.size := World.ownsRow.lt h.row k hk
theorem Nms.go (h : Nms w w1 b vo1 vn names) (hr : Run6 w1 b s lim vo1 z w2 vo2) : Nms w w2 b vo2 vn names :=
  ⟨srow_keep h.row fun k hk => hr.fr.block k (h.lt hk).2 (h.ap k hk), fun k hk e => by
    rcases hr.fresh k e with x | x
    · exact h.ap k hk x
    · have := (h.lt hk).2; omega⟩
theorem Nms.owns (h : Nms w w1 b vo1 vn names) : Owns w1 9 1 cStr vn names := sowns0 h.row
/-- A side block of the call's own grows. -/
theorem Run6.side (h : Run6 w b s lim vo z w2 vo2) {row : Option Nat} (hg : w2.grownBy w3 row) (hr : ∀ k, row = some k → w.heap.size ≤ k ∧ ¬ foot6 b vo2 k) : Run6 w b s lim vo z w3 vo2 := by
  have hk : ∀ k, foot6 b vo2 k → w3.heap[k]? = w2.heap[k]? := fun k hk => hg.block k (h.x.footLt k hk) (fun e => (hr k e.symm).2 hk)
  exact ⟨⟨h.x.rd.keep (hk b (.inl rfl)), h.x.out.keep (fun k e => hk k (.inr e)), h.x.ob⟩, h.fr.grown hg (fun k e => .inr (hr k e).1), h.fresh⟩
theorem Nms.put (h : Nms w w2 b vo2 vn names) (hx : Run6 w b s lim vo z w2 vo2) {gg cap : Nat} {t : Bytes}
    (hown : w3.ownsRow w.heap.size 9 1 (.slice (some ⟨gg, 0, none⟩) (names.length + 1) cap) (names.length + 1) (names.flatMap cStr ++ cStr t))
    (hg : w2.grownBy w3 vn.ownBlock) (hat : vn.ownBlock = some gg ∨ w2.heap.size ≤ gg) : Run6 w b s lim vo z w3 vo2 ∧ Nms w w3 b vo2 (.slice (some ⟨gg, 0, none⟩) (names.length + 1) cap) (names ++ [t]) := by
  refine ⟨hx.side hg (fun k e => ⟨(h.lt e).1, h.ap k e⟩), ?_, fun k e => ?_⟩
  · rw [List.length_append, List.flatMap_append]
    simpa using hown
  · simp only [Value.ownBlock, Option.some.injEq] at e
    subst e
    rcases hat with e | e
    · exact h.ap _ e
    · intro hf
      have := hx.x.footLt _ hf
      omega
end

set_option maxRecDepth 100000 in
set_option maxHeartbeats 8000000 in
theorem robject_any (s : Bytes) (lim : Lim) (hc : Ctx s lim) (d : Nat) (hV : ValueC s lim d) : ObjectC s lim d := by
  intro b p dp u x vo w h hxo hul hp hfr hdl
  obtain ⟨R, hR⟩ : ∃ R, R = R6.object s lim (R6.value s lim d) u.length x p := ⟨_, rfl⟩
  rw [← hR]
  have hmay := J6.may_of hc.may
  have hlen := hc.len
  have hdp : dp ≤ 32 := by omega
  have hdp1 : 1 ≤ dp := by omega
  obtain ⟨x1, hx1⟩ : ∃ x1 : R6.St, x1 = { x with r := { x.r with frames := x.r.frames + 1 } } := ⟨_, rfl⟩
  have hst := R6.object.eq_1 s lim (R6.value s lim d) u.length x p
  rw [← hR, frame_up, ← hx1] at hst
  have hx1o : x1.out = u ++ [⟨6, 0, []⟩] := by rw [hx1]; exact hxo
  have hx1f : x1.r.frames = dp := by rw [hx1]; exact hfr
  obtain ⟨_, _, _, _, _, _, _, c9, _⟩ := h.rd.cells
  have f9 := h.rd.free 9
  have en : (x.r.frames : Int) + 1 = (dp : Int) := by omega
  have hwd : IntKind.i64.wrap ((x.r.frames : Int) + 1) = (dp : Int) := by rw [en]; exact IntWalk.i64_in _ ⟨by omega, by omega⟩
  have hz := h.setFrames (x.r.frames + 1)
  rw [show ((x.r.frames + 1 : Nat) : Int) = (dp : Int) by omega, ← hx1] at hz
  have HZ := Px.hid ((Run6.refl h).it hz.1 hz.2)
  have hps := fun y q => pass_okb (s := s) (lim := lim) (x := x1) (p := p) (q := q) (y := y)
  have hcp := pass6 b p s lim x1 vo hc hp _ hz.1
  obtain ⟨⟨o, y⟩, hres⟩ : ∃ r, R6.pass s lim x1 p = r := ⟨_, rfl⟩
  rw [hres] at hst hcp
  have hps := hps y
  rw [hres] at hps
  have HC := Px.hid hcp
  have HH := Px.hid (And.intro hc (And.intro hV (And.intro hdl (And.intro hx1o hx1f))))
  clear h hV hdl hx1 hx1o hx1f hz hres hcp hR hxo hfr en hc
  cases o with
  | none =>
    have HS := Px.hid hst
    clear hst hps
    go_enter Tryd.func51, Tryd.ntmps51
    go_wp2_with fail
    refine HC.out.mono ?_
    rintro e w1 ⟨rfl, h1, h2, _⟩
    have H1 := Px.hid (HZ.out.it h1 h2)
    clear h1 h2
    unfold tupV
    go_wp2
    go_ret2
    rw [HS.out]
    exact ⟨rfl, H1.out.did⟩
  | some q =>
    obtain ⟨k1, k2, k3, kb⟩ := hps q rfl
    have hmay := J6.may_of HH.out.1.may
    have HK := Px.hid (And.intro k1 (And.intro k2 k3))
    have hq1 : q ≤ 140737488355327 := by omega
    have hwq := wrap1 q hq1
    have hix := idx6 s q k3
    clear k1 hps
    simp only at hst
    by_cases e125 : R6.at_ s q = 125
    · rw [if_pos (by simpa using e125)] at hst
      have HS := Px.hid hst
      simp only [e125] at hix
      clear hst e125
      go_enter Tryd.func51, Tryd.ntmps51
      go_wp2_with fail
      refine HC.out.mono ?_
      rintro e w1 ⟨rfl, h1, h2, _⟩
      obtain ⟨_, _, _, _, _, _, _, d9, _⟩ := h1.rd.cells
      have e9 := h1.rd.free 9
      have c0 := h1.c0
      have hyf : y.r.frames = (dp - 1) + 1 := by rw [HK.out.1.2, HH.out.2.2.2.2]; omega
      have hdn : ((y.r.frames : Int) - 1) = ((dp - 1 : Nat) : Int) := by omega
      have hwz : IntKind.i64.wrap ((y.r.frames : Int) - 1) = ((dp - 1 : Nat) : Int) := by rw [hdn]; exact IntWalk.i64_in _ ⟨by omega, by omega⟩
      have hz := h1.setFrames (dp - 1)
      have H1 := Px.hid (And.intro ((HZ.out.it h1 h2).it hz.1 hz.2) hyf)
      clear h1 h2 hz hyf hdn c9 f9
      unfold tupV
      go_wp2
      go_ret2
      rw [HS.out, frame_down y (dp - 1) H1.out.2]
      exact ⟨rfl, H1.out.1.did⟩
    rw [if_neg (by simpa using e125)] at hst
    have hby := at_lt s q
    obtain ⟨c, hcc⟩ : ∃ c, R6.at_ s q = c := ⟨_, rfl⟩
    simp only [hcc] at hix
    rw [hcc] at e125 hby
    clear hcc
    have n125 : ((c : Int) == 125) = false := by simp; omega
    have HS := Px.hid hst
    clear hst e125 hby
    go_enter Tryd.func51, Tryd.ntmps51
    go_wp2_with fail
    refine HC.out.mono ?_
    rintro e w1 ⟨rfl, h1, h2, _⟩
    have c0 := h1.c0
    have H1 := Px.hid (show Rnd s lim d u dp w b vo w1 vo y q 0 [] 6 from ⟨HZ.out.it h1 h2, HK.out.1.1.trans HH.out.2.2.2.1, Int.le_refl _, by omega, k3, HK.out.1.2.trans HH.out.2.2.2.2⟩)
    clear h1 h2 c9 f9 HC HZ
    unfold tupV
    go_wp2
    clear c0 hix n125
    go_loopw [1, 11] (fun aa nn wr => ∃ (k m : Nat) (z : R6.St) (i : Int) (l : List Val) (vo1 : Value) (names : List Bytes), aa = .int .i64 (k : Nat) ∧ s.length + 1 ≤ m + k ∧ k < s.length ∧ names.length ≤ k ∧ k < 262144 ∧ Hid (Rnd s lim d u dp w b vo wr vo1 z k i l 6) ∧ Hid (Nms w wr b vo1 nn names) ∧ Hid (R = R6.objectN s lim (R6.value s lim d) u.length m z k names)) (fun aa _ _ => s.length - (intOf aa).toNat)
    case atStart => exact ⟨q, s.length + 1 - q, y, 0, [], vo, [], rfl, by omega, k3, Nat.zero_le _, by omega, H1, Px.hid (Nms.nil _ _ _ _), HS⟩
    case round =>
      clear H1 HS HK hwq hq1 k2 k3
      obtain ⟨k, m, z, i, l, vo1, names, rfl, hmk, hks, hnk, hkb, HR, HN, HP⟩ := hrel
      obtain ⟨m', rfl⟩ : ∃ m', m = m' + 1 := ⟨m - 1, by omega⟩
      have hps := HP.out
      rw [objectN_succ] at hps
      have hnl : names.length ≤ 1000000 := by omega
      have hv := member_any s lim HH.out.1 d HH.out.2.1 b k dp names u11 z vo1 wr HR.out.run.x HN.out.owns hnl (Nat.le_of_lt hks) HR.out.frames HH.out.2.2.1 (fun k hk e => HN.out.ap k hk (.inl e))
      have hsn := fun q y b => R6.member_ok (R6.value_ok s lim d) (s := s) (lim := lim) (x := z) (p := k) (q := q) (y := y) (names := names) (b := b)
      obtain ⟨⟨o, y1⟩, hres⟩ : ∃ r, R6.member s lim (R6.value s lim d) z k names = r := ⟨_, rfl⟩
      rw [hres] at hps hv hsn
      have HV := Px.hid hv
      clear hres hv HP
      cases o with
      | none =>
        have HS := Px.hid hps
        clear hps hsn
        go_wp2_with fail
        refine HV.out.mono ?_
        rintro e w2 ⟨⟨tn, rfl⟩, hd⟩
        have H2 := Px.hid (HR.out.run.andThen hd)
        clear hd
        go_wp2
        go_ret2
        rw [HS.out]
        exact ⟨rfl, H2.out⟩
      | some v1 =>
        obtain ⟨bn, q1⟩ := v1
        have hsn := hsn q1 y1 bn rfl
        obtain ⟨l2, hl2⟩ := hsn.out
        have hy1o : y1.out = u ++ ⟨6, i, []⟩ :: (l ++ l2) := by rw [hl2, HR.out.out, List.append_assoc, List.cons_append]
        have hbump : R6.bump y1.out u.length 2 = u ++ ⟨6, i + 2, []⟩ :: (l ++ l2) := by rw [hy1o]; exact R6.bump_mid _ _ _ _
        have hy1f : y1.r.frames = dp := hsn.frames.trans HR.out.frames
        have hq1s := hsn.ps
        have hkq1 := hsn.le
        have hme : y1.out[u.length]? = some ⟨6, i, []⟩ := by rw [hy1o]; simp
        have hset : y1.out.set u.length ⟨6, i + 2, []⟩ = R6.bump y1.out u.length 2 := by rw [hbump, hy1o]; simp
        have hik := HR.out.ik
        have hi0 := HR.out.i0
        obtain ⟨y2, hy2⟩ : ∃ y2 : R6.St, y2 = { y1 with out := R6.bump y1.out u.length 2 } := ⟨_, rfl⟩
        simp only at hps
        rw [← hy2] at hps
        have hy2o : y2.out = u ++ ⟨6, i + 2, []⟩ :: (l ++ l2) := by rw [hy2]; exact hbump
        have hy2f : y2.r.frames = dp := by rw [hy2]; exact hy1f
        have hwi : IntKind.i64.wrap (i + 2) = i + 2 := IntWalk.i64_in _ ⟨by omega, by omega⟩
        have hpo := fun y q => pass_okb (s := s) (lim := lim) (x := y2) (p := q1) (q := q) (y := y)
        have HCP := Px.hid (fun (w : World) (vo : Value) (h : X6 w b s lim y2 vo) => pass6 b q1 s lim y2 vo HH.out.1 hq1s w h)
        obtain ⟨⟨o, z1⟩, hres⟩ : ∃ r, R6.pass s lim y2 q1 = r := ⟨_, rfl⟩
        have hpo := hpo z1
        rw [hres] at hps hpo
        simp only [hres] at HCP
        have HY := Px.hid (And.intro hme (And.intro hset (And.intro hy2 (And.intro hy2o hy2f))))
        have hml : u.length < y1.out.length := by rw [hy1o, List.length_append, List.length_cons]; omega
        clear hsn hl2 hy1o hbump hy1f hme hset hy2 hy2o hy2f hres
        go_wp2_with fail
        refine HV.out.mono ?_
        rintro e w2 ⟨rfl, vo2, hd⟩
        obtain ⟨i0, hi0, hz0, hzz1, hz2⟩ := info_parts Tryd.infoStr
        have H2a := Px.hid (And.intro (HR.out.run.trans hd) (HN.out.go hd))
        clear hd HV
        go_wp2_with (at_builtin; go_must (refine wpList_append_lies _ rfl _ _ _ rfl w.heap.size 9 i0 _ 1 16 Tryd.underlying64 hi0 hz0 hzz1 hz2 rfl (by omega) u11 names.length (names.flatMap cStr) rfl (srow_keep H2a.out.2.row (fun k hk => Below.heap_alloc w2 _ k (H2a.out.2.lt hk).2)) ⟨w2.heap.size, 0, none⟩ 1 1 (cStr bn) rfl rfl (World.news_of_block (cs := #[S bn]) (t := 9) (fr := (0, 0)) (heap_alloc_new w2 _)) (by simp [cStr, Value.oneCell']) (by omega) (by unfold maxLen; omega) (by omega) (by have := H2a.out.1.fr.size; simp; omega) (w2.heap.size + 1) (by simp) ?_))
        intro gg capn w2b hown1 hgrow hat hltg
        have hnp := H2a.out.2.put H2a.out.1 hown1 (grown_alloc1 hgrow) (hat.elim .inl (fun e => .inr (by omega)))
        have HN2 := Px.hid hnp.2
        have hd := hnp.1
        obtain ⟨go, capo, hvo2, ho1, ho2, _, kk, _, kfo⟩ := hd.x.val HY.out.1
        have c11 := hd.x.cell11
        have H2 := Px.hid (And.intro hd hvo2)
        rw [hvo2] at c11
        have hml2 : (u.length : Int) < (y1.out.length : Int) := by omega
        simp only at kk
        clear hd hvo2 hnp hown1 hgrow hat hltg H2a
        go_upto_region 13 with fail
        go_region
        obtain ⟨w3, hw3⟩ : ∃ w3, w3 = (w2b.setCell ⟨go, u.length * 3 + 1, none⟩ (.int .i64 (i + 2))).drew := ⟨_, rfl⟩
        rw [← hw3]
        have H3 := Px.hid (show Run6 w b s lim vo y2 w3 vo2 from by
          have h0 := H2.out.1
          have hv := H2.out.2
          rw [hv] at h0 ⊢
          have h1 := (h0.trans (h0.x.setVal HY.out.1 (a' := ⟨6, i + 2, []⟩) 1 (by decide) (.int .i64 (i + 2)) rfl)).drewN 1
          rw [hw3, HY.out.2.2.1, ← HY.out.2.1]
          exact h1)
        have HN3 := Px.hid (show Nms w w3 b vo2 (.slice (some ⟨gg, 0, none⟩) (names.length + 1) capn) (names ++ [bn]) from by
          have hv := H2.out.2
          refine ⟨srow_keep HN2.out.row fun k hk => ?_, HN2.out.ap⟩
          rw [hw3]
          exact heap_setCell_other w2b ⟨go, _, none⟩ k _ (fun e => HN2.out.ap k hk (.inr (by rw [hv, e]; rfl))))
        clear hw3 c11 kk kfo hwi H2 HN2
        have c0 := H3.out.x.c0
        cases o with
        | none =>
          have HS := Px.hid hps
          clear hps hpo
          go_wp2_with fail
          refine (HCP.out _ _ H3.out.x).mono ?_
          rintro e w4 ⟨rfl, h1, h2, _⟩
          have H4 := Px.hid (H3.out.it h1 h2)
          clear h1 h2
          unfold tupV
          go_wp2
          go_ret2
          rw [HS.out]
          exact ⟨rfl, H4.out.did⟩
        | some q2 =>
          obtain ⟨k1, k2, k3, _⟩ := hpo q2 rfl
          have HK := Px.hid k1
          have hq2 : q2 ≤ 140737488355327 := by have := HH.out.1.len; omega
          have hwq := wrap1 q2 hq2
          have hix := idx6 s q2 k3
          clear k1 hpo
          simp only at hps
          by_cases e125 : R6.at_ s q2 = 125
          · rw [if_pos (by simpa using e125)] at hps
            have HS := Px.hid hps
            simp only [e125] at hix
            clear hps e125 c0
            go_wp2_with fail
            refine (HCP.out _ _ H3.out.x).mono ?_
            rintro e w4 ⟨rfl, h1, h2, _⟩
            obtain ⟨_, _, _, _, _, _, _, d9, _⟩ := h1.rd.cells
            have e9 := h1.rd.free 9
            have c0 := h1.c0
            have hyf : z1.r.frames = (dp - 1) + 1 := by rw [HK.out.2, HY.out.2.2.2.2]; omega
            have hdn : ((z1.r.frames : Int) - 1) = ((dp - 1 : Nat) : Int) := by omega
            have hwz : IntKind.i64.wrap ((z1.r.frames : Int) - 1) = ((dp - 1 : Nat) : Int) := by rw [hdn]; exact IntWalk.i64_in _ ⟨by omega, by omega⟩
            have hz := h1.setFrames (dp - 1)
            have H4 := Px.hid (And.intro ((H3.out.it h1 h2).it hz.1 hz.2) hyf)
            clear h1 h2 hz hyf hdn
            unfold tupV
            go_wp2
            go_ret2
            rw [HS.out, frame_down z1 (dp - 1) H4.out.2]
            exact ⟨rfl, H4.out.1.did⟩
          rw [if_neg (by simpa using e125)] at hps
          by_cases e44 : R6.at_ s q2 = 44
          · rw [if_neg (by simp [e44])] at hps
            simp only [e44] at hix
            have hpo := fun y q => pass_okb (s := s) (lim := lim) (x := z1) (p := q2 + 1) (q := q) (y := y)
            have HCQ := Px.hid (fun (w : World) (vo : Value) (h : X6 w b s lim z1 vo) => pass6 b (q2 + 1) s lim z1 vo HH.out.1 k3 w h)
            obtain ⟨⟨o, v⟩, hres⟩ : ∃ r, R6.pass s lim z1 (q2 + 1) = r := ⟨_, rfl⟩
            have hpo := hpo v
            rw [hres] at hps hpo
            simp only [hres] at HCQ
            clear e125 e44 hres c0
            cases o with
            | none =>
              have HS := Px.hid hps
              clear hps hpo
              go_wp2_with fail
              refine (HCP.out _ _ H3.out.x).mono ?_
              rintro e w4 ⟨rfl, h1, h2, _⟩
              have c0 := h1.c0
              have H4 := Px.hid (H3.out.it h1 h2)
              clear h1 h2
              unfold tupV
              go_wp2_with fail
              refine (HCQ.out _ _ H4.out.x).mono ?_
              rintro e w5 ⟨rfl, h1, h2, _⟩
              have H5 := Px.hid (H4.out.it h1 h2)
              clear h1 h2
              unfold tupV
              go_wp2
              go_ret2
              rw [HS.out]
              exact ⟨rfl, H5.out.did⟩
            | some q3 =>
              have HS := Px.hid hps
              obtain ⟨k4, k5, k6, kb6⟩ := hpo q3 rfl
              have hb6 : q3 < 262144 := by have := J6.may_of HH.out.1.may; omega
              have HK2 := Px.hid k4
              clear hps hpo k4
              go_wp2_with fail
              refine (HCP.out _ _ H3.out.x).mono ?_
              rintro e w4 ⟨rfl, h1, h2, _⟩
              have c0 := h1.c0
              have H4 := Px.hid (H3.out.it h1 h2)
              have HN4 := Px.hid (HN3.out.go ((Run6.refl H3.out.x).it h1 h2))
              clear h1 h2
              unfold tupV
              go_wp2_with fail
              refine (HCQ.out _ _ H4.out.x).mono ?_
              rintro e w5 ⟨rfl, h1, h2, _⟩
              have H5N := Px.hid (HN4.out.go ((Run6.refl H4.out.x).it h1 h2))
              have H5 := Px.hid (show Rnd s lim d u dp w b vo w5 vo2 v q3 (i + 2) (l ++ l2) 6 from ⟨H4.out.it h1 h2, (HK2.out.1.trans HK.out.1).trans HY.out.2.2.2.1, by omega, by omega, k6, (HK2.out.2.trans HK.out.2).trans HY.out.2.2.2.2⟩)
              clear h1 h2
              unfold tupV
              go_wp2
              go_roundw
              case rel => exact ⟨q3, m', v, i + 2, l ++ l2, vo2, names ++ [bn], rfl, by omega, k6, by rw [List.length_append, List.length_singleton]; omega, hb6, H5, H5N, HS⟩
              case measure => simp [intOf]; omega
          · rw [if_pos (by simpa using e44)] at hps
            have HS := Px.hid hps
            obtain ⟨c, hcc⟩ : ∃ c, R6.at_ s q2 = c := ⟨_, rfl⟩
            simp only [hcc] at hix
            rw [hcc] at e125 e44
            have n125 : ((c : Int) == 125) = false := by simp; omega
            have n44 : ((c : Int) != 44) = true := by simp; omega
            clear hps e125 e44 hcc c0
            go_wp2_with fail
            refine (HCP.out _ _ H3.out.x).mono ?_
            rintro e w4 ⟨rfl, h1, h2, _⟩
            have c0 := h1.c0
            have H4 := Px.hid (H3.out.it h1 h2)
            clear h1 h2
            unfold tupV
            go_wp2_with fail
            refine (fault6 b q2 9 s lim z1 vo2 _ H4.out.x).mono ?_
            rintro e w5 ⟨rfl, h1, h2⟩
            have H5 := Px.hid (H4.out.it h1 h2)
            clear h1 h2
            go_wp2
            go_ret2
            rw [HS.out]
            exact ⟨rfl, H5.out.did⟩
end Go.Proofs.YtahojodgmjmpnaaDoor
