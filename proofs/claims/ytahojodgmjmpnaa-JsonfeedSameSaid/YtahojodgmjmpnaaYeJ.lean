/-
  The walk over jsonfeed's value where a token begins (printed by gen_ye.py).
-/
import Derived.Test.YtahojodgmjmpnaaYdJ
namespace Go.Proofs.Ytahojodgmjmpnaa
open Go.RowKit Go.Px

theorem After.tok {w W0 w' : World} {b : Nat} {g : J6.Feed} {F : Nat → Prop} {tv' : Value} {tb' : List (Option Nat)} {t' : J6.Tok} (hlt : ∀ k, F k → k < w.heap.size) (hFb : F b) (hf0 : Fr F w W0) (hA : After W0 w' b g F) (hnow : g.now = .none)
    (ht : TokIs W0 tv' tb' t') (hn : ∀ k, some k ∈ tb' → w.heap.size ≤ k) : After w (w'.setCell ⟨b, 8, none⟩ tv') b { g with now := t' } F := by
  obtain ⟨F', h1, h2, h3⟩ := hA
  have ht' : TokIs w' tv' tb' t' := ht.keep fun k hk => h2.block k (ht.lt hk) (fun x => by have := hlt k x; have := hn k hk; omega)
  refine ⟨_, h1.tok hnow ht' fun k hk x => ?_, (hf0.step (Fresh.refl _ _) h2).setCell (p := ⟨b, 8, none⟩) (.inl hFb) _, fun k hk => ?_⟩
  · rcases h3 k x with y | y
    · have := hlt k y; have := hn k hk; omega
    · have := ht.lt hk; omega
  · rcases hk with x | x
    · rcases h3 k x with y | y
      · exact .inl y
      · have := hf0.size; exact .inr (by omega)
    · exact .inr (hn k x)
theorem FeedAt.c8 {w : World} {b : Nat} {f : J6.Feed} {F : Nat → Prop} (h : FeedAt w b f F) (hnow : f.now = .none) : w.cell? ⟨b, 8, none⟩ = some .nilIface ∧ w.frozen? ⟨b, 8, none⟩ = false := by
  obtain ⟨vo, vs, tv, tb, ps, h, rfl⟩ := h
  have : tv = .nilIface := by have := h.parts.tok; rw [hnow] at this; exact this.1
  subst this
  exact ⟨cellOf h.blk 8 rfl, h.free 8⟩
/-- 'one', with what holds of a feed. -/
theorem one_ok (b : Nat) (f : J6.Feed) (v : Val) (F : Nat → Prop) {k : Nat} (hok : J6.OkK k f) (hn1 : 1 ≤ f.n) : ∀ w : World, FeedAt w b f F →
    Calls Try.prog 42 #[.pointer (some ⟨b, 0, none⟩), valV v] w fun r w' => r = .returned (.bool (J6.one f v).1) ∧ After w w' b (J6.one f v).2 F := fun w h => by
  have hm := J6.may_parts6 hok.may
  have h1 := hok.nb
  have h2 := hok.ol
  have h3 := hok.sd
  exact one_any b f v F w h hn1 (by omega) (by omega) (by omega) (fun x hx => (hok.each x hx).1) (fun a ha => by have := hok.kids a ha; omega)
set_option maxRecDepth 100000 in
set_option maxHeartbeats 4000000 in
theorem value_str (b : Nat) (f : J6.Feed) (F : Nat → Prop) (w : World) (h : FeedAt w b f F) (hok : J6.OkK 0 f) (hn1 : 1 ≤ f.n) (hnow : f.now = .none) :
    Calls Try.prog 41 #[.pointer (some ⟨b, 0, none⟩), .int .u8 34] w fun r w' => r = .returned (.tuple #[]) ∧ After w w' b (J6.valueOn f 34 ⟨4, 0, []⟩ (.str J6.txt0)) F := by
  have hone := one_ok b f ⟨4, 0, []⟩ F hok hn1
  have hkeep := hok.one ⟨4, 0, []⟩ rfl
  have hgn := hkeep.2.2.1
  have HR : J6.valueOn f 34 ⟨4, 0, []⟩ (.str J6.txt0) = match J6.one f ⟨4, 0, []⟩ with
      | (false, g) => g
      | (true, g) => { g with now := .str J6.txt0 } := rfl
  obtain ⟨⟨r1, g⟩, hres⟩ : ∃ r, J6.one f ⟨4, 0, []⟩ = r := ⟨_, rfl⟩
  simp only [hres] at hone hgn
  rw [hres] at HR
  rw [hnow] at hgn
  have hFlt := h.lt
  have hFb := h.own
  obtain ⟨vo, vs, tv, tb, ps, h, hF⟩ := h
  have hb : b < w.heap.size := h.lt
  obtain ⟨oa, oc, hov, _⟩ := h.parts.out.len
  have c5 : w.cell? ⟨b, 5, none⟩ = some (.slice oa f.out.length oc) := by rw [← hov]; exact cellOf h.blk 5 rfl
  have c6 : w.cell? ⟨b, 6, none⟩ = some vs := cellOf h.blk 6 rfl
  obtain ⟨sa, sc, hsv, _⟩ := h.stackLen
  rw [hsv] at c6
  have c0 : w.cell? ⟨b, 0, none⟩ = some (.int .i64 f.lim.d) := cellOf h.blk 0 rfl
  have HX := Px.hid (And.intro h (And.intro hF (And.intro hov (And.intro hFlt (And.intro hFb hgn)))))
  have HO := Px.hid hone
  have HR := Px.hid HR
  clear h hone hkeep hok hres hov hFlt hFb hgn hn1 hnow hF hsv
  go_enter Try.func41, Try.ntmps41
  go_wp2_with fail
  go_quiet (fail)
  have HB := Px.hid (And.intro (((HX.out.1.alloc (.cells #[.int .i64 4, .int .i64 0, .string ⟨#[]⟩] 64 (0, 0))).alloc (.cells #[.int .i64 0, .slice none 0 0, .int .i32 0, .int .i64 0, .int .i32 0, .int .u8 0, .int .u8 0] 89 (0, 0))).drewN nq) ((((Fr.refl F w).alloc (.cells #[.int .i64 4, .int .i64 0, .string ⟨#[]⟩] 64 (0, 0))).alloc (.cells #[.int .i64 0, .slice none 0 0, .int .i32 0, .int .i64 0, .int .i32 0, .int .u8 0, .int .u8 0] 89 (0, 0))).drewN nq))
  have hv0 : (((w.alloc (.cells #[.int .i64 4, .int .i64 0, .string ⟨#[]⟩] 64 (0, 0))).alloc (.cells #[.int .i64 0, .slice none 0 0, .int .i32 0, .int .i64 0, .int .i32 0, .int .u8 0, .int .u8 0] 89 (0, 0))).drewN nq).heap[w.heap.size]? = some (.cells #[.int .i64 4, .int .i64 0, .string ⟨#[]⟩] 64 (0, 0)) := (Below.heap_alloc (w.alloc (.cells #[.int .i64 4, .int .i64 0, .string ⟨#[]⟩] 64 (0, 0))) (.cells #[.int .i64 0, .slice none 0 0, .int .i32 0, .int .i64 0, .int .i32 0, .int .u8 0, .int .u8 0] 89 (0, 0)) w.heap.size (by simp)).trans (heap_alloc_new w _)
  have ht0 : (((w.alloc (.cells #[.int .i64 4, .int .i64 0, .string ⟨#[]⟩] 64 (0, 0))).alloc (.cells #[.int .i64 0, .slice none 0 0, .int .i32 0, .int .i64 0, .int .i32 0, .int .u8 0, .int .u8 0] 89 (0, 0))).drewN nq).heap[w.heap.size + 1]? = some (.cells #[.int .i64 0, .slice none 0 0, .int .i32 0, .int .i64 0, .int .i32 0, .int .u8 0, .int .u8 0] 89 (0, 0)) := by have := heap_alloc_new (w.alloc (.cells #[.int .i64 4, .int .i64 0, .string ⟨#[]⟩] 64 (0, 0))) (.cells #[.int .i64 0, .slice none 0 0, .int .i32 0, .int .i64 0, .int .i32 0, .int .u8 0, .int .u8 0] 89 (0, 0)); simp only [World.size_alloc] at this; exact this
  obtain ⟨W0, hW0⟩ : ∃ W0, W0 = ((w.alloc (.cells #[.int .i64 4, .int .i64 0, .string ⟨#[]⟩] 64 (0, 0))).alloc (.cells #[.int .i64 0, .slice none 0 0, .int .i32 0, .int .i64 0, .int .i32 0, .int .u8 0, .int .u8 0] 89 (0, 0))).drewN nq := ⟨_, rfl⟩
  rw [← hW0] at HB hv0 ht0 ⊢
  have HT := Px.hid (tok_text W0 _ ht0)
  have c5' : W0.cell? ⟨b, 5, none⟩ = some (.slice oa f.out.length oc) := by rw [← HX.out.2.2.1]; exact cellOf HB.out.1.blk 5 rfl
  have v0 : W0.cell? ⟨w.heap.size, 0, none⟩ = some (.int .i64 4) := cellOf hv0 0 rfl
  have v1 : W0.cell? ⟨w.heap.size, 1, none⟩ = some (.int .i64 0) := cellOf hv0 1 rfl
  have v2 : W0.cell? ⟨w.heap.size, 2, none⟩ = some (.string ⟨#[]⟩) := cellOf hv0 2 rfl
  have HFA := Px.hid (show FeedAt W0 b f F from ⟨_, _, _, _, _, HB.out.1, HX.out.2.1⟩)
  clear hW0 hv0 ht0 c5 c6 c0
  go_wp2_with fail
  refine (HO.out W0 HFA.out).mono ?_
  rintro e w' ⟨rfl, hA⟩
  have HA := Px.hid hA
  clear hA c5' v0 v1 v2
  cases r1 with
  | false =>
    go_wp2
    refine bodyPost_ret (results_none rfl _ _ _) rfl ?_
    rw [HR.out]
    exact ⟨rfl, HA.out.ofFr HB.out.2⟩
  | true =>
    have c8 : w'.cell? ⟨b, 8, none⟩ = some .nilIface := by obtain ⟨F', h1, _, _⟩ := HA.out; exact (h1.c8 HX.out.2.2.2.2.2).1
    have f8 : w'.frozen? ⟨b, 8, none⟩ = false := by obtain ⟨F', h1, _, _⟩ := HA.out; exact (h1.c8 HX.out.2.2.2.2.2).2
    go_wp2
    go_end0
    rw [HR.out]
    exact ⟨rfl, After.tok HX.out.2.2.2.1 HX.out.2.2.2.2.1 HB.out.2 HA.out HX.out.2.2.2.2.2 HT.out (fun k hk => by simp at hk; omega)⟩
set_option maxRecDepth 100000 in
set_option maxHeartbeats 4000000 in
theorem value_t (b : Nat) (f : J6.Feed) (F : Nat → Prop) (w : World) (h : FeedAt w b f F) (hok : J6.OkK 0 f) (hn1 : 1 ≤ f.n) (hnow : f.now = .none) :
    Calls Try.prog 41 #[.pointer (some ⟨b, 0, none⟩), .int .u8 116] w fun r w' => r = .returned (.tuple #[]) ∧ After w w' b (J6.valueOn f 116 ⟨2, 0, []⟩ (.word [114, 117, 101])) F := by
  have hone := one_ok b f ⟨2, 0, []⟩ F hok hn1
  have hkeep := hok.one ⟨2, 0, []⟩ rfl
  have hgn := hkeep.2.2.1
  have HR : J6.valueOn f 116 ⟨2, 0, []⟩ (.word [114, 117, 101]) = match J6.one f ⟨2, 0, []⟩ with
      | (false, g) => g
      | (true, g) => { g with now := .word [114, 117, 101] } := rfl
  obtain ⟨⟨r1, g⟩, hres⟩ : ∃ r, J6.one f ⟨2, 0, []⟩ = r := ⟨_, rfl⟩
  simp only [hres] at hone hgn
  rw [hres] at HR
  rw [hnow] at hgn
  have hFlt := h.lt
  have hFb := h.own
  obtain ⟨vo, vs, tv, tb, ps, h, hF⟩ := h
  have hb : b < w.heap.size := h.lt
  obtain ⟨oa, oc, hov, _⟩ := h.parts.out.len
  have c5 : w.cell? ⟨b, 5, none⟩ = some (.slice oa f.out.length oc) := by rw [← hov]; exact cellOf h.blk 5 rfl
  have c6 : w.cell? ⟨b, 6, none⟩ = some vs := cellOf h.blk 6 rfl
  obtain ⟨sa, sc, hsv, _⟩ := h.stackLen
  rw [hsv] at c6
  have c0 : w.cell? ⟨b, 0, none⟩ = some (.int .i64 f.lim.d) := cellOf h.blk 0 rfl
  have HX := Px.hid (And.intro h (And.intro hF (And.intro hov (And.intro hFlt (And.intro hFb hgn)))))
  have HO := Px.hid hone
  have HR := Px.hid HR
  clear h hone hkeep hok hres hov hFlt hFb hgn hn1 hnow hF hsv
  go_enter Try.func41, Try.ntmps41
  go_wp2_with fail
  go_quiet (fail)
  have HB := Px.hid (And.intro (((HX.out.1.alloc (.cells #[.int .i64 2, .int .i64 0, .string ⟨#[]⟩] 64 (0, 0))).alloc (.cells #[.string ⟨#[114, 117, 101]⟩] 109 (0, 0))).drewN nq) ((((Fr.refl F w).alloc (.cells #[.int .i64 2, .int .i64 0, .string ⟨#[]⟩] 64 (0, 0))).alloc (.cells #[.string ⟨#[114, 117, 101]⟩] 109 (0, 0))).drewN nq))
  have hv0 : (((w.alloc (.cells #[.int .i64 2, .int .i64 0, .string ⟨#[]⟩] 64 (0, 0))).alloc (.cells #[.string ⟨#[114, 117, 101]⟩] 109 (0, 0))).drewN nq).heap[w.heap.size]? = some (.cells #[.int .i64 2, .int .i64 0, .string ⟨#[]⟩] 64 (0, 0)) := (Below.heap_alloc (w.alloc (.cells #[.int .i64 2, .int .i64 0, .string ⟨#[]⟩] 64 (0, 0))) (.cells #[.string ⟨#[114, 117, 101]⟩] 109 (0, 0)) w.heap.size (by simp)).trans (heap_alloc_new w _)
  have ht0 : (((w.alloc (.cells #[.int .i64 2, .int .i64 0, .string ⟨#[]⟩] 64 (0, 0))).alloc (.cells #[.string ⟨#[114, 117, 101]⟩] 109 (0, 0))).drewN nq).heap[w.heap.size + 1]? = some (.cells #[.string ⟨#[114, 117, 101]⟩] 109 (0, 0)) := by have := heap_alloc_new (w.alloc (.cells #[.int .i64 2, .int .i64 0, .string ⟨#[]⟩] 64 (0, 0))) (.cells #[.string ⟨#[114, 117, 101]⟩] 109 (0, 0)); simp only [World.size_alloc] at this; exact this
  obtain ⟨W0, hW0⟩ : ∃ W0, W0 = ((w.alloc (.cells #[.int .i64 2, .int .i64 0, .string ⟨#[]⟩] 64 (0, 0))).alloc (.cells #[.string ⟨#[114, 117, 101]⟩] 109 (0, 0))).drewN nq := ⟨_, rfl⟩
  rw [← hW0] at HB hv0 ht0 ⊢
  have HT := Px.hid (tok_word W0 _ [114, 117, 101] ht0)
  have c5' : W0.cell? ⟨b, 5, none⟩ = some (.slice oa f.out.length oc) := by rw [← HX.out.2.2.1]; exact cellOf HB.out.1.blk 5 rfl
  have v0 : W0.cell? ⟨w.heap.size, 0, none⟩ = some (.int .i64 2) := cellOf hv0 0 rfl
  have v1 : W0.cell? ⟨w.heap.size, 1, none⟩ = some (.int .i64 0) := cellOf hv0 1 rfl
  have v2 : W0.cell? ⟨w.heap.size, 2, none⟩ = some (.string ⟨#[]⟩) := cellOf hv0 2 rfl
  have HFA := Px.hid (show FeedAt W0 b f F from ⟨_, _, _, _, _, HB.out.1, HX.out.2.1⟩)
  clear hW0 hv0 ht0 c5 c6 c0
  go_wp2_with fail
  refine (HO.out W0 HFA.out).mono ?_
  rintro e w' ⟨rfl, hA⟩
  have HA := Px.hid hA
  clear hA c5' v0 v1 v2
  cases r1 with
  | false =>
    go_wp2
    refine bodyPost_ret (results_none rfl _ _ _) rfl ?_
    rw [HR.out]
    exact ⟨rfl, HA.out.ofFr HB.out.2⟩
  | true =>
    have c8 : w'.cell? ⟨b, 8, none⟩ = some .nilIface := by obtain ⟨F', h1, _, _⟩ := HA.out; exact (h1.c8 HX.out.2.2.2.2.2).1
    have f8 : w'.frozen? ⟨b, 8, none⟩ = false := by obtain ⟨F', h1, _, _⟩ := HA.out; exact (h1.c8 HX.out.2.2.2.2.2).2
    go_wp2
    go_end0
    rw [HR.out]
    exact ⟨rfl, After.tok HX.out.2.2.2.1 HX.out.2.2.2.2.1 HB.out.2 HA.out HX.out.2.2.2.2.2 HT.out (fun k hk => by simp at hk; omega)⟩
set_option maxRecDepth 100000 in
set_option maxHeartbeats 4000000 in
theorem value_f (b : Nat) (f : J6.Feed) (F : Nat → Prop) (w : World) (h : FeedAt w b f F) (hok : J6.OkK 0 f) (hn1 : 1 ≤ f.n) (hnow : f.now = .none) :
    Calls Try.prog 41 #[.pointer (some ⟨b, 0, none⟩), .int .u8 102] w fun r w' => r = .returned (.tuple #[]) ∧ After w w' b (J6.valueOn f 102 ⟨1, 0, []⟩ (.word [97, 108, 115, 101])) F := by
  have hone := one_ok b f ⟨1, 0, []⟩ F hok hn1
  have hkeep := hok.one ⟨1, 0, []⟩ rfl
  have hgn := hkeep.2.2.1
  have HR : J6.valueOn f 102 ⟨1, 0, []⟩ (.word [97, 108, 115, 101]) = match J6.one f ⟨1, 0, []⟩ with
      | (false, g) => g
      | (true, g) => { g with now := .word [97, 108, 115, 101] } := rfl
  obtain ⟨⟨r1, g⟩, hres⟩ : ∃ r, J6.one f ⟨1, 0, []⟩ = r := ⟨_, rfl⟩
  simp only [hres] at hone hgn
  rw [hres] at HR
  rw [hnow] at hgn
  have hFlt := h.lt
  have hFb := h.own
  obtain ⟨vo, vs, tv, tb, ps, h, hF⟩ := h
  have hb : b < w.heap.size := h.lt
  obtain ⟨oa, oc, hov, _⟩ := h.parts.out.len
  have c5 : w.cell? ⟨b, 5, none⟩ = some (.slice oa f.out.length oc) := by rw [← hov]; exact cellOf h.blk 5 rfl
  have c6 : w.cell? ⟨b, 6, none⟩ = some vs := cellOf h.blk 6 rfl
  obtain ⟨sa, sc, hsv, _⟩ := h.stackLen
  rw [hsv] at c6
  have c0 : w.cell? ⟨b, 0, none⟩ = some (.int .i64 f.lim.d) := cellOf h.blk 0 rfl
  have HX := Px.hid (And.intro h (And.intro hF (And.intro hov (And.intro hFlt (And.intro hFb hgn)))))
  have HO := Px.hid hone
  have HR := Px.hid HR
  clear h hone hkeep hok hres hov hFlt hFb hgn hn1 hnow hF hsv
  go_enter Try.func41, Try.ntmps41
  go_wp2_with fail
  go_quiet (fail)
  have HB := Px.hid (And.intro (((HX.out.1.alloc (.cells #[.int .i64 1, .int .i64 0, .string ⟨#[]⟩] 64 (0, 0))).alloc (.cells #[.string ⟨#[97, 108, 115, 101]⟩] 109 (0, 0))).drewN nq) ((((Fr.refl F w).alloc (.cells #[.int .i64 1, .int .i64 0, .string ⟨#[]⟩] 64 (0, 0))).alloc (.cells #[.string ⟨#[97, 108, 115, 101]⟩] 109 (0, 0))).drewN nq))
  have hv0 : (((w.alloc (.cells #[.int .i64 1, .int .i64 0, .string ⟨#[]⟩] 64 (0, 0))).alloc (.cells #[.string ⟨#[97, 108, 115, 101]⟩] 109 (0, 0))).drewN nq).heap[w.heap.size]? = some (.cells #[.int .i64 1, .int .i64 0, .string ⟨#[]⟩] 64 (0, 0)) := (Below.heap_alloc (w.alloc (.cells #[.int .i64 1, .int .i64 0, .string ⟨#[]⟩] 64 (0, 0))) (.cells #[.string ⟨#[97, 108, 115, 101]⟩] 109 (0, 0)) w.heap.size (by simp)).trans (heap_alloc_new w _)
  have ht0 : (((w.alloc (.cells #[.int .i64 1, .int .i64 0, .string ⟨#[]⟩] 64 (0, 0))).alloc (.cells #[.string ⟨#[97, 108, 115, 101]⟩] 109 (0, 0))).drewN nq).heap[w.heap.size + 1]? = some (.cells #[.string ⟨#[97, 108, 115, 101]⟩] 109 (0, 0)) := by have := heap_alloc_new (w.alloc (.cells #[.int .i64 1, .int .i64 0, .string ⟨#[]⟩] 64 (0, 0))) (.cells #[.string ⟨#[97, 108, 115, 101]⟩] 109 (0, 0)); simp only [World.size_alloc] at this; exact this
  obtain ⟨W0, hW0⟩ : ∃ W0, W0 = ((w.alloc (.cells #[.int .i64 1, .int .i64 0, .string ⟨#[]⟩] 64 (0, 0))).alloc (.cells #[.string ⟨#[97, 108, 115, 101]⟩] 109 (0, 0))).drewN nq := ⟨_, rfl⟩
  rw [← hW0] at HB hv0 ht0 ⊢
  have HT := Px.hid (tok_word W0 _ [97, 108, 115, 101] ht0)
  have c5' : W0.cell? ⟨b, 5, none⟩ = some (.slice oa f.out.length oc) := by rw [← HX.out.2.2.1]; exact cellOf HB.out.1.blk 5 rfl
  have v0 : W0.cell? ⟨w.heap.size, 0, none⟩ = some (.int .i64 1) := cellOf hv0 0 rfl
  have v1 : W0.cell? ⟨w.heap.size, 1, none⟩ = some (.int .i64 0) := cellOf hv0 1 rfl
  have v2 : W0.cell? ⟨w.heap.size, 2, none⟩ = some (.string ⟨#[]⟩) := cellOf hv0 2 rfl
  have HFA := Px.hid (show FeedAt W0 b f F from ⟨_, _, _, _, _, HB.out.1, HX.out.2.1⟩)
  clear hW0 hv0 ht0 c5 c6 c0
  go_wp2_with fail
  refine (HO.out W0 HFA.out).mono ?_
  rintro e w' ⟨rfl, hA⟩
  have HA := Px.hid hA
  clear hA c5' v0 v1 v2
  cases r1 with
  | false =>
    go_wp2
    refine bodyPost_ret (results_none rfl _ _ _) rfl ?_
    rw [HR.out]
    exact ⟨rfl, HA.out.ofFr HB.out.2⟩
  | true =>
    have c8 : w'.cell? ⟨b, 8, none⟩ = some .nilIface := by obtain ⟨F', h1, _, _⟩ := HA.out; exact (h1.c8 HX.out.2.2.2.2.2).1
    have f8 : w'.frozen? ⟨b, 8, none⟩ = false := by obtain ⟨F', h1, _, _⟩ := HA.out; exact (h1.c8 HX.out.2.2.2.2.2).2
    go_wp2
    go_end0
    rw [HR.out]
    exact ⟨rfl, After.tok HX.out.2.2.2.1 HX.out.2.2.2.2.1 HB.out.2 HA.out HX.out.2.2.2.2.2 HT.out (fun k hk => by simp at hk; omega)⟩
set_option maxRecDepth 100000 in
set_option maxHeartbeats 4000000 in
theorem value_n (b : Nat) (f : J6.Feed) (F : Nat → Prop) (w : World) (h : FeedAt w b f F) (hok : J6.OkK 0 f) (hn1 : 1 ≤ f.n) (hnow : f.now = .none) :
    Calls Try.prog 41 #[.pointer (some ⟨b, 0, none⟩), .int .u8 110] w fun r w' => r = .returned (.tuple #[]) ∧ After w w' b (J6.valueOn f 110 ⟨0, 0, []⟩ (.word [117, 108, 108])) F := by
  have hone := one_ok b f ⟨0, 0, []⟩ F hok hn1
  have hkeep := hok.one ⟨0, 0, []⟩ rfl
  have hgn := hkeep.2.2.1
  have HR : J6.valueOn f 110 ⟨0, 0, []⟩ (.word [117, 108, 108]) = match J6.one f ⟨0, 0, []⟩ with
      | (false, g) => g
      | (true, g) => { g with now := .word [117, 108, 108] } := rfl
  obtain ⟨⟨r1, g⟩, hres⟩ : ∃ r, J6.one f ⟨0, 0, []⟩ = r := ⟨_, rfl⟩
  simp only [hres] at hone hgn
  rw [hres] at HR
  rw [hnow] at hgn
  have hFlt := h.lt
  have hFb := h.own
  obtain ⟨vo, vs, tv, tb, ps, h, hF⟩ := h
  have hb : b < w.heap.size := h.lt
  obtain ⟨oa, oc, hov, _⟩ := h.parts.out.len
  have c5 : w.cell? ⟨b, 5, none⟩ = some (.slice oa f.out.length oc) := by rw [← hov]; exact cellOf h.blk 5 rfl
  have c6 : w.cell? ⟨b, 6, none⟩ = some vs := cellOf h.blk 6 rfl
  obtain ⟨sa, sc, hsv, _⟩ := h.stackLen
  rw [hsv] at c6
  have c0 : w.cell? ⟨b, 0, none⟩ = some (.int .i64 f.lim.d) := cellOf h.blk 0 rfl
  have HX := Px.hid (And.intro h (And.intro hF (And.intro hov (And.intro hFlt (And.intro hFb hgn)))))
  have HO := Px.hid hone
  have HR := Px.hid HR
  clear h hone hkeep hok hres hov hFlt hFb hgn hn1 hnow hF hsv
  go_enter Try.func41, Try.ntmps41
  go_wp2_with fail
  go_quiet (fail)
  have HB := Px.hid (And.intro (((HX.out.1.alloc (.cells #[.int .i64 0, .int .i64 0, .string ⟨#[]⟩] 64 (0, 0))).alloc (.cells #[.string ⟨#[117, 108, 108]⟩] 109 (0, 0))).drewN nq) ((((Fr.refl F w).alloc (.cells #[.int .i64 0, .int .i64 0, .string ⟨#[]⟩] 64 (0, 0))).alloc (.cells #[.string ⟨#[117, 108, 108]⟩] 109 (0, 0))).drewN nq))
  have hv0 : (((w.alloc (.cells #[.int .i64 0, .int .i64 0, .string ⟨#[]⟩] 64 (0, 0))).alloc (.cells #[.string ⟨#[117, 108, 108]⟩] 109 (0, 0))).drewN nq).heap[w.heap.size]? = some (.cells #[.int .i64 0, .int .i64 0, .string ⟨#[]⟩] 64 (0, 0)) := (Below.heap_alloc (w.alloc (.cells #[.int .i64 0, .int .i64 0, .string ⟨#[]⟩] 64 (0, 0))) (.cells #[.string ⟨#[117, 108, 108]⟩] 109 (0, 0)) w.heap.size (by simp)).trans (heap_alloc_new w _)
  have ht0 : (((w.alloc (.cells #[.int .i64 0, .int .i64 0, .string ⟨#[]⟩] 64 (0, 0))).alloc (.cells #[.string ⟨#[117, 108, 108]⟩] 109 (0, 0))).drewN nq).heap[w.heap.size + 1]? = some (.cells #[.string ⟨#[117, 108, 108]⟩] 109 (0, 0)) := by have := heap_alloc_new (w.alloc (.cells #[.int .i64 0, .int .i64 0, .string ⟨#[]⟩] 64 (0, 0))) (.cells #[.string ⟨#[117, 108, 108]⟩] 109 (0, 0)); simp only [World.size_alloc] at this; exact this
  obtain ⟨W0, hW0⟩ : ∃ W0, W0 = ((w.alloc (.cells #[.int .i64 0, .int .i64 0, .string ⟨#[]⟩] 64 (0, 0))).alloc (.cells #[.string ⟨#[117, 108, 108]⟩] 109 (0, 0))).drewN nq := ⟨_, rfl⟩
  rw [← hW0] at HB hv0 ht0 ⊢
  have HT := Px.hid (tok_word W0 _ [117, 108, 108] ht0)
  have c5' : W0.cell? ⟨b, 5, none⟩ = some (.slice oa f.out.length oc) := by rw [← HX.out.2.2.1]; exact cellOf HB.out.1.blk 5 rfl
  have v0 : W0.cell? ⟨w.heap.size, 0, none⟩ = some (.int .i64 0) := cellOf hv0 0 rfl
  have v1 : W0.cell? ⟨w.heap.size, 1, none⟩ = some (.int .i64 0) := cellOf hv0 1 rfl
  have v2 : W0.cell? ⟨w.heap.size, 2, none⟩ = some (.string ⟨#[]⟩) := cellOf hv0 2 rfl
  have HFA := Px.hid (show FeedAt W0 b f F from ⟨_, _, _, _, _, HB.out.1, HX.out.2.1⟩)
  clear hW0 hv0 ht0 c5 c6 c0
  go_wp2_with fail
  refine (HO.out W0 HFA.out).mono ?_
  rintro e w' ⟨rfl, hA⟩
  have HA := Px.hid hA
  clear hA c5' v0 v1 v2
  cases r1 with
  | false =>
    go_wp2
    refine bodyPost_ret (results_none rfl _ _ _) rfl ?_
    rw [HR.out]
    exact ⟨rfl, HA.out.ofFr HB.out.2⟩
  | true =>
    have c8 : w'.cell? ⟨b, 8, none⟩ = some .nilIface := by obtain ⟨F', h1, _, _⟩ := HA.out; exact (h1.c8 HX.out.2.2.2.2.2).1
    have f8 : w'.frozen? ⟨b, 8, none⟩ = false := by obtain ⟨F', h1, _, _⟩ := HA.out; exact (h1.c8 HX.out.2.2.2.2.2).2
    go_wp2
    go_end0
    rw [HR.out]
    exact ⟨rfl, After.tok HX.out.2.2.2.1 HX.out.2.2.2.2.1 HB.out.2 HA.out HX.out.2.2.2.2.2 HT.out (fun k hk => by simp at hk; omega)⟩
end Go.Proofs.Ytahojodgmjmpnaa
