/- First, again and again, tells each bit that is 1, rising, as many as Count. No condition. -/
import Derived.Test.YthcimfblmpapeaaAwake5
import Derived.SizedLaws
import Derived.Deep.RegionHeld3
import Derived.Deep.DrawnRows
namespace Go.Proofs.Ythcimfblmpapeaa.bitmapWalks
open Go.ChangeShapes Go.WideShapes Go.ChangeAt Go.RowKit
set_option linter.unusedVariables false
attribute [local go_sem ↓] Go.wp_at_zero Go.wp_at_succ
attribute [local go_sem] ite_min ite_max

theorem countN_none (f : Nat → Bool) (a c : Nat) (h : a ≤ c) (hf : ∀ j, a ≤ j → j < c → f j ≠ true) : countN f c = countN f a := by
  obtain ⟨d, rfl⟩ := Nat.exists_eq_add_of_le h
  clear h
  induction d with
  | zero => rfl
  | succ d ih =>
    have h1 : countN f (a + (d + 1)) = countN f (a + d) + (if f (a + d) then 1 else 0) := rfl
    rw [h1, ih (fun j h1 h2 => hf j h1 (by omega)), if_neg (hf _ (by omega) (by omega))]
    rfl
theorem next_spec (n : Nat) (f : Nat → Bool) (a : Nat) (ha : a ≤ n) :
    (firstB n f a n true = -1 ∧ countN f n = countN f a) ∨ (∃ i : Nat, firstB n f a n true = i ∧ a ≤ i ∧ i < n ∧ f i = true ∧ (∀ j, a ≤ j → j < i → f j = false) ∧ countN f (i + 1) = countN f a + 1) := by
  unfold firstB
  rw [show (max 0 (a : Int)).toNat = a from by omega, show ((min (n : Int) n) - (max 0 (a : Int))).toNat = n - a from by omega]
  rcases firstG_spec f true a (n - a) with ⟨h, h2⟩ | ⟨i, h, h2, h3, h4, h5⟩
  · exact Or.inl ⟨h, countN_none f a n ha (fun j h1 h3 => h2 j h1 (by omega))⟩
  · refine Or.inr ⟨i, h, h2, by omega, h4, fun j h1 h6 => by simpa using h5 j h1 h6, ?_⟩
    have h6 : countN f (i + 1) = countN f i + (if f i then 1 else 0) := rfl
    rw [h6, countN_none f a i h2 h5, h4]
    rfl

set_option maxRecDepth 100000 in
set_option maxHeartbeats 1000000 in
theorem walk {W : World} (n : Int) (w0 : (Lit.int .i64 n).wf = true) (v : Value) (xs : List Int) (hx : IntsIn W v .u64 xs ∧ xs.length * 8 ≤ 140737488351232) :
    Calls Try.prog 3 #[.int .i64 n, v] W (LawPost W) := by
  obtain ⟨ws, hws, -⟩ := intsIn_words hx.1
  obtain ⟨kI, hkI⟩ : ∃ kI, kI = max 0 (min n 500) := ⟨_, rfl⟩
  obtain ⟨k, hk⟩ : ∃ k : Nat, (k : Int) = kI := ⟨kI.toNat, by omega⟩
  have hof := Lib.hid (map_OfAt kI k v ws W hws (by omega))
  clear hws hx w0
  go_enter Try.func3, Try.ntmps3
  go_wp2_with fail
  rw [← hkI]
  refine hof.out.mono ?_
  rintro e w1 ⟨b, g, rfl, hM, -, -, hu1⟩
  rw [← hk]
  have hk5 : (k : Int) ≤ 500 := by omega
  have hG := Lib.hid (fun j => map_GetF b g k (bitW ws) j w1 hM)
  have hF := Lib.hid (fun (a : Nat) => map_FirstF b g k (bitW ws) a k true w1 hM)
  have hC := Lib.hid (map_CountF b g k (bitW ws) w1 hM)
  have haw := Lib.hid (fun w' u => awake5 w1 w' u)
  have Hhu1 := Lib.hid hu1; clear hu1
  clear hM hof hkI hk
  generalize bitW ws = f at *
  go_wp2_with fail
  go_loop [6, 7] (fun c a => ∃ x : Nat, x ≤ k ∧ a = .int .i64 x ∧ c = .int .i64 (countN f x)) (fun _ a => (k - intOf a).toNat)
  case atStart => exact ⟨0, Nat.zero_le _, rfl, rfl⟩
  case round =>
    obtain ⟨x, hxk, rfl, rfl⟩ := hrel
    have hF := hF.out x
    have hxI : (x : Int) ≤ k := by omega
    have hcl := countN_le f x
    rcases next_spec k f x hxk with ⟨h1, h2⟩ | ⟨i, h1, h2, h3, h4, h5, h6⟩
    · rw [h1] at hF
      rw [h2] at hC
      have HhF := Lib.hid hF; clear hF
      clear h1 h2
      generalize countN f x = c at *
      go_wp2_with (first
        | (go_at_call 17; ((with_reducible refine HhF.out.mono ?_); rintro e w2 ⟨rfl, rfl⟩))
        | (go_at_call 19; ((with_reducible refine hC.out.mono ?_); rintro e w2 ⟨rfl, hu⟩))
        | (go_at_call 20; ((with_reducible refine (haw.out _ (by assumption)).mono ?_); rintro e w3 ⟨rfl, hu3⟩)))
      go_ret
      exact ⟨rfl, Upd.none (Hhu1.out.trans (by assumption))⟩
    · rw [h1] at hF
      have hGi := hG.out (i : Int)
      rw [show (decide ((0 : Int) ≤ i ∧ (i : Int) < k) && f (i : Int).toNat) = true from by simp [h4]; omega] at hGi
      have hiI : (x : Int) ≤ i := by omega
      have hik : (i : Int) < k := by omega
      have hci : ((countN f x : Nat) : Int) ≤ k := by omega
      have hi0 : (0 : Int) ≤ i := by omega
      have hi1 : decide (i < x) = false := by simp; omega
      have hi2 : decide (k < countN f x) = false := by simp; omega
      have HhF := Lib.hid hF; clear hF
      have HhGi := Lib.hid hGi; clear hGi
      have Hh5 := Lib.hid h5; clear h5
      have Hh6 := Lib.hid h6; clear h6
      clear h1 h4
      go_wp2_with (first
        | (go_at_call 17; ((with_reducible refine HhF.out.mono ?_); rintro e w2 ⟨rfl, rfl⟩))
        | (go_at_call 18; ((with_reducible refine HhGi.out.mono ?_); rintro e w2 ⟨rfl, rfl⟩)))
      go_loop [9] (fun j => ∃ y : Nat, x ≤ y ∧ y ≤ i ∧ j = .int .i64 y) (fun j => (i - intOf j).toNat)
      case atStart => exact ⟨x, Nat.le_refl _, h2, rfl⟩
      case round =>
        obtain ⟨y, hxy, hyi, rfl⟩ := hrel
        by_cases hy : y = i
        · have d1 : ¬ ((y : Int) < i) := by omega
          clear hy
          go_wp2
          go_round
          case rel => exact ⟨i + 1, by omega, by go_num, by rw [Hh6.out]; go_num⟩
          case measure => simp [intOf]; omega
        · have d1 : (y : Int) < i := by omega
          have hGy := hG.out (y : Int)
          have hfy := Hh5.out y hxy (by omega)
          rw [show (decide ((0 : Int) ≤ y ∧ (y : Int) < k) && f (y : Int).toNat) = false from by simp [hfy]] at hGy
          have HhGy := Lib.hid hGy; clear hGy
          clear hy hfy
          go_wp2_with (go_at_call 18; ((with_reducible refine HhGy.out.mono ?_); rintro e w2 ⟨rfl, rfl⟩))
          go_round
          case rel => exact ⟨y + 1, by omega, by omega, by go_num⟩
          case measure => simp [intOf]; omega

theorem own : ownKnob Try.prog.godebug = none := by kernel_rfl
theorem laidOut : laidOutB Try.prog = true := by kernel_rfl
set_option maxRecDepth 100000 in
theorem lifted (os : Os) (started : os.Started) (H : Type) (enc : TypeId × Value → H) :
    ReturnsInHanded {} Try.checked os 3 .any (Rows.bitmapWalksSpec.pre6 enc Try.prog Try.f3 Rows.bitmapWalksRow.domain false) (Rows.bitmapWalksSpec.post enc Try.prog Try.f3 false true false false) := by
  refine returnsInHanded_of_change_sized (C := Try.checked) own started (by kernel_rfl) Try.func3
    (ChangeSpec.witness6 (enc := enc) (C := Try.checked) false ⟨#[], #[.int .i64 0, .slice none 0 0], []⟩ 8 (by kernel_rfl) (by kernel_rfl) (by kernel_rfl) (by kernel_rfl)) ?_
  intro W base args ds gs before hval0 hW _ hsz0 _
  have hsz : (DataW.weightsEach Try.prog (Try.f3.params.toList ++ Rows.bitmapWalksSpec.plain.varTypes Try.prog) (ds ++ gs)).all (· ≤ reachBytes) = true := hsz0
  clear hsz0
  have hval : ∀ (j : Nat) t v, Try.f3.params[j]? = some t → args[j]? = some v → Value.okWide Try.prog W .any base t v := hval0
  have hW' := hW
  obtain ⟨p, q, hA0, hV, rfl, _, _⟩ := hW
  have hA : DataW.TrodAll enc Try.prog W 0 (fun _ => true) true Try.f3.params.toList args.toList ds p := hA0
  rw [Try.params3] at hA hval hsz
  obtain ⟨v0, vs0, d0, ds0, p0, q0, hargs, rfl, rfl, h0, r0⟩ := trodAll_cons hA
  obtain ⟨v1, vs1, d1, ds1, p1, q1, rfl, rfl, rfl, h1, r1⟩ := trodAll_cons r0
  obtain ⟨rfl, rfl, rfl⟩ := trodAll_nil r1
  obtain rfl : args = #[v0, v1] := by cases args; simp_all
  obtain ⟨rfl, rfl⟩ := trodVars_none hV
  clear hA0 hval0
  simp only [List.append_nil] at hW'
  have hlt : ∀ x, (x ∈ p0 ∨ x ∈ p1) → x.block < W.heap.size := fun x hx => by simpa using hW'.lt x (by simpa using hx)
  have k0 : ∀ (W' : World), Below W.heap.size W W' → DataW.Trod enc Try.prog W' 0 (fun b => decide (b < W.heap.size)) true 3 v0 d0 p0 :=
    fun W' hn => Below.trod laidOut (by kernel_rfl) (of_decide_eq_true (by kernel_rfl)) h0 hn (fun x hx => hlt x (Or.inl hx))
  have k1 : ∀ (W' : World), Below W.heap.size W W' → DataW.Trod enc Try.prog W' 0 (fun b => decide (b < W.heap.size)) true 22 v1 d1 p1 :=
    fun W' hn => Below.trod laidOut (by kernel_rfl) (of_decide_eq_true (by kernel_rfl)) h1 hn (fun x hx => hlt x (Or.inr (hx)))
  obtain ⟨a0, rfl, _, _, w0⟩ := open_int Try.underlying3 (hval 0 3 v0 rfl rfl) h0
  obtain ⟨x1, hx1⟩ := open_intsAt (bytes := 8) Try.underlying22 Try.underlying39 (by kernel_rfl) (by kernel_rfl) (hval 1 22 v1 rfl rfl) h1 hsz 1 rfl rfl
  refine (walk (W := W) a0 w0 v1 x1 hx1).mono fun e W' ⟨he, hb⟩ => ?_
  subst he
  refine ⟨_, rfl, _, _, _, [], p0 ++ (p1 ++ ([])), [], hW', ?_, ?_, rfl, hb.frame _, fun h => by cases h⟩
  · exact trodAll_cons_mk (shut_bool Try.underlying4 true) trodAll_mk0
  · exact trodAll_cons_mk (k0 _ hb) (trodAll_cons_mk (k1 _ hb) (trodAll_mk0))

theorem over : Rows.bitmapWalksRow.holds Try.pinned (OpenSpec.ofChange Rows.bitmapWalksSpec) :=
  OpenClaim.holds_of_wide 3 Try.f3 rfl rfl rfl rfl rfl rfl rfl ⟨rfl, rfl, rfl, rfl, rfl⟩ rfl rfl rfl rfl rfl (by kernel_rfl) Try.func3 (by kernel_rfl)
    (of_decide_eq_true (by kernel_rfl)) (by unfold Func.isWrapper; first | (rw [if_pos (by decide +kernel)]; kernel_rfl) | (rw [if_neg (by decide +kernel)]; exact ⟨rfl, rfl⟩))
    (fun os started H enc _ => lifted os started H enc)

/-- The given statement. -/
theorem proved : Rows.BitmapWalksSaid := over
#print axioms proved
end Go.Proofs.Ythcimfblmpapeaa.bitmapWalks
