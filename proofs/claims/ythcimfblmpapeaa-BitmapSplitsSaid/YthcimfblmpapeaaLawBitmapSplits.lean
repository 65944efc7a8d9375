/- The ones and the noughts of a range are told apart; a range of nothing has none. No condition. -/
import Derived.Test.YthcimfblmpapeaaAwake5
import Derived.SizedLaws
import Derived.Deep.RegionHeld3
import Derived.Deep.DrawnRows
namespace Go.Proofs.Ythcimfblmpapeaa.bitmapSplits
open Go.ChangeShapes Go.WideShapes Go.ChangeAt Go.RowKit
set_option linter.unusedVariables false
attribute [local go_sem ↓] Go.wp_at_zero Go.wp_at_succ
attribute [local go_sem] ite_min ite_max

theorem split_spec (n : Nat) (f : Nat → Bool) (p q lo hi : Int) (h1 : max 0 p = lo) (h2 : min (n : Int) q = hi) :
    (hi ≤ lo ∧ firstB n f p q true = -1 ∧ firstB n f p q false = -1) ∨
    (lo < hi ∧ firstB n f p q true = lo ∧ (firstB n f p q false = -1 ∨ (lo < firstB n f p q false ∧ firstB n f p q false < hi))) ∨
    (lo < hi ∧ firstB n f p q false = lo ∧ (firstB n f p q true = -1 ∨ (lo < firstB n f p q true ∧ firstB n f p q true < hi))) := by
  have e1 : (max 0 p).toNat = lo.toNat := by rw [h1]
  have e2 : ((min q n) - (max 0 p)).toNat = (hi - lo).toNat := by omega
  have e3 : ∀ b, firstB n f p q b = firstG f b lo.toNat (hi - lo).toNat := fun b => by unfold firstB; rw [e1, e2]
  rw [e3, e3]
  have h0 : 0 ≤ lo := by omega
  by_cases hl : hi ≤ lo
  · rw [show (hi - lo).toNat = 0 from by omega]
    exact Or.inl ⟨hl, rfl, rfl⟩
  · right
    obtain ⟨m, hm⟩ : ∃ m, (hi - lo).toNat = m + 1 := ⟨(hi - lo).toNat - 1, by omega⟩
    rw [hm]
    have hstep : ∀ b, firstG f b lo.toNat (m + 1) = if f lo.toNat = b then (lo.toNat : Int) else firstG f b (lo.toNat + 1) m := fun _ => rfl
    rw [hstep, hstep]
    have key : ∀ b, firstG f b (lo.toNat + 1) m = -1 ∨ (lo < firstG f b (lo.toNat + 1) m ∧ firstG f b (lo.toNat + 1) m < hi) := by
      intro b
      rcases firstG_spec f b (lo.toNat + 1) m with ⟨h, _⟩ | ⟨k, h, h3, h4, _⟩
      · exact Or.inl h
      · rw [h]; exact Or.inr ⟨by omega, by omega⟩
    cases hf : f lo.toNat
    · right
      refine ⟨by omega, by simp; omega, ?_⟩
      simpa using key true
    · left
      refine ⟨by omega, by simp; omega, ?_⟩
      simpa using key false

set_option maxRecDepth 100000 in
set_option maxHeartbeats 1000000 in
theorem walk {W : World} (n : Int) (w0 : (Lit.int .i64 n).wf = true) (v : Value) (xs : List Int) (hx : IntsIn W v .u64 xs ∧ xs.length * 8 ≤ 140737488351232) (p : Int) (w2 : (Lit.int .i64 p).wf = true) (q : Int) (w3 : (Lit.int .i64 q).wf = true) :
    Calls Try.prog 4 #[.int .i64 n, v, .int .i64 p, .int .i64 q] W (LawPost W) := by
  obtain ⟨ws, hws, -⟩ := intsIn_words hx.1
  obtain ⟨kI, hkI⟩ : ∃ kI, kI = max 0 (min n 500) := ⟨_, rfl⟩
  obtain ⟨k, hk⟩ : ∃ k : Nat, (k : Int) = kI := ⟨kI.toNat, by omega⟩
  have hof := Lib.hid (map_OfAt kI k v ws W hws (by omega))
  clear hws hx w0 w2 w3
  go_enter Try.func4, Try.ntmps4
  go_wp2_with fail
  rw [← hkI]
  refine hof.out.mono ?_
  rintro e w1 ⟨b, g, rfl, hM, -, -, hu1⟩
  rw [← hk]
  obtain ⟨lo, elo⟩ : ∃ lo, max 0 p = lo := ⟨_, rfl⟩
  obtain ⟨hi, ehi⟩ : ∃ hi, min (k : Int) q = hi := ⟨_, rfl⟩
  have hA := Lib.hid (map_FirstF b g k (bitW ws) p q true w1 hM)
  have hB := Lib.hid (map_FirstF b g k (bitW ws) p q false w1 hM)
  have hsp := split_spec k (bitW ws) p q lo hi elo ehi
  have hlo : 0 ≤ lo := by omega
  generalize firstB k (bitW ws) p q true = A at *
  generalize firstB k (bitW ws) p q false = B at *
  have haw := Lib.hid (awake5 w1 w1 (Upd.refl _ _))
  have Hhu1 := Lib.hid hu1; clear hu1
  clear hM hof hkI hk
  rcases hsp with ⟨s1, rfl, rfl⟩ | ⟨s1, rfl, rfl | ⟨s2, s3⟩⟩ | ⟨s1, rfl, rfl | ⟨s2, s3⟩⟩
  · go_wp2_with (first
      | (go_at_call 17; first | ((with_reducible refine hA.out.mono ?_); rintro e w2 ⟨rfl, rfl⟩) | ((with_reducible refine hB.out.mono ?_); rintro e w2 ⟨rfl, rfl⟩))
      | (go_at_call 20; ((with_reducible refine haw.out.mono ?_); rintro e w2 ⟨rfl, hu⟩)))
    go_ret
    exact ⟨rfl, Upd.none (Hhu1.out.trans (by assumption))⟩
  · have t1 : (A == -1) = false := by simp; omega
    have t2 : ((-1 : Int) == A) = false := by simp; omega
    have t6 : (A != -1) = true := by simp; omega
    go_wp2_with (first
      | (go_at_call 17; first | ((with_reducible refine hA.out.mono ?_); rintro e w2 ⟨rfl, rfl⟩) | ((with_reducible refine hB.out.mono ?_); rintro e w2 ⟨rfl, rfl⟩))
      | (go_at_call 20; ((with_reducible refine haw.out.mono ?_); rintro e w2 ⟨rfl, hu⟩)))
    go_ret
    exact ⟨rfl, Upd.none (Hhu1.out.trans (by assumption))⟩
  · have t1 : (A == -1) = false := by simp; omega
    have t2 : (B == -1) = false := by simp; omega
    have t3 : (B == A) = false := by simp; omega
    have t4 : (A == B) = false := by simp; omega
    have t6 : (A != B) = true := by simp; omega
    have t5 : A ≤ B := by omega
    go_wp2_with (first
      | (go_at_call 17; first | ((with_reducible refine hA.out.mono ?_); rintro e w2 ⟨rfl, rfl⟩) | ((with_reducible refine hB.out.mono ?_); rintro e w2 ⟨rfl, rfl⟩))
      | (go_at_call 20; ((with_reducible refine haw.out.mono ?_); rintro e w2 ⟨rfl, hu⟩)))
    go_ret
    exact ⟨rfl, Upd.none (Hhu1.out.trans (by assumption))⟩
  · have t1 : (B == -1) = false := by simp; omega
    have t2 : ((-1 : Int) == B) = false := by simp; omega
    have t6 : ((-1 : Int) != B) = true := by simp; omega
    go_wp2_with (first
      | (go_at_call 17; first | ((with_reducible refine hA.out.mono ?_); rintro e w2 ⟨rfl, rfl⟩) | ((with_reducible refine hB.out.mono ?_); rintro e w2 ⟨rfl, rfl⟩))
      | (go_at_call 20; ((with_reducible refine haw.out.mono ?_); rintro e w2 ⟨rfl, hu⟩)))
    go_ret
    exact ⟨rfl, Upd.none (Hhu1.out.trans (by assumption))⟩
  · have t1 : (A == -1) = false := by simp; omega
    have t2 : (B == -1) = false := by simp; omega
    have t3 : (B == A) = false := by simp; omega
    have t4 : (A == B) = false := by simp; omega
    have t6 : (A != B) = true := by simp; omega
    have t5 : B ≤ A := by omega
    go_wp2_with (first
      | (go_at_call 17; first | ((with_reducible refine hA.out.mono ?_); rintro e w2 ⟨rfl, rfl⟩) | ((with_reducible refine hB.out.mono ?_); rintro e w2 ⟨rfl, rfl⟩))
      | (go_at_call 20; ((with_reducible refine haw.out.mono ?_); rintro e w2 ⟨rfl, hu⟩)))
    go_ret
    exact ⟨rfl, Upd.none (Hhu1.out.trans (by assumption))⟩

theorem own : ownKnob Try.prog.godebug = none := by kernel_rfl
theorem laidOut : laidOutB Try.prog = true := by kernel_rfl
set_option maxRecDepth 100000 in
theorem lifted (os : Os) (started : os.Started) (H : Type) (enc : TypeId × Value → H) :
    ReturnsInHanded {} Try.checked os 4 .any (Rows.bitmapSplitsSpec.pre6 enc Try.prog Try.f4 Rows.bitmapSplitsRow.domain false) (Rows.bitmapSplitsSpec.post enc Try.prog Try.f4 false true false false) := by
  refine returnsInHanded_of_change_sized (C := Try.checked) own started (by kernel_rfl) Try.func4
    (ChangeSpec.witness6 (enc := enc) (C := Try.checked) false ⟨#[], #[.int .i64 0, .slice none 0 0, .int .i64 0, .int .i64 0], []⟩ 8 (by kernel_rfl) (by kernel_rfl) (by kernel_rfl) (by kernel_rfl)) ?_
  intro W base args ds gs before hval0 hW _ hsz0 _
  have hsz : (DataW.weightsEach Try.prog (Try.f4.params.toList ++ Rows.bitmapSplitsSpec.plain.varTypes Try.prog) (ds ++ gs)).all (· ≤ reachBytes) = true := hsz0
  clear hsz0
  have hval : ∀ (j : Nat) t v, Try.f4.params[j]? = some t → args[j]? = some v → Value.okWide Try.prog W .any base t v := hval0
  have hW' := hW
  obtain ⟨p, q, hA0, hV, rfl, _, _⟩ := hW
  have hA : DataW.TrodAll enc Try.prog W 0 (fun _ => true) true Try.f4.params.toList args.toList ds p := hA0
  rw [Try.params4] at hA hval hsz
  obtain ⟨v0, vs0, d0, ds0, p0, q0, hargs, rfl, rfl, h0, r0⟩ := trodAll_cons hA
  obtain ⟨v1, vs1, d1, ds1, p1, q1, rfl, rfl, rfl, h1, r1⟩ := trodAll_cons r0
  obtain ⟨v2, vs2, d2, ds2, p2, q2, rfl, rfl, rfl, h2, r2⟩ := trodAll_cons r1
  obtain ⟨v3, vs3, d3, ds3, p3, q3, rfl, rfl, rfl, h3, r3⟩ := trodAll_cons r2
  obtain ⟨rfl, rfl, rfl⟩ := trodAll_nil r3
  obtain rfl : args = #[v0, v1, v2, v3] := by cases args; simp_all
  obtain ⟨rfl, rfl⟩ := trodVars_none hV
  clear hA0 hval0
  simp only [List.append_nil] at hW'
  have hlt : ∀ x, (x ∈ p0 ∨ x ∈ p1 ∨ x ∈ p2 ∨ x ∈ p3) → x.block < W.heap.size := fun x hx => by simpa using hW'.lt x (by simpa using hx)
  have k0 : ∀ (W' : World), Below W.heap.size W W' → DataW.Trod enc Try.prog W' 0 (fun b => decide (b < W.heap.size)) true 3 v0 d0 p0 :=
    fun W' hn => Below.trod laidOut (by kernel_rfl) (of_decide_eq_true (by kernel_rfl)) h0 hn (fun x hx => hlt x (Or.inl hx))
  have k1 : ∀ (W' : World), Below W.heap.size W W' → DataW.Trod enc Try.prog W' 0 (fun b => decide (b < W.heap.size)) true 22 v1 d1 p1 :=
    fun W' hn => Below.trod laidOut (by kernel_rfl) (of_decide_eq_true (by kernel_rfl)) h1 hn (fun x hx => hlt x (Or.inr (Or.inl hx)))
  have k2 : ∀ (W' : World), Below W.heap.size W W' → DataW.Trod enc Try.prog W' 0 (fun b => decide (b < W.heap.size)) true 3 v2 d2 p2 :=
    fun W' hn => Below.trod laidOut (by kernel_rfl) (of_decide_eq_true (by kernel_rfl)) h2 hn (fun x hx => hlt x (Or.inr (Or.inr (Or.inl hx))))
  have k3 : ∀ (W' : World), Below W.heap.size W W' → DataW.Trod enc Try.prog W' 0 (fun b => decide (b < W.heap.size)) true 3 v3 d3 p3 :=
    fun W' hn => Below.trod laidOut (by kernel_rfl) (of_decide_eq_true (by kernel_rfl)) h3 hn (fun x hx => hlt x (Or.inr (Or.inr (Or.inr (hx)))))
  obtain ⟨a0, rfl, _, _, w0⟩ := open_int Try.underlying3 (hval 0 3 v0 rfl rfl) h0
  obtain ⟨x1, hx1⟩ := open_intsAt (bytes := 8) Try.underlying22 Try.underlying39 (by kernel_rfl) (by kernel_rfl) (hval 1 22 v1 rfl rfl) h1 hsz 1 rfl rfl
  obtain ⟨a2, rfl, _, _, w2⟩ := open_int Try.underlying3 (hval 2 3 v2 rfl rfl) h2
  obtain ⟨a3, rfl, _, _, w3⟩ := open_int Try.underlying3 (hval 3 3 v3 rfl rfl) h3
  refine (walk (W := W) a0 w0 v1 x1 hx1 a2 w2 a3 w3).mono fun e W' ⟨he, hb⟩ => ?_
  subst he
  refine ⟨_, rfl, _, _, _, [], p0 ++ (p1 ++ (p2 ++ (p3 ++ ([])))), [], hW', ?_, ?_, rfl, hb.frame _, fun h => by cases h⟩
  · exact trodAll_cons_mk (shut_bool Try.underlying4 true) trodAll_mk0
  · exact trodAll_cons_mk (k0 _ hb) (trodAll_cons_mk (k1 _ hb) (trodAll_cons_mk (k2 _ hb) (trodAll_cons_mk (k3 _ hb) (trodAll_mk0))))

theorem over : Rows.bitmapSplitsRow.holds Try.pinned (OpenSpec.ofChange Rows.bitmapSplitsSpec) :=
  OpenClaim.holds_of_wide 4 Try.f4 rfl rfl rfl rfl rfl rfl rfl ⟨rfl, rfl, rfl, rfl, rfl⟩ rfl rfl rfl rfl rfl (by kernel_rfl) Try.func4 (by kernel_rfl)
    (of_decide_eq_true (by kernel_rfl)) (by unfold Func.isWrapper; first | (rw [if_pos (by decide +kernel)]; kernel_rfl) | (rw [if_neg (by decide +kernel)]; exact ⟨rfl, rfl⟩))
    (fun os started H enc _ => lifted os started H enc)

/-- The given statement. -/
theorem proved : Rows.BitmapSplitsSaid := over
#print axioms proved
end Go.Proofs.Ythcimfblmpapeaa.bitmapSplits
