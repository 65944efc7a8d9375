/- As much as there is room for is pushed, of the greatest room, and more. No condition. -/
import Derived.Test.YthdndphghnjcbaaAwake18
import Derived.SizedLaws
namespace Go.Proofs.Ythdndphghnjcbaa.greyMany
open Go.ChangeShapes Go.WideShapes Go.ChangeAt Go.RowKit
set_option linter.unusedVariables false

/-- What has been pushed after k times. -/
def manyL (k r : Nat) : List Int := (List.range (min k r)).map (fun j : Nat => (j : Int))
theorem manyL_len (k r : Nat) : (manyL k r).length = min k r := by simp [manyL]
theorem manyL_push (k r : Nat) : pushL (manyL k r) r k = manyL (k + 1) r := by
  unfold pushL
  rw [manyL_len]
  by_cases h : k < r
  · rw [if_pos (by omega)]
    unfold manyL
    rw [show min k r = k from by omega, show min (k + 1) r = k + 1 from by omega, List.range_succ, List.map_append]
    rfl
  · rw [if_neg (by omega)]
    unfold manyL
    rw [show min k r = r from by omega, show min (k + 1) r = r from by omega]

set_option maxHeartbeats 400000 in
theorem ref_room (n : Int) (w : World) : Calls Try.prog 16 #[.int .i64 n] w (Same w (.int .i64 (roomOf n))) := by
  have h : n ≤ 1 ∨ (1 < n ∧ n ≤ 2048) ∨ 2048 < n := by omega
  rcases h with h | ⟨h, h'⟩ | h
  · have e : ((roomOf n : Nat) : Int) = 1 := by unfold roomOf; omega
    have h2 : n ≤ 2048 := by omega
    rw [e]
    clear e
    go_enter Try.func16, Try.ntmps16
    go_wp2
    go_ret
    exact ⟨rfl, rfl⟩
  · have e : ((roomOf n : Nat) : Int) = n := by unfold roomOf; omega
    rw [e]
    clear e
    go_enter Try.func16, Try.ntmps16
    go_wp2
    go_ret
    exact ⟨rfl, rfl⟩
  · have e : ((roomOf n : Nat) : Int) = 2048 := by unfold roomOf; omega
    rw [e]
    clear e
    go_enter Try.func16, Try.ntmps16
    go_wp2
    go_ret
    exact ⟨rfl, rfl⟩

set_option maxRecDepth 100000 in
set_option maxHeartbeats 1000000 in
theorem walk (room : Int) (w0 : (Lit.int .i64 room).wf = true) (n : Int) (w1 : (Lit.int .i64 n).wf = true) (W : World) :
    Calls Try.prog 3 #[.int .i64 room, .int .i64 n] W (LawPost W) := by
  obtain ⟨N, hN, hN2⟩ := rem_nat n 2100 (by decide) (by decide)
  clear w0 w1
  have hr := Lib.hid (ref_room room)
  have hr1 := roomOf_pos room
  have hr2 := roomOf_le room
  go_enter Try.func3, Try.ntmps3
  go_wp2_with fail
  refine (grey_new room _).mono ?_
  rintro e w1 ⟨rfl, s1, u1, z1⟩
  generalize hb : W.heap.size = b at s1 z1
  have hbW : W.heap.size ≤ b := by omega
  have r1 : (1 : Int) ≤ roomOf room := by omega
  have r2 : (roomOf room : Int) ≤ 2048 := by omega
  generalize roomOf room = r at *
  have Hhb := Lib.hid hb; clear hb
  have Hu1 := Lib.hid u1; clear u1
  have Hz1 := Lib.hid z1; clear z1
  go_wp2_with fail
  refine (hr.out w1).mono ?_
  rintro e w' ⟨rfl, rfl⟩
  go_wp2_with fail
  rw [hN]
  clear hN
  go_loopw [19] (fun i wr => ∃ k : Nat, k ≤ N ∧ i = .int .i64 k ∧ Stk wr b (manyL k r) r (decide (r < k)) ∧ Upd (fun _ => False) W wr) (fun i _ => (N - intOf i).toNat)
  case atStart => exact ⟨0, Nat.zero_le _, rfl, s1, Hu1.out⟩
  case round =>
    obtain ⟨k, hk, rfl, sk, uk⟩ := hrel
    clear s1
    by_cases hkN : k = N
    · subst hkN
      have e0 : ¬ ((k : Int) < k) := by omega
      have hl := manyL_len k r
      have pc := grey_pop b _ _ _ _ sk
      by_cases h0 : k = 0
      · have e1 : (manyL k r).getLastD 0 = 0 := by subst h0; simp [manyL]
        have e2 : (manyL k r).isEmpty = true := by subst h0; simp [manyL]
        have e3 : decide (r < k) = false := by subst h0; simp
        unfold GreyPop at pc
        rw [e1, e2, e3] at pc
        have pc : Calls Try.prog 18 #[.pointer (some ⟨b, 0, none⟩)] wr (fun e w' => e = .returned (.tuple #[.int .i64 0, .bool false]) ∧ Stk w' b (manyL k r).dropLast r false ∧ Upd (fun i => i = b) wr w' ∧ w'.heap.size = wr.heap.size) := pc
        have d1 : ¬ ((0 : Int) < k) := by omega
        have d2 : ¬ ((r : Int) < k) := by omega
        have d3 : ((k : Int) ≤ r) := by omega
        have Hpc := Lib.hid pc; clear pc
        have Huk := Lib.hid uk; clear uk
        clear sk hk h0 hl e1 e2 e3
        go_wp2_with (first | (go_at_call 18; (with_reducible refine Hpc.out.mono ?_); rintro e w2 ⟨rfl, s2, u2, z2⟩; have Hz2 := Lib.hid z2; clear z2; have Hov := Lib.hid (grey_over b _ _ _ _ s2)) | (go_at_call 19; (with_reducible refine Hov.out.mono ?_); rintro e w' ⟨rfl, rfl⟩; have Haw := Lib.hid (awake18 w2)) | (go_at_call 20; (with_reducible refine Haw.out.mono ?_); rintro e w' ⟨rfl, u3⟩))
        go_ret
        exact ⟨rfl, ((Huk.out.own u2 (fun i e => by omega)).own u3 (fun i e => e.elim)).none⟩
      · have e2 : (manyL k r).isEmpty = false := by
          rw [List.isEmpty_eq_false_iff]
          intro e
          rw [e] at hl
          simp at hl
          omega
        have e1 : (manyL k r).getLastD 0 = ((min k r : Nat) : Int) - 1 := by
          unfold manyL
          obtain ⟨m, hm⟩ : ∃ m, min k r = m + 1 := ⟨min k r - 1, by omega⟩
          rw [hm, List.range_succ, List.map_append]
          simp
        unfold GreyPop at pc
        rw [e1, e2] at pc
        have pc : Calls Try.prog 18 #[.pointer (some ⟨b, 0, none⟩)] wr (fun e w' => e = .returned (.tuple #[.int .i64 (((min k r : Nat) : Int) - 1), .bool true]) ∧ Stk w' b (manyL k r).dropLast r (decide (r < k)) ∧ Upd (fun i => i = b) wr w' ∧ w'.heap.size = wr.heap.size) := pc
        have d1 : ((0 : Int) < k) := by omega
        have d5 : (decide (r < k) == decide ((r : Int) < k)) = true := by
          rw [show decide (r < k) = decide ((r : Int) < k) from by rw [decide_eq_decide]; omega]
          simp
        have d4 : ((k ≤ r ∧ ((min k r : Nat) : Int) = k) ∨ (r < k ∧ ((min k r : Nat) : Int) = r)) := by omega
        have Huk := Lib.hid uk; clear uk
        clear sk hk h0 hl e1 e2
        rcases d4 with ⟨d3, d6⟩ | ⟨d3, d6⟩
        all_goals
          rw [d6] at pc
          have d3' := Int.ofNat_le.2 d3
          have Hpc := Lib.hid pc; clear pc
          clear d6
          go_wp2_with (first | (go_at_call 18; (with_reducible refine Hpc.out.mono ?_); rintro e w2 ⟨rfl, s2, u2, z2⟩; have Hz2 := Lib.hid z2; clear z2; have Hov := Lib.hid (grey_over b _ _ _ _ s2)) | (go_at_call 19; (with_reducible refine Hov.out.mono ?_); rintro e w' ⟨rfl, rfl⟩; have Haw := Lib.hid (awake18 w2)) | (go_at_call 20; (with_reducible refine Haw.out.mono ?_); rintro e w' ⟨rfl, u3⟩))
          go_ret
          exact ⟨rfl, ((Huk.out.own u2 (fun i e => by omega)).own u3 (fun i e => e.elim)).none⟩
    · have c1 : (k : Int) < N := by omega
      have c2 : k < N := by omega
      have hp : Calls Try.prog 17 #[.pointer (some ⟨b, 0, none⟩), .int .i64 k] wr (fun e w' => e = .returned (.bool (decide ((k : Int) < r))) ∧ Stk w' b (manyL (k + 1) r) r (decide (r < k + 1)) ∧ Upd (fun i => i = b) wr w') := by
        refine (grey_push b k _ _ _ wr sk).mono ?_
        rintro e w' ⟨rfl, h1, h2, h3⟩
        rw [manyL_push, manyL_len] at h1
        refine ⟨?_, ?_, h2⟩
        · rw [manyL_len]
          congr 2
          rw [decide_eq_decide]
          omega
        · have e : (decide (r < k) || !decide (min k r < r)) = decide (r < k + 1) := by
            rw [Bool.eq_iff_iff]
            simp
            omega
          rw [← e]
          exact h1
      have Hhp := Lib.hid hp; clear hp
      have Huk := Lib.hid uk; clear uk
      clear sk
      go_wp2_with (go_at_call 17; (with_reducible refine Hhp.out.mono ?_); rintro e w2 ⟨rfl, s2, u2⟩)
      go_roundw
      case rel => exact ⟨k + 1, by omega, rfl, s2, Huk.out.own u2 (fun i e => by omega)⟩
      case measure => simp [intOf]; omega

theorem own : ownKnob Try.prog.godebug = none := by kernel_rfl
theorem laidOut : laidOutB Try.prog = true := by kernel_rfl
set_option maxRecDepth 100000 in
theorem lifted (os : Os) (started : os.Started) (H : Type) (enc : TypeId × Value → H) :
    ReturnsInHanded {} Try.checked os 3 .any (Rows.greyManySpec.pre6 enc Try.prog Try.f3 Rows.greyManyRow.domain false) (Rows.greyManySpec.post enc Try.prog Try.f3 false true false false) := by
  refine returnsInHanded_of_change_sized (C := Try.checked) own started (by kernel_rfl) Try.func3
    (ChangeSpec.witness6 (enc := enc) (C := Try.checked) false ⟨#[], #[.int .i64 0, .int .i64 0], []⟩ 8 (by kernel_rfl) (by kernel_rfl) (by kernel_rfl) (by kernel_rfl)) ?_
  intro W base args ds gs before hval0 hW _ hsz0 _
  have hsz : (DataW.weightsEach Try.prog (Try.f3.params.toList ++ Rows.greyManySpec.plain.varTypes Try.prog) (ds ++ gs)).all (· ≤ reachBytes) = true := hsz0
  clear hsz0
  have hval : ∀ (j : Nat) t v, Try.f3.params[j]? = some t → args[j]? = some v → Value.okWide Try.prog W .any base t v := hval0
  have hW' := hW
  obtain ⟨p, q, hA0, hV, rfl, _, _⟩ := hW
  have hA : DataW.TrodAll enc Try.prog W 0 (fun _ => true) true Try.f3.params.toList args.toList ds p := hA0
  rw [Try.params3] at hA hval hsz
  obtain ⟨v0, vs0, d0, ds0, p0, q0, hargs, rfl, rfl, h0, r0⟩ := trodAll_cons hA
  obtain ⟨v1, vs1, d1, ds1, p1, q1, rfl, rfl, rfl, h1, r1⟩ := trodAll_cons r0
  obtain ⟨rfl, rfl, rfl⟩ := trodAll_nil r1
  obtain rfl : args = #[v0, v1] := by cases args; simp_all
  obtain ⟨rfl, rfl⟩ := trodVars_none hV
  clear hA0 hval0
  simp only [List.append_nil] at hW'
  have hlt : ∀ x, (x ∈ p0 ∨ x ∈ p1) → x.block < W.heap.size := fun x hx => by simpa using hW'.lt x (by simpa using hx)
  have k0 : ∀ (W' : World), Below W.heap.size W W' → DataW.Trod enc Try.prog W' 0 (fun b => decide (b < W.heap.size)) true 3 v0 d0 p0 :=
    fun W' hn => Below.trod laidOut (by kernel_rfl) (of_decide_eq_true (by kernel_rfl)) h0 hn (fun x hx => hlt x (Or.inl hx))
  have k1 : ∀ (W' : World), Below W.heap.size W W' → DataW.Trod enc Try.prog W' 0 (fun b => decide (b < W.heap.size)) true 3 v1 d1 p1 :=
    fun W' hn => Below.trod laidOut (by kernel_rfl) (of_decide_eq_true (by kernel_rfl)) h1 hn (fun x hx => hlt x (Or.inr (hx)))
  obtain ⟨a0, rfl, _, _, w0⟩ := open_int Try.underlying3 (hval 0 3 v0 rfl rfl) h0
  obtain ⟨a1, rfl, _, _, w1⟩ := open_int Try.underlying3 (hval 1 3 v1 rfl rfl) h1
  refine (walk a0 w0 a1 w1 W).mono fun e W' ⟨he, hb⟩ => ?_
  subst he
  refine ⟨_, rfl, _, _, _, [], p0 ++ (p1 ++ ([])), [], hW', ?_, ?_, rfl, hb.frame _, fun h => by cases h⟩
  · exact trodAll_cons_mk (shut_bool Try.underlying4 true) trodAll_mk0
  · exact trodAll_cons_mk (k0 _ hb) (trodAll_cons_mk (k1 _ hb) (trodAll_mk0))

theorem over : Rows.greyManyRow.holds Try.pinned (OpenSpec.ofChange Rows.greyManySpec) :=
  OpenClaim.holds_of_wide 3 Try.f3 rfl rfl rfl rfl rfl rfl rfl ⟨rfl, rfl, rfl, rfl, rfl⟩ rfl rfl rfl rfl rfl (by kernel_rfl) Try.func3 (by kernel_rfl)
    (of_decide_eq_true (by kernel_rfl)) (by unfold Func.isWrapper; first | (rw [if_pos (by decide +kernel)]; kernel_rfl) | (rw [if_neg (by decide +kernel)]; exact ⟨rfl, rfl⟩))
    (fun os started H enc _ => lifted os started H enc)

/-- The given statement. -/
theorem proved : Rows.GreyManySaid := over
#print axioms proved
end Go.Proofs.Ythdndphghnjcbaa.greyMany
