/- What is pushed within the room is popped the last first, and then there is no more. No condition. -/
import Derived.Test.YthdndphghnjcbaaAwake18
import Derived.SizedLaws
import Derived.Deep.DeepCutAuto
import Derived.Deep.CutBlock
namespace Go.Proofs.Ythdndphghnjcbaa.greyRows
open Go.ChangeShapes Go.WideShapes Go.ChangeAt Go.RowKit
set_option linter.unusedVariables false

set_option maxRecDepth 100000 in
set_option maxHeartbeats 1000000 in
theorem walk {W : World} (room : Int) (w0 : (Lit.int .i64 room).wf = true) (v : Value) (xs : List Int) (hx : IntsIn W v .i64 xs ∧ xs.length * 8 ≤ 140737488351232) :
    Calls Try.prog 4 #[.int .i64 room, v] W (LawPost W) := by
  obtain ⟨hx, hreach⟩ := hx
  have hlen : (xs.length : Int) ≤ 17592186044416 := by omega
  have hr1 := roomOf_pos room
  have hr2 := roomOf_le room
  have hX := Lib.hid hx
  obtain ⟨a, cap, rfl, -⟩ := hx.1
  clear w0 hx hreach
  go_enter Try.func4, Try.ntmps4
  go_wp2_with fail
  refine (grey_new room _).mono ?_
  rintro e w1 ⟨rfl, s1, u1, z1⟩
  generalize hb : W.heap.size = b at s1 z1
  have hbW : W.heap.size ≤ b := by omega
  generalize roomOf room = r at *
  have Hhb := Lib.hid hb; clear hb
  have Hu1 := Lib.hid u1; clear u1
  have Hz1 := Lib.hid z1; clear z1
  go_upto_block 0 with fail
  go_cut [6] (fun n wx => ∃ k : Nat, n = .int .i64 k ∧ k ≤ xs.length ∧ k ≤ 100 ∧ Stk wx b (xs.take k) r (decide (k < xs.length ∧ k < 100)) ∧ Upd (fun _ => False) W wx)
  case first =>
    go_wp2_with fail
    go_loopw [6, 17] (fun n i wr => ∃ k : Nat, n = .int .i64 k ∧ i = .int .i64 k ∧ k ≤ xs.length ∧ k ≤ 100 ∧ k ≤ r ∧ Stk wr b (xs.take k) r false ∧ Upd (fun _ => False) W wr) (fun _ i _ => (xs.length - intOf i).toNat)
    case atStart => exact ⟨0, rfl, rfl, Nat.zero_le _, Nat.zero_le _, Nat.zero_le _, s1, Hu1.out⟩
    case round =>
      obtain ⟨k, rfl, rfl, hk1, hk2, hk3, sk, uk⟩ := hrel
      clear s1
      by_cases hkl : k = xs.length
      · have fin : Stk wr b (xs.take k) r (decide (k < xs.length ∧ k < 100)) := by
          rw [show decide (k < xs.length ∧ k < 100) = false from by simp; omega]
          exact sk
        have d1 : ¬ ((k : Int) < xs.length) := by omega
        have Huk := Lib.hid uk; clear uk
        have Hfin := Lib.hid fin; clear fin
        have Hhkl := Lib.hid hkl; clear hkl
        clear sk
        go_wp2_with fail
        go_meet
        exact ⟨k, rfl, hk1, hk2, Hfin.out, Huk.out⟩
      · have d1 : ((k : Int) < xs.length) := by omega
        have d1' : k < xs.length := by omega
        obtain ⟨b0, off, hix, hb0, hc⟩ := hX.out.1.index (P := Try.prog) Try.underlying31 (by kernel_rfl) (by kernel_rfl) d1'
        simp only [Nat.mul_one] at hix hc
        have hc0 : wr.cell? ⟨b0, off + k, none⟩ = some (.int .i64 (xs.getD k 0)) := (uk.none.cell (p := ⟨b0, off + k, none⟩) hb0).trans (hc 0 (by decide))
        by_cases h100 : k = 100
        · have fin : Stk wr b (xs.take k) r (decide (k < xs.length ∧ k < 100)) := by
            rw [show decide (k < xs.length ∧ k < 100) = false from by simp; omega]
            exact sk
          have d2 : (100 : Int) ≤ k := by omega
          have Huk := Lib.hid uk; clear uk
          have Hfin := Lib.hid fin; clear fin
          clear sk hkl hc h100
          go_wp2_with fail
          go_meet
          exact ⟨k, rfl, hk1, hk2, Hfin.out, Huk.out⟩
        · have d2 : (k : Int) < 100 := by omega
          have hl : (xs.take k).length = k := by simp; omega
          have pc := grey_push b (xs.getD k 0) _ _ _ _ sk
          unfold GreyPush at pc
          rw [hl] at pc
          by_cases hkr : k = r
          · have e1 : pushL (xs.take k) r (xs.getD k 0) = xs.take k := if_neg (by omega)
            rw [e1, show decide (k < r) = false from by simp; omega] at pc
            have e3 : decide (k < xs.length ∧ k < 100) = true := by simp; omega
            generalize xs.getD k 0 = y at hc0 pc
            have Huk := Lib.hid uk; clear uk
            have Hpc := Lib.hid pc; clear pc
            have He3 := Lib.hid e3; clear e3
            clear sk hkl hc h100 hl hkr e1
            go_wp2_with (go_at_call 17; (with_reducible refine Hpc.out.mono ?_); rintro e w2 ⟨rfl, s2, u2, z2⟩)
            go_meet
            exact ⟨k, rfl, hk1, hk2, by rw [He3.out]; exact s2, Huk.out.own u2 (fun i e => by omega)⟩
          · have e1 : pushL (xs.take k) r (xs.getD k 0) = xs.take (k + 1) := by
              unfold pushL
              rw [if_pos (by omega), List.take_succ_eq_append_getElem d1']
              simp [d1']
            have e2 : decide (k < r) = true := by simp; omega
            have hkr2 : k + 1 ≤ r := by omega
            rw [e1, e2] at pc
            generalize xs.getD k 0 = y at hc0 pc
            have Huk := Lib.hid uk; clear uk
            have Hpc := Lib.hid pc; clear pc
            clear sk hkl hc h100 hl e1 e2 hkr
            go_wp2_with (go_at_call 17; (with_reducible refine Hpc.out.mono ?_); rintro e w2 ⟨rfl, s2, u2, z2⟩; have Hz2 := Lib.hid z2; clear z2)
            go_roundw
            case rel => exact ⟨k + 1, by go_num, by go_num, by omega, by omega, hkr2, s2, Huk.out.own u2 (fun i e => by omega)⟩
            case measure => simp [intOf]; omega
  case rest =>
    obtain ⟨k, rfl, hk1, hk2, sk, uk⟩ := hcut
    clear s1
    have hl : (xs.take k).length = k := by simp; omega
    have hov := grey_over b _ _ _ _ sk
    have hln := grey_len b _ _ _ _ sk
    rw [hl] at hln
    have key : ∃ ov, decide (k < xs.length ∧ k < 100) = ov ∧ ((ov = true ∧ (k : Int) < xs.length ∧ (k : Int) < 100) ∨ (ov = false ∧ ¬ (k : Int) < xs.length) ∨ (ov = false ∧ (k : Int) < xs.length ∧ ¬ (k : Int) < 100)) := by
      refine ⟨_, rfl, ?_⟩
      by_cases c1 : k < xs.length
      · by_cases c2 : k < 100
        · exact Or.inl ⟨by simp [c1, c2], by omega, by omega⟩
        · exact Or.inr (Or.inr ⟨by simp [c2], by omega, by omega⟩)
      · exact Or.inr (Or.inl ⟨by simp [c1], by omega⟩)
    obtain ⟨ov, ho, hc⟩ := key
    rw [ho] at hov sk
    clear ho hl
    have Hhov := Lib.hid hov; clear hov
    have Hhln := Lib.hid hln; clear hln
    have Huk := Lib.hid uk; clear uk
    rcases hc with ⟨rfl, c1, c2⟩ | ⟨rfl, c1⟩ | ⟨rfl, c1, c2⟩
    all_goals
      go_wp2_with (first | (go_at_call 19; (with_reducible refine Hhov.out.mono ?_); rintro e w' ⟨rfl, rfl⟩) | (go_at_call 21; (with_reducible refine Hhln.out.mono ?_); rintro e w' ⟨rfl, rfl⟩))
      go_loopw [6] (fun n wr => ∃ j : Nat, n = .int .i64 j ∧ j ≤ k ∧ Stk wr b (xs.take j) r _ ∧ Upd (fun _ => False) W wr) (fun n _ => (intOf n).toNat)
      case atStart => exact ⟨k, rfl, Nat.le_refl _, sk, Huk.out⟩
      case round =>
        obtain ⟨j, rfl, hj, sj, uj⟩ := hrel
        clear sk
        have pc := grey_pop b _ _ _ _ sj
        unfold GreyPop at pc
        by_cases h0 : j = 0
        · subst h0
          rw [List.take_zero] at pc
          have Hpc := Lib.hid pc; clear pc
          have Huj := Lib.hid uj; clear uj
          clear sj
          go_wp2_with (first | (go_at_call 18; (refine Hpc.out.mono ?_); rintro e w2 ⟨rfl, s2, u2, z2⟩; have Hz2 := Lib.hid z2; clear z2; have Hln := Lib.hid (grey_len b _ _ _ _ s2)) | (go_at_call 21; (refine Hln.out.mono ?_); rintro e w' ⟨rfl, rfl⟩; have Haw := Lib.hid (awake18 w2)) | (go_at_call 20; (with_reducible refine Haw.out.mono ?_); rintro e w' ⟨rfl, u3⟩))
          go_ret
          exact ⟨rfl, ((Huj.out.own u2 (fun i e => by omega)).own u3 (fun i e => e.elim)).none⟩
        · obtain ⟨i, rfl⟩ : ∃ i, j = i + 1 := ⟨j - 1, by omega⟩
          have hi : i < xs.length := by omega
          have e1 : (xs.take (i + 1)).getLastD 0 = xs.getD i 0 := by
            rw [List.take_succ_eq_append_getElem hi, List.getLastD_eq_getLast?, List.getLast?_concat]
            simp [hi]
          have e2 : (xs.take (i + 1)).isEmpty = false := by
            rw [List.take_succ_eq_append_getElem hi, List.isEmpty_eq_false_iff]
            exact List.append_ne_nil_of_right_ne_nil _ (by simp)
          have e3 : (xs.take (i + 1)).dropLast = xs.take i := by
            rw [List.take_succ_eq_append_getElem hi, List.dropLast_concat]
          rw [e1, e2, e3] at pc
          obtain ⟨b0, off, hix, hb0, hc⟩ := hX.out.1.index (P := Try.prog) Try.underlying31 (by kernel_rfl) (by kernel_rfl) hi
          simp only [Nat.mul_one] at hix hc
          have hc0 : ∀ w2 : World, Below W.heap.size W w2 → w2.cell? ⟨b0, off + i, none⟩ = some (.int .i64 (xs.getD i 0)) := fun w2 h => (h.cell (p := ⟨b0, off + i, none⟩) hb0).trans (hc 0 (by decide))
          have hpos : (0 : Int) < ((i + 1 : Nat) : Int) := by omega
          have e4 : (((i + 1 : Nat) : Int)) - 1 = (i : Int) := by omega
          have hi2 : (i : Int) < xs.length := by omega
          generalize xs.getD i 0 = y at hc0 pc
          have Hpc := Lib.hid pc; clear pc
          have Huj := Lib.hid uj; clear uj
          have Hhc0 := Lib.hid hc0; clear hc0
          clear sj hc e1 e2 e3
          go_wp2_with (first | (go_at_call 18; (refine Hpc.out.mono ?_); rintro e w2 ⟨rfl, s2, u2, z2⟩; have Hz2 := Lib.hid z2; clear z2; have u3 := Huj.out.own u2 (fun i e => by omega); have hc1 := Hhc0.out w2 u3.none))
          go_roundw
          case rel => exact ⟨i, rfl, by omega, s2, u3⟩
          case measure => simp [intOf]

theorem own : ownKnob Try.prog.godebug = none := by kernel_rfl
theorem laidOut : laidOutB Try.prog = true := by kernel_rfl
set_option maxRecDepth 100000 in
theorem lifted (os : Os) (started : os.Started) (H : Type) (enc : TypeId × Value → H) :
    ReturnsInHanded {} Try.checked os 4 .any (Rows.greyRowsSpec.pre6 enc Try.prog Try.f4 Rows.greyRowsRow.domain false) (Rows.greyRowsSpec.post enc Try.prog Try.f4 false true false false) := by
  refine returnsInHanded_of_change_sized (C := Try.checked) own started (by kernel_rfl) Try.func4
    (ChangeSpec.witness6 (enc := enc) (C := Try.checked) false ⟨#[], #[.int .i64 0, .slice none 0 0], []⟩ 8 (by kernel_rfl) (by kernel_rfl) (by kernel_rfl) (by kernel_rfl)) ?_
  intro W base args ds gs before hval0 hW _ hsz0 _
  have hsz : (DataW.weightsEach Try.prog (Try.f4.params.toList ++ Rows.greyRowsSpec.plain.varTypes Try.prog) (ds ++ gs)).all (· ≤ reachBytes) = true := hsz0
  clear hsz0
  have hval : ∀ (j : Nat) t v, Try.f4.params[j]? = some t → args[j]? = some v → Value.okWide Try.prog W .any base t v := hval0
  have hW' := hW
  obtain ⟨p, q, hA0, hV, rfl, _, _⟩ := hW
  have hA : DataW.TrodAll enc Try.prog W 0 (fun _ => true) true Try.f4.params.toList args.toList ds p := hA0
  rw [Try.params4] at hA hval hsz
  obtain ⟨v0, vs0, d0, ds0, p0, q0, hargs, rfl, rfl, h0, r0⟩ := trodAll_cons hA
  obtain ⟨v1, vs1, d1, ds1, p1, q1, rfl, rfl, rfl, h1, r1⟩ := trodAll_cons r0
  obtain ⟨rfl, rfl, rfl⟩ := trodAll_nil r1
  obtain rfl : args = #[v0, v1] := by cases args; simp_all
  obtain ⟨rfl, rfl⟩ := trodVars_none hV
  clear hA0 hval0
  simp only [List.append_nil] at hW'
  have hlt : ∀ x, (x ∈ p0 ∨ x ∈ p1) → x.block < W.heap.size := fun x hx => by simpa using hW'.lt x (by simpa using hx)
  have k0 : ∀ (W' : World), Below W.heap.size W W' → DataW.Trod enc Try.prog W' 0 (fun b => decide (b < W.heap.size)) true 3 v0 d0 p0 :=
    fun W' hn => Below.trod laidOut (by kernel_rfl) (of_decide_eq_true (by kernel_rfl)) h0 hn (fun x hx => hlt x (Or.inl hx))
  have k1 : ∀ (W' : World), Below W.heap.size W W' → DataW.Trod enc Try.prog W' 0 (fun b => decide (b < W.heap.size)) true 31 v1 d1 p1 :=
    fun W' hn => Below.trod laidOut (by kernel_rfl) (of_decide_eq_true (by kernel_rfl)) h1 hn (fun x hx => hlt x (Or.inr (hx)))
  obtain ⟨a0, rfl, _, _, w0⟩ := open_int Try.underlying3 (hval 0 3 v0 rfl rfl) h0
  obtain ⟨x1, hx1⟩ := open_intsAt (bytes := 8) Try.underlying31 Try.underlying3 (by kernel_rfl) (by kernel_rfl) (hval 1 31 v1 rfl rfl) h1 hsz 1 rfl rfl
  refine (walk (W := W) a0 w0 v1 x1 hx1).mono fun e W' ⟨he, hb⟩ => ?_
  subst he
  refine ⟨_, rfl, _, _, _, [], p0 ++ (p1 ++ ([])), [], hW', ?_, ?_, rfl, hb.frame _, fun h => by cases h⟩
  · exact trodAll_cons_mk (shut_bool Try.underlying4 true) trodAll_mk0
  · exact trodAll_cons_mk (k0 _ hb) (trodAll_cons_mk (k1 _ hb) (trodAll_mk0))

theorem over : Rows.greyRowsRow.holds Try.pinned (OpenSpec.ofChange Rows.greyRowsSpec) :=
  OpenClaim.holds_of_wide 4 Try.f4 rfl rfl rfl rfl rfl rfl rfl ⟨rfl, rfl, rfl, rfl, rfl⟩ rfl rfl rfl rfl rfl (by kernel_rfl) Try.func4 (by kernel_rfl)
    (of_decide_eq_true (by kernel_rfl)) (by unfold Func.isWrapper; first | (rw [if_pos (by decide +kernel)]; kernel_rfl) | (rw [if_neg (by decide +kernel)]; exact ⟨rfl, rfl⟩))
    (fun os started H enc _ => lifted os started H enc)

/-- The given statement. -/
theorem proved : Rows.GreyRowsSaid := over
#print axioms proved
end Go.Proofs.Ythdndphghnjcbaa.greyRows
