/- Of no cycle and of no layout each answer is that of nothing. No condition. -/
import Derived.Test.YthaicpjgmplgcaaAwake21
import Derived.SizedLaws
namespace Go.Proofs.Ythaicpjgmplgcaa.cycleNil
open Go.ChangeShapes Go.WideShapes Go.ChangeAt Go.RowKit
set_option linter.unusedVariables false

theorem phase_nil (w : World) : Calls Try.prog 35 #[.pointer none] w (Same w (.int .i64 0)) := by
  go_enter Try.func35, Try.ntmps35
  go_wp2
  go_ret
  exact ⟨rfl, rfl⟩
theorem epoch_nil (w : World) : Calls Try.prog 43 #[.pointer none] w (Same w (.int .i64 0)) := by
  go_enter Try.func43, Try.ntmps43
  go_wp2
  go_ret
  exact ⟨rfl, rfl⟩
theorem begin_nil (w : World) : Calls Try.prog 33 #[.pointer none, .slice none 0 0, .slice none 0 0] w (Same w (.bool false)) := by
  go_enter Try.func33, Try.ntmps33
  go_wp2
  go_ret
  exact ⟨rfl, rfl⟩
theorem new_nil (w : World) (b : Int) : Calls Try.prog 32 #[.pointer none, .int .i64 b] w (Same w (.pointer none)) := by
  go_enter Try.func32, Try.ntmps32
  go_wp2
  go_ret
  exact ⟨rfl, rfl⟩
theorem shade_nil (w : World) (b : Int) : Calls Try.prog 37 #[.pointer none, .int .i64 b] w (Same w (.bool false)) := by
  have h := Lib.hid (phase_nil w)
  go_enter Try.func37, Try.ntmps37
  go_wp2_with (go_at_call 35; (with_reducible refine h.out.mono ?_); rintro e w2 ⟨rfl, rfl⟩)
  go_ret
  exact ⟨rfl, rfl⟩
theorem alloc_nil (w : World) (b : Int) : Calls Try.prog 38 #[.pointer none, .int .i64 b] w (Same w (.bool false)) := by
  have h := Lib.hid (phase_nil w)
  go_enter Try.func38, Try.ntmps38
  go_wp2_with (go_at_call 35; (with_reducible refine h.out.mono ?_); rintro e w2 ⟨rfl, rfl⟩)
  go_ret
  exact ⟨rfl, rfl⟩
theorem marked_nil (w : World) (b : Int) : Calls Try.prog 44 #[.pointer none, .int .i64 b] w (Same w (.bool false)) := by
  have h := Lib.hid (phase_nil w)
  go_enter Try.func44, Try.ntmps44
  go_wp2_with (go_at_call 35; (with_reducible refine h.out.mono ?_); rintro e w2 ⟨rfl, rfl⟩)
  go_ret
  exact ⟨rfl, rfl⟩
def StepNil (w : World) (e : Ending) (w' : World) : Prop := e = .returned (.agg #[.slice none 0 0, .slice none 0 0]) ∧ Upd (fun _ => False) w w'
theorem step_nil (w : World) : Calls Try.prog 36 #[.pointer none, .nilFunc, .slice none 0 0, .pointer none] w (StepNil w) := by
  obtain ⟨K, hK⟩ : ∃ K, K = w.heap.size := ⟨_, rfl⟩
  have hKle : w.heap.size ≤ K := by omega
  obtain ⟨W1, hW1⟩ : ∃ W1, W1 = w.alloc (.cells #[.slice none 0 0, .slice none 0 0] 60) := ⟨_, rfl⟩
  have u1 : Upd (fun _ => False) w W1 := by rw [hW1]; exact (Upd.refl _ _).alloc _
  have kb : Blk W1 K [.slice none 0 0, .slice none 0 0] 60 := by rw [hW1, hK]; exact Blk.new _ _ _
  have z0 := kb.cell 0 rfl
  have z1 := kb.cell 1 rfl
  have y0 := kb.free 0
  have y1 := kb.free 1
  have hP := phase_nil W1
  have hup : Upd (fun _ => False) w ((W1.setCell ⟨K, 0, none⟩ (.slice none 0 0)).setCell ⟨K, 1, none⟩ (.slice none 0 0)) := up_new (up_new u1 (by omega) _ _) (by omega) _ _
  have HhP := Lib.hid hP; clear hP
  have Hhup := Lib.hid hup; clear hup
  have Hkb := Lib.hid kb; clear kb
  have Hu1 := Lib.hid u1; clear u1
  go_enter Try.func36, Try.ntmps36
  go_wp2_with fail
  rw [← hW1, ← hK]
  clear hW1 hK
  refine wp_scope_many (fun l a' w' => False) (fun _ _ _ => 0) (fun _ _ _ h => h.elim) ?_
  go_wp2_with (go_at_call 35; (with_reducible refine HhP.out.mono ?_); rintro e w2 ⟨rfl, rfl⟩)
  (try simp only [Exit.jumps])
  refine bodyPost_ret (v := .agg #[.slice none 0 0, .slice none 0 0]) ?_ rfl ?_
  · rw [results_cell1 rfl]
    go_simp
  · exact ⟨rfl, Hhup.out⟩

set_option maxRecDepth 100000 in
set_option maxHeartbeats 1000000 in
theorem walk {W : World} (x : Int) (w0 : (Lit.int .i64 x).wf = true) :
    Calls Try.prog 11 #[.int .i64 x] W (LawPost W) := by
  have h1 := Lib.hid (step_nil W)
  unfold StepNil at h1
  go_enter Try.func11, Try.ntmps11
  go_wp2_with fail
  refine h1.out.mono ?_
  rintro e w1 ⟨rfl, u1⟩
  have u2 := u1.alloc (.cells #[.slice none 0 0, .slice none 0 0] 60)
  obtain ⟨w2, hw2⟩ : ∃ w2, w2 = w1.alloc (.cells #[.slice none 0 0, .slice none 0 0] 60) := ⟨_, rfl⟩
  have kb : Blk w2 w1.heap.size [.slice none 0 0, .slice none 0 0] 60 := by rw [hw2]; exact Blk.new _ _ _
  rw [← hw2] at u2
  have z0 := kb.cell 0 rfl
  have z1 := kb.cell 1 rfl
  have h2 := Lib.hid (phase_nil w2)
  have h3 := Lib.hid (epoch_nil w2)
  have h4 := Lib.hid (begin_nil w2)
  have h5 := Lib.hid (shade_nil w2 x)
  have h6 := Lib.hid (alloc_nil w2 x)
  have h7 := Lib.hid (marked_nil w2 x)
  have h8 := Lib.hid (new_nil w2 x)
  have h9 := Lib.hid (awake21 W w2 u2)
  clear u1 u2 kb h1
  have Hw2 := Lib.hid hw2
  clear hw2
  go_wp2_with fail
  rw [← Hw2.out]
  go_wp2_with (first
    | (go_at_call 35; (with_reducible refine h2.out.mono ?_); rintro e w' ⟨rfl, rfl⟩)
    | (go_at_call 43; (with_reducible refine h3.out.mono ?_); rintro e w' ⟨rfl, rfl⟩)
    | (go_at_call 33; (with_reducible refine h4.out.mono ?_); rintro e w' ⟨rfl, rfl⟩)
    | (go_at_call 37; (with_reducible refine h5.out.mono ?_); rintro e w' ⟨rfl, rfl⟩)
    | (go_at_call 38; (with_reducible refine h6.out.mono ?_); rintro e w' ⟨rfl, rfl⟩)
    | (go_at_call 44; (with_reducible refine h7.out.mono ?_); rintro e w' ⟨rfl, rfl⟩)
    | (go_at_call 32; (with_reducible refine h8.out.mono ?_); rintro e w' ⟨rfl, rfl⟩)
    | (go_at_call 30; (with_reducible refine h9.out.mono ?_); rintro e w' ⟨rfl, hu⟩))
  go_ret
  exact ⟨rfl, hu.none⟩

theorem own : ownKnob Try.prog.godebug = none := by kernel_rfl
theorem laidOut : laidOutB Try.prog = true := by kernel_rfl
set_option maxRecDepth 100000 in
theorem lifted (os : Os) (started : os.Started) (H : Type) (enc : TypeId × Value → H) :
    ReturnsInHanded {} Try.checked os 11 .any (Rows.cycleNilSpec.pre6 enc Try.prog Try.f11 Rows.cycleNilRow.domain false) (Rows.cycleNilSpec.post enc Try.prog Try.f11 false true false false) := by
  refine returnsInHanded_of_change_sized (C := Try.checked) own started (by kernel_rfl) Try.func11
    (ChangeSpec.witness6 (enc := enc) (C := Try.checked) false ⟨#[], #[.int .i64 0], []⟩ 8 (by kernel_rfl) (by kernel_rfl) (by kernel_rfl) (by kernel_rfl)) ?_
  intro W base args ds gs before hval0 hW _ hsz0 _
  have hsz : (DataW.weightsEach Try.prog (Try.f11.params.toList ++ Rows.cycleNilSpec.plain.varTypes Try.prog) (ds ++ gs)).all (· ≤ reachBytes) = true := hsz0
  clear hsz0
  have hval : ∀ (j : Nat) t v, Try.f11.params[j]? = some t → args[j]? = some v → Value.okWide Try.prog W .any base t v := hval0
  have hW' := hW
  obtain ⟨p, q, hA0, hV, rfl, _, _⟩ := hW
  have hA : DataW.TrodAll enc Try.prog W 0 (fun _ => true) true Try.f11.params.toList args.toList ds p := hA0
  rw [Try.params11] at hA hval hsz
  obtain ⟨v0, vs0, d0, ds0, p0, q0, hargs, rfl, rfl, h0, r0⟩ := trodAll_cons hA
  obtain ⟨rfl, rfl, rfl⟩ := trodAll_nil r0
  obtain rfl : args = #[v0] := by cases args; simp_all
  obtain ⟨rfl, rfl⟩ := trodVars_none hV
  clear hA0 hval0
  simp only [List.append_nil] at hW'
  have hlt : ∀ x, (x ∈ p0) → x.block < W.heap.size := fun x hx => by simpa using hW'.lt x (by simpa using hx)
  have k0 : ∀ (W' : World), Below W.heap.size W W' → DataW.Trod enc Try.prog W' 0 (fun b => decide (b < W.heap.size)) true 3 v0 d0 p0 :=
    fun W' hn => Below.trod laidOut (by kernel_rfl) (of_decide_eq_true (by kernel_rfl)) h0 hn (fun x hx => hlt x (hx))
  obtain ⟨a0, rfl, _, _, w0⟩ := open_int Try.underlying3 (hval 0 3 v0 rfl rfl) h0
  refine (walk (W := W) a0 w0).mono fun e W' ⟨he, hb⟩ => ?_
  subst he
  refine ⟨_, rfl, _, _, _, [], p0 ++ ([]), [], hW', ?_, ?_, rfl, hb.frame _, fun h => by cases h⟩
  · exact trodAll_cons_mk (shut_bool Try.underlying4 true) trodAll_mk0
  · exact trodAll_cons_mk (k0 _ hb) (trodAll_mk0)

theorem over : Rows.cycleNilRow.holds Try.pinned (OpenSpec.ofChange Rows.cycleNilSpec) :=
  OpenClaim.holds_of_wide 11 Try.f11 rfl rfl rfl rfl rfl rfl rfl ⟨rfl, rfl, rfl, rfl, rfl⟩ rfl rfl rfl rfl rfl (by kernel_rfl) Try.func11 (by kernel_rfl)
    (of_decide_eq_true (by kernel_rfl)) (by unfold Func.isWrapper; first | (rw [if_pos (by decide +kernel)]; kernel_rfl) | (rw [if_neg (by decide +kernel)]; exact ⟨rfl, rfl⟩))
    (fun os started H enc _ => lifted os started H enc)

/-- The given statement. -/
theorem proved : Rows.CycleNilSaid := over
#print axioms proved
end Go.Proofs.Ythaicpjgmplgcaa.cycleNil
