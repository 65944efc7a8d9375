/- Any number of bits; a map that there is not. No condition. -/
import Derived.Test.YthcimfblmpapeaaAwake5
import Derived.SizedLaws
import Derived.Deep.RegionHeld3
import Derived.Deep.DrawnRows
namespace Go.Proofs.Ythcimfblmpapeaa.bitmapNew
open Go.ChangeShapes Go.WideShapes Go.ChangeAt Go.RowKit
set_option linter.unusedVariables false
attribute [local go_sem ↓] Go.wp_at_zero Go.wp_at_succ

theorem zero_count (n : Nat) : countN (fun _ => false) n = 0 := by
  induction n with
  | zero => rfl
  | succ n ih => unfold countN; rw [ih]; rfl

def WPost (w1 : World) (L : Nat) (e : Ending) (w2 : World) : Prop := ∃ g' c, e = .returned (.slice (some ⟨g', 0, none⟩) L c) ∧ Upd (fun _ => False) w1 w2

set_option maxRecDepth 100000 in
set_option maxHeartbeats 1000000 in
theorem walk {W : World} (n : Int) (w0 : (Lit.int .i64 n).wf = true) (i : Int) (w1 : (Lit.int .i64 i).wf = true) :
    Calls Try.prog 8 #[.int .i64 n, .int .i64 i] W (LawPost W) := by
  have hnew := Lib.hid (map_New n W)
  obtain ⟨k, hk⟩ : ∃ k : Nat, (max 0 (min n 1048576)).toNat = k := ⟨_, rfl⟩
  rw [hk] at hnew
  obtain ⟨kI, hkI⟩ : ∃ kI : Int, kI = (k : Int) := ⟨_, rfl⟩
  obtain ⟨L, hL⟩ : ∃ L : Nat, L = (k + 63) / 64 := ⟨_, rfl⟩
  have hcase : (n ≤ 0 ∧ kI = 0 ∧ L = 0) ∨ (1048576 < n ∧ kI = 1048576 ∧ L = 16384) ∨ (0 < n ∧ n ≤ 1048576 ∧ kI = n ∧ (L : Int) = (n + 63) / 64) := by omega
  clear hk w0 w1
  have HhL := Lib.hid hL; clear hL
  have HhkI := Lib.hid hkI; clear hkI
  have Hhcase := Lib.hid hcase; clear hcase
  go_enter Try.func8, Try.ntmps8
  go_wp2_with fail
  refine hnew.out.mono ?_
  rintro e w1 ⟨rfl, hM, hu1, -⟩
  generalize hb : W.heap.size + 1 = b at *
  generalize hg : W.heap.size = g at *
  have Hhb := Lib.hid hb; clear hb
  have Hhg := Lib.hid hg; clear hg
  have h1 := Lib.hid fun w' (u : Upd (fun _ => False) w1 w') => from_same (map_Len b _ _ w' (hM.upd u (fun x => x) (fun x => x)).is) u
  have h2 := Lib.hid fun w' (u : Upd (fun _ => False) w1 w') => from_ret (map_CountF b g _ _ w' (hM.upd u (fun x => x) (fun x => x))) u
  have h3 := Lib.hid fun w' (u : Upd (fun _ => False) w1 w') => (map_WordsF b g _ _ w' (hM.upd u (fun x => x) (fun x => x))).mono (fun (e : Ending) (w2 : World) ⟨g', c, he, ho, hu⟩ => show WPost w1 ((k + 63) / 64) e w2 from ⟨g', c, he, u.trans hu⟩)
  have h4 := Lib.hid fun w' (u : Upd (fun _ => False) w1 w') => from_same (map_Len_nil w') u
  have h5 := Lib.hid fun w' (u : Upd (fun _ => False) w1 w') => from_same (map_Get_nil i w') u
  have h6 := Lib.hid fun w' (u : Upd (fun _ => False) w1 w') => from_same (map_Set_nil i true w') u
  have h7 := Lib.hid fun w' (u : Upd (fun _ => False) w1 w') => from_ret (map_Count_nil w') u
  have h8 := Lib.hid fun w' (u : Upd (fun _ => False) w1 w') => from_same (map_First_nil w') u
  have h9 := Lib.hid fun w' (u : Upd (fun _ => False) w1 w') => from_same (map_Words_nil w') u
  have h10 := Lib.hid fun w' (u : Upd (fun _ => False) w1 w') => from_same (map_Word_nil i w') u
  have h11 := Lib.hid fun w' (u : Upd (fun _ => False) w1 w') => from_same (map_Copy_nil w') u
  have h12 := Lib.hid fun w' (u : Upd (fun _ => False) w1 w') => awake5 w1 w' u
  have u0 := Upd.refl (fun _ => False) w1
  rw [zero_count] at h2
  have h2 : Hid (∀ w', Upd (fun _ => False) w1 w' → Calls Try.prog 19 #[.pointer (some ⟨b, 0, none⟩)] w' (RetU w1 (.int .i64 0))) := h2
  rw [← HhkI.out] at h1
  rw [← HhL.out] at h3
  have hu1 := Lib.hid hu1
  clear hM hnew HhL HhkI
  rcases Hhcase.out with ⟨c1, rfl, rfl⟩ | ⟨c1, rfl, rfl⟩ | ⟨c1, c2, rfl, c3⟩
  all_goals clear Hhcase
  all_goals
    go_wp2_with (first
    | (go_at_call 22; first | ((with_reducible refine (h1.out _ (by assumption)).mono ?_); rintro e w2 ⟨rfl, hu⟩) | ((with_reducible refine (h4.out _ (by assumption)).mono ?_); rintro e w2 ⟨rfl, hu⟩))
    | (go_at_call 19; first | ((with_reducible refine (h2.out _ (by assumption)).mono ?_); rintro e w2 ⟨rfl, hu⟩) | ((with_reducible refine (h7.out _ (by assumption)).mono ?_); rintro e w2 ⟨rfl, hu⟩))
    | (go_at_call 28; first | ((with_reducible refine (h3.out _ (by assumption)).mono ?_); rintro e w2 ⟨g', c, rfl, hu⟩) | ((with_reducible refine (h9.out _ (by assumption)).mono ?_); rintro e w2 ⟨rfl, hu⟩))
    | (go_at_call 18; ((with_reducible refine (h5.out _ (by assumption)).mono ?_); rintro e w2 ⟨rfl, hu⟩))
    | (go_at_call 21; ((with_reducible refine (h6.out _ (by assumption)).mono ?_); rintro e w2 ⟨rfl, hu⟩))
    | (go_at_call 17; ((with_reducible refine (h8.out _ (by assumption)).mono ?_); rintro e w2 ⟨rfl, hu⟩))
    | (go_at_call 25; ((with_reducible refine (h10.out _ (by assumption)).mono ?_); rintro e w2 ⟨rfl, hu⟩))
    | (go_at_call 29; ((with_reducible refine (h11.out _ (by assumption)).mono ?_); rintro e w2 ⟨rfl, hu⟩))
    | (go_at_call 20; ((with_reducible refine (h12.out _ (by assumption)).mono ?_); rintro e w2 ⟨rfl, hu⟩)))
    go_ret
    exact ⟨rfl, Upd.none (hu1.out.trans (by assumption))⟩

theorem own : ownKnob Try.prog.godebug = none := by kernel_rfl
theorem laidOut : laidOutB Try.prog = true := by kernel_rfl
set_option maxRecDepth 100000 in
theorem lifted (os : Os) (started : os.Started) (H : Type) (enc : TypeId × Value → H) :
    ReturnsInHanded {} Try.checked os 8 .any (Rows.bitmapNewSpec.pre6 enc Try.prog Try.f8 Rows.bitmapNewRow.domain false) (Rows.bitmapNewSpec.post enc Try.prog Try.f8 false true false false) := by
  refine returnsInHanded_of_change_sized (C := Try.checked) own started (by kernel_rfl) Try.func8
    (ChangeSpec.witness6 (enc := enc) (C := Try.checked) false ⟨#[], #[.int .i64 0, .int .i64 0], []⟩ 8 (by kernel_rfl) (by kernel_rfl) (by kernel_rfl) (by kernel_rfl)) ?_
  intro W base args ds gs before hval0 hW _ hsz0 _
  have hsz : (DataW.weightsEach Try.prog (Try.f8.params.toList ++ Rows.bitmapNewSpec.plain.varTypes Try.prog) (ds ++ gs)).all (· ≤ reachBytes) = true := hsz0
  clear hsz0
  have hval : ∀ (j : Nat) t v, Try.f8.params[j]? = some t → args[j]? = some v → Value.okWide Try.prog W .any base t v := hval0
  have hW' := hW
  obtain ⟨p, q, hA0, hV, rfl, _, _⟩ := hW
  have hA : DataW.TrodAll enc Try.prog W 0 (fun _ => true) true Try.f8.params.toList args.toList ds p := hA0
  rw [Try.params8] at hA hval hsz
  obtain ⟨v0, vs0, d0, ds0, p0, q0, hargs, rfl, rfl, h0, r0⟩ := trodAll_cons hA
  obtain ⟨v1, vs1, d1, ds1, p1, q1, rfl, rfl, rfl, h1, r1⟩ := trodAll_cons r0
  obtain ⟨rfl, rfl, rfl⟩ := trodAll_nil r1
  obtain rfl : args = #[v0, v1] := by cases args; simp_all
  obtain ⟨rfl, rfl⟩ := trodVars_none hV
  clear hA0 hval0
  simp only [List.append_nil] at hW'
  have hlt : ∀ x, (x ∈ p0 ∨ x ∈ p1) → x.block < W.heap.size := fun x hx => by simpa using hW'.lt x (by simpa using hx)
  have k0 : ∀ (W' : World), Below W.heap.size W W' → DataW.Trod enc Try.prog W' 0 (fun b => decide (b < W.heap.size)) true 3 v0 d0 p0 :=
    fun W' hn => Below.trod laidOut (by kernel_rfl) (of_decide_eq_true (by kernel_rfl)) h0 hn (fun x hx => hlt x (Or.inl hx))
  have k1 : ∀ (W' : World), Below W.heap.size W W' → DataW.Trod enc Try.prog W' 0 (fun b => decide (b < W.heap.size)) true 3 v1 d1 p1 :=
    fun W' hn => Below.trod laidOut (by kernel_rfl) (of_decide_eq_true (by kernel_rfl)) h1 hn (fun x hx => hlt x (Or.inr (hx)))
  obtain ⟨a0, rfl, _, _, w0⟩ := open_int Try.underlying3 (hval 0 3 v0 rfl rfl) h0
  obtain ⟨a1, rfl, _, _, w1⟩ := open_int Try.underlying3 (hval 1 3 v1 rfl rfl) h1
  refine (walk (W := W) a0 w0 a1 w1).mono fun e W' ⟨he, hb⟩ => ?_
  subst he
  refine ⟨_, rfl, _, _, _, [], p0 ++ (p1 ++ ([])), [], hW', ?_, ?_, rfl, hb.frame _, fun h => by cases h⟩
  · exact trodAll_cons_mk (shut_bool Try.underlying4 true) trodAll_mk0
  · exact trodAll_cons_mk (k0 _ hb) (trodAll_cons_mk (k1 _ hb) (trodAll_mk0))

theorem over : Rows.bitmapNewRow.holds Try.pinned (OpenSpec.ofChange Rows.bitmapNewSpec) :=
  OpenClaim.holds_of_wide 8 Try.f8 rfl rfl rfl rfl rfl rfl rfl ⟨rfl, rfl, rfl, rfl, rfl⟩ rfl rfl rfl rfl rfl (by kernel_rfl) Try.func8 (by kernel_rfl)
    (of_decide_eq_true (by kernel_rfl)) (by unfold Func.isWrapper; first | (rw [if_pos (by decide +kernel)]; kernel_rfl) | (rw [if_neg (by decide +kernel)]; exact ⟨rfl, rfl⟩))
    (fun os started H enc _ => lifted os started H enc)

/-- The given statement. -/
theorem proved : Rows.BitmapNewSaid := over
#print axioms proved
end Go.Proofs.Ythcimfblmpapeaa.bitmapNew
