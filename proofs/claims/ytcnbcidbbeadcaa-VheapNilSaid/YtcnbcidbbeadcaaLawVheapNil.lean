/- Of no heap of volatile objects each answer is that of nothing. No condition. -/
import Derived.Test.YtcnbcidbbeadcaaVhNk
import Derived.Test.YtcnbcidbbeadcaaVhAw
import Derived.SizedLaws
namespace Go.Proofs.Ytcnbcidbbeadcaa.vheapNil
open Go.ChangeShapes Go.WideShapes Go.ChangeAt Go.RowKit
set_option linter.unusedVariables false

set_option maxRecDepth 100000 in
set_option maxHeartbeats 2000000 in
theorem walk {W : World} (x : Int) (wx : (Lit.int .i64 x).wf = true) (j : Int) (wj : (Lit.int .i64 j).wf = true) (v : Value) (vv : Val) (hv : v = vv.v ∧ vv.ok) :
    Calls Try.prog 13 #[.int .i64 x, .int .i64 j, v] W (LawPost W) := by
  obtain ⟨rfl, -⟩ := hv
  obtain ⟨a, n, re, im, r⟩ := vv
  show Calls _ _ #[.int .i64 x, .int .i64 j, .agg #[.int .i64 a, .int .i64 n, .int .u64 (re : Int), .int .u64 (im : Int), .int .i64 r]] _ _
  have hS := Lib.hid (fun w => show Calls Try.prog 32 #[.pointer none, .int .i64 x, .int .i64 j, .agg #[.int .i64 a, .int .i64 n, .int .u64 (re : Int), .int .u64 (im : Int), .int .i64 r]] w (RetU w (.int .i64 1)) from nil_Set x j ⟨a, n, re, im, r⟩ w)
  have hB := Lib.hid (Blk.new W [.int .i64 a, .int .i64 n, .int .u64 (re : Int), .int .u64 (im : Int), .int .i64 r] 26)
  have hu0 : Upd (fun _ => False) W (W.alloc (.cells #[.int .i64 a, .int .i64 n, .int .u64 (re : Int), .int .u64 (im : Int), .int .i64 r] 26)) := (Upd.refl _ _).alloc _
  have hM := Lib.hid (nil_Make j)
  have hKd := Lib.hid (nil_Kind x)
  have hG := Lib.hid (nil_Get x j)
  have hRm := Lib.hid (nil_Remove x)
  have hRf := Lib.hid (nil_Refs x)
  have hKp := Lib.hid nil_Keep
  have hMv := Lib.hid (nil_Move x x)
  have hLn := Lib.hid nil_Len
  have hAl := Lib.hid nil_All
  have hAw := Lib.hid awake14
  have Hhu0 := Lib.hid hu0; clear hu0
  clear wx wj
  go_enter Try.func13, Try.ntmps13
  go_wp2_with (first
    | (go_at_call 25; (with_reducible refine (hM.out _).mono ?_); rintro e w' ⟨rfl, rfl⟩)
    | (go_at_call 39; (with_reducible refine (hKd.out _).mono ?_); rintro e w2 ⟨rfl, hu2⟩; have Hu2 := Lib.hid hu2; clear hu2)
    | (go_at_call 35; (with_reducible refine (hG.out _).mono ?_); rintro e w3 ⟨rfl, hu3⟩; have hB3 := Lib.hid ((hB.out.upd (Hu2.out.trans hu3) (fun h => h)).alloc (.cells #[.int .i64 0, .int .i64 0, .int .u64 0, .int .u64 0, .int .i64 0] 26)); have q0 := hB3.out.cell 0 rfl; have q1 := hB3.out.cell 1 rfl; have q2 := hB3.out.cell 2 rfl; have q3 := hB3.out.cell 3 rfl; have q4 := hB3.out.cell 4 rfl; have Hu3 := Lib.hid (((Hu2.out.trans hu3)).alloc (.cells #[.int .i64 0, .int .i64 0, .int .u64 0, .int .u64 0, .int .i64 0] 26)); clear hu3)
    | (go_at_call 32; (with_reducible refine (hS.out _).mono ?_); rintro e w4 ⟨rfl, hu4⟩; have Hu4 := Lib.hid (Hu3.out.trans hu4); clear hu4)
    | (go_at_call 26; (with_reducible refine (hRm.out _).mono ?_); rintro e w5 ⟨rfl, hu5⟩; have Hu5 := Lib.hid (Hu4.out.trans hu5); clear hu5)
    | (go_at_call 37; (with_reducible refine (hRf.out _).mono ?_); rintro e w6 ⟨rfl, hu6⟩; have Hu6 := Lib.hid (Hu5.out.trans hu6); clear hu6)
    | (go_at_call 44; (with_reducible refine (hKp.out _).mono ?_); rintro e w7 ⟨rfl, hu7⟩; have Hu7 := Lib.hid (Hu6.out.trans hu7); clear hu7)
    | (go_at_call 38; (with_reducible refine (hMv.out _).mono ?_); rintro e w' ⟨rfl, rfl⟩)
    | (go_at_call 27; (with_reducible refine (hLn.out _).mono ?_); rintro e w' ⟨rfl, rfl⟩)
    | (go_at_call 33; (with_reducible refine (hAl.out _).mono ?_); rintro e w' ⟨rfl, rfl⟩)
    | (go_at_call 28; (with_reducible refine (hAw.out _).mono ?_); rintro e w9 ⟨rfl, hu9⟩; have Hu9 := Lib.hid (Hu7.out.trans hu9); clear hu9))
  go_ret
  exact ⟨rfl, (Hhu0.out.trans Hu9.out).none⟩

theorem own : ownKnob Try.prog.godebug = none := by kernel_rfl
theorem laidOut : laidOutB Try.prog = true := by kernel_rfl
set_option maxRecDepth 100000 in
theorem lifted (os : Os) (started : os.Started) (H : Type) (enc : TypeId × Value → H) :
    ReturnsInHanded {} Try.checked os 13 .any (Rows.vheapNilSpec.pre6 enc Try.prog Try.f13 Rows.vheapNilRow.domain false) (Rows.vheapNilSpec.post enc Try.prog Try.f13 false true false false) := by
  refine returnsInHanded_of_change_sized (C := Try.checked) own started (by kernel_rfl) Try.func13
    (ChangeSpec.witness6 (enc := enc) (C := Try.checked) false ⟨#[], #[.int .i64 0, .int .i64 0, .agg #[.int .i64 0, .int .i64 0, .int .u64 0, .int .u64 0, .int .i64 0]], []⟩ 8 (by kernel_rfl) (by kernel_rfl) (by kernel_rfl) (by kernel_rfl)) ?_
  intro W base args ds gs before hval0 hW _ hsz0 _
  have hsz : (DataW.weightsEach Try.prog (Try.f13.params.toList ++ Rows.vheapNilSpec.plain.varTypes Try.prog) (ds ++ gs)).all (· ≤ reachBytes) = true := hsz0
  clear hsz0
  have hval : ∀ (j : Nat) t v, Try.f13.params[j]? = some t → args[j]? = some v → Value.okWide Try.prog W .any base t v := hval0
  have hW' := hW
  obtain ⟨p, q, hA0, hV, rfl, _, _⟩ := hW
  have hA : DataW.TrodAll enc Try.prog W 0 (fun _ => true) true Try.f13.params.toList args.toList ds p := hA0
  rw [Try.params13] at hA hval hsz
  obtain ⟨v0, vs0, d0, ds0, p0, q0, hargs, rfl, rfl, h0, r0⟩ := trodAll_cons hA
  obtain ⟨v1, vs1, d1, ds1, p1, q1, rfl, rfl, rfl, h1, r1⟩ := trodAll_cons r0
  obtain ⟨v2, vs2, d2, ds2, p2, q2, rfl, rfl, rfl, h2, r2⟩ := trodAll_cons r1
  obtain ⟨rfl, rfl, rfl⟩ := trodAll_nil r2
  obtain rfl : args = #[v0, v1, v2] := by cases args; simp_all
  obtain ⟨rfl, rfl⟩ := trodVars_none hV
  clear hA0 hval0
  simp only [List.append_nil] at hW'
  have hlt : ∀ x, (x ∈ p0 ∨ x ∈ p1 ∨ x ∈ p2) → x.block < W.heap.size := fun x hx => by simpa using hW'.lt x (by simpa using hx)
  have k0 : ∀ (W' : World), Below W.heap.size W W' → DataW.Trod enc Try.prog W' 0 (fun b => decide (b < W.heap.size)) true 3 v0 d0 p0 :=
    fun W' hn => Below.trod laidOut (by kernel_rfl) (of_decide_eq_true (by kernel_rfl)) h0 hn (fun x hx => hlt x (Or.inl hx))
  have k1 : ∀ (W' : World), Below W.heap.size W W' → DataW.Trod enc Try.prog W' 0 (fun b => decide (b < W.heap.size)) true 3 v1 d1 p1 :=
    fun W' hn => Below.trod laidOut (by kernel_rfl) (of_decide_eq_true (by kernel_rfl)) h1 hn (fun x hx => hlt x (Or.inr (Or.inl hx)))
  have k2 : ∀ (W' : World), Below W.heap.size W W' → DataW.Trod enc Try.prog W' 0 (fun b => decide (b < W.heap.size)) true 26 v2 d2 p2 :=
    fun W' hn => Below.trod laidOut (by kernel_rfl) (of_decide_eq_true (by kernel_rfl)) h2 hn (fun x hx => hlt x (Or.inr (Or.inr (hx))))
  obtain ⟨a0, rfl, _, _, w0⟩ := open_int Try.underlying3 (hval 0 3 v0 rfl rfl) h0
  obtain ⟨a1, rfl, _, _, w1⟩ := open_int Try.underlying3 (hval 1 3 v1 rfl rfl) h1
  obtain ⟨x2, hx2⟩ := open_valAt _ _ _ _ _ Try.underlying26 (by kernel_rfl) (by decide) (by kernel_rfl) rfl rfl rfl rfl rfl Try.underlying3 Try.underlying2 Try.underlying24 Try.underlying24 Try.underlying3 (hval 2 26 v2 rfl rfl) h2 hsz 2 rfl rfl
  refine (walk (W := W) a0 w0 a1 w1 v2 x2 hx2).mono fun e W' ⟨he, hb⟩ => ?_
  subst he
  refine ⟨_, rfl, _, _, _, [], p0 ++ (p1 ++ (p2 ++ ([]))), [], hW', ?_, ?_, rfl, hb.frame _, fun h => by cases h⟩
  · exact trodAll_cons_mk (shut_bool Try.underlying4 true) trodAll_mk0
  · exact trodAll_cons_mk (k0 _ hb) (trodAll_cons_mk (k1 _ hb) (trodAll_cons_mk (k2 _ hb) (trodAll_mk0)))

theorem over : Rows.vheapNilRow.holds Try.pinned (OpenSpec.ofChange Rows.vheapNilSpec) :=
  OpenClaim.holds_of_wide 13 Try.f13 rfl rfl rfl rfl rfl rfl rfl ⟨rfl, rfl, rfl, rfl, rfl⟩ rfl rfl rfl rfl rfl (by kernel_rfl) Try.func13 (by kernel_rfl)
    (of_decide_eq_true (by kernel_rfl)) (by unfold Func.isWrapper; first | (rw [if_pos (by decide +kernel)]; kernel_rfl) | (rw [if_neg (by decide +kernel)]; exact ⟨rfl, rfl⟩))
    (fun os started H enc _ => lifted os started H enc)

/-- The given statement. -/
theorem proved : Rows.VheapNilSaid := over
#print axioms proved
end Go.Proofs.Ytcnbcidbbeadcaa.vheapNil
