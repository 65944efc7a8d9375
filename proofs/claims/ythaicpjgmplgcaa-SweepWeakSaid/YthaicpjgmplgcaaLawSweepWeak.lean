/- Any weak roots. No condition. -/
import Derived.Test.YthaicpjgmplgcaaRef20
import Derived.SizedLaws
import Derived.Deep.DrawnRows
namespace Go.Proofs.Ythaicpjgmplgcaa.sweepWeak
open Go.ChangeShapes Go.WideShapes Go.ChangeAt Go.RowKit
set_option linter.unusedVariables false

theorem RetInts.ints {w w' : World} {xs : List Int} {a : Option Addr} {c : Nat} (ho : w'.ownsRow w.heap.size 3 1 (.slice a xs.length c) xs.length (ints xs)) : IntsR w' (.slice a xs.length c) .i64 xs := ownsRow_intsR ho

set_option maxRecDepth 100000 in
set_option maxHeartbeats 2000000 in
theorem walk {W : World} (v : Value) (ws : List Int) (hw : IntsIn W v .i64 ws ∧ ws.length * 8 ≤ 140737488351232) (v2 : Value) (xs : List Int) (hx : IntsIn W v2 .u64 xs ∧ xs.length * 8 ≤ 140737488351232) :
    Calls Try.prog 5 #[v, v2] W (LawPost W) := by
  obtain ⟨us, hus, -⟩ := intsIn_words hx.1
  obtain ⟨hw, hwl⟩ := hw
  obtain ⟨va, vc, hv⟩ := ints_shape hw
  subst hv
  have hlI : (ws.length : Int) ≤ 17592186044416 := by omega
  clear hx
  by_cases h50 : 50 < ws.length
  · have e1 : (50 : Int) < ws.length := by omega
    have Hhw := Lib.hid hw; clear hw
    have Hhus := Lib.hid hus; clear hus
    go_enter Try.func5, Try.ntmps5
    go_wp2_with fail
    go_ret
    exact ⟨rfl, Below.refl _ _⟩
  · have e1 : ¬ ((50 : Int) < ws.length) := by omega
    have hI : IntsR W (.slice va ws.length vc) .i64 ws := hw.1
    have h1000 : ws.length ≤ 1000 := by omega
    have hof := map_OfF 100 v2 us W hus
    unfold OfPost at hof
    have HhI := Lib.hid hI; clear hI
    have Hhus := Lib.hid hus; clear hus
    have Hhof := Lib.hid hof; clear hof
    clear hw h50
    go_enter Try.func5, Try.ntmps5
    go_wp2_with fail
    refine Hhof.out.mono ?_
    rintro e w1 ⟨b, g, rfl, hM, -, -, u1⟩
    have hc := sweep_Weak _ ws _ _ h1000 w1 (ints_upd HhI.out u1) (gets_map hM)
    unfold RetInts at hc
    have Hhc := Lib.hid hc; clear hc
    have Hu1 := Lib.hid u1; clear u1
    clear hM Hhof
    go_wp2_with fail
    refine Hhc.out.mono ?_
    rintro e w2 ⟨a1, c1, rfl, ho, u2⟩
    have hi2 := RetInts.ints ho
    have u02 := Hu1.out.trans u2
    have hun := ref_Unpack 100 100 v2 us w2 (Hhus.out.upd u02.none) (by decide)
    unfold UnpackPost at hun
    have Hhun := Lib.hid hun; clear hun
    have Hhi2 := Lib.hid hi2; clear hi2
    have Hu02 := Lib.hid u02; clear u02
    clear ho u2 Hhc
    go_wp2_with fail
    refine Hhun.out.mono ?_
    rintro e w3 ⟨gb, cb, rfl, hB, u3⟩
    have u03 := Hu02.out.trans u3
    have hc := ref_Weak _ ws _ _ h1000 w3 (ints_upd HhI.out u03) (at_bools hB.r)
    unfold RetInts at hc
    have hi3 := ints_upd Hhi2.out u3
    have Hhc := Lib.hid hc; clear hc
    have Hu03 := Lib.hid u03; clear u03
    have Hhi3 := Lib.hid hi3; clear hi3
    clear hB u3 Hhun Hhi2
    go_wp2_with fail
    refine Hhc.out.mono ?_
    rintro e w4 ⟨a2, c2, rfl, ho, u4⟩
    have hi4 := RetInts.ints ho
    have hsame := ref_SameInts _ _ _ _ w4 (ints_upd Hhi3.out u4) hi4
    unfold RetK at hsame
    rw [show (decide (weakL ws (bitI ((max 0 (min 100 1048576) : Int).toNat) (bitW us)) = weakL ws (bitI 100 (bitW us)))) = true from decide_eq_true rfl] at hsame
    have u04 := Hu03.out.trans u4
    have Hhsame := Lib.hid hsame; clear hsame
    have Hu04 := Lib.hid u04; clear u04
    clear ho hi4 u4 Hhi3 Hhc
    go_wp2_with fail
    refine Hhsame.out.mono ?_
    rintro e w5 ⟨rfl, u5⟩
    have u05 := Hu04.out.trans u5
    have hc := sweep_Weak _ ws _ _ h1000 w5 (ints_upd HhI.out u05) (gets_nil w5)
    unfold RetInts at hc
    have Hhc := Lib.hid hc; clear hc
    have Hu05 := Lib.hid u05; clear u05
    clear u5 Hhsame
    go_wp2_with fail
    refine Hhc.out.mono ?_
    rintro e w6 ⟨a3, c3, rfl, ho, u6⟩
    have hi6 := RetInts.ints ho
    have u06 := Hu05.out.trans u6
    have hc := ref_Weak _ ws _ _ h1000 w6 (ints_upd HhI.out u06) (at_nil w6)
    unfold RetInts at hc
    have Hhc := Lib.hid hc; clear hc
    have Hhi6 := Lib.hid hi6; clear hi6
    have Hu06 := Lib.hid u06; clear u06
    clear ho u6
    go_wp2_with fail
    refine Hhc.out.mono ?_
    rintro e w7 ⟨a4, c4, rfl, ho, u7⟩
    have hi7 := RetInts.ints ho
    have hsame := ref_SameInts _ _ _ _ w7 (ints_upd Hhi6.out u7) hi7
    unfold RetK at hsame
    rw [decide_eq_true rfl] at hsame
    have u07 := Hu06.out.trans u7
    have Hhsame := Lib.hid hsame; clear hsame
    have Hu07 := Lib.hid u07; clear u07
    clear ho hi7 u7 Hhi6
    go_wp2_with fail
    refine Hhsame.out.mono ?_
    rintro e w8 ⟨rfl, u8⟩
    have haw := awake20 W w8 (Hu07.out.trans u8)
    have Hhaw := Lib.hid haw; clear haw
    clear u8
    go_wp2_with (go_at_call 21; (with_reducible refine Hhaw.out.mono ?_); rintro e w9 ⟨rfl, hu⟩)
    go_ret
    exact ⟨rfl, hu.none⟩

theorem own : ownKnob Try.prog.godebug = none := by kernel_rfl
theorem laidOut : laidOutB Try.prog = true := by kernel_rfl
set_option maxRecDepth 100000 in
theorem lifted (os : Os) (started : os.Started) (H : Type) (enc : TypeId × Value → H) :
    ReturnsInHanded {} Try.checked os 5 .any (Rows.sweepWeakSpec.pre6 enc Try.prog Try.f5 Rows.sweepWeakRow.domain false) (Rows.sweepWeakSpec.post enc Try.prog Try.f5 false true false false) := by
  refine returnsInHanded_of_change_sized (C := Try.checked) own started (by kernel_rfl) Try.func5
    (ChangeSpec.witness6 (enc := enc) (C := Try.checked) false ⟨#[], #[.slice none 0 0, .slice none 0 0], []⟩ 8 (by kernel_rfl) (by kernel_rfl) (by kernel_rfl) (by kernel_rfl)) ?_
  intro W base args ds gs before hval0 hW _ hsz0 _
  have hsz : (DataW.weightsEach Try.prog (Try.f5.params.toList ++ Rows.sweepWeakSpec.plain.varTypes Try.prog) (ds ++ gs)).all (· ≤ reachBytes) = true := hsz0
  clear hsz0
  have hval : ∀ (j : Nat) t v, Try.f5.params[j]? = some t → args[j]? = some v → Value.okWide Try.prog W .any base t v := hval0
  have hW' := hW
  obtain ⟨p, q, hA0, hV, rfl, _, _⟩ := hW
  have hA : DataW.TrodAll enc Try.prog W 0 (fun _ => true) true Try.f5.params.toList args.toList ds p := hA0
  rw [Try.params5] at hA hval hsz
  obtain ⟨v0, vs0, d0, ds0, p0, q0, hargs, rfl, rfl, h0, r0⟩ := trodAll_cons hA
  obtain ⟨v1, vs1, d1, ds1, p1, q1, rfl, rfl, rfl, h1, r1⟩ := trodAll_cons r0
  obtain ⟨rfl, rfl, rfl⟩ := trodAll_nil r1
  obtain rfl : args = #[v0, v1] := by cases args; simp_all
  obtain ⟨rfl, rfl⟩ := trodVars_none hV
  clear hA0 hval0
  simp only [List.append_nil] at hW'
  have hlt : ∀ x, (x ∈ p0 ∨ x ∈ p1) → x.block < W.heap.size := fun x hx => by simpa using hW'.lt x (by simpa using hx)
  have k0 : ∀ (W' : World), Below W.heap.size W W' → DataW.Trod enc Try.prog W' 0 (fun b => decide (b < W.heap.size)) true 37 v0 d0 p0 :=
    fun W' hn => Below.trod laidOut (by kernel_rfl) (of_decide_eq_true (by kernel_rfl)) h0 hn (fun x hx => hlt x (Or.inl hx))
  have k1 : ∀ (W' : World), Below W.heap.size W W' → DataW.Trod enc Try.prog W' 0 (fun b => decide (b < W.heap.size)) true 23 v1 d1 p1 :=
    fun W' hn => Below.trod laidOut (by kernel_rfl) (of_decide_eq_true (by kernel_rfl)) h1 hn (fun x hx => hlt x (Or.inr (hx)))
  obtain ⟨x0, hx0⟩ := open_intsAt (bytes := 8) Try.underlying37 Try.underlying3 (by kernel_rfl) (by kernel_rfl) (hval 0 37 v0 rfl rfl) h0 hsz 0 rfl rfl
  obtain ⟨x1, hx1⟩ := open_intsAt (bytes := 8) Try.underlying23 Try.underlying82 (by kernel_rfl) (by kernel_rfl) (hval 1 23 v1 rfl rfl) h1 hsz 1 rfl rfl
  refine (walk (W := W) v0 x0 hx0 v1 x1 hx1).mono fun e W' ⟨he, hb⟩ => ?_
  subst he
  refine ⟨_, rfl, _, _, _, [], p0 ++ (p1 ++ ([])), [], hW', ?_, ?_, rfl, hb.frame _, fun h => by cases h⟩
  · exact trodAll_cons_mk (shut_bool Try.underlying4 true) trodAll_mk0
  · exact trodAll_cons_mk (k0 _ hb) (trodAll_cons_mk (k1 _ hb) (trodAll_mk0))

theorem over : Rows.sweepWeakRow.holds Try.pinned (OpenSpec.ofChange Rows.sweepWeakSpec) :=
  OpenClaim.holds_of_wide 5 Try.f5 rfl rfl rfl rfl rfl rfl rfl ⟨rfl, rfl, rfl, rfl, rfl⟩ rfl rfl rfl rfl rfl (by kernel_rfl) Try.func5 (by kernel_rfl)
    (of_decide_eq_true (by kernel_rfl)) (by unfold Func.isWrapper; first | (rw [if_pos (by decide +kernel)]; kernel_rfl) | (rw [if_neg (by decide +kernel)]; exact ⟨rfl, rfl⟩))
    (fun os started H enc _ => lifted os started H enc)

/-- The given statement. -/
theorem proved : Rows.SweepWeakSaid := over
#print axioms proved
end Go.Proofs.Ythaicpjgmplgcaa.sweepWeak
