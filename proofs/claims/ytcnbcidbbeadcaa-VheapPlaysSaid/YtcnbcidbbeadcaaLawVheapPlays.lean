/- Any calls to the heap and to the document's: each answers the same, and behind all of them both tell the same. No condition. -/
import Derived.Test.YtcnbcidbbeadcaaVpG
import Derived.Test.YtcnbcidbbeadcaaVpL
import Derived.SizedLaws
import Derived.Deep.RegionWith
import Derived.Deep.DeepCutAuto
import Derived.Deep.Cut
import Derived.Deep.CutBlock
namespace Go.Proofs.Ytcnbcidbbeadcaa.vheapPlays
open Go.ChangeShapes Go.WideShapes Go.ChangeAt Go.RowKit Go.Deep
set_option linter.unusedVariables false
set_option maxRecDepth 100000 in
set_option maxHeartbeats 4000000 in
theorem walk {W : World} (lv : Value) (lx : List Cal × (Nat → List Int)) (hl : CalsIn9 W lv lx) :
    Calls Try.prog 12 #[lv] W (LawPost W) := by
  obtain ⟨l, fl⟩ := lx
  have hAw := Lib.hid awake14
  obtain ⟨la, lc, rfl, l1⟩ := hl.1.shape
  simp only at l1
  have k14 := Lib.hid kinds14
  have k14U := Lib.hid kinds14U
  have hNw := Lib.hid (fun w1 v (hm : MatIn w1 v ks14) => vh_New v ks14 w1 hm (by decide) (by decide))
  have HhC := Lib.hid hl.1
  have HhOk := Lib.hid hl.okAt
  clear hl
  go_enter Try.func12, Try.ntmps12
  go_upto_block 0 with (first
    | (go_at_call 24; (with_reducible refine (k14.out _).mono ?_); rintro e w1 ⟨v, rfl, hm1, hu1⟩; obtain ⟨va, vc, rfl⟩ := mat_shape hm1; have hN2b := Lib.hid (hNw.out w1 _ hm1); have Hu1 := Lib.hid hu1; clear hm1 hu1 k14)
    | (go_at_call 23; (with_reducible refine hN2b.out.mono ?_); rintro e w2 ⟨b, base, kv, rfl, hlo2, h2, hu2⟩; have H2 := Lib.hid h2; have Hu2 := Lib.hid (Hu1.out.trans hu2); have Hlo := Lib.hid (Nat.le_trans Hu1.out.size hlo2); clear h2 hN2b hlo2 hu2)
    | (go_at_call 24; (with_reducible refine (k14U.out _).mono ?_); rintro e w3 ⟨v3, rfl, hm3, hu3⟩; obtain ⟨va3, vc3, rfl⟩ := mat_shape (hm3 w3 (fun _ => False) (Upd.refl _ _) (fun _ x => x.elim)); have H3 := Lib.hid (H2.out.still hu3); have Hm3 := Lib.hid hm3; have Hu3 := Lib.hid (Hu2.out.trans hu3); clear hm3 hu3))
  rw [vo_zero]
  have hst0 : Duo W (fun _ => False) b base w3.heap.size kv (.slice va3 ks14.length vc3) (w3.alloc (.cells (voC (.slice va3 ks14.length vc3) no14 (fun _ => 0) (fun _ => .slice none 0 0)).toArray 75)) :=
    ⟨no14, Mid.start H3.out Hlo.out Hu3.out (fun w'' T u hT => Hm3.out w'' T u (fun j hj => by have := H2.out.blk.lt; have := hT j hj; omega)), KOk.no⟩
  generalize w3.alloc (.cells (voC (.slice va3 ks14.length vc3) no14 (fun _ => 0) (fun _ => .slice none 0 0)).toArray 75) = w4 at *
  generalize w3.heap.size = m at *
  generalize (voC (.slice va3 ks14.length vc3) no14 (fun _ => 0) (fun _ => .slice none 0 0)).toArray = VC at *
  have Hst0 := Lib.hid hst0
  clear hst0 k14U hNw H2 H3 Hm3 Hu1 Hu2 Hu3 Hlo
  go_wp2_with fail
  go_loopw [5] (fun i wr => ∃ k : Nat, i = .int .i64 k ∧ k ≤ 120 ∧ k ≤ l.length ∧ Duo W (fun _ => False) b base m kv (.slice va3 ks14.length vc3) wr) (fun i _ => (120 - intOf i).toNat)
  case atStart => exact ⟨0, rfl, Nat.zero_le _, Nat.zero_le _, Hst0.out⟩
  case round =>
    obtain ⟨k, rfl, hk, hkl, hst⟩ := hrel
    clear Hst0
    by_cases hk2 : k = l.length ∨ k = 120
    · have key : (¬ ((k : Int) < l.length)) ∨ (((k : Int) < l.length) ∧ ¬ ((k : Int) < 120)) := by omega
      have hlk := Lib.hid (like14 hst)
      have Hup := Lib.hid (show Upd (fun _ => False) W wr from by
        obtain ⟨o, h1, -⟩ := hst
        exact h1.up)
      clear hk2 hst
      rcases key with c1 | ⟨c1, c2⟩
      all_goals
        go_wp2_with (first
          | (go_at_call 43; (with_reducible refine hlk.out.mono ?_); rintro e w5 ⟨rfl, hu5⟩; have Hu5 := Lib.hid hu5; clear hu5)
          | (go_at_call 28; (with_reducible refine (hAw.out _).mono ?_); rintro e w9 ⟨rfl, hu9⟩))
        go_ret
        exact ⟨rfl, ((Hup.out.trans Hu5.out).trans hu9).none⟩
    · have c1 : (k : Int) < l.length := by omega
      have c2 : (k : Int) < 120 := by omega
      obtain ⟨b0, off, ga, gc, hix, hc⟩ := HhC.out.at (show k < l.length by omega)
      have hok := HhOk.out k
      have hup : Upd (fun _ => False) W wr := by
        obtain ⟨o, h1, -⟩ := hst
        exact h1.up
      obtain ⟨y0, y1, y2, y3, y4, y5, y6, y7, y8, -⟩ := hc wr hup
      obtain ⟨-, -, -, -, -, -, -, -, -, hgr⟩ := hc W (Upd.refl _ _)
      generalize l.getD k noCal = cc at *
      generalize hgs : fl k = gs at *
      generalize hgn : gs.length = gn at *
      obtain ⟨cd, co, cf, ⟨xk, xn, xre, xim, xr⟩⟩ := cc
      simp only at y0 y1 y2 y3 y4 y5 y6 y7 hok
      have hDo := Lib.hid (do_Call hst cd co cf xk xn xre xim xr hok.1 hok.2 ga gn gc gs hgr hgn.symm)
      clear hst
      clear hc hk2 hok hup hgr hgn hgs
      go_wp2_with (go_at_call 42; (with_reducible refine hDo.out.mono ?_); rintro e w5 ⟨rfl, h5, -⟩; have H5 := Lib.hid h5; clear h5)
      go_roundw
      case rel => exact ⟨k + 1, by go_num, by omega, by omega, H5.out⟩
      case measure => simp [intOf]; omega

theorem own : ownKnob Try.prog.godebug = none := by kernel_rfl
theorem laidOut : laidOutB Try.prog = true := by kernel_rfl
set_option maxRecDepth 100000 in
theorem lifted (os : Os) (started : os.Started) (H : Type) (enc : TypeId × Value → H) :
    ReturnsInHanded {} Try.checked os 12 .any (Rows.vheapPlaysSpec.pre6 enc Try.prog Try.f12 Rows.vheapPlaysRow.domain false) (Rows.vheapPlaysSpec.post enc Try.prog Try.f12 false true false false) := by
  refine returnsInHanded_of_change_sized (C := Try.checked) own started (by kernel_rfl) Try.func12
    (ChangeSpec.witness6 (enc := enc) (C := Try.checked) false ⟨#[], #[.slice none 0 0], []⟩ 8 (by kernel_rfl) (by kernel_rfl) (by kernel_rfl) (by kernel_rfl)) ?_
  intro W base args ds gs before hval0 hW _ hsz0 _
  have hsz : (DataW.weightsEach Try.prog (Try.f12.params.toList ++ Rows.vheapPlaysSpec.plain.varTypes Try.prog) (ds ++ gs)).all (· ≤ reachBytes) = true := hsz0
  clear hsz0
  have hval : ∀ (j : Nat) t v, Try.f12.params[j]? = some t → args[j]? = some v → Value.okWide Try.prog W .any base t v := hval0
  have hW' := hW
  obtain ⟨p, q, hA0, hV, rfl, _, _⟩ := hW
  have hA : DataW.TrodAll enc Try.prog W 0 (fun _ => true) true Try.f12.params.toList args.toList ds p := hA0
  rw [Try.params12] at hA hval hsz
  obtain ⟨v0, vs0, d0, ds0, p0, q0, hargs, rfl, rfl, h0, r0⟩ := trodAll_cons hA
  obtain ⟨rfl, rfl, rfl⟩ := trodAll_nil r0
  obtain rfl : args = #[v0] := by cases args; simp_all
  obtain ⟨rfl, rfl⟩ := trodVars_none hV
  clear hA0 hval0
  simp only [List.append_nil] at hW'
  have hlt : ∀ x, (x ∈ p0) → x.block < W.heap.size := fun x hx => by simpa using hW'.lt x (by simpa using hx)
  have k0 : ∀ (W' : World), Below W.heap.size W W' → DataW.Trod enc Try.prog W' 0 (fun b => decide (b < W.heap.size)) true 51 v0 d0 p0 :=
    fun W' hn => Below.trod laidOut (by kernel_rfl) (of_decide_eq_true (by kernel_rfl)) h0 hn (fun x hx => hlt x (hx))
  obtain ⟨x0, hx0⟩ := open_cals9 (hval 0 51 v0 rfl rfl) h0 hsz 0 rfl rfl
  refine (walk (W := W) v0 x0 hx0).mono fun e W' ⟨he, hb⟩ => ?_
  subst he
  refine ⟨_, rfl, _, _, _, [], p0 ++ ([]), [], hW', ?_, ?_, rfl, hb.frame _, fun h => by cases h⟩
  · exact trodAll_cons_mk (shut_bool Try.underlying4 true) trodAll_mk0
  · exact trodAll_cons_mk (k0 _ hb) (trodAll_mk0)

theorem over : Rows.vheapPlaysRow.holds Try.pinned (OpenSpec.ofChange Rows.vheapPlaysSpec) :=
  OpenClaim.holds_of_wide 12 Try.f12 rfl rfl rfl rfl rfl rfl rfl ⟨rfl, rfl, rfl, rfl, rfl⟩ rfl rfl rfl rfl rfl (by kernel_rfl) Try.func12 (by kernel_rfl)
    (of_decide_eq_true (by kernel_rfl)) (by unfold Func.isWrapper; first | (rw [if_pos (by decide +kernel)]; kernel_rfl) | (rw [if_neg (by decide +kernel)]; exact ⟨rfl, rfl⟩))
    (fun os started H enc _ => lifted os started H enc)

/-- The given statement. -/
theorem proved : Rows.VheapPlaysSaid := over
#print axioms proved
end Go.Proofs.Ytcnbcidbbeadcaa.vheapPlays
