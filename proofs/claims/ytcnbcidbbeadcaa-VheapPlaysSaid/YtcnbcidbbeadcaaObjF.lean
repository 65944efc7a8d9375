/- A field's words: object.Field and the document's FieldWords. -/
import Derived.Test.YtcnbcidbbeadcaaObjK
import Derived.Deep.RegionWith
namespace Go.Proofs.Ytcnbcidbbeadcaa
open Go.RowKit Go.Deep
set_option linter.unusedVariables false

theorem wordsR_nil (w : World) : WordsR w (.slice none 0 0) [] := ⟨⟨none, 0, rfl, Nat.le_refl _, by decide, fun h => by simp at h⟩, by simp⟩
theorem retOf_some {w w' : World} {f : List Int} {e : Ending} (h : RetOf w (some f) e w') : ∃ va vc, e = .returned (.tuple #[.agg #[.slice va f.length vc], .bool true]) ∧ IntsR w' (.slice va f.length vc) .i64 f ∧ Upd (fun _ => False) w w' := by
  obtain ⟨u, ⟨g, v, h1, h2, h3⟩ | ⟨h1, -⟩⟩ := h
  · cases h1
    have h4 := h2
    obtain ⟨va, vc, rfl, -⟩ := h4
    exact ⟨va, vc, h3, h2, u⟩
  · cases h1
theorem retOf_none {w w' : World} {e : Ending} (h : RetOf w none e w') : e = .returned (.tuple #[.agg #[.slice none 0 0], .bool false]) ∧ Upd (fun _ => False) w w' := by
  obtain ⟨u, ⟨g, v, h1, h2, h3⟩ | ⟨-, h1⟩⟩ := h
  · cases h1
  · exact ⟨h1, u⟩
theorem retVW_inv_some {w w' : World} {ws : List Nat} {e : Ending} (h : RetVW w (some ws) e w') : ∃ g c, e = .returned (.tuple #[.slice (some ⟨g, 0, none⟩) ws.length c, .bool true]) ∧ WordsR w' (.slice (some ⟨g, 0, none⟩) ws.length c) ws ∧ Upd (fun _ => False) w w' := by
  obtain ⟨u, ⟨us, g, c, h1, h2, h3⟩ | ⟨h1, -⟩⟩ := h
  · cases h1
    exact ⟨g, c, h2, h3, u⟩
  · cases h1
theorem retVW_inv_none {w w' : World} {e : Ending} (h : RetVW w none e w') : e = .returned (.tuple #[.slice none 0 0, .bool false]) ∧ Upd (fun _ => False) w w' := by
  obtain ⟨u, ⟨us, g, c, h1, h2, h3⟩ | ⟨-, h1⟩⟩ := h
  · cases h1
  · exact ⟨h1, u⟩

/-- A field's place, words, and why not. -/
def RetFld (w : World) (r : Int × List Nat × Int) (e : Ending) (w' : World) : Prop :=
  Upd (fun _ => False) w w' ∧ ∃ va c, e = .returned (.tuple #[.int .i64 r.1, .slice va r.2.1.length c, .int .i64 r.2.2]) ∧ WordsR w' (.slice va r.2.1.length c) r.2.1
theorem retFld_none {w w' : World} {n : Int} (u : Upd (fun _ => False) w w') : RetFld w (0, [], n) (.returned (.tuple #[.int .i64 0, .slice none 0 0, .int .i64 n])) w' := ⟨u, none, 0, rfl, wordsR_nil _⟩

set_option maxRecDepth 100000 in
set_option maxHeartbeats 1000000 in
theorem object_Field (v : Value) (ks : List (List Int)) (k i : Int) (x : Val) (hx : x.ok) (w : World) (hM : MatIn w v ks) : Calls Try.prog 19 #[v, .int .i64 k, .int .i64 i, x.v] w (RetFld w (fldO ks k i x)) := by
  have hval : ∀ q w', Calls Try.prog 50 #[.int .i64 q, x.v] w' (RetVW w' (vw q x)) := fun q w' => value_Words q x hx w'
  have hr : fldO ks k i x = match ofK ks k with
    | none => (0, [], 3)
    | some f => if i < 0 ∨ (f.length : Int) ≤ i then (0, [], 4) else match vw (f.getD i.toNat 0) x with
      | none => (0, [], 3)
      | some ws => (offK f i, ws, 0) := rfl
  generalize fldO ks k i x = r at *
  have hcl : ∃ a n re im rr, x = ⟨a, n, re, im, rr⟩ := ⟨_, _, _, _, _, rfl⟩
  obtain ⟨a, n, re, im, rr, rfl⟩ := hcl
  change ∀ q w', Calls _ _ #[.int .i64 q, .agg #[.int .i64 a, .int .i64 n, .int .u64 (re : Int), .int .u64 (im : Int), .int .i64 rr]] w' _ at hval
  show Calls _ _ #[v, .int .i64 k, .int .i64 i, .agg #[.int .i64 a, .int .i64 n, .int .u64 (re : Int), .int .u64 (im : Int), .int .i64 rr]] _ _
  have hu1 : Upd (fun _ => False) w (w.alloc (.cells #[.int .i64 a, .int .i64 n, .int .u64 (re : Int), .int .u64 (im : Int), .int .i64 rr] 26)) := (Upd.refl _ _).alloc _
  have hof := object_of v ks k _ (hM.upd hu1.none)
  have hB := Blk.new w [.int .i64 a, .int .i64 n, .int .u64 (re : Int), .int .u64 (im : Int), .int .i64 rr] 26
  generalize hxe : (⟨a, n, re, im, rr⟩ : Val) = x at *
  clear hxe hx hM
  cases ho : ofK ks k with
  | none =>
    rw [ho] at hof hr
    simp only at hr
    subst hr
    have hof := Lib.hid (hof.mono (fun e w' h => retOf_none h))
    clear ho hval hB
    have Hhu1 := Lib.hid hu1; clear hu1
    go_enter Try.func19, Try.ntmps19
    go_wp2_with (go_at_call 47; (with_reducible refine hof.out.mono ?_); rintro e w2 ⟨rfl, hu2⟩)
    go_ret3
    exact retFld_none ((Hhu1.out.trans (by assumption)).alloc _)
  | some f =>
    rw [ho] at hof hr
    simp only at hr
    have hof := Lib.hid (hof.mono (fun e w' h => retOf_some h))
    have l1 : (f.length : Int) ≤ 15 := by
      have := (mayK_facts f (ofK_some ho).2.2.2.1).2.1
      omega
    clear ho
    by_cases i0 : i < 0
    · rw [if_pos (Or.inl i0)] at hr
      subst hr
      clear hval hB
      have Hhu1 := Lib.hid hu1; clear hu1
      go_enter Try.func19, Try.ntmps19
      go_wp2_with (go_at_call 47; (with_reducible refine hof.out.mono ?_); rintro e w2 ⟨va, vc, rfl, hV, hu2⟩)
      go_ret3
      exact retFld_none (((Hhu1.out.trans (by assumption)).alloc _))
    · by_cases i1 : (f.length : Int) ≤ i
      · rw [if_pos (Or.inr i1)] at hr
        subst hr
        clear hval hB
        have Hhu1 := Lib.hid hu1; clear hu1
        go_enter Try.func19, Try.ntmps19
        go_wp2_with (go_at_call 47; (with_reducible refine hof.out.mono ?_); rintro e w2 ⟨va, vc, rfl, hV, hu2⟩)
        go_ret3
        exact retFld_none (((Hhu1.out.trans (by assumption)).alloc _))
      · rw [if_neg (fun h => h.elim i0 i1)] at hr
        obtain ⟨y, rfl⟩ : ∃ y : Nat, i = y := ⟨i.toNat, by omega⟩
        have hy : y < f.length := by omega
        have i1' : (y : Int) < f.length := by omega
        rw [show (y : Int).toNat = y from by omega] at hr
        have hval := hval (f.getD y 0)
        have hoff := Lib.hid (fun (v : Value) (w' : World) (h : IntsR w' v .i64 f) => kind_Offset v f y w' h)
        have hidx := Lib.hid (fun (v : Value) (w' : World) (h : IntsR w' v .i64 f) => h.index (P := Try.prog) Try.underlying52 (by kernel_rfl) (by kernel_rfl) hy)
        simp only [Nat.mul_one] at hidx
        generalize f.getD y 0 = q at *
        cases hv : vw q x with
        | none =>
          rw [hv] at hval hr
          simp only at hr
          subst hr
          have hval := Lib.hid (fun w' => (hval w').mono (fun e w'' h => retVW_inv_none h))
          clear hv hoff
          have Hhu1 := Lib.hid hu1; clear hu1
          have HhB := Lib.hid hB; clear hB
          go_enter Try.func19, Try.ntmps19
          go_wp2_with (go_at_call 47; (with_reducible refine hof.out.mono ?_); rintro e w2 ⟨va, vc, rfl, hV, hu2⟩; have hT := (HhB.out.upd hu2 (fun h => h)).alloc (.cells #[.slice va f.length vc] 68); have c0 := hT.cell 0 rfl; have c1 := hT.cell 1 rfl; have c2 := hT.cell 2 rfl; have c3 := hT.cell 3 rfl; have c4 := hT.cell 4 rfl; obtain ⟨b0, off, hix, hb0, hc⟩ := hidx.out _ w2 hV; have hcq : (w2.alloc (.cells #[.slice va f.length vc] 68)).cell? ⟨b0, off + y, none⟩ = some (.int .i64 q) := (((Upd.refl (fun _ => False) w2).alloc _).none.cell (p := ⟨b0, off + y, none⟩) hb0).trans (hc 0 (by decide)); have HV := Lib.hid hV; clear hT hc hV)
          go_region_with (go_at_call 50; (with_reducible refine (hval.out _).mono ?_); rintro e w4 ⟨rfl, hu4⟩)
          all_goals go_wp2
          all_goals go_ret3
          all_goals exact retFld_none ((((Hhu1.out.trans (by assumption)).alloc _).drew).trans (by assumption))
        | some ws =>
          rw [hv] at hval hr
          simp only at hr
          subst hr
          have hval := Lib.hid (fun w' => (hval w').mono (fun e w'' h => retVW_inv_some h))
          clear hv
          have Hhu1 := Lib.hid hu1; clear hu1
          have HhB := Lib.hid hB; clear hB
          generalize offK f y = fo at *
          go_enter Try.func19, Try.ntmps19
          go_wp2_with (go_at_call 47; (with_reducible refine hof.out.mono ?_); rintro e w2 ⟨va, vc, rfl, hV, hu2⟩; have hT := (HhB.out.upd hu2 (fun h => h)).alloc (.cells #[.slice va f.length vc] 68); have c0 := hT.cell 0 rfl; have c1 := hT.cell 1 rfl; have c2 := hT.cell 2 rfl; have c3 := hT.cell 3 rfl; have c4 := hT.cell 4 rfl; obtain ⟨b0, off, hix, hb0, hc⟩ := hidx.out _ w2 hV; have hcq : (w2.alloc (.cells #[.slice va f.length vc] 68)).cell? ⟨b0, off + y, none⟩ = some (.int .i64 q) := (((Upd.refl (fun _ => False) w2).alloc _).none.cell (p := ⟨b0, off + y, none⟩) hb0).trans (hc 0 (by decide)); have HV := Lib.hid hV; clear hT hc hV)
          go_region_with (go_at_call 50; (with_reducible refine (hval.out _).mono ?_); rintro e w4 ⟨g, c, rfl, hW, hu4⟩; have hT := (Blk.new w2 [.slice va f.length vc] 68).drew.upd hu4 (fun h => h); have d0 := hT.cell 0 rfl; have HW := Lib.hid hW; have HU := Lib.hid (((((Hhu1.out.trans hu2).alloc _).drew).trans hu4)); have HV2 := Lib.hid (ints_upd HV.out (((Upd.refl (fun _ => False) w2).alloc _).drew.trans hu4)); clear hT hW hu4)
          all_goals go_wp2_with (go_at_call 54; (with_reducible refine (hoff.out _ _ HV2.out).mono ?_); rintro e w5 ⟨rfl, hu5⟩)
          all_goals go_ret3
          all_goals exact ⟨HU.out.trans (by assumption), _, _, rfl, HW.out.upd (Upd.none (by assumption))⟩
set_option maxRecDepth 100000 in
set_option maxHeartbeats 1000000 in
theorem ref_FieldWords (v : Value) (ks : List (List Int)) (k i : Int) (x : Val) (hx : x.ok) (w : World) (hM : MatIn w v ks) : Calls Try.prog 20 #[v, .int .i64 k, .int .i64 i, x.v] w (RetFld w (fldO ks k i x)) := by
  have hval : ∀ q w', Calls Try.prog 53 #[.int .i64 q, x.v] w' (RetVW w' (vw q x)) := fun q w' => ref_ValueWords q x hx w'
  have hr : fldO ks k i x = match ofK ks k with
    | none => (0, [], 3)
    | some f => if i < 0 ∨ (f.length : Int) ≤ i then (0, [], 4) else match vw (f.getD i.toNat 0) x with
      | none => (0, [], 3)
      | some ws => (offK f i, ws, 0) := rfl
  generalize fldO ks k i x = r at *
  have hcl : ∃ a n re im rr, x = ⟨a, n, re, im, rr⟩ := ⟨_, _, _, _, _, rfl⟩
  obtain ⟨a, n, re, im, rr, rfl⟩ := hcl
  change ∀ q w', Calls _ _ #[.int .i64 q, .agg #[.int .i64 a, .int .i64 n, .int .u64 (re : Int), .int .u64 (im : Int), .int .i64 rr]] w' _ at hval
  show Calls _ _ #[v, .int .i64 k, .int .i64 i, .agg #[.int .i64 a, .int .i64 n, .int .u64 (re : Int), .int .u64 (im : Int), .int .i64 rr]] _ _
  have hu1 : Upd (fun _ => False) w (w.alloc (.cells #[.int .i64 a, .int .i64 n, .int .u64 (re : Int), .int .u64 (im : Int), .int .i64 rr] 26)) := (Upd.refl _ _).alloc _
  have hof := ref_kindOf v ks k _ (hM.upd hu1.none)
  have hB := Blk.new w [.int .i64 a, .int .i64 n, .int .u64 (re : Int), .int .u64 (im : Int), .int .i64 rr] 26
  generalize hxe : (⟨a, n, re, im, rr⟩ : Val) = x at *
  clear hxe hx hM
  cases ho : ofK ks k with
  | none =>
    rw [ho] at hof hr
    simp only at hr
    subst hr
    have hof := Lib.hid (hof.mono (fun e w' h => retOf_none h))
    clear ho hval hB
    have Hhu1 := Lib.hid hu1; clear hu1
    go_enter Try.func20, Try.ntmps20
    go_wp2_with (go_at_call 51; (with_reducible refine hof.out.mono ?_); rintro e w2 ⟨rfl, hu2⟩)
    go_ret3
    exact retFld_none ((Hhu1.out.trans (by assumption)).alloc _)
  | some f =>
    rw [ho] at hof hr
    simp only at hr
    have hof := Lib.hid (hof.mono (fun e w' h => retOf_some h))
    have l1 : (f.length : Int) ≤ 15 := by
      have := (mayK_facts f (ofK_some ho).2.2.2.1).2.1
      omega
    clear ho
    by_cases i0 : i < 0
    · rw [if_pos (Or.inl i0)] at hr
      subst hr
      clear hval hB
      have Hhu1 := Lib.hid hu1; clear hu1
      go_enter Try.func20, Try.ntmps20
      go_wp2_with (go_at_call 51; (with_reducible refine hof.out.mono ?_); rintro e w2 ⟨va, vc, rfl, hV, hu2⟩)
      go_ret3
      exact retFld_none (((Hhu1.out.trans (by assumption)).alloc _))
    · by_cases i1 : (f.length : Int) ≤ i
      · rw [if_pos (Or.inr i1)] at hr
        subst hr
        clear hval hB
        have Hhu1 := Lib.hid hu1; clear hu1
        go_enter Try.func20, Try.ntmps20
        go_wp2_with (go_at_call 51; (with_reducible refine hof.out.mono ?_); rintro e w2 ⟨va, vc, rfl, hV, hu2⟩)
        go_ret3
        exact retFld_none (((Hhu1.out.trans (by assumption)).alloc _))
      · rw [if_neg (fun h => h.elim i0 i1)] at hr
        obtain ⟨y, rfl⟩ : ∃ y : Nat, i = y := ⟨i.toNat, by omega⟩
        have hy : y < f.length := by omega
        have i1' : (y : Int) < f.length := by omega
        rw [show (y : Int).toNat = y from by omega] at hr
        have hval := hval (f.getD y 0)
        have hoff := Lib.hid (fun (v : Value) (w' : World) (h : IntsR w' v .i64 f) => ref_Offset v f y w' h)
        have hidx := Lib.hid (fun (v : Value) (w' : World) (h : IntsR w' v .i64 f) => h.index (P := Try.prog) Try.underlying52 (by kernel_rfl) (by kernel_rfl) hy)
        simp only [Nat.mul_one] at hidx
        generalize f.getD y 0 = q at *
        cases hv : vw q x with
        | none =>
          rw [hv] at hval hr
          simp only at hr
          subst hr
          have hval := Lib.hid (fun w' => (hval w').mono (fun e w'' h => retVW_inv_none h))
          clear hv hoff
          have Hhu1 := Lib.hid hu1; clear hu1
          have HhB := Lib.hid hB; clear hB
          go_enter Try.func20, Try.ntmps20
          go_wp2_with (go_at_call 51; (with_reducible refine hof.out.mono ?_); rintro e w2 ⟨va, vc, rfl, hV, hu2⟩; have hT := (HhB.out.upd hu2 (fun h => h)).alloc (.cells #[.slice va f.length vc] 68); have c0 := hT.cell 0 rfl; have c1 := hT.cell 1 rfl; have c2 := hT.cell 2 rfl; have c3 := hT.cell 3 rfl; have c4 := hT.cell 4 rfl; obtain ⟨b0, off, hix, hb0, hc⟩ := hidx.out _ w2 hV; have hcq : (w2.alloc (.cells #[.slice va f.length vc] 68)).cell? ⟨b0, off + y, none⟩ = some (.int .i64 q) := (((Upd.refl (fun _ => False) w2).alloc _).none.cell (p := ⟨b0, off + y, none⟩) hb0).trans (hc 0 (by decide)); have HV := Lib.hid hV; clear hT hc hV)
          go_region_with (go_at_call 53; (with_reducible refine (hval.out _).mono ?_); rintro e w4 ⟨rfl, hu4⟩)
          all_goals go_wp2
          all_goals go_ret3
          all_goals exact retFld_none ((((Hhu1.out.trans (by assumption)).alloc _).drew).trans (by assumption))
        | some ws =>
          rw [hv] at hval hr
          simp only at hr
          subst hr
          have hval := Lib.hid (fun w' => (hval w').mono (fun e w'' h => retVW_inv_some h))
          clear hv
          have Hhu1 := Lib.hid hu1; clear hu1
          have HhB := Lib.hid hB; clear hB
          generalize offK f y = fo at *
          go_enter Try.func20, Try.ntmps20
          go_wp2_with (go_at_call 51; (with_reducible refine hof.out.mono ?_); rintro e w2 ⟨va, vc, rfl, hV, hu2⟩; have hT := (HhB.out.upd hu2 (fun h => h)).alloc (.cells #[.slice va f.length vc] 68); have c0 := hT.cell 0 rfl; have c1 := hT.cell 1 rfl; have c2 := hT.cell 2 rfl; have c3 := hT.cell 3 rfl; have c4 := hT.cell 4 rfl; obtain ⟨b0, off, hix, hb0, hc⟩ := hidx.out _ w2 hV; have hcq : (w2.alloc (.cells #[.slice va f.length vc] 68)).cell? ⟨b0, off + y, none⟩ = some (.int .i64 q) := (((Upd.refl (fun _ => False) w2).alloc _).none.cell (p := ⟨b0, off + y, none⟩) hb0).trans (hc 0 (by decide)); have HV := Lib.hid hV; clear hT hc hV)
          go_region_with (go_at_call 53; (with_reducible refine (hval.out _).mono ?_); rintro e w4 ⟨g, c, rfl, hW, hu4⟩; have hT := (Blk.new w2 [.slice va f.length vc] 68).drew.upd hu4 (fun h => h); have d0 := hT.cell 0 rfl; have HW := Lib.hid hW; have HU := Lib.hid (((((Hhu1.out.trans hu2).alloc _).drew).trans hu4)); have HV2 := Lib.hid (ints_upd HV.out (((Upd.refl (fun _ => False) w2).alloc _).drew.trans hu4)); clear hT hW hu4)
          all_goals go_wp2_with (go_at_call 55; (with_reducible refine (hoff.out _ _ HV2.out).mono ?_); rintro e w5 ⟨rfl, hu5⟩)
          all_goals go_ret3
          all_goals exact ⟨HU.out.trans (by assumption), _, _, rfl, HW.out.upd (Upd.none (by assumption))⟩
end Go.Proofs.Ytcnbcidbbeadcaa
