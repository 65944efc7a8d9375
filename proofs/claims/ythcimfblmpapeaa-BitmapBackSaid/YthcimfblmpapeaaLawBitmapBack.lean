/- Words and bits are the same: a map of its words is it; a copy goes on by itself. No condition. -/
import Derived.Test.YthcimfblmpapeaaRefPack
import Derived.SizedLaws
import Derived.Deep.RegionHeld3
import Derived.Deep.DrawnRows
namespace Go.Proofs.Ythcimfblmpapeaa.bitmapBack
open Go.ChangeShapes Go.WideShapes Go.ChangeAt Go.RowKit
set_option linter.unusedVariables false
attribute [local go_sem ↓] Go.wp_at_zero Go.wp_at_succ
attribute [local go_sem] ite_min ite_max

theorem bitW_pack (n : Nat) (f : Nat → Bool) : packN n (bitW (packN n f)) = packN n f := packN_congr (fun i hi => by
  unfold bitW
  rw [tb_packN _ _ _ _ (Nat.mod_lt _ (by decide)), Nat.div_add_mod]
  simp [hi])

/-- Words of one's own. -/
def WPost (W : World) (n : Nat) (f : Nat → Bool) (e : Ending) (w' : World) : Prop :=
  ∃ g c, e = .returned (.slice (some ⟨g, 0, none⟩) ((n + 63) / 64) c) ∧ WordsR w' (.slice (some ⟨g, 0, none⟩) ((n + 63) / 64) c) (packN n f) ∧ Upd (fun _ => False) W w'
theorem words_from {W w' : World} {b g n : Nat} {f : Nat → Bool} (h : MapF w' b g n f) (u : Upd (fun _ => False) W w') : Calls Try.prog 28 #[.pointer (some ⟨b, 0, none⟩)] w' (WPost W n f) :=
  (map_WordsF b g n f w' h).mono fun e w2 ⟨g', c, he, ho, hu⟩ => ⟨g', c, he, ClonePost.words (v := .slice none 0 0) ho, u.trans hu⟩
theorem same_from {W w' : World} {u v : Value} {xs ys : List Nat} (h1 : WordsR w' u xs) (h2 : WordsR w' v ys) (uu : Upd (fun _ => False) W w') (e : xs = ys) : Calls Try.prog 27 #[u, v] w' (RetU W (.bool true)) := by
  have := from_ret (ref_SameWords u v xs ys w' h1 h2) uu
  rw [decide_eq_true e] at this
  exact this

set_option maxRecDepth 100000 in
set_option maxHeartbeats 2000000 in
theorem walk {W : World} (n : Int) (w0 : (Lit.int .i64 n).wf = true) (v : Value) (xs : List Int) (hx : IntsIn W v .u64 xs ∧ xs.length * 8 ≤ 140737488351232) (i : Int) (wi : (Lit.int .i64 i).wf = true) :
    Calls Try.prog 7 #[.int .i64 n, v, .int .i64 i] W (LawPost W) := by
  obtain ⟨ws, hws, -⟩ := intsIn_words hx.1
  obtain ⟨kI, hkI⟩ : ∃ kI, kI = max 0 (min n 400) := ⟨_, rfl⟩
  obtain ⟨k, hk⟩ : ∃ k : Nat, (k : Int) = kI := ⟨kI.toNat, by omega⟩
  have hof := Lib.hid (map_OfAt kI k v ws W hws (by omega))
  clear hws hx w0 wi
  go_enter Try.func7, Try.ntmps7
  go_wp2_with fail
  rw [← hkI]
  refine hof.out.mono ?_
  rintro e w1 ⟨b, g, rfl, hM, hbW, hgW, hu1⟩
  rw [← hk]
  have hk5 : (k : Int) ≤ 400 := by omega
  have hk6 : k ≤ 1048576 := by omega
  obtain ⟨hb1, hg1⟩ := hM.lt
  have hk7 : (max 0 (min (k : Int) 1048576)).toNat = k := by omega
  clear hof hkI hk
  have Hhu1 := Lib.hid hu1; clear hu1
  have HhbW := Lib.hid hbW; clear hbW
  have HhgW := Lib.hid hgW; clear hgW
  have Hhk6 := Lib.hid hk6; clear hk6
  have Hhk7 := Lib.hid hk7; clear hk7
  generalize bitW ws = f at *
  go_wp2_with fail
  refine (words_from hM (Upd.refl _ _)).mono ?_
  rintro e w2 ⟨g2, c2, rfl, hw2, hu2⟩
  have hof2 := map_OfAt k k _ (packN k f) w2 hw2 Hhk7.out
  clear hw2
  go_wp2_with fail
  refine hof2.mono ?_
  rintro e w3 ⟨bo, go, rfl, hO, -, -, hu23⟩
  have hu13 := hu2.trans hu23
  have hM3 := hM.upd hu13 (fun x => x) (fun x => x)
  clear hof2 hu2 hu23
  go_wp2_with fail
  refine (map_CopyF b g k f w3 hM3).mono ?_
  rintro e w4 ⟨bc, gc, rfl, hCp, hbc, hgc, hu34⟩
  have hz3 : w1.heap.size ≤ w3.heap.size := hu13.size
  have hO4 := hO.upd hu34 (fun x => x) (fun x => x)
  have hM4 := hM3.upd hu34 (fun x => x) (fun x => x)
  have hu4 := hu13.trans hu34
  have n1 : b ≠ gc := by omega
  have n2 : g ≠ gc := by omega
  have n3 : W.heap.size ≤ gc := by have := Hhu1.out.size; omega
  clear hO hM3 hM hu13 hu34 hbc hgc hz3 hb1 hg1
  have hWm := Lib.hid (fun w' (u : Upd (fun _ => False) w4 w') => words_from (hM4.upd u (fun x => x) (fun x => x)) (Upd.refl _ _))
  have hWo := Lib.hid (fun w' (u : Upd (fun _ => False) w4 w') => words_from (hO4.upd u (fun x => x) (fun x => x)) (Upd.refl _ _))
  have hWc := Lib.hid (fun w' (u : Upd (fun _ => False) w4 w') => words_from (hCp.upd u (fun x => x) (fun x => x)) (Upd.refl _ _))
  have hLm := Lib.hid (fun w' (u : Upd (fun _ => False) w4 w') => from_same (map_Len b k _ w' (hM4.upd u (fun x => x) (fun x => x)).is) u)
  have haw := Lib.hid (fun w' u => awake5 w4 w' u)
  have u0 := Upd.refl (fun _ => False) w4
  have HhO4 := Lib.hid hO4; clear hO4
  have HhM4 := Lib.hid hM4; clear hM4
  have Hhu4 := Lib.hid hu4; clear hu4
  have HhCp := Lib.hid hCp; clear hCp
  have Hn1 := Lib.hid n1; clear n1
  have Hn2 := Lib.hid n2; clear n2
  have Hn3 := Lib.hid n3; clear n3
  go_wp2_with fail
  refine (hWm.out _ u0).mono ?_
  rintro e w5 ⟨g5, c5, rfl, hw5, hu5⟩
  go_wp2_with fail
  refine (hWo.out _ hu5).mono ?_
  rintro e w6 ⟨g6, c6, rfl, hw6, hu56⟩
  have hu6 := hu5.trans hu56
  have hs1 := same_from (hw5.upd hu56.none) hw6 hu6 (bitW_pack k f).symm
  clear hw5 hw6 hu56 hu5
  go_wp2_with fail
  refine hs1.mono ?_
  rintro e w7 ⟨rfl, hu7⟩
  clear hs1 hu6
  go_wp2_with fail
  refine (hWc.out _ hu7).mono ?_
  rintro e w8 ⟨g8, c8, rfl, hw8, hu78⟩
  have hu8 := hu7.trans hu78
  clear hu78 hu7
  go_wp2_with fail
  refine (hWm.out _ hu8).mono ?_
  rintro e w9 ⟨g9, c9, rfl, hw9, hu89⟩
  have hu9 := hu8.trans hu89
  have hs2 := same_from (hw8.upd hu89.none) hw9 hu9 rfl
  clear hw8 hw9 hu89 hu8
  go_wp2_with fail
  refine hs2.mono ?_
  rintro e w10 ⟨rfl, hu10⟩
  clear hs2 hu9 u0
  by_cases hk0 : k = 0
  · subst hk0
    have hLm : Hid (∀ w', Upd (fun _ => False) w4 w' → Calls Try.prog 22 #[.pointer (some ⟨b, 0, none⟩)] w' (RetU w4 (.int .i64 0))) := hLm
    go_wp2_with (first
      | (go_at_call 22; ((with_reducible refine (hLm.out _ (by assumption)).mono ?_); rintro e w11 ⟨rfl, hu11⟩))
      | (go_at_call 20; ((with_reducible refine (haw.out _ (by assumption)).mono ?_); rintro e w12 ⟨rfl, hu12⟩)))
    go_ret
    exact ⟨rfl, Upd.none (Hhu1.out.trans (Hhu4.out.trans (by assumption)))⟩
  · have hkb : ((k : Int) == 0) = false := by simp; omega
    have hkp : (0 : Int) < k := by omega
    obtain ⟨r, hr, hrk⟩ := rem_nat i k hkp (by omega)
    have hG := from_same (map_GetF b g k f (r : Int) w10 (HhM4.out.upd hu10 (fun x => x) (fun x => x))) (Upd.refl _ _)
    have hM10 := HhM4.out.upd hu10 (fun x => x) (fun x => x)
    have hC10 := HhCp.out.upd hu10 (fun x => x) (fun x => x)
    have hrk' : decide ((0 : Int) ≤ r ∧ (r : Int) < k) = true := by simp; omega
    rw [hrk', Bool.true_and, Int.toNat_natCast] at hG
    have hu10' := Hhu1.out.trans (Hhu4.out.trans hu10)
    have Hhr := Lib.hid hr; clear hr
    have HhM10 := Lib.hid hM10; clear hM10
    have HhC10 := Lib.hid hC10; clear hC10
    have Hhrk' := Lib.hid hrk'; clear hrk'
    have Hhu10' := Lib.hid hu10'; clear hu10'
    have Hhu10 := Lib.hid hu10; clear hu10
    clear hWm hWo hWc hLm haw hk0
    obtain ⟨tb, htb⟩ : ∃ tb, f r = tb := ⟨_, rfl⟩
    rw [htb] at hG
    have Hhtb := Lib.hid htb; clear htb
    have HhG := Lib.hid hG; clear hG
    go_wp2_with fail
    rw [Hhr.out]
    refine HhG.out.mono ?_
    rintro e w11 ⟨rfl, hu11⟩
    have hM11 := HhM10.out.upd hu11 (fun x => x) (fun x => x)
    have hC11 := HhC10.out.upd hu11 (fun x => x) (fun x => x)
    have hu11' := Hhu10'.out.trans hu11
    clear HhG hu11
    have hS := map_SetF bc gc k f (r : Int) (!tb) w11 hC11
    unfold SetPost at hS
    rw [Hhrk'.out, Bool.true_and, Int.toNat_natCast, Hhtb.out, show (tb != !tb) = true from by cases tb <;> rfl] at hS
    have HhM11 := Lib.hid hM11; clear hM11
    have HhC11 := Lib.hid hC11; clear hC11
    have Hhu11' := Lib.hid hu11'; clear hu11'
    go_wp2_with fail
    refine hS.mono ?_
    rintro e w12 ⟨rfl, hC12, hu12, -, -⟩
    have hM12 := HhM11.out.upd hu12 Hn1.out Hn2.out
    have hu12' := Hhu11'.out.own hu12 (fun i e => by have := Hn3.out; omega)
    have g1 := from_same (map_GetF b g k f (r : Int) w12 hM12) (Upd.refl _ _)
    rw [Hhrk'.out, Bool.true_and, Int.toNat_natCast, Hhtb.out] at g1
    have g2 := fun w' (u : Upd (fun _ => False) w12 w') => from_same (map_GetF bc gc k _ (r : Int) w' (hC12.upd u (fun x => x) (fun x => x))) u
    rw [Hhrk'.out, Bool.true_and, Int.toNat_natCast, show setF f (r : Int) (!tb) r = !tb from by unfold setF; rw [if_pos rfl]] at g2
    have g3 := fun w' (u : Upd (fun _ => False) w12 w') => from_same (map_Set_no bc gc k _ (r : Int) (!tb) w' (hC12.upd u (fun x => x) (fun x => x)) (by rw [Hhrk'.out, Bool.true_and, Int.toNat_natCast, show setF f (r : Int) (!tb) r = !tb from by unfold setF; rw [if_pos rfl]]; simp)) u
    have haw := fun w' u => awake5 w12 w' u
    have Hg1 := Lib.hid g1; clear g1
    have Hg2 := Lib.hid g2; clear g2
    have Hg3 := Lib.hid g3; clear g3
    have Hhaw := Lib.hid haw; clear haw
    have Hhu12' := Lib.hid hu12'; clear hu12'
    clear hS hC12 hM12 hu12 Hhr HhM10 HhC10 HhM11 HhC11
    cases tb
    all_goals
      simp only [Bool.not_false, Bool.not_true] at Hg2 Hg3
      go_wp2_with (first
        | (go_at_call 18; first | ((with_reducible refine Hg1.out.mono ?_); rintro e w13 ⟨rfl, hu13⟩) | ((with_reducible refine (Hg2.out _ (by assumption)).mono ?_); rintro e w14 ⟨rfl, hu14⟩))
        | (go_at_call 21; ((with_reducible refine (Hg3.out _ (by assumption)).mono ?_); rintro e w15 ⟨rfl, hu15⟩))
        | (go_at_call 20; ((with_reducible refine (Hhaw.out _ (by assumption)).mono ?_); rintro e w16 ⟨rfl, hu16⟩)))
      go_ret
      exact ⟨rfl, Upd.none (Hhu12'.out.trans (by assumption))⟩

theorem own : ownKnob Try.prog.godebug = none := by kernel_rfl
theorem laidOut : laidOutB Try.prog = true := by kernel_rfl
set_option maxRecDepth 100000 in
theorem lifted (os : Os) (started : os.Started) (H : Type) (enc : TypeId × Value → H) :
    ReturnsInHanded {} Try.checked os 7 .any (Rows.bitmapBackSpec.pre6 enc Try.prog Try.f7 Rows.bitmapBackRow.domain false) (Rows.bitmapBackSpec.post enc Try.prog Try.f7 false true false false) := by
  refine returnsInHanded_of_change_sized (C := Try.checked) own started (by kernel_rfl) Try.func7
    (ChangeSpec.witness6 (enc := enc) (C := Try.checked) false ⟨#[], #[.int .i64 0, .slice none 0 0, .int .i64 0], []⟩ 8 (by kernel_rfl) (by kernel_rfl) (by kernel_rfl) (by kernel_rfl)) ?_
  intro W base args ds gs before hval0 hW _ hsz0 _
  have hsz : (DataW.weightsEach Try.prog (Try.f7.params.toList ++ Rows.bitmapBackSpec.plain.varTypes Try.prog) (ds ++ gs)).all (· ≤ reachBytes) = true := hsz0
  clear hsz0
  have hval : ∀ (j : Nat) t v, Try.f7.params[j]? = some t → args[j]? = some v → Value.okWide Try.prog W .any base t v := hval0
  have hW' := hW
  obtain ⟨p, q, hA0, hV, rfl, _, _⟩ := hW
  have hA : DataW.TrodAll enc Try.prog W 0 (fun _ => true) true Try.f7.params.toList args.toList ds p := hA0
  rw [Try.params7] at hA hval hsz
  obtain ⟨v0, vs0, d0, ds0, p0, q0, hargs, rfl, rfl, h0, r0⟩ := trodAll_cons hA
  obtain ⟨v1, vs1, d1, ds1, p1, q1, rfl, rfl, rfl, h1, r1⟩ := trodAll_cons r0
  obtain ⟨v2, vs2, d2, ds2, p2, q2, rfl, rfl, rfl, h2, r2⟩ := trodAll_cons r1
  obtain ⟨rfl, rfl, rfl⟩ := trodAll_nil r2
  obtain rfl : args = #[v0, v1, v2] := by cases args; simp_all
  obtain ⟨rfl, rfl⟩ := trodVars_none hV
  clear hA0 hval0
  simp only [List.append_nil] at hW'
  have hlt : ∀ x, (x ∈ p0 ∨ x ∈ p1 ∨ x ∈ p2) → x.block < W.heap.size := fun x hx => by simpa using hW'.lt x (by simpa using hx)
  have k0 : ∀ (W' : World), Below W.heap.size W W' → DataW.Trod enc Try.prog W' 0 (fun b => decide (b < W.heap.size)) true 3 v0 d0 p0 :=
    fun W' hn => Below.trod laidOut (by kernel_rfl) (of_decide_eq_true (by kernel_rfl)) h0 hn (fun x hx => hlt x (Or.inl hx))
  have k1 : ∀ (W' : World), Below W.heap.size W W' → DataW.Trod enc Try.prog W' 0 (fun b => decide (b < W.heap.size)) true 22 v1 d1 p1 :=
    fun W' hn => Below.trod laidOut (by kernel_rfl) (of_decide_eq_true (by kernel_rfl)) h1 hn (fun x hx => hlt x (Or.inr (Or.inl hx)))
  have k2 : ∀ (W' : World), Below W.heap.size W W' → DataW.Trod enc Try.prog W' 0 (fun b => decide (b < W.heap.size)) true 3 v2 d2 p2 :=
    fun W' hn => Below.trod laidOut (by kernel_rfl) (of_decide_eq_true (by kernel_rfl)) h2 hn (fun x hx => hlt x (Or.inr (Or.inr (hx))))
  obtain ⟨a0, rfl, _, _, w0⟩ := open_int Try.underlying3 (hval 0 3 v0 rfl rfl) h0
  obtain ⟨x1, hx1⟩ := open_intsAt (bytes := 8) Try.underlying22 Try.underlying39 (by kernel_rfl) (by kernel_rfl) (hval 1 22 v1 rfl rfl) h1 hsz 1 rfl rfl
  obtain ⟨a2, rfl, _, _, w2⟩ := open_int Try.underlying3 (hval 2 3 v2 rfl rfl) h2
  refine (walk (W := W) a0 w0 v1 x1 hx1 a2 w2).mono fun e W' ⟨he, hb⟩ => ?_
  subst he
  refine ⟨_, rfl, _, _, _, [], p0 ++ (p1 ++ (p2 ++ ([]))), [], hW', ?_, ?_, rfl, hb.frame _, fun h => by cases h⟩
  · exact trodAll_cons_mk (shut_bool Try.underlying4 true) trodAll_mk0
  · exact trodAll_cons_mk (k0 _ hb) (trodAll_cons_mk (k1 _ hb) (trodAll_cons_mk (k2 _ hb) (trodAll_mk0)))

theorem over : Rows.bitmapBackRow.holds Try.pinned (OpenSpec.ofChange Rows.bitmapBackSpec) :=
  OpenClaim.holds_of_wide 7 Try.f7 rfl rfl rfl rfl rfl rfl rfl ⟨rfl, rfl, rfl, rfl, rfl⟩ rfl rfl rfl rfl rfl (by kernel_rfl) Try.func7 (by kernel_rfl)
    (of_decide_eq_true (by kernel_rfl)) (by unfold Func.isWrapper; first | (rw [if_pos (by decide +kernel)]; kernel_rfl) | (rw [if_neg (by decide +kernel)]; exact ⟨rfl, rfl⟩))
    (fun os started H enc _ => lifted os started H enc)

/-- The given statement. -/
theorem proved : Rows.BitmapBackSaid := over
#print axioms proved
end Go.Proofs.Ythcimfblmpapeaa.bitmapBack
