/- Package layout: a new layout, its blocks and pages. -/
import Derived.Test.YthaicpjgmplgcaaLay2
namespace Go.Proofs.Ythaicpjgmplgcaa
open Go.RowKit Go.ChangeShapes Go.WideShapes
set_option linter.unusedVariables false

theorem results_cell1 {fn : Func} {p : Tmp} {ty : TypeId} (h : fn.results = #[.cell p ty]) (tmps : Array Value) (P : Program) (w : World) : (results fn tmps).run P w = ((asAddr (tmps.getD p undef)).run P w).andThen fun a w₁ => (loadVar ty a).run P w₁ := by
  simp only [results, h]
  simp [Sem.run_bind, Result.andThen]
theorem Upd.fresh {w a : World} (h : Upd (fun _ => False) w a) (p : Addr) (hp : w.heap.size ≤ p.block) (v : Value) : Upd (fun _ => False) w (a.setCell p v) :=
  h.setCell (fun h => absurd h (by omega)) v
theorem infoKind : (Try.prog.info? 81).map (fun i => (i.zero, i.size, i.bytes)) = some (some (.agg #[.slice none 0 0]), 1, 24) := by kernel_rfl

def OwnPost (w : World) (n0 n1 n2 n3 : Nat) (e : Ending) (w' : World) : Prop := ∃ a c, e = .returned (cfgV (.slice a 1 c) n0 n1 n2 n3) ∧ Upd (fun _ => False) w w'

set_option maxRecDepth 100000 in
set_option maxHeartbeats 1000000 in
theorem lay_own (v : Value) (n0 n1 n2 n3 : Nat) (w : World) (h : MatIn w v [[1]]) : Calls Try.prog 48 #[cfgV v n0 n1 n2 n3] w (OwnPost w n0 n1 n2 n3) := by
  unfold OwnPost cfgV
  obtain ⟨va, vc, hv⟩ := mat_shape h
  have hl1 : ([[1]] : List (List Int)).length = 1 := rfl
  rw [hl1] at hv
  subst hv
  obtain ⟨b, off, ra, rc, hix, hcc, hI⟩ := kinds_at h (k := 0) (by decide)
  have hI : IntsR w (.slice ra 1 rc) .i64 [1] := hI
  have hcc : ∀ w', Below w.heap.size w w' → w'.cell? ⟨b, off, none⟩ = some (.slice ra 1 rc) := hcc
  have hix : ∀ w', (Instr.indexAt 24 (.slice va 1 vc) (.int .i64 0)).run Try.prog w' = .ok (.pointer (some ⟨b, off, none⟩)) w' := hix
  obtain ⟨B, hB⟩ : ∃ B, B = w.heap.size := ⟨_, rfl⟩
  have hb0 := Blk.new w [.slice va 1 vc, .int .i64 n0, .int .i64 n1, .int .i64 n2, .int .i64 n3, .int .i64 1, .int .i64 0, .int .i64 40] 26
  have hb1 := Blk.new (w.alloc (.cells #[.slice va 1 vc, .int .i64 n0, .int .i64 n1, .int .i64 n2, .int .i64 n3, .int .i64 1, .int .i64 0, .int .i64 40] 26)) [.slice none 0 0, .int .i64 0, .int .i64 0, .int .i64 0, .int .i64 0, .int .i64 0, .int .i64 0, .int .i64 0] 26
  have hu0 : Upd (fun _ => False) w (w.alloc (.cells #[.slice va 1 vc, .int .i64 n0, .int .i64 n1, .int .i64 n2, .int .i64 n3, .int .i64 1, .int .i64 0, .int .i64 40] 26)) := (Upd.refl _ _).alloc _
  have hz0 : (w.alloc (.cells #[.slice va 1 vc, .int .i64 n0, .int .i64 n1, .int .i64 n2, .int .i64 n3, .int .i64 1, .int .i64 0, .int .i64 40] 26)).heap.size = w.heap.size + 1 := by simp
  rw [hz0] at hb1
  go_enter Try.func48, Try.ntmps48
  go_upto_block 0 with fail
  generalize w.alloc (.cells #[.slice va 1 vc, .int .i64 n0, .int .i64 n1, .int .i64 n2, .int .i64 n3, .int .i64 1, .int .i64 0, .int .i64 40] 26) = Wa at *
  have hb0 := Blk.alloc hb0 (.cells #[.slice none 0 0, .int .i64 0, .int .i64 0, .int .i64 0, .int .i64 0, .int .i64 0, .int .i64 0, .int .i64 0] 26)
  have hu1 : Upd (fun _ => False) w (Wa.alloc (.cells #[.slice none 0 0, .int .i64 0, .int .i64 0, .int .i64 0, .int .i64 0, .int .i64 0, .int .i64 0, .int .i64 0] 26)) := hu0.alloc _
  generalize Wa.alloc (.cells #[.slice none 0 0, .int .i64 0, .int .i64 0, .int .i64 0, .int .i64 0, .int .i64 0, .int .i64 0, .int .i64 0] 26) = W1 at *
  rw [← hB] at hb0 hb1 ⊢
  have hI1 := IntsR.upd hI hu1.none
  have hcell := hcc W1 hu1.none
  have hIa := IntsR.upd hI1 ((Upd.refl (fun _ => False) W1).alloc (.cells #[.slice ra 1 rc] 81)).none
  have hcl := clone_ints _ _ _ hIa (by decide)
  unfold CloneIPost at hcl
  have hx1 : ([1] : List Int).length = 1 := rfl
  rw [hx1] at hcl
  have Hhb0 := Lib.hid hb0; clear hb0
  have Hhb1 := Lib.hid hb1; clear hb1
  have Hhu1 := Lib.hid hu1; clear hu1
  have HhI := Lib.hid hI; clear hI
  have Hhcl := Lib.hid hcl; clear hcl
  have Hhcc := Lib.hid hcc; clear hcc
  have HhB := Lib.hid hB; clear hB
  clear hI1 hIa h hu0 hz0
  go_wp2_with fail
  go_loopw [9, 3] (fun i s wr => (i = .int .i64 0 ∧ s = .slice none 0 0 ∧ wr = W1) ∨ (i = .int .i64 1 ∧ (∃ a c, s = .slice a 1 c) ∧ Upd (fun _ => False) W1 wr)) (fun i _ _ => (1 - intOf i).toNat)
  case atStart => exact Or.inl ⟨rfl, rfl, rfl⟩
  case round =>
    rcases hrel with ⟨rfl, rfl, rfl⟩ | ⟨rfl, ⟨sa, sc, rfl⟩, hu⟩
    · go_wp2_with (first
        | (go_at_call 77; (with_reducible refine Hhcl.out.mono ?_); rintro e w2 ⟨ka, kc, rfl, ho, hu2⟩; have Hu2 := Lib.hid (((Upd.refl _ _).alloc _).trans hu2); have hcn := World.cell?_alloc_new w2 #[.slice ka 1 kc] 81 0; clear ho hu2)
        | (at_builtin; refine wpList_pushL rfl _ _ 24 81 rfl (.agg #[.slice none 0 0]) 24 Try.underlying24 infoKind rfl 0 _ _ _ rfl (World.ownsRow_nil _ 0 _ _) _ 1 (.slice ka 1 kc) rfl hcn rfl (by decide) (by decide) (Nat.zero_le _) ?_; intro g5 c5 w5 ho5 hg5 hl5; have Hu5 := Lib.hid ((Hu2.out.alloc _).grown hg5 (fun k e _ => by cases e)); clear ho5 hg5 hl5))
      go_roundw
      case rel => exact Or.inr ⟨rfl, ⟨_, _, rfl⟩, Hu5.out⟩
      case measure => simp [intOf]
    · have k0 := Hhb0.out.upd hu (fun x => x)
      have k1 := Hhb1.out.upd hu (fun x => x)
      have hfin : ∀ (l : List (Nat × Value)) (b' : Nat), b' = B ∨ b' = B + 1 → True := fun _ _ _ => trivial
      have d1 := k0.cell 1 rfl
      have d2 := k0.cell 2 rfl
      have d3 := k0.cell 3 rfl
      have d4 := k0.cell 4 rfl
      have d5 := k0.cell 5 rfl
      have d6 := k0.cell 6 rfl
      have d7 := k0.cell 7 rfl
      have d0 := k0.cell 0 rfl
      have f0 := k0.free 0
      have e0 := k1.cell 0 rfl
      have e1 := k1.cell 1 rfl
      have e2 := k1.cell 2 rfl
      have e3 := k1.cell 3 rfl
      have e4 := k1.cell 4 rfl
      have e5 := k1.cell 5 rfl
      have e6 := k1.cell 6 rfl
      have e7 := k1.cell 7 rfl
      have g0 := k1.free 0
      have g1 := k1.free 1
      have g2 := k1.free 2
      have g3 := k1.free 3
      have g4 := k1.free 4
      have g5 := k1.free 5
      have g6 := k1.free 6
      have g7 := k1.free 7
      have Hk0 := Lib.hid k0; clear k0
      have Hk1 := Lib.hid k1; clear k1
      have Hhu := Lib.hid hu; clear hu
      clear hcell hfin
      go_wp2_with fail
      have hge : w.heap.size ≤ B := by have := HhB.out; omega
      have hge1 : w.heap.size ≤ B + 1 := by omega
      refine bodyPost_ret (v := .agg #[.slice sa 1 sc, .int .i64 n0, .int .i64 n1, .int .i64 n2, .int .i64 n3, .int .i64 1, .int .i64 0, .int .i64 40]) ?_ rfl ⟨sa, sc, rfl, ?_⟩
      · rw [results_cell1 rfl]
        go_simp
      · exact ((((((((((Hhu1.out.trans Hhu.out).fresh ⟨B, 0, none⟩ hge _).fresh ⟨B + 1, 0, none⟩ hge1 _).fresh ⟨B + 1, 1, none⟩ hge1 _).fresh ⟨B + 1, 2, none⟩ hge1 _).fresh ⟨B + 1, 3, none⟩ hge1 _).fresh ⟨B + 1, 4, none⟩ hge1 _).fresh ⟨B + 1, 5, none⟩ hge1 _).fresh ⟨B + 1, 6, none⟩ hge1 _).fresh ⟨B + 1, 7, none⟩ hge1 _)

def LayPost (w : World) (n0 n1 n2 n3 : Nat) (e : Ending) (w' : World) : Prop :=
  ∃ L, e = .returned (.tuple #[.pointer (some ⟨L, 0, none⟩), .int .i64 0]) ∧ IsLay w' L n0 n1 n2 n3 ∧ w.heap.size ≤ L ∧ Upd (fun _ => False) w w'

set_option maxRecDepth 100000 in
set_option maxHeartbeats 1000000 in
theorem lay_New (v : Value) (n0 n1 n2 n3 : Nat) (h0 : n0 ≤ 40) (h1 : n1 ≤ 40) (h2 : n2 ≤ 40) (h3 : n3 ≤ 40) (hs : 0 < n0 + n1 + n2 + n3) (w : World) (h : MatIn w v [[1]]) :
    Calls Try.prog 14 #[cfgV v n0 n1 n2 n3] w (LayPost w n0 n1 n2 n3) := by
  unfold LayPost
  have hb0 := Blk.new w [v, .int .i64 n0, .int .i64 n1, .int .i64 n2, .int .i64 n3, .int .i64 1, .int .i64 0, .int .i64 40] 26
  have hu0 : Upd (fun _ => False) w (w.alloc (.cells #[v, .int .i64 n0, .int .i64 n1, .int .i64 n2, .int .i64 n3, .int .i64 1, .int .i64 0, .int .i64 40] 26)) := (Upd.refl _ _).alloc _
  obtain ⟨W1, hW1⟩ : ∃ W1, W1 = w.alloc (.cells #[v, .int .i64 n0, .int .i64 n1, .int .i64 n2, .int .i64 n3, .int .i64 1, .int .i64 0, .int .i64 40] 26) := ⟨_, rfl⟩
  rw [← hW1] at hb0 hu0
  have hm := lay_May v n0 n1 n2 n3 h0 h1 h2 h3 hs W1 (h.upd hu0.none)
  unfold RetK at hm
  have ho := fun w' (u : Upd (fun _ => False) w w') => lay_own v n0 n1 n2 n3 w' (h.upd u.none)
  have hp := fun a c w' => lay_place a c n0 n1 n2 n3 h0 h1 h2 h3 w'
  unfold OwnPost at ho
  unfold PlacePost at hp
  unfold cfgV at ho hp hm ⊢
  obtain ⟨va, vc, hv⟩ := mat_shape h
  have hl1 : ([[1]] : List (List Int)).length = 1 := rfl
  rw [hl1] at hv
  subst hv
  have Hhm := Lib.hid hm; clear hm
  have Hho := Lib.hid ho; clear ho
  have Hhp := Lib.hid hp; clear hp
  have Hhb0 := Lib.hid hb0; clear hb0
  have Hhu0 := Lib.hid hu0; clear hu0
  clear h
  go_enter Try.func14, Try.ntmps14
  go_wp2_with fail
  rw [← hW1]
  refine Hhm.out.mono ?_
  rintro e w2 ⟨rfl, hu2⟩
  have k0 := Hhb0.out.upd hu2 (fun x => x)
  have d0 := k0.cell 0 rfl
  have d1 := k0.cell 1 rfl
  have d2 := k0.cell 2 rfl
  have d3 := k0.cell 3 rfl
  have d4 := k0.cell 4 rfl
  have d5 := k0.cell 5 rfl
  have d6 := k0.cell 6 rfl
  have d7 := k0.cell 7 rfl
  have Hu2 := Lib.hid (Hhu0.out.trans hu2)
  have ho2 := Hho.out w2 Hu2.out
  clear hW1 k0 hu2
  have Hho2 := Lib.hid ho2; clear ho2
  go_wp2_with (first | (go_at_call 48; (with_reducible refine Hho2.out.mono ?_); rintro e w3 ⟨oa, oc, rfl, hu3⟩; have hp3 := Hhp.out oa oc w3; have Hu3 := Lib.hid (Hu2.out.trans hu3); clear hu3) | (go_at_call 47; (with_reducible refine hp3.mono ?_); rintro e w4 ⟨L, rfl, hL, hLz, hu4⟩; have HL := Lib.hid hL; have Hu4 := Lib.hid hu4; clear hL hu4))
  go_ret2
  exact ⟨L, rfl, HL.out, Nat.le_trans Hu3.out.size hLz, Hu3.out.trans Hu4.out⟩
end Go.Proofs.Ythaicpjgmplgcaa
