/- With a field more at its end a kind has a word more, or two, and its other fields stand where they stood. No condition. -/
import Derived.Test.YtgnmcldedifjaaaRefParse
import Derived.Test.YtgnmcldedifjaaaGrowP
import Derived.SizedLaws
import Derived.Deep.RegionHeld3
import Derived.Deep.DrawnRows
namespace Go.Proofs.Ytgnmcldedifjaaa.kindGrows
open Go.ChangeShapes Go.WideShapes Go.ChangeAt Go.RowKit
set_option linter.unusedVariables false
attribute [local go_sem ↓] Go.wp_at_zero Go.wp_at_succ

set_option maxRecDepth 100000 in
set_option maxHeartbeats 2000000 in
theorem walk {W : World} (u : Value) (f : List Int) (hx : IntsIn W u .i64 f ∧ f.length * 8 ≤ 140737488351232) (i : Int) (w0 : (Lit.int .i64 i).wf = true) :
    Calls Try.prog 8 #[u, .int .i64 i] W (LawPost W) := by
  have hX := hx.1.1
  have hX' := Lib.hid hX
  obtain ⟨a, ca, rfl, -, -, hsome⟩ := hX
  have hA := Lib.hid (fun (w' : World) (u : Upd (fun _ => False) W w') => awake8 W w' u)
  have hu0 : Upd (fun _ => False) W W := Upd.refl _ _
  obtain ⟨t, ht, ht3⟩ : ∃ t : Nat, wrap64 ((IntKind.u64.wrap i).tmod 3) = (t : Int) ∧ t < 3 := by
    obtain ⟨y, hy⟩ : ∃ y : Nat, IntKind.u64.wrap i = y := ⟨(IntKind.u64.wrap i).toNat, by have := bits_lo_u64' i; omega⟩
    refine ⟨y % 3, ?_, Nat.mod_lt _ (by decide)⟩
    rw [hy, show ((y : Int).tmod 3) = ((y % 3 : Nat) : Int) from by rw [Int.tmod_eq_emod_of_nonneg (by omega)]; omega]
    have := Nat.mod_lt y (show 0 < 3 by decide)
    unfold wrap64
    omega
  have ht4 : (t : Int) < 3 := by omega
  clear hx w0
  by_cases h40 : 40 < f.length
  · have c1 : (40 : Int) < f.length := by omega
    go_enter Try.func8, Try.ntmps8
    go_wp2_with (go_at_call 21; (first | (with_reducible refine (hA.out _ (by assumption)).mono ?_)); rintro e w2 ⟨rfl, hu⟩)
    go_ret
    exact ⟨rfl, Upd.none (by assumption)⟩
  · have c1 : ¬ (40 : Int) < f.length := by omega
    have cl : f.length ≤ 1099511627776 := by omega
    by_cases hf : f.length = 0
    · obtain rfl : f = [] := List.length_eq_zero_iff.1 hf
      have hX0 := hX'.out
      simp only [List.length_nil] at hX0
      have hX0 := Lib.hid hX0
      clear hX' hsome hf cl h40 c1
      cases a with
      | none =>
        go_enter Try.func8, Try.ntmps8
        go_wp2_with (at_builtin; refine wpList_push rfl _ _ 36 3 rfl (.int .i64 0) 8 Try.underlying36 infoInt rfl W.heap.size (.slice none 0 0) 0 [] rfl ((World.ownsRow_nil _ _ _ _).alloc _) W.heap.size 1 (.int .i64 ((t : Int) + 1)) rfl (World.cell?_alloc_new W #[.int .i64 ((t : Int) + 1)] _ 0) rfl (by decide) (by decide) (Nat.le_refl _) ?_; intro a2 c2 w2 ho2 hg2)
        have u2 : Upd (fun _ => False) W w2 := ((Upd.refl (fun _ => False) W).alloc (.cells #[.int .i64 ((t : Int) + 1)] 3)).grown hg2 (fun k e => by simp [Value.ownBlock] at e)
        have hY : IntsR w2 (.slice a2 1 c2) .i64 [(t : Int) + 1] := ownsRow_intsR (base := W.heap.size) (E := 3) (xs := [(t : Int) + 1]) ho2
        obtain ⟨hw, hca, hcb⟩ := two_kinds w2 (.slice none 0 ca) (.slice a2 1 c2) 38
        have hX := ints_upd (ints_upd hX0.out u2) hw
        have hY := ints_upd hY hw
        have hw := u2.trans hw
        clear u2 hu0 hA hg2 hX0 ho2
        generalize (w2.alloc (.cells #[(.slice none 0 ca)] 38)).alloc (.cells #[.slice a2 1 c2] 38) = W1 at *
        generalize w2.heap.size = A at *
        generalize hB : A + 1 = B at *
        clear hB
        have hMa := Lib.hid (fun (w' : World) (h : Upd (fun _ => False) W1 w') => show _ → _ → _ from fun ha hb => k2 (A := ⟨A, 0, none⟩) (B := ⟨B, 0, none⟩) (va := (.slice none 0 ca)) (vb := .slice a2 1 c2) (kind_May _ [] w' (ints_upd hX h)) h ha hb)
        have hMb := Lib.hid (fun (w' : World) (h : Upd (fun _ => False) W1 w') => show _ → _ → _ from fun ha hb => k2 (A := ⟨A, 0, none⟩) (B := ⟨B, 0, none⟩) (va := (.slice none 0 ca)) (vb := .slice a2 1 c2) (kind_May _ [(t : Int) + 1] w' (ints_upd hY h)) h ha hb)
        have hA2 := Lib.hid (fun (w' : World) (h : Upd (fun _ => False) W1 w') => show _ → _ → _ from fun ha hb => k2 (A := ⟨A, 0, none⟩) (B := ⟨B, 0, none⟩) (va := (.slice none 0 ca)) (vb := .slice a2 1 c2) (awake8 w' w' (Upd.refl _ _)) h ha hb)
        have hu1 : Upd (fun _ => False) W1 W1 := Upd.refl _ _
        rw [show MayK [] = false from by decide] at hMa
        generalize MayK [(t : Int) + 1] = m2 at *
        clear hX hY
        refine (hMa.out _ hu1 hca hcb).mono ?_
        rintro e w3 ⟨rfl, hu3, hca3, hcb3⟩
        clear hca hcb
        cases m2 <;>
        · go_wp2_with (first
        | (go_at_call 22; (with_reducible refine (hMa.out _ (by assumption) (by assumption) (by assumption)).mono ?_); rintro e w2 ⟨rfl, hu, hca, hcb⟩)
        | (go_at_call 22; (with_reducible refine (hMb.out _ (by assumption) (by assumption) (by assumption)).mono ?_); rintro e w2 ⟨rfl, hu, hca, hcb⟩)
        | (go_at_call 21; (with_reducible refine (hA2.out _ (by assumption) (by assumption) (by assumption)).mono ?_); rintro e w2 ⟨rfl, hu, hca, hcb⟩))
          go_ret
          exact ⟨rfl, Upd.none (hw.trans (by assumption))⟩
      | some ad =>
        go_enter Try.func8, Try.ntmps8
        go_wp2_with (first
          | (at_builtin; refine wpList_appendInts rfl _ _ 36 3 rfl (.int .i64 0) 8 Try.underlying36 infoInt rfl rfl _ _ _ .i64 [] rfl hX0.out (by decide) (by decide) ?_; intro a1 c1' w1 ho1 hg1; have Ho1 := Lib.hid ho1; clear ho1)
          | (at_builtin; refine wpList_push rfl _ _ 36 3 rfl (.int .i64 0) 8 Try.underlying36 infoInt rfl W.heap.size _ _ _ rfl (Ho1.out.alloc _) w1.heap.size 1 (.int .i64 ((t : Int) + 1)) rfl (World.cell?_alloc_new w1 #[.int .i64 ((t : Int) + 1)] _ 0) rfl (by decide) (by decide) hg1.size ?_; intro a2 c2 w2 ho2 hg2; have Ho2 := Lib.hid ho2; clear ho2))
        have u2 : Upd (fun _ => False) W w2 := ((((Upd.refl (fun _ => False) W).grown hg1 (fun k e => by simp at e)).alloc (.cells #[.int .i64 ((t : Int) + 1)] 3)).grown hg2 (fun k e hk => absurd (Ho1.out.lt k e).1 (by omega)))
        have hY : IntsR w2 (.slice a2 1 c2) .i64 [(t : Int) + 1] := ownsRow_intsR (base := W.heap.size) (E := 3) (xs := [(t : Int) + 1]) Ho2.out
        obtain ⟨hw, hca, hcb⟩ := two_kinds w2 (.slice (some ad) 0 ca) (.slice a2 1 c2) 38
        have hX := ints_upd (ints_upd hX0.out u2) hw
        have hY := ints_upd hY hw
        have hw := u2.trans hw
        clear u2 hu0 hA hg2 hX0 Ho1 Ho2 hg1
        generalize (w2.alloc (.cells #[(.slice (some ad) 0 ca)] 38)).alloc (.cells #[.slice a2 1 c2] 38) = W1 at *
        generalize w2.heap.size = A at *
        generalize hB : A + 1 = B at *
        clear hB
        have hMa := Lib.hid (fun (w' : World) (h : Upd (fun _ => False) W1 w') => show _ → _ → _ from fun ha hb => k2 (A := ⟨A, 0, none⟩) (B := ⟨B, 0, none⟩) (va := (.slice (some ad) 0 ca)) (vb := .slice a2 1 c2) (kind_May _ [] w' (ints_upd hX h)) h ha hb)
        have hMb := Lib.hid (fun (w' : World) (h : Upd (fun _ => False) W1 w') => show _ → _ → _ from fun ha hb => k2 (A := ⟨A, 0, none⟩) (B := ⟨B, 0, none⟩) (va := (.slice (some ad) 0 ca)) (vb := .slice a2 1 c2) (kind_May _ [(t : Int) + 1] w' (ints_upd hY h)) h ha hb)
        have hA2 := Lib.hid (fun (w' : World) (h : Upd (fun _ => False) W1 w') => show _ → _ → _ from fun ha hb => k2 (A := ⟨A, 0, none⟩) (B := ⟨B, 0, none⟩) (va := (.slice (some ad) 0 ca)) (vb := .slice a2 1 c2) (awake8 w' w' (Upd.refl _ _)) h ha hb)
        have hu1 : Upd (fun _ => False) W1 W1 := Upd.refl _ _
        rw [show MayK [] = false from by decide] at hMa
        generalize MayK [(t : Int) + 1] = m2 at *
        clear hX hY
        refine (hMa.out _ hu1 hca hcb).mono ?_
        rintro e w3 ⟨rfl, hu3, hca3, hcb3⟩
        clear hca hcb
        cases m2 <;>
        · go_wp2_with (first
        | (go_at_call 22; (with_reducible refine (hMa.out _ (by assumption) (by assumption) (by assumption)).mono ?_); rintro e w2 ⟨rfl, hu, hca, hcb⟩)
        | (go_at_call 22; (with_reducible refine (hMb.out _ (by assumption) (by assumption) (by assumption)).mono ?_); rintro e w2 ⟨rfl, hu, hca, hcb⟩)
        | (go_at_call 21; (with_reducible refine (hA2.out _ (by assumption) (by assumption) (by assumption)).mono ?_); rintro e w2 ⟨rfl, hu, hca, hcb⟩))
          go_ret
          exact ⟨rfl, Upd.none (hw.trans (by assumption))⟩
    · obtain ⟨b0, off0, rfl, -⟩ := hsome (by omega)
      generalize (⟨b0, off0, none⟩ : Addr) = ad at *
      go_enter Try.func8, Try.ntmps8
      go_wp2_with (first
        | (at_builtin; refine wpList_appendInts rfl _ _ 36 3 rfl (.int .i64 0) 8 Try.underlying36 infoInt rfl rfl _ _ _ .i64 f rfl hX'.out cl (by decide) ?_; intro a1 c1' w1 ho1 hg1; have Ho1 := Lib.hid ho1; clear ho1)
        | (at_builtin; refine wpList_push rfl _ _ 36 3 rfl (.int .i64 0) 8 Try.underlying36 infoInt rfl W.heap.size _ _ _ rfl (Ho1.out.alloc _) w1.heap.size 1 (.int .i64 ((t : Int) + 1)) rfl (World.cell?_alloc_new w1 #[.int .i64 ((t : Int) + 1)] _ 0) rfl cl (by decide) hg1.size ?_; intro a2 c2 w2 ho2 hg2; have Ho2 := Lib.hid ho2; clear ho2; have c3 := Lib.hid (two_kinds w2 (.slice (some ad) f.length ca) (.slice a2 (f.length + 1) c2) 38)))
      have u1 : Upd (fun _ => False) W w1 := (Upd.refl _ _).grown hg1 (fun k e => by simp at e)
      have u2 : Upd (fun _ => False) W w2 := (u1.alloc (.cells #[.int .i64 ((t : Int) + 1)] 3)).grown hg2 (fun k e hk => absurd (Ho1.out.lt k e).1 (by omega))
      have hY : IntsR w2 (.slice a2 (f.length + 1) c2) .i64 (f ++ [(t : Int) + 1]) := ownsRow_intsR (base := W.heap.size) (E := 3) (by
        rw [List.length_append, List.map_append]
        exact Ho2.out)
      obtain ⟨hw, hca, hcb⟩ := c3.out
      have hX := ints_upd (ints_upd hX'.out u2) hw
      have hY := ints_upd hY hw
      have hw := u2.trans hw
      clear c3 hX' Ho1 Ho2 u1 u2 hu0 hA hg1 hg2
      generalize (w2.alloc (.cells #[(.slice (some ad) f.length ca)] 38)).alloc (.cells #[(.slice a2 (f.length + 1) c2)] 38) = W1 at *
      generalize w2.heap.size = A at *
      generalize hB : A + 1 = B at *
      clear hB hsome
      have hMa := Lib.hid (fun (w' : World) (h : Upd (fun _ => False) W1 w') => show _ → _ → _ from fun ha hb => k2 (A := ⟨A, 0, none⟩) (B := ⟨B, 0, none⟩) (va := (.slice (some ad) f.length ca)) (vb := (.slice a2 (f.length + 1) c2)) (kind_May _ f w' (ints_upd hX h)) h ha hb)
      have hMb := Lib.hid (fun (w' : World) (h : Upd (fun _ => False) W1 w') => show _ → _ → _ from fun ha hb => k2 (A := ⟨A, 0, none⟩) (B := ⟨B, 0, none⟩) (va := (.slice (some ad) f.length ca)) (vb := (.slice a2 (f.length + 1) c2)) (kind_May _ (f ++ [(t : Int) + 1]) w' (ints_upd hY h)) h ha hb)
      have hA2 := Lib.hid (fun (w' : World) (h : Upd (fun _ => False) W1 w') => show _ → _ → _ from fun ha hb => k2 (A := ⟨A, 0, none⟩) (B := ⟨B, 0, none⟩) (va := (.slice (some ad) f.length ca)) (vb := (.slice a2 (f.length + 1) c2)) (awake8 w' w' (Upd.refl _ _)) h ha hb)
      have hu1 : Upd (fun _ => False) W1 W1 := Upd.refl _ _
      have hgm := grow_may f ((t : Int) + 1) hf
      generalize hm1 : MayK f = m1 at *
      generalize hm2 : MayK (f ++ [(t : Int) + 1]) = m2 at *
      have Hm1 := Lib.hid hm1
      have Hm2 := Lib.hid hm2
      clear hm1 hm2
      refine (hMa.out _ hu1 hca hcb).mono ?_
      rintro e w3 ⟨rfl, hu3, hca3, hcb3⟩
      clear hca hcb
      have Hgm := Lib.hid hgm
      clear hgm
      cases m2
      · cases m1 <;>
        · go_wp2_with (first
        | (go_at_call 22; (with_reducible refine (hMa.out _ (by assumption) (by assumption) (by assumption)).mono ?_); rintro e w2 ⟨rfl, hu, hca, hcb⟩)
        | (go_at_call 22; (with_reducible refine (hMb.out _ (by assumption) (by assumption) (by assumption)).mono ?_); rintro e w2 ⟨rfl, hu, hca, hcb⟩)
        | (go_at_call 21; (with_reducible refine (hA2.out _ (by assumption) (by assumption) (by assumption)).mono ?_); rintro e w2 ⟨rfl, hu, hca, hcb⟩))
          go_ret
          exact ⟨rfl, Upd.none (hw.trans (by assumption))⟩
      · obtain rfl : m1 = true := Hgm.out rfl
        have h1 := Hm1.out
        have h2 := Hm2.out
        have hWa := Lib.hid (fun (w' : World) (h : Upd (fun _ => False) W1 w') => show _ → _ → _ from fun ha hb => k2 (A := ⟨A, 0, none⟩) (B := ⟨B, 0, none⟩) (va := (.slice (some ad) f.length ca)) (vb := (.slice a2 (f.length + 1) c2)) (kind_Words _ f w' (ints_upd hX h)) h ha hb)
        have hWb := Lib.hid (fun (w' : World) (h : Upd (fun _ => False) W1 w') => show _ → _ → _ from fun ha hb => k2 (A := ⟨A, 0, none⟩) (B := ⟨B, 0, none⟩) (va := (.slice (some ad) f.length ca)) (vb := (.slice a2 (f.length + 1) c2)) (kind_Words _ (f ++ [(t : Int) + 1]) w' (ints_upd hY h)) h ha hb)
        have hOl := Lib.hid (fun (w' : World) (h : Upd (fun _ => False) W1 w') => show _ → _ → _ from fun ha hb => k2 (A := ⟨A, 0, none⟩) (B := ⟨B, 0, none⟩) (va := (.slice (some ad) f.length ca)) (vb := (.slice a2 (f.length + 1) c2)) (kind_Offset _ (f ++ [(t : Int) + 1]) (f.length : Int) w' (ints_upd hY h)) h ha hb)
        have hOa := Lib.hid (fun (j : Int) (w' : World) (h : Upd (fun _ => False) W1 w') => show _ → _ → _ from fun ha hb => k2 (A := ⟨A, 0, none⟩) (B := ⟨B, 0, none⟩) (va := (.slice (some ad) f.length ca)) (vb := (.slice a2 (f.length + 1) c2)) (kind_Offset _ f j w' (ints_upd hX h)) h ha hb)
        have hOb := Lib.hid (fun (j : Int) (w' : World) (h : Upd (fun _ => False) W1 w') => show _ → _ → _ from fun ha hb => k2 (A := ⟨A, 0, none⟩) (B := ⟨B, 0, none⟩) (va := (.slice (some ad) f.length ca)) (vb := (.slice a2 (f.length + 1) c2)) (kind_Offset _ (f ++ [(t : Int) + 1]) j w' (ints_upd hY h)) h ha hb)
        have hDa := Lib.hid (fun (w' : World) (h : Upd (fun _ => False) W1 w') => show _ → _ → _ from fun ha hb => k2 (A := ⟨A, 0, none⟩) (B := ⟨B, 0, none⟩) (va := (.slice (some ad) f.length ca)) (vb := (.slice a2 (f.length + 1) c2)) (kind_Word _ f w' (ints_upd hX h)) h ha hb)
        have hDb := Lib.hid (fun (w' : World) (h : Upd (fun _ => False) W1 w') => show _ → _ → _ from fun ha hb => k2 (A := ⟨A, 0, none⟩) (B := ⟨B, 0, none⟩) (va := (.slice (some ad) f.length ca)) (vb := (.slice a2 (f.length + 1) c2)) (kind_Word _ (f ++ [(t : Int) + 1]) w' (ints_upd hY h)) h ha hb)
        have hRa := Lib.hid (fun (w' : World) (h : Upd (fun _ => False) W1 w') => show w'.cell? ⟨A, 0, none⟩ = some (.slice (some ad) f.length ca) → w'.cell? ⟨B, 0, none⟩ = some (.slice a2 (f.length + 1) c2) → Calls Try.prog 26 #[.agg #[(.slice (some ad) f.length ca)]] w' (fun e w2 => ∃ a' c', e = .returned (.slice a' (refsK f).length c') ∧ Upd (fun _ => False) W1 w2 ∧ w2.cell? ⟨A, 0, none⟩ = some (.slice (some ad) f.length ca) ∧ w2.cell? ⟨B, 0, none⟩ = some (.slice a2 (f.length + 1) c2)) from fun ha hb => (kind_Refs (.slice (some ad) f.length ca) f w' (ints_upd hX h) (by first | omega | (simp; omega))).mono fun e w2 ⟨v, he, ho, u⟩ => by obtain ⟨a', c', rfl⟩ := ownsRow_shape ho; exact ⟨a', c', he, h.trans u, (u.none.cell (World.block_lt_of_cell? w' _ ha)).trans ha, (u.none.cell (World.block_lt_of_cell? w' _ hb)).trans hb⟩)
        have hRb := Lib.hid (fun (w' : World) (h : Upd (fun _ => False) W1 w') => show w'.cell? ⟨A, 0, none⟩ = some (.slice (some ad) f.length ca) → w'.cell? ⟨B, 0, none⟩ = some (.slice a2 (f.length + 1) c2) → Calls Try.prog 26 #[.agg #[(.slice a2 (f.length + 1) c2)]] w' (fun e w2 => ∃ a' c', e = .returned (.slice a' (refsK (f ++ [(t : Int) + 1])).length c') ∧ Upd (fun _ => False) W1 w2 ∧ w2.cell? ⟨A, 0, none⟩ = some (.slice (some ad) f.length ca) ∧ w2.cell? ⟨B, 0, none⟩ = some (.slice a2 (f.length + 1) c2)) from fun ha hb => (kind_Refs (.slice a2 (f.length + 1) c2) (f ++ [(t : Int) + 1]) w' (ints_upd hY h) (by first | omega | (simp; omega))).mono fun e w2 ⟨v, he, ho, u⟩ => by obtain ⟨a', c', rfl⟩ := ownsRow_shape ho; exact ⟨a', c', he, h.trans u, (u.none.cell (World.block_lt_of_cell? w' _ ha)).trans ha, (u.none.cell (World.block_lt_of_cell? w' _ hb)).trans hb⟩)
        have hgo := Lib.hid (fun (i : Nat) (hi : i < f.length) => grow_off f ((t : Int) + 1) h1 h2 i hi)
        rw [grow_off_last f _ h1 h2] at hOl
        have hdn : ((wordK f : Int) != (wordK (f ++ [(t : Int) + 1]) : Int)) = true := by
          have := grow_word f _ h1 h2
          simp
          omega
        have hrn : ((refsK f).length : Int) ≤ ((refsK (f ++ [(t : Int) + 1])).length : Int) := by
          have := grow_refs f ((t : Int) + 1)
          omega
        have hkl := kW_le f
        have hkl2 : (kW f : Int) ≤ 31 := by omega
        have hkw := grow_words f _ h1 h2
        generalize (wordK f : Int) = x at *
        generalize (wordK (f ++ [(t : Int) + 1]) : Int) = y at *
        generalize (refsK f).length = la at *
        generalize (refsK (f ++ [(t : Int) + 1])).length = lb at *
        clear h1 h2 hX hY Hm1 Hm2 Hgm
        have hfin : ∀ w', Upd (fun _ => False) W1 w' → w'.cell? ⟨A, 0, none⟩ = some (.slice (some ad) f.length ca) → w'.cell? ⟨B, 0, none⟩ = some (.slice a2 (f.length + 1) c2) → True := fun _ _ _ _ => trivial
        clear hfin
        by_cases h1 : t = 1
        · have h1' : ((t : Int) + 1 == 2) = true := by simp; omega
          have hkw' : ((kW (f ++ [(t : Int) + 1]) : Nat) : Int) = (kW f : Int) + 2 := by
            rw [hkw]
            have : fw ((t : Int) + 1) = 2 := by
              rw [h1]; decide
            omega
          rw [hkw'] at hWb
          clear hkw hkw' hkl h1
          generalize kW f = q at *
          have w1 : IntKind.i64.wrap ((q : Int) + 2) = (q : Int) + 2 := by rw [IntKind.wrap_i64]; omega
          go_wp2_with (first
        | (go_at_call 22; (with_reducible refine (hMa.out _ (by assumption) (by assumption) (by assumption)).mono ?_); rintro e w2 ⟨rfl, hu, hca, hcb⟩)
        | (go_at_call 22; (with_reducible refine (hMb.out _ (by assumption) (by assumption) (by assumption)).mono ?_); rintro e w2 ⟨rfl, hu, hca, hcb⟩)
        | (go_at_call 21; (with_reducible refine (hA2.out _ (by assumption) (by assumption) (by assumption)).mono ?_); rintro e w2 ⟨rfl, hu, hca, hcb⟩))
          refine wp_hide (fun Q' hQ' => ?_)
          go_region_held3 (fun w' => Upd (fun _ => False) W1 w' ∧ w'.cell? ⟨A, 0, none⟩ = some (.slice (some ad) f.length ca) ∧ w'.cell? ⟨B, 0, none⟩ = some (.slice a2 (f.length + 1) c2))
            (((try go_split_ands); exact ⟨by first | assumption | exact Upd.drew (by assumption), by assumption, by assumption⟩))
            (((try go_split_ands); first
            | (go_at_call 23; (with_reducible refine (hWb.out _ (by assumption) (by assumption) (by assumption)).mono ?_); rintro e w2 ⟨rfl, hu, hca, hcb⟩)
            | (go_at_call 23; (with_reducible refine (hWa.out _ (by assumption) (by assumption) (by assumption)).mono ?_); rintro e w2 ⟨rfl, hu, hca, hcb⟩)
            | (go_at_call 24; (with_reducible refine (hOl.out _ (by assumption) (by assumption) (by assumption)).mono ?_); rintro e w2 ⟨rfl, hu, hca, hcb⟩)))
          rw [hQ'.out]
          go_wp2
          have hv4 : Upd (fun _ => False) W1 w2 := by assumption
          have hva4 : w2.cell? ⟨A, 0, none⟩ = some (.slice (some ad) f.length ca) := by assumption
          have hvb4 : w2.cell? ⟨B, 0, none⟩ = some (.slice a2 (f.length + 1) c2) := by assumption
          go_loopw [70] (fun i wr => ∃ k : Nat, k ≤ f.length ∧ i = .int .i64 k ∧ Upd (fun _ => False) W1 wr ∧ wr.cell? ⟨A, 0, none⟩ = some (.slice (some ad) f.length ca) ∧ wr.cell? ⟨B, 0, none⟩ = some (.slice a2 (f.length + 1) c2)) (fun i _ => (f.length - intOf i).toNat)
          case atStart => exact ⟨0, Nat.zero_le _, rfl, hv4, hva4, hvb4⟩
          case round =>
            obtain ⟨k, hk, rfl, hu5, hca5, hcb5⟩ := hrel
            by_cases hkl : k = f.length
            · have d1 : ¬ ((k : Int) < f.length) := by omega
              go_wp2
              refine wp_hide (fun Q' hQ' => ?_)
              go_region_held3 (fun w' => Upd (fun _ => False) W1 w' ∧ w'.cell? ⟨A, 0, none⟩ = some (.slice (some ad) f.length ca) ∧ w'.cell? ⟨B, 0, none⟩ = some (.slice a2 (f.length + 1) c2))
                (((try go_split_ands); exact ⟨by first | assumption | exact Upd.drew (by assumption), by assumption, by assumption⟩))
                (((try go_split_ands); first
                | (go_at_call 25; (with_reducible refine (hDa.out _ (by assumption) (by assumption) (by assumption)).mono ?_); rintro e w2 ⟨rfl, hu, hca, hcb⟩)
                | (go_at_call 25; (with_reducible refine (hDb.out _ (by assumption) (by assumption) (by assumption)).mono ?_); rintro e w2 ⟨rfl, hu, hca, hcb⟩)
                | (go_at_call 26; (with_reducible refine (hRb.out _ (by assumption) (by assumption) (by assumption)).mono ?_); rintro e w2 ⟨ar, cr, rfl, hu, hca, hcb⟩)
                | (go_at_call 26; (with_reducible refine (hRa.out _ (by assumption) (by assumption) (by assumption)).mono ?_); rintro e w2 ⟨ar, cr, rfl, hu, hca, hcb⟩)
                | (go_at_call 21; (with_reducible refine (hA2.out _ (by assumption) (by assumption) (by assumption)).mono ?_); rintro e w2 ⟨rfl, hu, hca, hcb⟩)))
              rw [hQ'.out]
              go_wp2
              go_ret
              exact ⟨rfl, Upd.none (hw.trans (by assumption))⟩
            · have d1 : (k : Int) < f.length := by omega
              have hOak := Lib.hid (hOa.out (k : Int))
              have hObk := hOb.out (k : Int)
              rw [hgo.out k (by omega)] at hObk
              have HObk := Lib.hid hObk
              clear hObk hkl
              generalize offK f (k : Int) = z at *
              go_wp2
              refine wp_hide (fun Q' hQ' => ?_)
              go_region_held3 (fun w' => Upd (fun _ => False) W1 w' ∧ w'.cell? ⟨A, 0, none⟩ = some (.slice (some ad) f.length ca) ∧ w'.cell? ⟨B, 0, none⟩ = some (.slice a2 (f.length + 1) c2))
                (((try go_split_ands); exact ⟨by first | assumption | exact Upd.drew (by assumption), by assumption, by assumption⟩))
                (((try go_split_ands); first
                | (go_at_call 24; (with_reducible refine (hOak.out _ (by assumption) (by assumption) (by assumption)).mono ?_); rintro e w2 ⟨rfl, hu, hca, hcb⟩)
                | (go_at_call 24; (with_reducible refine (HObk.out _ (by assumption) (by assumption) (by assumption)).mono ?_); rintro e w2 ⟨rfl, hu, hca, hcb⟩)))
              rw [hQ'.out]
              go_wp2
              go_roundw
              case rel => exact ⟨k + 1, by omega, by go_num, by assumption, by assumption, by assumption⟩
              case measure => simp [intOf]; omega
        · have h1' : ((t : Int) + 1 == 2) = false := by simp; omega
          have hkw' : ((kW (f ++ [(t : Int) + 1]) : Nat) : Int) = (kW f : Int) + 1 := by
            rw [hkw]
            have : fw ((t : Int) + 1) = 1 := by
              have : t = 0 ∨ t = 2 := by omega
              rcases this with rfl | rfl <;> decide
            omega
          rw [hkw'] at hWb
          clear hkw hkw' hkl h1
          generalize kW f = q at *
          have w1 : IntKind.i64.wrap ((q : Int) + 1) = (q : Int) + 1 := by rw [IntKind.wrap_i64]; omega
          go_wp2_with (first
        | (go_at_call 22; (with_reducible refine (hMa.out _ (by assumption) (by assumption) (by assumption)).mono ?_); rintro e w2 ⟨rfl, hu, hca, hcb⟩)
        | (go_at_call 22; (with_reducible refine (hMb.out _ (by assumption) (by assumption) (by assumption)).mono ?_); rintro e w2 ⟨rfl, hu, hca, hcb⟩)
        | (go_at_call 21; (with_reducible refine (hA2.out _ (by assumption) (by assumption) (by assumption)).mono ?_); rintro e w2 ⟨rfl, hu, hca, hcb⟩))
          refine wp_hide (fun Q' hQ' => ?_)
          go_region_held3 (fun w' => Upd (fun _ => False) W1 w' ∧ w'.cell? ⟨A, 0, none⟩ = some (.slice (some ad) f.length ca) ∧ w'.cell? ⟨B, 0, none⟩ = some (.slice a2 (f.length + 1) c2))
            (((try go_split_ands); exact ⟨by first | assumption | exact Upd.drew (by assumption), by assumption, by assumption⟩))
            (((try go_split_ands); first
            | (go_at_call 23; (with_reducible refine (hWb.out _ (by assumption) (by assumption) (by assumption)).mono ?_); rintro e w2 ⟨rfl, hu, hca, hcb⟩)
            | (go_at_call 23; (with_reducible refine (hWa.out _ (by assumption) (by assumption) (by assumption)).mono ?_); rintro e w2 ⟨rfl, hu, hca, hcb⟩)
            | (go_at_call 24; (with_reducible refine (hOl.out _ (by assumption) (by assumption) (by assumption)).mono ?_); rintro e w2 ⟨rfl, hu, hca, hcb⟩)))
          rw [hQ'.out]
          go_wp2
          have hv4 : Upd (fun _ => False) W1 w2 := by assumption
          have hva4 : w2.cell? ⟨A, 0, none⟩ = some (.slice (some ad) f.length ca) := by assumption
          have hvb4 : w2.cell? ⟨B, 0, none⟩ = some (.slice a2 (f.length + 1) c2) := by assumption
          go_loopw [70] (fun i wr => ∃ k : Nat, k ≤ f.length ∧ i = .int .i64 k ∧ Upd (fun _ => False) W1 wr ∧ wr.cell? ⟨A, 0, none⟩ = some (.slice (some ad) f.length ca) ∧ wr.cell? ⟨B, 0, none⟩ = some (.slice a2 (f.length + 1) c2)) (fun i _ => (f.length - intOf i).toNat)
          case atStart => exact ⟨0, Nat.zero_le _, rfl, hv4, hva4, hvb4⟩
          case round =>
            obtain ⟨k, hk, rfl, hu5, hca5, hcb5⟩ := hrel
            by_cases hkl : k = f.length
            · have d1 : ¬ ((k : Int) < f.length) := by omega
              go_wp2
              refine wp_hide (fun Q' hQ' => ?_)
              go_region_held3 (fun w' => Upd (fun _ => False) W1 w' ∧ w'.cell? ⟨A, 0, none⟩ = some (.slice (some ad) f.length ca) ∧ w'.cell? ⟨B, 0, none⟩ = some (.slice a2 (f.length + 1) c2))
                (((try go_split_ands); exact ⟨by first | assumption | exact Upd.drew (by assumption), by assumption, by assumption⟩))
                (((try go_split_ands); first
                | (go_at_call 25; (with_reducible refine (hDa.out _ (by assumption) (by assumption) (by assumption)).mono ?_); rintro e w2 ⟨rfl, hu, hca, hcb⟩)
                | (go_at_call 25; (with_reducible refine (hDb.out _ (by assumption) (by assumption) (by assumption)).mono ?_); rintro e w2 ⟨rfl, hu, hca, hcb⟩)
                | (go_at_call 26; (with_reducible refine (hRb.out _ (by assumption) (by assumption) (by assumption)).mono ?_); rintro e w2 ⟨ar, cr, rfl, hu, hca, hcb⟩)
                | (go_at_call 26; (with_reducible refine (hRa.out _ (by assumption) (by assumption) (by assumption)).mono ?_); rintro e w2 ⟨ar, cr, rfl, hu, hca, hcb⟩)
                | (go_at_call 21; (with_reducible refine (hA2.out _ (by assumption) (by assumption) (by assumption)).mono ?_); rintro e w2 ⟨rfl, hu, hca, hcb⟩)))
              rw [hQ'.out]
              go_wp2
              go_ret
              exact ⟨rfl, Upd.none (hw.trans (by assumption))⟩
            · have d1 : (k : Int) < f.length := by omega
              have hOak := Lib.hid (hOa.out (k : Int))
              have hObk := hOb.out (k : Int)
              rw [hgo.out k (by omega)] at hObk
              have HObk := Lib.hid hObk
              clear hObk hkl
              generalize offK f (k : Int) = z at *
              go_wp2
              refine wp_hide (fun Q' hQ' => ?_)
              go_region_held3 (fun w' => Upd (fun _ => False) W1 w' ∧ w'.cell? ⟨A, 0, none⟩ = some (.slice (some ad) f.length ca) ∧ w'.cell? ⟨B, 0, none⟩ = some (.slice a2 (f.length + 1) c2))
                (((try go_split_ands); exact ⟨by first | assumption | exact Upd.drew (by assumption), by assumption, by assumption⟩))
                (((try go_split_ands); first
                | (go_at_call 24; (with_reducible refine (hOak.out _ (by assumption) (by assumption) (by assumption)).mono ?_); rintro e w2 ⟨rfl, hu, hca, hcb⟩)
                | (go_at_call 24; (with_reducible refine (HObk.out _ (by assumption) (by assumption) (by assumption)).mono ?_); rintro e w2 ⟨rfl, hu, hca, hcb⟩)))
              rw [hQ'.out]
              go_wp2
              go_roundw
              case rel => exact ⟨k + 1, by omega, by go_num, by assumption, by assumption, by assumption⟩
              case measure => simp [intOf]; omega

theorem own : ownKnob Try.prog.godebug = none := by kernel_rfl
theorem laidOut : laidOutB Try.prog = true := by kernel_rfl
set_option maxRecDepth 100000 in
theorem lifted (os : Os) (started : os.Started) (H : Type) (enc : TypeId × Value → H) :
    ReturnsInHanded {} Try.checked os 8 .any (Rows.kindGrowsSpec.pre6 enc Try.prog Try.f8 Rows.kindGrowsRow.domain false) (Rows.kindGrowsSpec.post enc Try.prog Try.f8 false true false false) := by
  refine returnsInHanded_of_change_sized (C := Try.checked) own started (by kernel_rfl) Try.func8
    (ChangeSpec.witness6 (enc := enc) (C := Try.checked) false ⟨#[], #[.slice none 0 0, .int .i64 0], []⟩ 8 (by kernel_rfl) (by kernel_rfl) (by kernel_rfl) (by kernel_rfl)) ?_
  intro W base args ds gs before hval0 hW _ hsz0 _
  have hsz : (DataW.weightsEach Try.prog (Try.f8.params.toList ++ Rows.kindGrowsSpec.plain.varTypes Try.prog) (ds ++ gs)).all (· ≤ reachBytes) = true := hsz0
  clear hsz0
  have hval : ∀ (j : Nat) t v, Try.f8.params[j]? = some t → args[j]? = some v → Value.okWide Try.prog W .any base t v := hval0
  have hW' := hW
  obtain ⟨p, q, hA0, hV, rfl, _, _⟩ := hW
  have hA : DataW.TrodAll enc Try.prog W 0 (fun _ => true) true Try.f8.params.toList args.toList ds p := hA0
  rw [Try.params8] at hA hval hsz
  obtain ⟨v0, vs0, d0, ds0, p0, q0, hargs, rfl, rfl, h0, r0⟩ := trodAll_cons hA
  obtain ⟨v1, vs1, d1, ds1, p1, q1, rfl, rfl, rfl, h1, r1⟩ := trodAll_cons r0
  obtain ⟨rfl, rfl, rfl⟩ := trodAll_nil r1
  obtain rfl : args = #[v0, v1] := by cases args; simp_all
  obtain ⟨rfl, rfl⟩ := trodVars_none hV
  clear hA0 hval0
  simp only [List.append_nil] at hW'
  have hlt : ∀ x, (x ∈ p0 ∨ x ∈ p1) → x.block < W.heap.size := fun x hx => by simpa using hW'.lt x (by simpa using hx)
  have k0 : ∀ (W' : World), Below W.heap.size W W' → DataW.Trod enc Try.prog W' 0 (fun b => decide (b < W.heap.size)) true 36 v0 d0 p0 :=
    fun W' hn => Below.trod laidOut (by kernel_rfl) (of_decide_eq_true (by kernel_rfl)) h0 hn (fun x hx => hlt x (Or.inl hx))
  have k1 : ∀ (W' : World), Below W.heap.size W W' → DataW.Trod enc Try.prog W' 0 (fun b => decide (b < W.heap.size)) true 3 v1 d1 p1 :=
    fun W' hn => Below.trod laidOut (by kernel_rfl) (of_decide_eq_true (by kernel_rfl)) h1 hn (fun x hx => hlt x (Or.inr (hx)))
  obtain ⟨x0, hx0⟩ := open_intsAt (bytes := 8) Try.underlying36 Try.underlying3 (by kernel_rfl) (by kernel_rfl) (hval 0 36 v0 rfl rfl) h0 hsz 0 rfl rfl
  obtain ⟨a1, rfl, _, _, w1⟩ := open_int Try.underlying3 (hval 1 3 v1 rfl rfl) h1
  refine (walk (W := W) v0 x0 hx0 a1 w1).mono fun e W' ⟨he, hb⟩ => ?_
  subst he
  refine ⟨_, rfl, _, _, _, [], p0 ++ (p1 ++ ([])), [], hW', ?_, ?_, rfl, hb.frame _, fun h => by cases h⟩
  · exact trodAll_cons_mk (shut_bool Try.underlying4 true) trodAll_mk0
  · exact trodAll_cons_mk (k0 _ hb) (trodAll_cons_mk (k1 _ hb) (trodAll_mk0))

theorem over : Rows.kindGrowsRow.holds Try.pinned (OpenSpec.ofChange Rows.kindGrowsSpec) :=
  OpenClaim.holds_of_wide 8 Try.f8 rfl rfl rfl rfl rfl rfl rfl ⟨rfl, rfl, rfl, rfl, rfl⟩ rfl rfl rfl rfl rfl (by kernel_rfl) Try.func8 (by kernel_rfl)
    (of_decide_eq_true (by kernel_rfl)) (by unfold Func.isWrapper; first | (rw [if_pos (by decide +kernel)]; kernel_rfl) | (rw [if_neg (by decide +kernel)]; exact ⟨rfl, rfl⟩))
    (fun os started H enc _ => lifted os started H enc)

/-- The given statement. -/
theorem proved : Rows.KindGrowsSaid := over
#print axioms proved
end Go.Proofs.Ytgnmcldedifjaaa.kindGrows
