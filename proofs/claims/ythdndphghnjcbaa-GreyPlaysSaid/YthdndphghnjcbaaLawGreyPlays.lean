/- Any calls on a stack: each answer is that of a plain list, the last first, and nothing is forgotten in silence. No condition. -/
import Derived.Test.YthdndphghnjcbaaAwake18
import Derived.SizedLaws
import Derived.OwnWalk
namespace Go.Proofs.Ythdndphghnjcbaa.greyPlays
open Go.ChangeShapes Go.WideShapes Go.ChangeAt Go.RowKit
set_option linter.unusedVariables false

theorem info3 : (Try.prog.info? 3).map (fun i => (i.zero, i.size, i.bytes)) = some (some (.int .i64 0), 1, 8) := by kernel_rfl
theorem cells36 : Try.prog.cellsOf 36 = 2 := by kernel_rfl

/-- The loop's state: the stack and the law's own list hold the same. -/
def Rel (W : World) (b r : Nat) (l : List Int) (ov : Bool) (mv : Value) (wr : World) : Prop :=
  Stk wr b l r ov ∧ wr.ownsRow (b + 1) 3 1 mv l.length (ints l) ∧ Upd (fun _ => False) W wr ∧ b < wr.heap.size

theorem Rel.push {W wr w2 w3 w4 : World} {b r : Nat} {l : List Int} {ov : Bool} {mv mv' : Value} {y : Int} {o : Obj} (hbW : W.heap.size ≤ b) (h : Rel W b r l ov mv wr) (hl : l.length < r)
    (s2 : Stk w2 b (l ++ [y]) r ov) (u2 : Upd (fun k => k = b) wr w2) (z2 : w2.heap.size = wr.heap.size) (e3 : w3 = w2.alloc o) (ho : w4.ownsRow (b + 1) 3 1 mv' (l.length + 1) (ints l ++ [.int .i64 y])) (hg : w3.grownBy w4 mv.ownBlock) :
    Rel W b r (l ++ [y]) ov mv' w4 := by
  obtain ⟨h1, h2, h3, h4⟩ := h
  subst e3
  have hne : mv.ownBlock ≠ some b := by
    intro e
    have := (h2.lt b e).1
    omega
  have u3 : Upd (fun _ => False) w2 (w2.alloc o) := (Upd.refl _ _).alloc _
  have u4 : Upd (fun k => b + 1 ≤ k) (w2.alloc o) w4 := (Upd.refl _ _).grown hg (fun k e _ => (h2.lt k e).1)
  refine ⟨(s2.upd u3 (fun x => x)).upd u4 (by omega), ?_, ((h3.own u2 (fun i e => by omega)).own u3 (fun i e => e.elim)).own u4 (fun i e => by omega), ?_⟩
  · have : ints (l ++ [y]) = ints l ++ [.int .i64 y] := by simp [ints]
    rw [this, List.length_append]
    exact ho
  · have := u4.size
    simp at this
    omega

theorem Rel.same {W wr w2 : World} {b r : Nat} {l : List Int} {ov ov' : Bool} {mv : Value} (hbW : W.heap.size ≤ b) (h : Rel W b r l ov mv wr) (s2 : Stk w2 b l r ov') (u2 : Upd (fun k => k = b) wr w2) (z2 : w2.heap.size = wr.heap.size) :
    Rel W b r l ov' mv w2 := by
  obtain ⟨h1, h2, h3, h4⟩ := h
  exact ⟨s2, ownsRow_upd h2 u2 (fun k hk e => by omega), h3.own u2 (fun i e => by omega), by omega⟩

theorem Rel.pop {W wr w2 : World} {b r n cap g : Nat} {l : List Int} {y : Int} {ov : Bool} (hbW : W.heap.size ≤ b) (hn : l.length = n) (h : Rel W b r (l ++ [y]) ov (.slice (some ⟨g, 0, none⟩) (n + 1) cap) wr) (s2 : Stk w2 b l r ov) (u2 : Upd (fun k => k = b) wr w2) (z2 : w2.heap.size = wr.heap.size) :
    Rel W b r l ov (.slice (some ⟨g, 0, none⟩) n cap) w2 := by
  obtain ⟨h1, h2, h3, h4⟩ := h
  refine ⟨s2, ?_, h3.own u2 (fun i e => by omega), by omega⟩
  have h5 : wr.ownsRow (b + 1) 3 1 (.slice (some ⟨g, 0, none⟩) (n + 1) cap) (n + 1) (ints l ++ [.int .i64 y]) := by
    have := h2
    rw [List.length_append, hn] at this
    simpa [ints] using this
  rw [hn]
  exact ownsRow_upd (ownsRow_pop (by simp [ints, hn]) h5) u2 (fun k hk e => by omega)

set_option maxRecDepth 100000 in
set_option maxHeartbeats 2000000 in
theorem walk {W : World} (room : Int) (w0 : (Lit.int .i64 room).wf = true) (v : Value) (x : Nat × (Nat → Nat → Value)) (hx : PairsIn W v x) :
    Calls Try.prog 5 #[.int .i64 room, v] W (LawPost W) := by
  obtain ⟨n, X⟩ := x
  obtain ⟨hR, hreach, hX⟩ := hx
  have hlen : (n : Int) ≤ 17592186044416 := by simp only at hreach; omega
  have hr1 := roomOf_pos room
  have hr2 := roomOf_le room
  have hrr := Lib.hid (ref_room room)
  have hR2 := hR
  obtain ⟨a, cap, hv, -⟩ := hR2
  simp only at hv
  subst hv
  clear w0 hreach
  have HhR := Lib.hid hR; clear hR
  have HhX := Lib.hid hX; clear hX
  go_enter Try.func5, Try.ntmps5
  go_wp2_with fail
  refine (grey_new room _).mono ?_
  rintro e w1 ⟨rfl, s1, u1, z1⟩
  generalize hb : W.heap.size = b at s1 z1
  have hbW : W.heap.size ≤ b := by omega
  have r2 : (roomOf room : Int) ≤ 2048 := by omega
  generalize roomOf room = r at *
  have hrel0 : Rel W b r [] false (.slice none 0 0) w1 := ⟨s1, World.ownsRow_nil _ _ _ _, u1, by omega⟩
  clear s1 u1
  have Hhb := Lib.hid hb; clear hb
  have Hz1 := Lib.hid z1; clear z1
  have Hhrel0 := Lib.hid hrel0; clear hrel0
  go_wp2_with fail
  refine (hrr.out w1).mono ?_
  rintro e w' ⟨rfl, rfl⟩
  go_wp2_with fail
  go_loopw [7, 8, 9] (fun mv ov i wr => ∃ (k : Nat) (l : List Int) (o : Bool) (ma : Option Addr) (mc : Nat), i = .int .i64 k ∧ k ≤ n ∧ ov = .bool o ∧ mv = .slice ma l.length mc ∧ Rel W b r l o mv wr) (fun _ _ i _ => (n - intOf i).toNat)
  case atStart => exact ⟨0, [], false, none, 0, rfl, Nat.zero_le _, rfl, rfl, Hhrel0.out⟩
  case round =>
    obtain ⟨k, l, o, ma, mc, rfl, hk, rfl, rfl, rel⟩ := hrel
    have hll : l.length ≤ r := by obtain ⟨⟨f, h1, h2, h3, _⟩, _⟩ := rel; exact h3
    have ll : (l.length : Int) ≤ 2048 := by omega
    by_cases hkl : k = n ∨ 200 ≤ k
    · have key : (¬ ((k : Int) < n)) ∨ (((k : Int) < n) ∧ ¬ ((k : Int) < 200)) := by omega
      have ub := rel.2.2.1
      have Hub := Lib.hid ub; clear ub
      clear rel hll hkl
      rcases key with c1 | ⟨c1, c2⟩
      all_goals
        have haw := Lib.hid (awake18 wr)
        go_wp2_with (go_at_call 20; (with_reducible refine haw.out.mono ?_); rintro e w' ⟨rfl, u3⟩)
        go_ret
        exact ⟨rfl, (Hub.out.own u3 (fun i e => e.elim)).none⟩
    · have c1 : (k : Int) < n := by omega
      have c2 : (k : Int) < 200 := by omega
      have hkn : k < n := by omega
      obtain ⟨d, y, hd, hy, -⟩ := HhX.out k hkn
      obtain ⟨b0, off, hix, hb0, hc⟩ := HhR.out.index (P := Try.prog) Try.underlying34 (by kernel_rfl) (by kernel_rfl) hkn
      have cd := fun (w2 : World) (h : Below W.heap.size W w2) => (h.cell (p := ⟨b0, off + k * 2 + 0, none⟩) hb0).trans (hc 0 (by decide))
      have cy := fun (w2 : World) (h : Below W.heap.size W w2) => (h.cell (p := ⟨b0, off + k * 2 + 1, none⟩) hb0).trans (hc 1 (by decide))
      simp only [Nat.add_zero] at cd
      rw [hd] at cd
      rw [hy] at cy
      have cd1 := cd wr rel.2.2.1.none
      have cy1 := cy wr rel.2.2.1.none
      have ov := grey_over b l r o wr rel.1
      have Hcd := Lib.hid cd; clear cd
      have Hcy := Lib.hid cy; clear cy
      clear hd hy hc hkl
      by_cases d0 : d = 0
      · subst d0
        have pc := grey_push b y l r o wr rel.1
        unfold GreyPush at pc
        by_cases hf : l.length < r
        · have hf2 : (l.length : Int) < r := by omega
          rw [show pushL l r y = l ++ [y] from if_pos hf, show decide (l.length < r) = true from by simp [hf]] at pc
          simp only [Bool.not_true, Bool.or_false] at pc
          have hl3 : l.length ≤ 1099511627776 := by omega
          have Hpc := Lib.hid pc; clear pc
          have Hrel := Lib.hid rel; clear rel
          have Hov := Lib.hid ov; clear ov
          have hfl := Lib.hid hf
          clear hf
          go_wp2_with fail
          refine (Hpc.out).mono ?_
          rintro e w2 ⟨rfl, s2, u2, z2⟩
          have hown := ownsRow_upd Hrel.out.2.1 u2 (fun i hi e => by omega)
          have cy2 := Hcy.out w2 ((Hrel.out.2.2.1.own u2 (fun i e => by omega)).none)
          have hbs : b + 1 ≤ w2.heap.size := by have := Hrel.out.2.2.2; omega
          have Hz2 := Lib.hid z2; clear z2
          have Hhown := Lib.hid hown; clear hown
          go_wp2_with (first | (at_builtin; refine wpList_push rfl _ _ 31 3 rfl (.int .i64 0) 8 Try.underlying31 info3 rfl (b + 1) _ _ _ rfl (Hhown.out.alloc _) w2.heap.size 1 (.int .i64 y) rfl (World.cell?_alloc_new _ #[.int .i64 y] _ 0) rfl hl3 (by decide) hbs ?_; intro ma' mc' w4 hown4 hgr4; have rel4 := Lib.hid (Rel.push hbW Hrel.out hfl.out s2 u2 Hz2.out rfl hown4 hgr4); have Hln := Lib.hid (grey_len b _ _ _ _ rel4.out.1); have Hov := Lib.hid (grey_over b _ _ _ _ rel4.out.1)) | (go_at_call 21; (refine Hln.out.mono ?_); rintro e w' ⟨rfl, rfl⟩) | (go_at_call 19; (refine Hov.out.mono ?_); rintro e w' ⟨rfl, rfl⟩))
          go_roundw
          case rel => exact ⟨k + 1, l ++ [y], o, ma', mc', by go_num, by omega, rfl, by rw [List.length_append]; rfl, rel4.out⟩
          case measure => simp [intOf]; omega
        · have hf2 : ¬ ((l.length : Int) < r) := by omega
          rw [show pushL l r y = l from if_neg hf, show decide (l.length < r) = false from by simp [hf]] at pc
          simp only [Bool.not_false, Bool.or_true] at pc
          have Hpc := Lib.hid pc; clear pc
          have Hrel := Lib.hid rel; clear rel
          have Hov := Lib.hid ov; clear ov
          clear hf
          go_wp2_with (first | (go_at_call 17; (refine Hpc.out.mono ?_); rintro e w2 ⟨rfl, s2, u2, z2⟩; have Hz2 := Lib.hid z2; clear z2; have Hln := Lib.hid (grey_len b _ _ _ _ s2); have Hov := Lib.hid (grey_over b _ _ _ _ s2)) | (go_at_call 21; (refine Hln.out.mono ?_); rintro e w' ⟨rfl, rfl⟩) | (go_at_call 19; (refine Hov.out.mono ?_); rintro e w' ⟨rfl, rfl⟩))
          go_roundw
          case rel => exact ⟨k + 1, l, true, ma, mc, by go_num, by omega, rfl, rfl, Hrel.out.same hbW s2 u2 Hz2.out⟩
          case measure => simp [intOf]; omega
      · by_cases d1 : d = 1
        · subst d1
          clear d0
          have pc := grey_pop b l r o wr rel.1
          unfold GreyPop at pc
          by_cases hl0 : l = []
          · subst hl0
            have pc : Calls Try.prog 18 #[.pointer (some ⟨b, 0, none⟩)] wr (fun e w' => e = .returned (.tuple #[.int .i64 0, .bool false]) ∧ Stk w' b [] r o ∧ Upd (fun k => k = b) wr w' ∧ w'.heap.size = wr.heap.size) := pc
            have Hpc := Lib.hid pc; clear pc
            have Hrel := Lib.hid rel; clear rel
            have Hov := Lib.hid ov; clear ov
            go_wp2_with (first | (go_at_call 18; (refine Hpc.out.mono ?_); rintro e w2 ⟨rfl, s2, u2, z2⟩; have Hz2 := Lib.hid z2; clear z2; have Hln := Lib.hid (grey_len b _ _ _ _ s2); have Hov := Lib.hid (grey_over b _ _ _ _ s2)) | (go_at_call 21; (refine Hln.out.mono ?_); rintro e w' ⟨rfl, rfl⟩) | (go_at_call 19; (refine Hov.out.mono ?_); rintro e w' ⟨rfl, rfl⟩))
            go_roundw
            case rel => exact ⟨k + 1, [], o, ma, mc, by go_num, by omega, rfl, rfl, Hrel.out.same hbW s2 u2 Hz2.out⟩
            case measure => simp [intOf]; omega
          · obtain ⟨l', y', rfl⟩ : ∃ l' y', l = l' ++ [y'] := ⟨l.dropLast, l.getLast hl0, (List.dropLast_concat_getLast hl0).symm⟩
            have hlen2 : (l' ++ [y']).length = l'.length + 1 := by simp
            rw [List.getLastD_eq_getLast?, List.getLast?_concat, List.dropLast_concat, show (l' ++ [y']).isEmpty = false from by simp] at pc
            rw [hlen2] at ll hll rel
            have hown := rel.2.1
            rw [hlen2] at hown
            obtain ⟨ma', rfl⟩ : ∃ g, ma = some ⟨g, 0, none⟩ := by
              rcases hown.2 with ⟨_, h0⟩ | ⟨g, cap', cur, hv, _⟩
              · omega
              · simp at hv; exact ⟨g, hv.1⟩
            have hcl := hown.cellAt l'.length (by omega)
            have hcl2 : (ints (l' ++ [y']))[l'.length]? = some (.int .i64 y') := by simp [ints]
            rw [hcl2] at hcl
            have hg : b + 1 ≤ ma' := (hown.lt ma' rfl).1
            rw [hlen2]
            have pc : Calls Try.prog 18 #[.pointer (some ⟨b, 0, none⟩)] wr (fun e w' => e = .returned (.tuple #[.int .i64 y', .bool true]) ∧ Stk w' b l' r o ∧ Upd (fun k => k = b) wr w' ∧ w'.heap.size = wr.heap.size) := pc
            have hmlt : ma' < wr.heap.size := (hown.lt ma' rfl).2
            have hmc : (l'.length : Int) ≤ mc := by
              rcases hown.2 with ⟨_, h0⟩ | ⟨g, cap', cur, hv, _, _, hn, _⟩
              · omega
              · simp at hv; omega
            have nn : ∃ m, l'.length = m := ⟨_, rfl⟩
            obtain ⟨m, hm⟩ := nn
            rw [hm] at ll hll rel hcl hmc hcl2 ⊢
            clear hl0 hown hlen2 hcl2
            have Hpc := Lib.hid pc; clear pc
            have Hrel := Lib.hid rel; clear rel
            have Hov := Lib.hid ov; clear ov
            have Hhm := Lib.hid hm; clear hm
            have Hhcl := Lib.hid hcl; clear hcl
            go_wp2_with (first | (go_at_call 18; (refine Hpc.out.mono ?_); rintro e w2 ⟨rfl, s2, u2, z2⟩; have Hz2 := Lib.hid z2; clear z2; have hc2 := (World.cell?_of_block (a := ⟨ma', m, none⟩) (u2.block ma' hmlt (by omega))).trans Hhcl.out; have Hln := Lib.hid (grey_len b _ _ _ _ s2); rw [Hhm.out] at Hln; have Hov := Lib.hid (grey_over b _ _ _ _ s2)) | (go_at_call 21; (refine Hln.out.mono ?_); rintro e w' ⟨rfl, rfl⟩) | (go_at_call 19; (refine Hov.out.mono ?_); rintro e w' ⟨rfl, rfl⟩))
            go_roundw
            case rel => exact ⟨k + 1, l', o, some ⟨ma', 0, none⟩, mc, by go_num, by omega, rfl, by rw [Hhm.out], Rel.pop hbW Hhm.out Hrel.out s2 u2 Hz2.out⟩
            case measure => simp [intOf]; omega
        · have e0 : (d == 0) = false := by simp [d0]
          have e1 : (d == 1) = false := by simp [d1]
          have pc := grey_reset b l r o wr rel.1
          have Hpc := Lib.hid pc; clear pc
          have Hrel := Lib.hid rel; clear rel
          have Hov := Lib.hid ov; clear ov
          clear d0 d1
          go_wp2_with (first | (go_at_call 22; (refine Hpc.out.mono ?_); rintro e w2 ⟨rfl, s2, u2, z2⟩; have Hz2 := Lib.hid z2; clear z2; have Hln := Lib.hid (grey_len b _ _ _ _ s2); have Hov := Lib.hid (grey_over b _ _ _ _ s2)) | (go_at_call 21; (refine Hln.out.mono ?_); rintro e w' ⟨rfl, rfl⟩) | (go_at_call 19; (refine Hov.out.mono ?_); rintro e w' ⟨rfl, rfl⟩))
          go_roundw
          case rel => exact ⟨k + 1, l, false, ma, mc, by go_num, by omega, rfl, rfl, Hrel.out.same hbW s2 u2 Hz2.out⟩
          case measure => simp [intOf]; omega

theorem own : ownKnob Try.prog.godebug = none := by kernel_rfl
theorem laidOut : laidOutB Try.prog = true := by kernel_rfl
set_option maxRecDepth 100000 in
theorem lifted (os : Os) (started : os.Started) (H : Type) (enc : TypeId × Value → H) :
    ReturnsInHanded {} Try.checked os 5 .any (Rows.greyPlaysSpec.pre6 enc Try.prog Try.f5 Rows.greyPlaysRow.domain false) (Rows.greyPlaysSpec.post enc Try.prog Try.f5 false true false false) := by
  refine returnsInHanded_of_change_sized (C := Try.checked) own started (by kernel_rfl) Try.func5
    (ChangeSpec.witness6 (enc := enc) (C := Try.checked) false ⟨#[], #[.int .i64 0, .slice none 0 0], []⟩ 8 (by kernel_rfl) (by kernel_rfl) (by kernel_rfl) (by kernel_rfl)) ?_
  intro W base args ds gs before hval0 hW _ hsz0 _
  have hsz : (DataW.weightsEach Try.prog (Try.f5.params.toList ++ Rows.greyPlaysSpec.plain.varTypes Try.prog) (ds ++ gs)).all (· ≤ reachBytes) = true := hsz0
  clear hsz0
  have hval : ∀ (j : Nat) t v, Try.f5.params[j]? = some t → args[j]? = some v → Value.okWide Try.prog W .any base t v := hval0
  have hW' := hW
  obtain ⟨p, q, hA0, hV, rfl, _, _⟩ := hW
  have hA : DataW.TrodAll enc Try.prog W 0 (fun _ => true) true Try.f5.params.toList args.toList ds p := hA0
  rw [Try.params5] at hA hval hsz
  obtain ⟨v0, vs0, d0, ds0, p0, q0, hargs, rfl, rfl, h0, r0⟩ := trodAll_cons hA
  obtain ⟨v1, vs1, d1, ds1, p1, q1, rfl, rfl, rfl, h1, r1⟩ := trodAll_cons r0
  obtain ⟨rfl, rfl, rfl⟩ := trodAll_nil r1
  obtain rfl : args = #[v0, v1] := by cases args; simp_all
  obtain ⟨rfl, rfl⟩ := trodVars_none hV
  clear hA0 hval0
  simp only [List.append_nil] at hW'
  have hlt : ∀ x, (x ∈ p0 ∨ x ∈ p1) → x.block < W.heap.size := fun x hx => by simpa using hW'.lt x (by simpa using hx)
  have k0 : ∀ (W' : World), Below W.heap.size W W' → DataW.Trod enc Try.prog W' 0 (fun b => decide (b < W.heap.size)) true 3 v0 d0 p0 :=
    fun W' hn => Below.trod laidOut (by kernel_rfl) (of_decide_eq_true (by kernel_rfl)) h0 hn (fun x hx => hlt x (Or.inl hx))
  have k1 : ∀ (W' : World), Below W.heap.size W W' → DataW.Trod enc Try.prog W' 0 (fun b => decide (b < W.heap.size)) true 34 v1 d1 p1 :=
    fun W' hn => Below.trod laidOut (by kernel_rfl) (of_decide_eq_true (by kernel_rfl)) h1 hn (fun x hx => hlt x (Or.inr (hx)))
  obtain ⟨a0, rfl, _, _, w0⟩ := open_int Try.underlying3 (hval 0 3 v0 rfl rfl) h0
  obtain ⟨x1, hx1⟩ := open_pairsAt _ _ Try.underlying34 Try.underlying36 (by kernel_rfl) (by decide) (by kernel_rfl) (by kernel_rfl) rfl rfl Try.underlying3 Try.underlying3 (hval 1 34 v1 rfl rfl) h1 hsz 1 rfl rfl
  refine (walk (W := W) a0 w0 v1 x1 hx1).mono fun e W' ⟨he, hb⟩ => ?_
  subst he
  refine ⟨_, rfl, _, _, _, [], p0 ++ (p1 ++ ([])), [], hW', ?_, ?_, rfl, hb.frame _, fun h => by cases h⟩
  · exact trodAll_cons_mk (shut_bool Try.underlying4 true) trodAll_mk0
  · exact trodAll_cons_mk (k0 _ hb) (trodAll_cons_mk (k1 _ hb) (trodAll_mk0))

theorem over : Rows.greyPlaysRow.holds Try.pinned (OpenSpec.ofChange Rows.greyPlaysSpec) :=
  OpenClaim.holds_of_wide 5 Try.f5 rfl rfl rfl rfl rfl rfl rfl ⟨rfl, rfl, rfl, rfl, rfl⟩ rfl rfl rfl rfl rfl (by kernel_rfl) Try.func5 (by kernel_rfl)
    (of_decide_eq_true (by kernel_rfl)) (by unfold Func.isWrapper; first | (rw [if_pos (by decide +kernel)]; kernel_rfl) | (rw [if_neg (by decide +kernel)]; exact ⟨rfl, rfl⟩))
    (fun os started H enc _ => lifted os started H enc)

/-- The given statement. -/
theorem proved : Rows.GreyPlaysSaid := over
#print axioms proved
end Go.Proofs.Ythdndphghnjcbaa.greyPlays
