/- Any bits set: each answer; behind all of them every bit, count, search. No condition. -/
import Derived.Test.YthcimfblmpapeaaRefFirst
import Derived.Test.YthcimfblmpapeaaLater
import Derived.Test.YthcimfblmpapeaaStep
import Derived.SizedLaws
import Derived.Deep.RegionHeld3
import Derived.Deep.DrawnRows
import Derived.Deep.CutBlock
import Derived.Deep.DeepCutAuto
namespace Go.Proofs.Ythcimfblmpapeaa.bitmapPlays
open Go.ChangeShapes Go.WideShapes Go.ChangeAt Go.RowKit
set_option linter.unusedVariables false
attribute [local go_sem ↓] Go.wp_at_zero Go.wp_at_succ
attribute [local go_sem] ite_min ite_max

/-- Words of one's own. -/
def WPost (W : World) (L : Nat) (ws : List Nat) (e : Ending) (w' : World) : Prop :=
  ∃ g c, e = .returned (.slice (some ⟨g, 0, none⟩) L c) ∧ WordsR w' (.slice (some ⟨g, 0, none⟩) L c) ws ∧ Upd (fun _ => False) W w'
theorem words_own {W w' : World} {b g n : Nat} {f : Nat → Bool} (h : MapF w' b g n f) (u : Upd (fun _ => False) W w') : Calls Try.prog 28 #[.pointer (some ⟨b, 0, none⟩)] w' (WPost W ((n + 63) / 64) (packN n f)) :=
  (map_WordsF b g n f w' h).mono fun e w2 ⟨g', c, he, ho, hu⟩ => ⟨g', c, he, ClonePost.words (v := .slice none 0 0) ho, u.trans hu⟩
theorem same_words {W w' : World} {u v : Value} {xs : List Nat} (h1 : WordsR w' u xs) (h2 : WordsR w' v xs) (uu : Upd (fun _ => False) W w') : Calls Try.prog 27 #[u, v] w' (RetU W (.bool true)) := by
  have := from_ret (ref_SameWords u v xs xs w' h1 h2) uu
  rw [decide_eq_true rfl] at this
  exact this

theorem cases4 (f : Nat → Bool) (k : Nat) (d : Int) (bb : Bool) :
    (d < 0 ∧ (decide (0 ≤ d ∧ d < k) && (f d.toNat != bb)) = false) ∨ (0 ≤ d ∧ (k : Int) ≤ d ∧ (decide (0 ≤ d ∧ d < k) && (f d.toNat != bb)) = false) ∨ (∃ j : Nat, d = j ∧ j < k ∧ (decide (0 ≤ d ∧ d < k) && (f d.toNat != bb)) = (f j != bb)) := by
  by_cases h1 : d < 0
  · exact Or.inl ⟨h1, by rw [decide_eq_false (by omega)]; rfl⟩
  · by_cases h2 : (k : Int) ≤ d
    · exact Or.inr (Or.inl ⟨by omega, h2, by rw [decide_eq_false (by omega)]; rfl⟩)
    · exact Or.inr (Or.inr ⟨d.toNat, by omega, by omega, by rw [decide_eq_true (by omega), Bool.true_and]⟩)
theorem same_bits (f : Nat → Bool) (k : Nat) (d : Int) (bb : Bool) (h : (decide (0 ≤ d ∧ d < k) && (f d.toNat != bb)) = false) : ∀ i, i < k → f i = setF f d bb i := fun i hi => by
  unfold setF
  split
  · rename_i e
    rw [decide_eq_true (by omega), Bool.true_and, show d.toNat = i from by omega] at h
    exact (by simpa using h : f i = bb)
  · rfl
def SetW (W : World) (b g k : Nat) (f : Nat → Bool) (chg : Bool) (gb cb : Nat) (h : Nat → Bool) (e : Ending) (w3 : World) : Prop :=
  e = .returned (.bool chg) ∧ MapF w3 b g k f ∧ Upd (fun _ => False) W w3 ∧ BoolsAt W.heap.size w3 gb cb k h
theorem setW {W w : World} {b g k gb cb : Nat} {f : Nat → Bool} {d : Int} {bb chg : Bool} (hM : MapF w b g k f) (hB : BoolsAt W.heap.size w gb cb k f) (hg : W.heap.size ≤ g) (hne : g ≠ gb) (u : Upd (fun _ => False) W w) (h : (decide (0 ≤ d ∧ d < k) && (f d.toNat != bb)) = chg) :
    Calls Try.prog 21 #[.pointer (some ⟨b, 0, none⟩), .int .i64 d, .bool bb] w (SetW W b g k (setF f d bb) chg gb cb f) :=
  (map_SetF b g k f d bb w hM).mono fun e w' ⟨h1, h2, h3, _, _⟩ => ⟨by rw [h1, h], h2, u.own h3 (fun i e => by omega), hB.upd h3 (fun e => hne e.symm)⟩

set_option maxRecDepth 100000 in
set_option maxHeartbeats 2000000 in
theorem walk {W : World} (n : Int) (w0 : (Lit.int .i64 n).wf = true) (v : Value) (xs : List Int) (hx : IntsIn W v .u64 xs ∧ xs.length * 8 ≤ 140737488351232) (lv : Value) (lx : Nat × (Nat → Nat → Value)) (hl : IntBoolIn W lv lx)
    (p : Int) (wp : (Lit.int .i64 p).wf = true) (q : Int) (wq : (Lit.int .i64 q).wf = true) :
    Calls Try.prog 6 #[.int .i64 n, v, lv, .int .i64 p, .int .i64 q] W (LawPost W) := by
  obtain ⟨ws, hws, -⟩ := intsIn_words hx.1
  obtain ⟨N, X⟩ := lx
  obtain ⟨hR, hreach, hX⟩ := hl
  simp only at hreach hR hX
  obtain ⟨kI, hkI⟩ : ∃ kI, kI = min n 400 := ⟨_, rfl⟩
  obtain ⟨k, hk⟩ : ∃ k : Nat, (max 0 (min kI 1048576)) = (k : Int) := ⟨(max 0 (min kI 1048576)).toNat, by omega⟩
  have hk400 : (k : Int) ≤ 400 := by omega
  have hof := Lib.hid (map_OfAt kI k v ws W hws (by omega))
  have hN : (N : Int) ≤ 17592186044416 := by omega
  have hR2 := hR
  obtain ⟨la, lcap, hlv, -⟩ := hR2
  subst hlv
  have HhR := Lib.hid hR; clear hR
  have HhX := Lib.hid hX; clear hX
  have Hhws := Lib.hid hws; clear hws
  clear hx w0 wp wq hreach
  go_enter Try.func6, Try.ntmps6
  go_wp2_with fail
  rw [← hkI]
  clear hkI
  refine hof.out.mono ?_
  rintro e w1 ⟨b, g, rfl, hM, hbW, hgW, hu1⟩
  have hun := ref_Unpack kI k v ws w1 (Hhws.out.upd hu1.none) hk
  clear hof hk
  go_wp2_with fail
  refine hun.mono ?_
  rintro e w2 ⟨gb, cb, rfl, hB, hu2⟩
  obtain ⟨hb1, hg1⟩ := hM.lt
  have hgb := hB.lt.1
  have hM2 := hM.upd hu2 (fun x => x) (fun x => x)
  have hB2 : BoolsAt W.heap.size w2 gb cb k (bitW ws) := ownsRow_base' hB hu1.size
  have n1 : g ≠ gb := by omega
  have n2 : b ≠ gb := by omega
  have n3 : W.heap.size ≤ gb := Nat.le_trans hu1.size hgb
  have hu12 := hu1.trans hu2
  have hcb : k ≤ cb := hB.cap
  clear hun hM hB hb1 hg1 hgb hu1 hu2
  have HhM2 := Lib.hid hM2; clear hM2
  have HhB2 := Lib.hid hB2; clear hB2
  have Hhu12 := Lib.hid hu12; clear hu12
  have Hn1 := Lib.hid n1; clear n1
  have Hn2 := Lib.hid n2; clear n2
  have Hn3 := Lib.hid n3; clear n3
  have HhgW := Lib.hid hgW; clear hgW
  have HhbW := Lib.hid hbW; clear hbW
  generalize bitW ws = f0 at *
  go_upto_block 0 with fail
  go_cut [13] (fun i wx => ∃ f : Nat → Bool, MapF wx b g k f ∧ BoolsAt W.heap.size wx gb cb k f ∧ Upd (fun _ => False) W wx)
  case first =>
    go_wp2_with fail
    go_loopw [13] (fun i wr => ∃ (x : Nat) (f : Nat → Bool), x ≤ N ∧ i = .int .i64 x ∧ MapF wr b g k f ∧ BoolsAt W.heap.size wr gb cb k f ∧ Upd (fun _ => False) W wr) (fun i _ => (N - intOf i).toNat)
    case atStart => exact ⟨0, f0, Nat.zero_le _, rfl, HhM2.out, HhB2.out, Hhu12.out⟩
    case round =>
      obtain ⟨x, f, hxN, rfl, hMr, hBr, hur⟩ := hrel
      clear HhM2 Hhu12 HhB2
      by_cases hx : x = N ∨ 80 ≤ x
      · have key : (¬ ((x : Int) < N)) ∨ (((x : Int) < N) ∧ ¬ ((x : Int) < 80)) := by omega
        have HhMr := Lib.hid hMr; clear hMr
        have HhBr := Lib.hid hBr; clear hBr
        have Hhur := Lib.hid hur; clear hur
        clear hx
        rcases key with c1 | ⟨c1, c2⟩
        all_goals
          go_wp2_with fail
          go_meet
          exact ⟨f, HhMr.out, HhBr.out, Hhur.out⟩
      · have c1 : (x : Int) < N := by omega
        have c2 : (x : Int) < 80 := by omega
        have hxn : x < N := by omega
        obtain ⟨d, bb, hd, hbv⟩ := HhX.out x hxn
        obtain ⟨b0, off, hix, hb0, hc⟩ := HhR.out.index (P := Try.prog) Try.underlying31 (by kernel_rfl) (by kernel_rfl) hxn
        have cd := fun (w2 : World) (h : Below W.heap.size W w2) => (h.cell (p := ⟨b0, off + x * 2 + 0, none⟩) hb0).trans (hc 0 (by decide))
        have cb' := fun (w2 : World) (h : Below W.heap.size W w2) => (h.cell (p := ⟨b0, off + x * 2 + 1, none⟩) hb0).trans (hc 1 (by decide))
        simp only [Nat.add_zero] at cd
        rw [hd] at cd
        rw [hbv] at cb'
        have cd1 := cd wr hur.none
        have cb1 := cb' wr hur.none
        have Hcd := Lib.hid cd; clear cd
        have Hcb' := Lib.hid cb'; clear cb'
        clear hd hbv hc hx
        rcases cases4 f k d bb with ⟨t1, t3⟩ | ⟨t1, t2, t3⟩ | ⟨j, rfl, hjk, t3⟩
        · have t4 : decide (0 ≤ d) = false := by simp; omega
          have hsame := same_bits f k d bb t3
          have Hhsame := Lib.hid hsame; clear hsame
          have hS := fun nq => setW (hMr.upd ((Upd.refl (fun _ => False) _).drewN nq) (fun x => x) (fun x => x)) (hBr.upd ((Upd.refl (fun _ => False) _).drewN nq) (fun x => x)) HhgW.out Hn1.out (hur.drewN nq) t3
          have HhS := Lib.hid hS; clear hS
          have Ht3 := Lib.hid t3; clear t3
          have HhMr := Lib.hid hMr; clear hMr
          have HhBr := Lib.hid hBr; clear hBr
          have Hhur := Lib.hid hur; clear hur
          go_wp2
          go_quiet (fail)
          go_wp2
          refine wp_hide (fun Q2 hQ2 => ?_)
          go_region_held3 (fun w' => w'.cell? ⟨b0, off + x * 2, none⟩ = some (.int .i64 d) ∧ w'.cell? ⟨b0, off + x * 2 + 1, none⟩ = some (.bool bb))
            (((try go_split_ands); exact ⟨by first | assumption | simpa using cd1, by first | assumption | simpa using cb1⟩))
            (((try go_split_ands); (go_at_call 21; (with_reducible refine (HhS.out _).mono ?_); rintro e w3 ⟨rfl, hM3, hu3, hB3⟩; have cd3 := Hcd.out w3 hu3.none; have cb3 := Hcb'.out w3 hu3.none)))
          rw [hQ2.out]
          have HhM3 := Lib.hid hM3
          have Hu3 := Lib.hid hu3
          have HhB3 := Lib.hid hB3
          clear hM3 hu3 hB3
          go_wp2
          go_roundw
          case rel => exact ⟨x + 1, setF f d bb, by omega, by go_num, HhM3.out, HhB3.out.congr Hhsame.out, Hu3.out⟩
          case measure => simp [intOf]; omega
        · have t4 : decide (d < k) = false := by simp; omega
          have hsame := same_bits f k d bb t3
          have Hhsame := Lib.hid hsame; clear hsame
          have hS := fun nq => setW (hMr.upd ((Upd.refl (fun _ => False) _).drewN nq) (fun x => x) (fun x => x)) (hBr.upd ((Upd.refl (fun _ => False) _).drewN nq) (fun x => x)) HhgW.out Hn1.out (hur.drewN nq) t3
          have HhS := Lib.hid hS; clear hS
          have Ht3 := Lib.hid t3; clear t3
          have HhMr := Lib.hid hMr; clear hMr
          have HhBr := Lib.hid hBr; clear hBr
          have Hhur := Lib.hid hur; clear hur
          go_wp2
          go_quiet (fail)
          go_wp2
          refine wp_hide (fun Q2 hQ2 => ?_)
          go_region_held3 (fun w' => w'.cell? ⟨b0, off + x * 2, none⟩ = some (.int .i64 d) ∧ w'.cell? ⟨b0, off + x * 2 + 1, none⟩ = some (.bool bb))
            (((try go_split_ands); exact ⟨by first | assumption | simpa using cd1, by first | assumption | simpa using cb1⟩))
            (((try go_split_ands); (go_at_call 21; (with_reducible refine (HhS.out _).mono ?_); rintro e w3 ⟨rfl, hM3, hu3, hB3⟩; have cd3 := Hcd.out w3 hu3.none; have cb3 := Hcb'.out w3 hu3.none)))
          rw [hQ2.out]
          have HhM3 := Lib.hid hM3
          have Hu3 := Lib.hid hu3
          have HhB3 := Lib.hid hB3
          clear hM3 hu3 hB3
          go_wp2
          go_roundw
          case rel => exact ⟨x + 1, setF f d bb, by omega, by go_num, HhM3.out, HhB3.out.congr Hhsame.out, Hu3.out⟩
          case measure => simp [intOf]; omega
        · have t4 : (0 : Int) ≤ (j : Int) := by omega
          have t5 : (j : Int) < k := by omega
          have hcj := hBr.cell j hjk
          cases hfj : f j <;> cases bb
          all_goals
            rw [hfj] at hcj t3
          · have t3 : (decide ((0 : Int) ≤ (j : Int) ∧ (j : Int) < k) && (f (j : Int).toNat != false)) = false := t3
            have hsame := same_bits f k j false t3
            have Hhsame := Lib.hid hsame; clear hsame
            have Hhfj := Lib.hid hfj; clear hfj
            have hS := fun nq => setW (hMr.upd ((Upd.refl (fun _ => False) _).drewN nq) (fun x => x) (fun x => x)) (hBr.upd ((Upd.refl (fun _ => False) _).drewN nq) (fun x => x)) HhgW.out Hn1.out (hur.drewN nq) t3
            have HhS := Lib.hid hS; clear hS
            have Ht3 := Lib.hid t3; clear t3
            have HhMr := Lib.hid hMr; clear hMr
            have HhBr := Lib.hid hBr; clear hBr
            have Hhur := Lib.hid hur; clear hur
            go_wp2
            go_quiet (fail)
            go_wp2
            refine wp_hide (fun Q2 hQ2 => ?_)
            go_region_held3 (fun w' => w'.cell? ⟨b0, off + x * 2, none⟩ = some (.int .i64 j) ∧ w'.cell? ⟨b0, off + x * 2 + 1, none⟩ = some (.bool false))
              (((try go_split_ands); exact ⟨by first | assumption | simpa using cd1, by first | assumption | simpa using cb1⟩))
              (((try go_split_ands); (go_at_call 21; (with_reducible refine (HhS.out _).mono ?_); rintro e w3 ⟨rfl, hM3, hu3, hB3⟩; have cd3 := Hcd.out w3 hu3.none; have cb3 := Hcb'.out w3 hu3.none)))
            rw [hQ2.out]
            have HhM3 := Lib.hid hM3
            have Hu3 := Lib.hid hu3
            have HhB3 := Lib.hid hB3
            clear hM3 hu3 hB3
            go_wp2
            go_roundw
            case rel => exact ⟨x + 1, setF f j false, by omega, by go_num, HhM3.out, HhB3.out.congr Hhsame.out, Hu3.out⟩
            case measure => simp [intOf]; omega
          · have t3 : (decide ((0 : Int) ≤ (j : Int) ∧ (j : Int) < k) && (f (j : Int).toNat != true)) = true := t3
            have Hhfj := Lib.hid hfj; clear hfj
            have hS := fun nq => setW (hMr.upd ((Upd.refl (fun _ => False) _).drewN nq) (fun x => x) (fun x => x)) (hBr.upd ((Upd.refl (fun _ => False) _).drewN nq) (fun x => x)) HhgW.out Hn1.out (hur.drewN nq) t3
            have HhS := Lib.hid hS; clear hS
            have Ht3 := Lib.hid t3; clear t3
            have HhMr := Lib.hid hMr; clear hMr
            have HhBr := Lib.hid hBr; clear hBr
            have Hhur := Lib.hid hur; clear hur
            go_wp2
            go_quiet (fail)
            go_wp2
            refine wp_hide (fun Q2 hQ2 => ?_)
            go_region_held3 (fun w' => w'.cell? ⟨b0, off + x * 2, none⟩ = some (.int .i64 j) ∧ w'.cell? ⟨b0, off + x * 2 + 1, none⟩ = some (.bool true))
              (((try go_split_ands); exact ⟨by first | assumption | simpa using cd1, by first | assumption | simpa using cb1⟩))
              (((try go_split_ands); (go_at_call 21; (with_reducible refine (HhS.out _).mono ?_); rintro e w3 ⟨rfl, hM3, hu3, hB3⟩; have cd3 := Hcd.out w3 hu3.none; have cb3 := Hcb'.out w3 hu3.none)))
            rw [hQ2.out]
            have HhM3 := Lib.hid hM3
            have Hu3 := Lib.hid hu3
            have HhB3 := Lib.hid hB3
            clear hM3 hu3 hB3
            go_wp2
            have hfr3 : w3.frozen? ⟨gb, j, none⟩ = false := World.ownsRow.frozenAt HhB3.out j
            have hcl3 := HhB3.out.cell j hjk
            rw [Hhfj.out] at hcl3
            refine wp_region_st 12 (by kernel_rfl) (by kernel_rfl) ?_
            simp only [List.take_succ_cons, List.take_zero, List.drop_succ_cons, List.drop_zero]
            repeat (first | still_step | fail)
            refine wpStill_nil ?_
            go_wp2
            go_roundw
            case rel => exact ⟨x + 1, setF f j true, by omega, by go_num, HhM3.out.upd (S := fun i => i = gb) ((Upd.refl _ _).at _ _).drew Hn2.out Hn1.out, HhB3.out.set j true, (Hu3.out.own (T := fun i => i = gb) ((Upd.refl _ _).at j (.bool true)) (fun i e => by have := Hn3.out; omega)).drew⟩
            case measure => simp [intOf]; omega
          · have t3 : (decide ((0 : Int) ≤ (j : Int) ∧ (j : Int) < k) && (f (j : Int).toNat != false)) = true := t3
            have Hhfj := Lib.hid hfj; clear hfj
            have hS := fun nq => setW (hMr.upd ((Upd.refl (fun _ => False) _).drewN nq) (fun x => x) (fun x => x)) (hBr.upd ((Upd.refl (fun _ => False) _).drewN nq) (fun x => x)) HhgW.out Hn1.out (hur.drewN nq) t3
            have HhS := Lib.hid hS; clear hS
            have Ht3 := Lib.hid t3; clear t3
            have HhMr := Lib.hid hMr; clear hMr
            have HhBr := Lib.hid hBr; clear hBr
            have Hhur := Lib.hid hur; clear hur
            go_wp2
            go_quiet (fail)
            go_wp2
            refine wp_hide (fun Q2 hQ2 => ?_)
            go_region_held3 (fun w' => w'.cell? ⟨b0, off + x * 2, none⟩ = some (.int .i64 j) ∧ w'.cell? ⟨b0, off + x * 2 + 1, none⟩ = some (.bool false))
              (((try go_split_ands); exact ⟨by first | assumption | simpa using cd1, by first | assumption | simpa using cb1⟩))
              (((try go_split_ands); (go_at_call 21; (with_reducible refine (HhS.out _).mono ?_); rintro e w3 ⟨rfl, hM3, hu3, hB3⟩; have cd3 := Hcd.out w3 hu3.none; have cb3 := Hcb'.out w3 hu3.none)))
            rw [hQ2.out]
            have HhM3 := Lib.hid hM3
            have Hu3 := Lib.hid hu3
            have HhB3 := Lib.hid hB3
            clear hM3 hu3 hB3
            go_wp2
            have hfr3 : w3.frozen? ⟨gb, j, none⟩ = false := World.ownsRow.frozenAt HhB3.out j
            have hcl3 := HhB3.out.cell j hjk
            rw [Hhfj.out] at hcl3
            refine wp_region_st 12 (by kernel_rfl) (by kernel_rfl) ?_
            simp only [List.take_succ_cons, List.take_zero, List.drop_succ_cons, List.drop_zero]
            repeat (first | still_step | fail)
            refine wpStill_nil ?_
            go_wp2
            go_roundw
            case rel => exact ⟨x + 1, setF f j false, by omega, by go_num, HhM3.out.upd (S := fun i => i = gb) ((Upd.refl _ _).at _ _).drew Hn2.out Hn1.out, HhB3.out.set j false, (Hu3.out.own (T := fun i => i = gb) ((Upd.refl _ _).at j (.bool false)) (fun i e => by have := Hn3.out; omega)).drew⟩
            case measure => simp [intOf]; omega
          · have t3 : (decide ((0 : Int) ≤ (j : Int) ∧ (j : Int) < k) && (f (j : Int).toNat != true)) = false := t3
            have hsame := same_bits f k j true t3
            have Hhsame := Lib.hid hsame; clear hsame
            have Hhfj := Lib.hid hfj; clear hfj
            have hS := fun nq => setW (hMr.upd ((Upd.refl (fun _ => False) _).drewN nq) (fun x => x) (fun x => x)) (hBr.upd ((Upd.refl (fun _ => False) _).drewN nq) (fun x => x)) HhgW.out Hn1.out (hur.drewN nq) t3
            have HhS := Lib.hid hS; clear hS
            have Ht3 := Lib.hid t3; clear t3
            have HhMr := Lib.hid hMr; clear hMr
            have HhBr := Lib.hid hBr; clear hBr
            have Hhur := Lib.hid hur; clear hur
            go_wp2
            go_quiet (fail)
            go_wp2
            refine wp_hide (fun Q2 hQ2 => ?_)
            go_region_held3 (fun w' => w'.cell? ⟨b0, off + x * 2, none⟩ = some (.int .i64 j) ∧ w'.cell? ⟨b0, off + x * 2 + 1, none⟩ = some (.bool true))
              (((try go_split_ands); exact ⟨by first | assumption | simpa using cd1, by first | assumption | simpa using cb1⟩))
              (((try go_split_ands); (go_at_call 21; (with_reducible refine (HhS.out _).mono ?_); rintro e w3 ⟨rfl, hM3, hu3, hB3⟩; have cd3 := Hcd.out w3 hu3.none; have cb3 := Hcb'.out w3 hu3.none)))
            rw [hQ2.out]
            have HhM3 := Lib.hid hM3
            have Hu3 := Lib.hid hu3
            have HhB3 := Lib.hid hB3
            clear hM3 hu3 hB3
            go_wp2
            go_roundw
            case rel => exact ⟨x + 1, setF f j true, by omega, by go_num, HhM3.out, HhB3.out.congr Hhsame.out, Hu3.out⟩
            case measure => simp [intOf]; omega
  case rest =>
    obtain ⟨f, hM, hB, hu⟩ := hcut
    have hkm : k ≤ 1048576 := by omega
    have hG := Lib.hid (fun j => map_GetF b g k f j wc hM)
    clear HhM2 HhB2 Hhu12
    have HhM := Lib.hid hM; clear hM
    have HhB := Lib.hid hB; clear hB
    have Hhu := Lib.hid hu; clear hu
    go_wp2_with fail
    go_loop [15, 102] (fun c i => ∃ y : Nat, y ≤ k ∧ i = .int .i64 y ∧ c = .int .i64 (countN f y)) (fun _ i => (k - intOf i).toNat)
    case atStart => exact ⟨0, Nat.zero_le _, rfl, rfl⟩
    case round =>
      obtain ⟨y, hyk, rfl, rfl⟩ := hrel
      by_cases hyk2 : y = k
      · have d1 : ¬ ((y : Int) < k) := by omega
        subst hyk2
        generalize hcnt : countN f y = cnt at *
        have Hhcnt := Lib.hid hcnt; clear hcnt
        have hpk := ref_Pack y f _ wc HhB.out.r hkm
        have Hhpk := Lib.hid hpk; clear hpk
        go_wp2_with fail
        refine Hhpk.out.mono ?_
        rintro e w3 ⟨g3, c3, rfl, hP, hu3⟩
        have hM3 := HhM.out.upd hu3 (fun x => x) (fun x => x)
        have hB3 := HhB.out.upd hu3 (fun x => x)
        have hPr := hP.r
        have hLI : ((y : Int) + 63) / 64 = (((y + 63) / 64 : Nat) : Int) := by omega
        obtain ⟨L, hL⟩ : ∃ L, (y + 63) / 64 = L := ⟨_, rfl⟩
        have hLb : (L : Int) ≤ 7 := by omega
        have hWd := Lib.hid (fun j w' (u : Upd (fun _ => False) w3 w') => from_same (map_Word b y _ j w' (hM3.upd u (fun x => x) (fun x => x)).is) u)
        have hpl : (packN y f).length = L := by rw [packN_length, hL]
        have hcell := fun j (hj : j < L) => hP.cell (j := j) (by rw [hL]; exact hj)
        rw [hL] at hPr
        have a1 := fun w' (u : Upd (fun _ => False) w3 w') => from_same (map_Len b y _ w' (hM3.upd u (fun x => x) (fun x => x)).is) u
        have a2 := fun w' (u : Upd (fun _ => False) w3 w') => from_ret (map_CountF b g y f w' (hM3.upd u (fun x => x) (fun x => x))) u
        have a3 := fun w' (u : Upd (fun _ => False) w3 w') => from_same (map_GetF b g y f (-1) w' (hM3.upd u (fun x => x) (fun x => x))) u
        have a4 := fun w' (u : Upd (fun _ => False) w3 w') => from_same (map_GetF b g y f (y : Int) w' (hM3.upd u (fun x => x) (fun x => x))) u
        have a5 := fun bb w' (u : Upd (fun _ => False) w3 w') => from_same (map_FirstF b g y f p q bb w' (hM3.upd u (fun x => x) (fun x => x))) u
        have a6 := fun bb w' (u : Upd (fun _ => False) w3 w') => from_same (law_first y f p q bb _ w' (hB3.upd u (fun x => x)).r hkm) u
        have a7 := fun w' (u : Upd (fun _ => False) w3 w') => words_own (hM3.upd u (fun x => x) (fun x => x)) u
        have a8 := fun w' v (h : WordsR w' v (packN y f)) (u : Upd (fun _ => False) w3 w') => same_words h (hPr.upd u.none) u
        have a9 := hWd.out (L : Int)
        have a10 := hWd.out (-1)
        have a11 := fun w' u => awake5 w3 w' u
        rw [decide_eq_false (by omega), Bool.false_and] at a3 a4
        rw [Hhcnt.out] at a2
        rw [show wordAt (packN y f) (L : Int) = 0 from if_neg (by rw [hpl]; omega)] at a9
        rw [show wordAt (packN y f) (-1) = 0 from if_neg (by omega)] at a10
        have a9 : ∀ w', Upd (fun _ => False) w3 w' → Calls Try.prog 25 #[.pointer (some ⟨b, 0, none⟩), .int .i64 (L : Int)] w' (RetU w3 (.int .u64 0)) := a9
        have a10 : ∀ w', Upd (fun _ => False) w3 w' → Calls Try.prog 25 #[.pointer (some ⟨b, 0, none⟩), .int .i64 (-1)] w' (RetU w3 (.int .u64 0)) := a10
        rw [hL] at a7
        have a5t := a5 true
        have a5f := a5 false
        have a6t := a6 true
        have a6f := a6 false
        generalize firstB y f p q true = R1 at *
        generalize firstB y f p q false = R2 at *
        have hwx := fun j (hj : j < L) => show wordAt (packN y f) (j : Int) = (packN y f).getD j 0 from by
          unfold wordAt
          rw [if_pos (by rw [hpl]; omega), Int.toNat_natCast]
        rw [hL]
        have hL2 := hL
        have Ha1 := Lib.hid a1; clear a1
        have Ha2 := Lib.hid a2; clear a2
        have Ha3 := Lib.hid a3; clear a3
        have Ha4 := Lib.hid a4; clear a4
        have Ha5t := Lib.hid a5t; clear a5t
        have Ha5f := Lib.hid a5f; clear a5f
        have Ha6t := Lib.hid a6t; clear a6t
        have Ha6f := Lib.hid a6f; clear a6f
        have Ha7 := Lib.hid a7; clear a7
        have Ha8 := Lib.hid a8; clear a8
        have Ha9 := Lib.hid a9; clear a9
        have Ha10 := Lib.hid a10; clear a10
        have Ha11 := Lib.hid a11; clear a11
        have Hhcell := Lib.hid hcell; clear hcell
        have Hhwx := Lib.hid hwx; clear hwx
        have HhL2 := Lib.hid hL2; clear hL2
        have HhM3 := Lib.hid hM3; clear hM3
        have HhB3 := Lib.hid hB3; clear hB3
        have HhPr := Lib.hid hPr; clear hPr
        have HhP := Lib.hid hP; clear hP
        have Hhu3 := Lib.hid hu3; clear hu3
        have Hhpl := Lib.hid hpl; clear hpl
        clear hL hLI a5 a6
        go_wp2_with fail
        go_loop [120] (fun i => ∃ z : Nat, z ≤ L ∧ i = .int .i64 z) (fun i => (L - intOf i).toNat)
        case atStart => exact ⟨0, Nat.zero_le _, rfl⟩
        case round =>
          obtain ⟨z, hzL, rfl⟩ := hrel
          by_cases hz : z = L
          · have e1 : ¬ ((z : Int) < L) := by omega
            have u0 := Upd.refl (fun _ => False) w3
            subst hz
            go_wp2_with (first
              | (go_at_call 22; ((with_reducible refine (Ha1.out _ (by assumption)).mono ?_); rintro e w11 ⟨rfl, hu11⟩))
              | (go_at_call 19; ((with_reducible refine (Ha2.out _ (by assumption)).mono ?_); rintro e w11 ⟨rfl, hu11⟩))
              | (go_at_call 18; first | ((with_reducible refine (Ha3.out _ (by assumption)).mono ?_); rintro e w11 ⟨rfl, hu11⟩) | ((with_reducible refine (Ha4.out _ (by assumption)).mono ?_); rintro e w11 ⟨rfl, hu11⟩))
              | (go_at_call 17; first | ((with_reducible refine (Ha5t.out _ (by assumption)).mono ?_); rintro e w11 ⟨rfl, hu11⟩) | ((with_reducible refine (Ha5f.out _ (by assumption)).mono ?_); rintro e w11 ⟨rfl, hu11⟩))
              | (go_at_call 26; first | ((with_reducible refine (Ha6t.out _ (by assumption)).mono ?_); rintro e w11 ⟨rfl, hu11⟩) | ((with_reducible refine (Ha6f.out _ (by assumption)).mono ?_); rintro e w11 ⟨rfl, hu11⟩))
              | (go_at_call 28; ((with_reducible refine (Ha7.out _ (by assumption)).mono ?_); rintro e w11 ⟨g11, c11, rfl, hw11, hu11⟩))
              | (go_at_call 27; ((with_reducible refine (Ha8.out _ _ (by assumption) (by assumption)).mono ?_); rintro e w11 ⟨rfl, hu11⟩))
              | (go_at_call 25; first | ((with_reducible refine (Ha9.out _ (by assumption)).mono ?_); rintro e w11 ⟨rfl, hu11⟩) | ((with_reducible refine (Ha10.out _ (by assumption)).mono ?_); rintro e w11 ⟨rfl, hu11⟩))
              | (go_at_call 20; ((with_reducible refine (Ha11.out _ (by assumption)).mono ?_); rintro e w11 ⟨rfl, hu11⟩)))
            go_ret
            exact ⟨rfl, Upd.none (Hhu.out.trans (Hhu3.out.trans (by assumption)))⟩
          · have e1 : (z : Int) < L := by omega
            have hzl : z < L := by omega
            have hcz := Hhcell.out z hzl
            have hWz := map_Word b y _ (z : Int) w3 HhM3.out.is
            rw [Hhwx.out z hzl] at hWz
            generalize (packN y f).getD z 0 = xz at *
            have HhWz := Lib.hid hWz; clear hWz
            clear hz
            go_wp2_with (go_at_call 25; ((with_reducible refine HhWz.out.mono ?_); rintro e w11 ⟨rfl, rfl⟩))
            go_round
            case rel => exact ⟨z + 1, by omega, by go_num⟩
            case measure => simp [intOf]; omega
      · have d1 : (y : Int) < k := by omega
        have hyk3 : y < k := by omega
        have hGy := hG.out (y : Int)
        rw [show (decide ((0 : Int) ≤ y ∧ (y : Int) < k) && f (y : Int).toNat) = f y from by rw [decide_eq_true (by omega), Bool.true_and, Int.toNat_natCast]] at hGy
        have hcy := HhB.out.cell y hyk3
        have hcl := countN_le f y
        have hst : countN f (y + 1) = countN f y + (if f y then 1 else 0) := rfl
        cases hfy : f y
        all_goals
          rw [hfy] at hGy hcy hst
          have HhGy := Lib.hid hGy; clear hGy
          have Hhst := Lib.hid hst; clear hst
          clear hfy hyk2
          go_wp2_with (go_at_call 18; ((with_reducible refine HhGy.out.mono ?_); rintro e w3 ⟨rfl, rfl⟩))
          go_round
          case rel => exact ⟨y + 1, by omega, by go_num, by rw [Hhst.out]; first | rfl | go_num⟩
          case measure => simp [intOf]; omega

theorem own : ownKnob Try.prog.godebug = none := by kernel_rfl
theorem laidOut : laidOutB Try.prog = true := by kernel_rfl
set_option maxRecDepth 100000 in
theorem lifted (os : Os) (started : os.Started) (H : Type) (enc : TypeId × Value → H) :
    ReturnsInHanded {} Try.checked os 6 .any (Rows.bitmapPlaysSpec.pre6 enc Try.prog Try.f6 Rows.bitmapPlaysRow.domain false) (Rows.bitmapPlaysSpec.post enc Try.prog Try.f6 false true false false) := by
  refine returnsInHanded_of_change_sized (C := Try.checked) own started (by kernel_rfl) Try.func6
    (ChangeSpec.witness6 (enc := enc) (C := Try.checked) false ⟨#[], #[.int .i64 0, .slice none 0 0, .slice none 0 0, .int .i64 0, .int .i64 0], []⟩ 8 (by kernel_rfl) (by kernel_rfl) (by kernel_rfl) (by kernel_rfl)) ?_
  intro W base args ds gs before hval0 hW _ hsz0 _
  have hsz : (DataW.weightsEach Try.prog (Try.f6.params.toList ++ Rows.bitmapPlaysSpec.plain.varTypes Try.prog) (ds ++ gs)).all (· ≤ reachBytes) = true := hsz0
  clear hsz0
  have hval : ∀ (j : Nat) t v, Try.f6.params[j]? = some t → args[j]? = some v → Value.okWide Try.prog W .any base t v := hval0
  have hW' := hW
  obtain ⟨p, q, hA0, hV, rfl, _, _⟩ := hW
  have hA : DataW.TrodAll enc Try.prog W 0 (fun _ => true) true Try.f6.params.toList args.toList ds p := hA0
  rw [Try.params6] at hA hval hsz
  obtain ⟨v0, vs0, d0, ds0, p0, q0, hargs, rfl, rfl, h0, r0⟩ := trodAll_cons hA
  obtain ⟨v1, vs1, d1, ds1, p1, q1, rfl, rfl, rfl, h1, r1⟩ := trodAll_cons r0
  obtain ⟨v2, vs2, d2, ds2, p2, q2, rfl, rfl, rfl, h2, r2⟩ := trodAll_cons r1
  obtain ⟨v3, vs3, d3, ds3, p3, q3, rfl, rfl, rfl, h3, r3⟩ := trodAll_cons r2
  obtain ⟨v4, vs4, d4, ds4, p4, q4, rfl, rfl, rfl, h4, r4⟩ := trodAll_cons r3
  obtain ⟨rfl, rfl, rfl⟩ := trodAll_nil r4
  obtain rfl : args = #[v0, v1, v2, v3, v4] := by cases args; simp_all
  obtain ⟨rfl, rfl⟩ := trodVars_none hV
  clear hA0 hval0
  simp only [List.append_nil] at hW'
  have hlt : ∀ x, (x ∈ p0 ∨ x ∈ p1 ∨ x ∈ p2 ∨ x ∈ p3 ∨ x ∈ p4) → x.block < W.heap.size := fun x hx => by simpa using hW'.lt x (by simpa using hx)
  have k0 : ∀ (W' : World), Below W.heap.size W W' → DataW.Trod enc Try.prog W' 0 (fun b => decide (b < W.heap.size)) true 3 v0 d0 p0 :=
    fun W' hn => Below.trod laidOut (by kernel_rfl) (of_decide_eq_true (by kernel_rfl)) h0 hn (fun x hx => hlt x (Or.inl hx))
  have k1 : ∀ (W' : World), Below W.heap.size W W' → DataW.Trod enc Try.prog W' 0 (fun b => decide (b < W.heap.size)) true 22 v1 d1 p1 :=
    fun W' hn => Below.trod laidOut (by kernel_rfl) (of_decide_eq_true (by kernel_rfl)) h1 hn (fun x hx => hlt x (Or.inr (Or.inl hx)))
  have k2 : ∀ (W' : World), Below W.heap.size W W' → DataW.Trod enc Try.prog W' 0 (fun b => decide (b < W.heap.size)) true 31 v2 d2 p2 :=
    fun W' hn => Below.trod laidOut (by kernel_rfl) (of_decide_eq_true (by kernel_rfl)) h2 hn (fun x hx => hlt x (Or.inr (Or.inr (Or.inl hx))))
  have k3 : ∀ (W' : World), Below W.heap.size W W' → DataW.Trod enc Try.prog W' 0 (fun b => decide (b < W.heap.size)) true 3 v3 d3 p3 :=
    fun W' hn => Below.trod laidOut (by kernel_rfl) (of_decide_eq_true (by kernel_rfl)) h3 hn (fun x hx => hlt x (Or.inr (Or.inr (Or.inr (Or.inl hx)))))
  have k4 : ∀ (W' : World), Below W.heap.size W W' → DataW.Trod enc Try.prog W' 0 (fun b => decide (b < W.heap.size)) true 3 v4 d4 p4 :=
    fun W' hn => Below.trod laidOut (by kernel_rfl) (of_decide_eq_true (by kernel_rfl)) h4 hn (fun x hx => hlt x (Or.inr (Or.inr (Or.inr (Or.inr (hx))))))
  obtain ⟨a0, rfl, _, _, w0⟩ := open_int Try.underlying3 (hval 0 3 v0 rfl rfl) h0
  obtain ⟨x1, hx1⟩ := open_intsAt (bytes := 8) Try.underlying22 Try.underlying39 (by kernel_rfl) (by kernel_rfl) (hval 1 22 v1 rfl rfl) h1 hsz 1 rfl rfl
  obtain ⟨x2, hx2⟩ := open_intBoolAt _ _ Try.underlying31 Try.underlying34 (by kernel_rfl) (by decide) (by kernel_rfl) (by kernel_rfl) rfl rfl Try.underlying3 Try.underlying4 (hval 2 31 v2 rfl rfl) h2 hsz 2 rfl rfl
  obtain ⟨a3, rfl, _, _, w3⟩ := open_int Try.underlying3 (hval 3 3 v3 rfl rfl) h3
  obtain ⟨a4, rfl, _, _, w4⟩ := open_int Try.underlying3 (hval 4 3 v4 rfl rfl) h4
  refine (walk (W := W) a0 w0 v1 x1 hx1 v2 x2 hx2 a3 w3 a4 w4).mono fun e W' ⟨he, hb⟩ => ?_
  subst he
  refine ⟨_, rfl, _, _, _, [], p0 ++ (p1 ++ (p2 ++ (p3 ++ (p4 ++ ([]))))), [], hW', ?_, ?_, rfl, hb.frame _, fun h => by cases h⟩
  · exact trodAll_cons_mk (shut_bool Try.underlying4 true) trodAll_mk0
  · exact trodAll_cons_mk (k0 _ hb) (trodAll_cons_mk (k1 _ hb) (trodAll_cons_mk (k2 _ hb) (trodAll_cons_mk (k3 _ hb) (trodAll_cons_mk (k4 _ hb) (trodAll_mk0)))))

theorem over : Rows.bitmapPlaysRow.holds Try.pinned (OpenSpec.ofChange Rows.bitmapPlaysSpec) :=
  OpenClaim.holds_of_wide 6 Try.f6 rfl rfl rfl rfl rfl rfl rfl ⟨rfl, rfl, rfl, rfl, rfl⟩ rfl rfl rfl rfl rfl (by kernel_rfl) Try.func6 (by kernel_rfl)
    (of_decide_eq_true (by kernel_rfl)) (by unfold Func.isWrapper; first | (rw [if_pos (by decide +kernel)]; kernel_rfl) | (rw [if_neg (by decide +kernel)]; exact ⟨rfl, rfl⟩))
    (fun os started H enc _ => lifted os started H enc)

/-- The given statement. -/
theorem proved : Rows.BitmapPlaysSaid := over
#print axioms proved
end Go.Proofs.Ythcimfblmpapeaa.bitmapPlays
