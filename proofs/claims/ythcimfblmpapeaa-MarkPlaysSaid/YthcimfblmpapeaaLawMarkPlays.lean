/- Any calls over any references: each answer; what is marked. No condition. -/
import Derived.Test.YthcimfblmpapeaaRefStep
import Derived.Test.YthcimfblmpapeaaMarkTwo
import Derived.SizedLaws
import Derived.Deep.DrawnRows
import Derived.Deep.DeepCutAuto
import Derived.Deep.CutBlock
import Derived.Deep.RegionHeld3
namespace Go.Proofs.Ythcimfblmpapeaa.markPlays
open Go.ChangeShapes Go.WideShapes Go.ChangeAt Go.RowKit
set_option linter.unusedVariables false
attribute [local go_sem] ite_min ite_max

/-- The marker, and the document's. -/
structure Pl (W : World) (B rb gm gs : Nat) (x y : Mk) (w : World) : Prop where
  im : IsMk w B x
  rk : IsRk w (B + 6) rb gm gs y
  up : Upd (fun _ => False) W w
section
variable {W w w' : World} {B rb gm gs : Nat} {x y z : Mk}
theorem Pl.still (h : Pl W B rb gm gs x y w) (u : Upd (fun _ => False) w w') : Pl W B rb gm gs x y w' := ⟨h.im.still u, h.rk.still u, h.up.trans u⟩
theorem Pl.left (hB : W.heap.size ≤ B) (h : Pl W B rb gm gs x y w) (hI : IsMk w' B z) (u : Upd (InMk B) w w') : Pl W B rb gm gs z y w' :=
  ⟨hI, h.rk.upd u (fun k hk e => by have := e.2; omega), h.up.own u (fun i e => by have := e.1; omega)⟩
theorem Pl.right (hB : W.heap.size ≤ B) (h : Pl W B rb gm gs x y w) (hI : IsRk w' (B + 6) rb gm gs z) (u : Upd (fun j => B + 6 ≤ j) w w') : Pl W B rb gm gs x z w' :=
  ⟨h.im.upd u (fun k hk e => by have := hk.2; omega), hI, h.up.own u (fun i e => by omega)⟩
end

/-- A cell of an argument. -/
def At (W : World) (a : Addr) (v : Value) : Prop := ∀ w', Below W.heap.size W w' → w'.cell? a = some v

section
variable {W : World} {B rb gm gs : Nat} {x y : Mk} {a : Addr} {v : Value}
def StepTo (W : World) (B rb gm gs : Nat) (x y : Mk) (a : Addr) (v : Value) (r : Value) (e : Ending) (w' : World) : Prop := e = .returned r ∧ Pl W B rb gm gs x y w' ∧ w'.cell? a = some v
theorem left_op {f : FuncId} {args : Array Value} {z : Mk} {r : Value} {w' : World} (hB : W.heap.size ≤ B) (ha : At W a v) (h : Pl W B rb gm gs x y w') (hc : Calls Try.prog f args w' (MkPost w' B z r)) : Calls Try.prog f args w' (StepTo W B rb gm gs z y a v r) :=
  hc.mono fun e w2 ⟨h1, h2, h3, _⟩ => ⟨h1, h.left hB h2 h3, ha w2 (h.left hB h2 h3).up.none⟩
theorem left_step {f : FuncId} {args : Array Value} {w' : World} {refs : Int → List Int} (hB : W.heap.size ≤ B) (h : Pl W B rb gm gs x y w') (hc : Calls Try.prog f args w' (StepPost w' B x refs)) : Calls Try.prog f args w' (fun e w2 => e = .returned (.bool (!x.done)) ∧ Pl W B rb gm gs (x.step refs) y w2) :=
  hc.mono fun e w2 ⟨h1, h2, h3⟩ => ⟨h1, h.left hB h2 h3⟩
theorem right_step {f : FuncId} {args : Array Value} {w' : World} {z : Mk} {r : Value} (hB : W.heap.size ≤ B) (h : Pl W B rb gm gs x y w') (hc : Calls Try.prog f args w' (RkPost w' (B + 6) rb gm gs z r)) : Calls Try.prog f args w' (fun e w2 => e = .returned r ∧ Pl W B rb gm gs x z w2) :=
  hc.mono fun e w2 ⟨h1, h2, h3⟩ => ⟨h1, h.right hB h2 h3⟩
theorem right_op {f : FuncId} {args : Array Value} {z : Mk} {r : Value} {w' : World} (hB : W.heap.size ≤ B) (ha : At W a v) (h : Pl W B rb gm gs x y w') (hc : Calls Try.prog f args w' (RkPost w' (B + 6) rb gm gs z r)) : Calls Try.prog f args w' (StepTo W B rb gm gs x z a v r) :=
  hc.mono fun e w2 ⟨h1, h2, h3⟩ => ⟨h1, h.right hB h2 h3, ha w2 (h.right hB h2 h3).up.none⟩
end

theorem mat_nil (W : World) : MatIn W (.slice none 0 0) [] := ⟨fun _ => .bool false, ⟨none, 0, rfl, Nat.le_refl _, Nat.zero_le _, fun h => absurd h (Nat.lt_irrefl _)⟩, fun i h => absurd h (Nat.not_lt_zero _)⟩
theorem refs_nil : refsOf [] = fun _ => [] := by
  funext b
  unfold refsOf
  split <;> simp

def PackAt (w3 : World) (a : Addr) (va : Value) (ws : List Nat) (w' : World) (e : Ending) (w2 : World) : Prop :=
  ∃ v, e = .returned v ∧ WordsR w2 v ws ∧ Upd (fun _ => False) w' w2 ∧ Upd (fun _ => False) w3 w2 ∧ w2.cell? a = some va
def MarksAt (w3 : World) (a : Addr) (va : Value) (n : Nat) (f : Nat → Bool) (w' : World) (e : Ending) (w2 : World) : Prop :=
  ∃ b g, e = .returned (.pointer (some ⟨b, 0, none⟩)) ∧ MapF w2 b g n f ∧ Upd (fun _ => False) w' w2 ∧ Upd (fun _ => False) w3 w2 ∧ w2.cell? a = some va
def RetAt (w3 : World) (a : Addr) (va : Value) (v : Value) (e : Ending) (w2 : World) : Prop := e = .returned v ∧ Upd (fun _ => False) w3 w2 ∧ w2.cell? a = some va
theorem cell_later {w w' : World} {a : Addr} {v : Value} (h : w.cell? a = some v) (u : Upd (fun _ => False) w w') : w'.cell? a = some v := (u.none.cell (World.block_lt_of_cell? w _ h)).trans h
theorem ret_at {f : FuncId} {args : Array Value} {w3 w' : World} {a : Addr} {va v : Value} (h : Calls Try.prog f args w' (RetU w3 v)) (u : Upd (fun _ => False) w3 w') (hc : w3.cell? a = some va) : Calls Try.prog f args w' (RetAt w3 a va v) :=
  h.mono fun e w2 ⟨h1, h2⟩ => ⟨h1, h2, cell_later hc h2⟩
theorem pack_at {w3 w' : World} {a : Addr} {va v : Value} {n : Nat} {f : Nat → Bool} (h : BoolsR w3 v n f) (hn : n ≤ 1048576) (u : Upd (fun _ => False) w3 w') (hc : w3.cell? a = some va) : Calls Try.prog 24 #[v] w' (PackAt w3 a va (packN n f) w') :=
  (ref_Pack n f v w' (h.upd u.none) hn).mono fun e w2 ⟨g, c, h1, h2, h3⟩ => ⟨_, h1, h2.r, h3, u.trans h3, cell_later hc (u.trans h3)⟩
theorem marks_at {w3 w' : World} {a : Addr} {va : Value} {B : Nat} {x : Mk} (h : IsMk w3 B x) (u : Upd (fun _ => False) w3 w') (hc : w3.cell? a = some va) : Calls Try.prog 41 #[.pointer (some ⟨B + 5, 0, none⟩)] w' (MarksAt w3 a va x.n x.m w') :=
  (mark_Marks B x w' (h.still u)).mono fun e w2 ⟨b, g, h1, h2, h3, h4, h5⟩ => ⟨b, g, h1, h2, h5, u.trans h5, cell_later hc (u.trans h5)⟩
theorem words_at {w3 w' : World} {a : Addr} {va : Value} {b g n : Nat} {f : Nat → Bool} (h : MapF w' b g n f) (u : Upd (fun _ => False) w3 w') (hc : w3.cell? a = some va) : Calls Try.prog 28 #[.pointer (some ⟨b, 0, none⟩)] w' (PackAt w3 a va (packN n f) w') :=
  (words_own h (Upd.refl _ w')).mono fun e w2 ⟨g', c', h1, h2, h3⟩ => ⟨_, h1, h2, h3, u.trans h3, cell_later hc (u.trans h3)⟩
theorem words_later {w w' : World} {v : Value} {ws : List Nat} (h : WordsR w v ws) (u : Upd (fun _ => False) w w') : WordsR w' v ws := h.upd u.none

set_option maxRecDepth 100000 in
set_option maxHeartbeats 2000000 in
theorem walk {W : World} (n : Int) (w0 : (Lit.int .i64 n).wf = true) (room : Int) (w1 : (Lit.int .i64 room).wf = true) (tv : Value) (tt : List (List Int)) (ht : MatIn W tv tt ∧ tt.length * 24 ≤ 140737488351232) (lv : Value) (lx : Nat × (Nat → Nat → Value)) (hl : PairsIn W lv lx) :
    Calls Try.prog 15 #[.int .i64 n, .int .i64 room, tv, lv] W (LawPost W) := by
  obtain ⟨hM, hMl⟩ := ht
  have hlight := law_light tv tt W hM hMl
  obtain ⟨N, X⟩ := lx
  obtain ⟨hR, hreach, hX⟩ := hl
  simp only at hreach hR hX
  have hN : (N : Int) ≤ 17592186044416 := by omega
  obtain ⟨la, lcap, hlv, -⟩ := (show RowsIn W lv 2 N X from hR)
  subst hlv
  obtain ⟨ta, tcap, htv⟩ := mat_shape hM
  subst htv
  clear w0 w1 hreach
  cases hlt : lightM tt
  · rw [hlt] at hlight
    have haw := awake19 W W (Upd.refl _ _)
    have Hhlight := Lib.hid hlight; clear hlight
    have Hhaw := Lib.hid haw; clear haw
    clear hM hX hR hMl hlt
    go_enter Try.func15, Try.ntmps15
    go_wp2_with (first | (go_at_call 31; (with_reducible refine Hhlight.out.mono ?_); rintro e w2 ⟨rfl, rfl⟩) | (go_at_call 32; (with_reducible refine Hhaw.out.mono ?_); rintro e w2 ⟨rfl, hu⟩))
    go_ret
    exact ⟨rfl, hu.none⟩
  · rw [hlt] at hlight
    have hlb := light_bounds hlt
    obtain ⟨kI, hkI⟩ : ∃ kI, kI = min n 70 := ⟨_, rfl⟩
    obtain ⟨k, hk⟩ : ∃ k : Nat, (max 0 (min kI 1048576)).toNat = k := ⟨_, rfl⟩
    have hk70 : (k : Int) ≤ 70 := by omega
    have hnew := mark_New kI room W
    unfold NewPost at hnew
    rw [hk] at hnew
    have Hhlight := Lib.hid hlight; clear hlight
    have HhM := Lib.hid hM; clear hM
    have HhX := Lib.hid hX; clear hX
    have HhR := Lib.hid hR; clear hR
    have Hhlb := Lib.hid hlb; clear hlb
    have Hhnew := Lib.hid hnew; clear hnew
    have Hhk := Lib.hid hk; clear hk
    clear hMl hlt
    go_enter Try.func15, Try.ntmps15
    go_wp2_with fail
    refine Hhlight.out.mono ?_
    rintro e w' ⟨rfl, rfl⟩
    go_wp2_with fail
    rw [← hkI]
    refine Hhnew.out.mono ?_
    rintro e w1 ⟨rfl, hI, hu1, hz1⟩
    have hrn := rk_New kI room w1
    unfold RkNew at hrn
    obtain ⟨B, hB⟩ : ∃ B, B = W.heap.size := ⟨_, rfl⟩
    rw [Hhk.out, hz1] at hrn
    rw [← hB] at hI hz1 hrn ⊢
    have hBW : W.heap.size ≤ B := by omega
    have HhI := Lib.hid hI; clear hI
    have Hhu1 := Lib.hid hu1; clear hu1
    have Hhrn := Lib.hid hrn; clear hrn
    have HhBW := Lib.hid hBW; clear hBW
    have HhB := Lib.hid hB; clear hB
    have Hhz1 := Lib.hid hz1; clear hz1
    clear hkI Hhlight Hhnew
    go_wp2_with fail
    refine Hhrn.out.mono ?_
    rintro e w2 ⟨rb, gm, gs, rfl, hRk, hu2⟩
    have hp0 : Pl W B rb gm gs ⟨k, fun _ => false, fun _ => false, [], roomOf room, false⟩ ⟨k, fun _ => false, fun _ => false, [], roomOf room, false⟩ w2 := ⟨HhI.out.still hu2, hRk, Hhu1.out.trans hu2⟩
    have hok0 := ok_new k _ (roomOf_pos room)
    clear hRk hu2 HhI Hhu1 Hhrn Hhz1
    have Hhp0 := Lib.hid hp0; clear hp0
    have Hhok0 := Lib.hid hok0; clear hok0
    go_upto_block 0 with fail
    go_cut [11] (fun i wx => ∃ x : Mk, Pl W B rb gm gs x x wx ∧ Ok x ∧ x.n = k)
    case first =>
      go_wp2_with fail
      go_loopw [11] (fun i wr => ∃ (j : Nat) (x : Mk), i = .int .i64 j ∧ j ≤ N ∧ j ≤ 200 ∧ Pl W B rb gm gs x x wr ∧ Ok x ∧ x.n = k) (fun i _ => (N - intOf i).toNat)
      case atStart => exact ⟨0, _, rfl, Nat.zero_le _, by omega, Hhp0.out, Hhok0.out, rfl⟩
      case round =>
        obtain ⟨j, x, rfl, hj, hj200, hp, hO, hn⟩ := hrel
        clear Hhp0 Hhok0
        by_cases hjN : j = N ∨ j = 200
        · have key : (¬ ((j : Int) < N)) ∨ (((j : Int) < N) ∧ ¬ ((j : Int) < 200)) := by omega
          have Hhp := Lib.hid hp; clear hp
          have HhO := Lib.hid hO; clear hO
          have Hhn := Lib.hid hn; clear hn
          clear hjN
          rcases key with c1 | ⟨c1, c2⟩
          all_goals
            go_wp2_with fail
            go_meet
            exact ⟨x, Hhp.out, HhO.out, Hhn.out⟩
        · have c1 : (j : Int) < N := by omega
          have c2 : (j : Int) < 200 := by omega
          have hjn : j < N := by omega
          obtain ⟨d, b, hd, hbv, -⟩ := HhX.out j hjn
          obtain ⟨b0, off, hix, hb0, hc⟩ := HhR.out.index (P := Try.prog) Try.underlying59 (by kernel_rfl) (by kernel_rfl) hjn
          have cd := fun (w2 : World) (h : Below W.heap.size W w2) => (h.cell (p := ⟨b0, off + j * 2 + 0, none⟩) hb0).trans (hc 0 (by decide))
          have cb := fun (w2 : World) (h : Below W.heap.size W w2) => (h.cell (p := ⟨b0, off + j * 2 + 1, none⟩) hb0).trans (hc 1 (by decide))
          simp only [Nat.add_zero] at cd
          rw [hd] at cd
          rw [hbv] at cb
          have cd1 := cd wr hp.up.none
          have cb1 : wr.drew.cell? ⟨b0, off + j * 2 + 1, none⟩ = some (.int .i64 b) := cb wr hp.up.none
          have cb : At W ⟨b0, off + j * 2 + 1, none⟩ (.int .i64 b) := cb
          have hp1 : Pl W B rb gm gs x x wr.drew := hp.still (Upd.refl _ _).drew
          have hDone := fun (y : Mk) w' (h : Pl W B rb gm gs y y w') => mark_Done B y w' h.im
          have hDone2 := fun (y : Mk) w' (h : Pl W B rb gm gs y y w') => rk_Done h.rk
          have HhDone := Lib.hid hDone; clear hDone
          have HhDone2 := Lib.hid hDone2; clear hDone2
          clear hd hbv hc hjN cd
          by_cases d0 : d = 0
          · subst d0
            have hyn := ((shade_same x b).1).trans hn
            have hyO := ok_shade hO b
            have h1 := fun (z : Mk) w' (h : Pl W B rb gm gs x z w') => left_op HhBW.out cb h (mark_Shade B b x w' h.im)
            have h2 := fun (z : Mk) w' (h : Pl W B rb gm gs z x w') => right_op HhBW.out cb h (rk_Shade h.rk b)
            unfold StepTo at h1 h2
            generalize x.shade b = y at *
            generalize offB x.n x.m b = r at *
            have Hh1 := Lib.hid h1; clear h1
            have Hh2 := Lib.hid h2; clear h2
            have Hhyn := Lib.hid hyn; clear hyn
            have HhyO := Lib.hid hyO; clear hyO
            have HhO := Lib.hid hO; clear hO
            have Hhn := Lib.hid hn; clear hn
            have Hcb := Lib.hid cb; clear cb
            have Hhp := Lib.hid hp; clear hp
            go_wp2_with fail
            refine wp_hide (fun Q2 hQ2 => ?_)
            go_region_held3 (fun w' => w'.cell? ⟨b0, off + j * 2 + 1, none⟩ = some (.int .i64 b))
              (((try go_split_ands); assumption))
              (((try go_split_ands); first
                | (go_at_call 36; (with_reducible refine (Hh1.out _ _ (by assumption)).mono ?_); rintro e w3 ⟨rfl, hp3, hc3⟩)
                | (go_at_call 43; (with_reducible refine (Hh2.out _ _ (by assumption)).mono ?_); rintro e w4 ⟨rfl, hp4, hc4⟩)))
            all_goals rw [hQ2.out]
            all_goals go_wp2_with (first | (go_at_call 40; (with_reducible refine (HhDone.out y _ (by assumption)).mono ?_); rintro e w5 ⟨rfl, rfl⟩) | (go_at_call 46; (with_reducible refine (HhDone2.out y _ (by assumption)).mono ?_); rintro e w5 ⟨rfl, rfl⟩))
            all_goals go_roundw
            case rel => exact ⟨j + 1, y, by go_num, by omega, by omega, by assumption, HhyO.out, Hhyn.out⟩
            case measure => simp [intOf]; omega
          · by_cases d1 : d = 1
            · subst d1
              have hyn := (black_same x b).trans hn
              have hyO := ok_black hO b
              have h1 := fun (z : Mk) w' (h : Pl W B rb gm gs x z w') => left_op HhBW.out cb h (mark_Black B b x w' h.im)
              have h2 := fun (z : Mk) w' (h : Pl W B rb gm gs z x w') => right_op HhBW.out cb h (rk_Black h.rk b)
              unfold StepTo at h1 h2
              generalize x.black b = y at *
              generalize offB x.n x.m b = r at *
              have Hh1 := Lib.hid h1; clear h1
              have Hh2 := Lib.hid h2; clear h2
              have Hhyn := Lib.hid hyn; clear hyn
              have HhyO := Lib.hid hyO; clear hyO
              have HhO := Lib.hid hO; clear hO
              have Hhn := Lib.hid hn; clear hn
              have Hcb := Lib.hid cb; clear cb
              have Hhp := Lib.hid hp; clear hp
              go_wp2_with fail
              refine wp_hide (fun Q2 hQ2 => ?_)
              go_region_held3 (fun w' => w'.cell? ⟨b0, off + j * 2 + 1, none⟩ = some (.int .i64 b))
                (((try go_split_ands); assumption))
                (((try go_split_ands); first
                  | (go_at_call 34; (with_reducible refine (Hh1.out _ _ (by assumption)).mono ?_); rintro e w3 ⟨rfl, hp3, hc3⟩)
                  | (go_at_call 44; (with_reducible refine (Hh2.out _ _ (by assumption)).mono ?_); rintro e w4 ⟨rfl, hp4, hc4⟩)))
              all_goals rw [hQ2.out]
              all_goals go_wp2_with (first | (go_at_call 40; (with_reducible refine (HhDone.out y _ (by assumption)).mono ?_); rintro e w5 ⟨rfl, rfl⟩) | (go_at_call 46; (with_reducible refine (HhDone2.out y _ (by assumption)).mono ?_); rintro e w5 ⟨rfl, rfl⟩))
              all_goals go_roundw
              case rel => exact ⟨j + 1, y, by go_num, by omega, by omega, by assumption, HhyO.out, Hhyn.out⟩
              case measure => simp [intOf]; omega
            · have e0 : (d == 0) = false := by simp; omega
              have e1 : (d == 1) = false := by simp; omega
              clear cb1 hp1
              by_cases d2 : d = 2
              · subst d2
                have hyn := step_n hO (fun _ => [])
                have hyO := step_ok hO (fun _ => [])
                have h1 := left_step HhBW.out hp (mark_Step_nilF B x wr hp.im hO (by rw [hn]; omega))
                have h2 := fun w' (h : Pl W B rb gm gs (x.step fun _ => []) x w') => right_step HhBW.out h (rk_Step h.rk hO (mat_nil W) h.up.none (by have := HhBW.out; omega) ⟨Nat.zero_le _, fun l hl => (by cases hl)⟩)
                rw [refs_nil] at h2
                generalize x.step (fun _ => []) = y at *
                generalize (!x.done) = r at *
                have Hh1 := Lib.hid h1; clear h1
                have Hh2 := Lib.hid h2; clear h2
                have Hhyn := Lib.hid hyn; clear hyn
                have HhyO := Lib.hid hyO; clear hyO
                have HhO := Lib.hid hO; clear hO
                have Hhn := Lib.hid hn; clear hn
                have Hcb := Lib.hid cb; clear cb
                have Hhp := Lib.hid hp; clear hp
                go_wp2_with (first | (go_at_call 38; (with_reducible refine Hh1.out.mono ?_); rintro e w3 ⟨rfl, hp3⟩) | (go_at_call 45; (with_reducible refine (Hh2.out _ hp3).mono ?_); rintro e w4 ⟨rfl, hp4⟩) | (go_at_call 40; (with_reducible refine (HhDone.out y _ (by assumption)).mono ?_); rintro e w5 ⟨rfl, rfl⟩) | (go_at_call 46; (with_reducible refine (HhDone2.out y _ (by assumption)).mono ?_); rintro e w5 ⟨rfl, rfl⟩))
                go_roundw
                case rel => exact ⟨j + 1, y, by go_num, by omega, by omega, hp4, HhyO.out, Hhyn.out.trans Hhn.out⟩
                case measure => simp [intOf]; omega
              · have e2 : (d == 2) = false := by simp; omega
                have hrf := law_refs ta tt.length tcap wr
                unfold RefsPost refsFn at hrf
                have hyn := step_n hO (refsOf tt)
                have hyO := step_ok hO (refsOf tt)
                have hBz : B + 6 ≤ wr.heap.size := by have := hp.im.lt; omega
                have h1 := fun w' bx (h : Pl W B rb gm gs x x w') (u : Upd (fun _ => False) wr w') (hc : w'.cell? ⟨bx, 0, none⟩ = some (.slice ta tt.length tcap)) (hb : wr.heap.size ≤ bx) => left_step HhBW.out h (step_table (W := W) hp.im hO (by rw [hn]; omega) HhBW.out HhM.out hp.up hBz hc hb u Hhlb.out)
                have h2 := fun w' (h : Pl W B rb gm gs (x.step (refsOf tt)) x w') => right_step HhBW.out h (rk_Step h.rk hO HhM.out h.up.none (by have := HhBW.out; omega) Hhlb.out)
                unfold refsFn at h1
                generalize x.step (refsOf tt) = y at *
                generalize (!x.done) = r at *
                have Hh1 := Lib.hid h1; clear h1
                have Hh2 := Lib.hid h2; clear h2
                have Hhyn := Lib.hid hyn; clear hyn
                have HhyO := Lib.hid hyO; clear hyO
                have HhO := Lib.hid hO; clear hO
                have Hhn := Lib.hid hn; clear hn
                have Hcb := Lib.hid cb; clear cb
                have Hhrf := Lib.hid hrf; clear hrf
                have Hhp := Lib.hid hp; clear hp
                go_wp2_with (first | (go_at_call 37; (with_reducible refine Hhrf.out.mono ?_); rintro e w2 ⟨bx, rfl, hc2, hbx, hbx2, hu2⟩; have hc3 := Hh1.out w2 bx (Hhp.out.still hu2) hu2 hc2 hbx; clear hc2 hbx hbx2 hu2) | (go_at_call 38; (with_reducible refine hc3.mono ?_); rintro e w3 ⟨rfl, hp3⟩) | (go_at_call 45; (with_reducible refine (Hh2.out _ hp3).mono ?_); rintro e w4 ⟨rfl, hp4⟩) | (go_at_call 40; (with_reducible refine (HhDone.out y _ (by assumption)).mono ?_); rintro e w5 ⟨rfl, rfl⟩) | (go_at_call 46; (with_reducible refine (HhDone2.out y _ (by assumption)).mono ?_); rintro e w5 ⟨rfl, rfl⟩))
                go_roundw
                case rel => exact ⟨j + 1, y, by go_num, by omega, by omega, hp4, HhyO.out, Hhyn.out.trans Hhn.out⟩
                case measure => simp [intOf]; omega
    case rest =>
      obtain ⟨x, hp, hO, hn⟩ := hcut
      clear Hhp0 Hhok0 HhM HhX HhR Hhlb
      obtain ⟨ra, rc, k1, k2⟩ := hp.rk.st
      obtain ⟨c0, -, -, -, -⟩ := rk_cells k1
      rw [hn] at c0
      have hM1 := fun (q : Nat) (hq : q < k) => marked_is hp.im (b := (q : Int)) (r := x.m q) (by rw [hn, decide_eq_true (by omega), Bool.true_and, Int.toNat_natCast])
      have hq0 := hp.rk.mm
      rw [hn] at hq0
      have hcq := fun (q : Nat) (hq : q < k) => hq0.cell q hq
      have a1 := fun w' (u : Upd (fun _ => False) wc w') => ret_at (from_same (marked_is (hp.im.still u) (b := -1) (r := false) (by rw [decide_eq_false (by omega)]; rfl)) u) u c0
      have a2 := fun w' (u : Upd (fun _ => False) wc w') => ret_at (from_same (marked_is (hp.im.still u) (b := (k : Int)) (r := false) (by rw [hn, decide_eq_false (by omega)]; rfl)) u) u c0
      have a3 := fun w' (u : Upd (fun _ => False) wc w') => marks_at hp.im u c0
      rw [hn] at a3
      have a4 := fun w' (u : Upd (fun _ => False) wc w') => pack_at hq0.r (by omega) u c0
      have a5 := fun w' b g (h : MapF w' b g k x.m) (u : Upd (fun _ => False) wc w') => words_at (w3 := wc) h u c0
      have a6 := fun w' v v' (h1 : WordsR w' v (packN k x.m)) (h2 : WordsR w' v' (packN k x.m)) (u : Upd (fun _ => False) wc w') => ret_at (same_words h1 h2 rfl u) u c0
      have a7 := fun w' u => ret_at (awake19 wc w' u) u c0
      have hup := hp.up
      have hkm : (k : Int) ≤ 1048576 := by omega
      unfold RetAt at a1 a2 a6 a7
      unfold PackAt at a4 a5
      unfold MarksAt at a3
      have HhM1 := Lib.hid hM1; clear hM1
      have Hhcq := Lib.hid hcq; clear hcq
      have Ha1 := Lib.hid a1; clear a1
      have Ha2 := Lib.hid a2; clear a2
      have Ha3 := Lib.hid a3; clear a3
      have Ha4 := Lib.hid a4; clear a4
      have Ha5 := Lib.hid a5; clear a5
      have Ha6 := Lib.hid a6; clear a6
      have Ha7 := Lib.hid a7; clear a7
      have Hhup := Lib.hid hup; clear hup
      clear hp hO hn k1 k2 hq0
      go_wp2_with fail
      go_loop [105, 14, 15] (fun i _ _ => ∃ q : Nat, i = .int .i64 q ∧ q ≤ k) (fun i _ _ => (k - intOf i).toNat)
      case atStart => exact ⟨0, rfl, Nat.zero_le _⟩
      case round =>
        obtain ⟨q, rfl, hq⟩ := hrel
        by_cases hqk : q = k
        · have e1 : ¬ ((q : Int) < k) := by omega
          clear hqk
          have hu0 := (Upd.refl (fun _ => False) wc).drew
          have cd0 : wc.drew.cell? ⟨rb, 0, none⟩ = some (.slice (some ⟨gm, 0, none⟩) k k) := c0
          go_wp2_with fail
          refine wp_hide (fun Q2 hQ2 => ?_)
          go_region_held3 (fun w' => Upd (fun _ => False) wc w' ∧ w'.cell? ⟨rb, 0, none⟩ = some (.slice (some ⟨gm, 0, none⟩) k k))
            (((try go_split_ands); exact ⟨by assumption, by assumption⟩))
            (((try go_split_ands); first
              | (go_at_call 39; first | ((with_reducible refine (Ha1.out _ (by assumption)).mono ?_); rintro e w4 ⟨rfl, hu4, hc4⟩) | ((with_reducible refine (Ha2.out _ (by assumption)).mono ?_); rintro e w4 ⟨rfl, hu4, hc4⟩))
              | (go_at_call 41; (with_reducible refine (Ha3.out _ (by assumption)).mono ?_); rintro e w4 ⟨bm, gg, rfl, hMk, uM, hu4, hc4⟩)
              | (go_at_call 24; (with_reducible refine (Ha4.out _ (by assumption)).mono ?_); rintro e w4 ⟨vp, rfl, hPk, uP, hu4, hc4⟩)
              | (go_at_call 28; (first | (with_reducible refine (Ha5.out _ _ _ hMk (by assumption)).mono ?_) | (with_reducible refine (Ha5.out _ _ _ (hMk.upd uP (fun x => x) (fun x => x)) (by assumption)).mono ?_)); rintro e w4 ⟨vw, rfl, hWd, uW, hu4, hc4⟩)
              | (go_at_call 27; (first | (with_reducible refine (Ha6.out _ _ _ (words_later hWd uP) hPk (by assumption)).mono ?_) | (with_reducible refine (Ha6.out _ _ _ hWd (words_later hPk uW) (by assumption)).mono ?_) | (with_reducible refine (Ha6.out _ _ _ hWd (words_later (words_later hPk uM) uW) (by assumption)).mono ?_)); rintro e w4 ⟨rfl, hu4, hc4⟩)
              | (go_at_call 32; (with_reducible refine (Ha7.out _ (by assumption)).mono ?_); rintro e w4 ⟨rfl, hu4, hc4⟩)))
          all_goals rw [hQ2.out]
          all_goals go_wp2
          all_goals go_ret
          all_goals exact ⟨rfl, Upd.none (Hhup.out.trans (by assumption))⟩
        · have e1 : (q : Int) < k := by omega
          have hqk2 : q < k := by omega
          have hm := HhM1.out q hqk2
          have hcc := Hhcq.out q hqk2
          generalize x.m q = mq at *
          have Hhm := Lib.hid hm; clear hm
          clear hqk
          go_wp2_with (go_at_call 39; (with_reducible refine Hhm.out.mono ?_); rintro e w4 ⟨rfl, rfl⟩)
          go_round
          case rel => exact ⟨q + 1, by go_num, by omega⟩
          case measure => simp [intOf]; omega

theorem own : ownKnob Try.prog.godebug = none := by kernel_rfl
theorem laidOut : laidOutB Try.prog = true := by kernel_rfl
set_option maxRecDepth 100000 in
theorem lifted (os : Os) (started : os.Started) (H : Type) (enc : TypeId × Value → H) :
    ReturnsInHanded {} Try.checked os 15 .any (Rows.markPlaysSpec.pre6 enc Try.prog Try.f15 Rows.markPlaysRow.domain false) (Rows.markPlaysSpec.post enc Try.prog Try.f15 false true false false) := by
  refine returnsInHanded_of_change_sized (C := Try.checked) own started (by kernel_rfl) Try.func15
    (ChangeSpec.witness6 (enc := enc) (C := Try.checked) false ⟨#[], #[.int .i64 0, .int .i64 0, .slice none 0 0, .slice none 0 0], []⟩ 8 (by kernel_rfl) (by kernel_rfl) (by kernel_rfl) (by kernel_rfl)) ?_
  intro W base args ds gs before hval0 hW _ hsz0 _
  have hsz : (DataW.weightsEach Try.prog (Try.f15.params.toList ++ Rows.markPlaysSpec.plain.varTypes Try.prog) (ds ++ gs)).all (· ≤ reachBytes) = true := hsz0
  clear hsz0
  have hval : ∀ (j : Nat) t v, Try.f15.params[j]? = some t → args[j]? = some v → Value.okWide Try.prog W .any base t v := hval0
  have hW' := hW
  obtain ⟨p, q, hA0, hV, rfl, _, _⟩ := hW
  have hA : DataW.TrodAll enc Try.prog W 0 (fun _ => true) true Try.f15.params.toList args.toList ds p := hA0
  rw [Try.params15] at hA hval hsz
  obtain ⟨v0, vs0, d0, ds0, p0, q0, hargs, rfl, rfl, h0, r0⟩ := trodAll_cons hA
  obtain ⟨v1, vs1, d1, ds1, p1, q1, rfl, rfl, rfl, h1, r1⟩ := trodAll_cons r0
  obtain ⟨v2, vs2, d2, ds2, p2, q2, rfl, rfl, rfl, h2, r2⟩ := trodAll_cons r1
  obtain ⟨v3, vs3, d3, ds3, p3, q3, rfl, rfl, rfl, h3, r3⟩ := trodAll_cons r2
  obtain ⟨rfl, rfl, rfl⟩ := trodAll_nil r3
  obtain rfl : args = #[v0, v1, v2, v3] := by cases args; simp_all
  obtain ⟨rfl, rfl⟩ := trodVars_none hV
  clear hA0 hval0
  simp only [List.append_nil] at hW'
  have hlt : ∀ x, (x ∈ p0 ∨ x ∈ p1 ∨ x ∈ p2 ∨ x ∈ p3) → x.block < W.heap.size := fun x hx => by simpa using hW'.lt x (by simpa using hx)
  have k0 : ∀ (W' : World), Below W.heap.size W W' → DataW.Trod enc Try.prog W' 0 (fun b => decide (b < W.heap.size)) true 3 v0 d0 p0 :=
    fun W' hn => Below.trod laidOut (by kernel_rfl) (of_decide_eq_true (by kernel_rfl)) h0 hn (fun x hx => hlt x (Or.inl hx))
  have k1 : ∀ (W' : World), Below W.heap.size W W' → DataW.Trod enc Try.prog W' 0 (fun b => decide (b < W.heap.size)) true 3 v1 d1 p1 :=
    fun W' hn => Below.trod laidOut (by kernel_rfl) (of_decide_eq_true (by kernel_rfl)) h1 hn (fun x hx => hlt x (Or.inr (Or.inl hx)))
  have k2 : ∀ (W' : World), Below W.heap.size W W' → DataW.Trod enc Try.prog W' 0 (fun b => decide (b < W.heap.size)) true 49 v2 d2 p2 :=
    fun W' hn => Below.trod laidOut (by kernel_rfl) (of_decide_eq_true (by kernel_rfl)) h2 hn (fun x hx => hlt x (Or.inr (Or.inr (Or.inl hx))))
  have k3 : ∀ (W' : World), Below W.heap.size W W' → DataW.Trod enc Try.prog W' 0 (fun b => decide (b < W.heap.size)) true 59 v3 d3 p3 :=
    fun W' hn => Below.trod laidOut (by kernel_rfl) (of_decide_eq_true (by kernel_rfl)) h3 hn (fun x hx => hlt x (Or.inr (Or.inr (Or.inr (hx)))))
  obtain ⟨a0, rfl, _, _, w0⟩ := open_int Try.underlying3 (hval 0 3 v0 rfl rfl) h0
  obtain ⟨a1, rfl, _, _, w1⟩ := open_int Try.underlying3 (hval 1 3 v1 rfl rfl) h1
  obtain ⟨x2, hx2⟩ := open_matAt Try.underlying49 Try.underlying50 Try.underlying3 (by kernel_rfl) (by kernel_rfl) (by kernel_rfl) (hval 2 49 v2 rfl rfl) h2 hsz 2 rfl rfl
  obtain ⟨x3, hx3⟩ := open_pairsAt _ _ Try.underlying59 Try.underlying61 (by kernel_rfl) (by decide) (by kernel_rfl) (by kernel_rfl) rfl rfl Try.underlying3 Try.underlying3 (hval 3 59 v3 rfl rfl) h3 hsz 3 rfl rfl
  refine (walk (W := W) a0 w0 a1 w1 v2 x2 hx2 v3 x3 hx3).mono fun e W' ⟨he, hb⟩ => ?_
  subst he
  refine ⟨_, rfl, _, _, _, [], p0 ++ (p1 ++ (p2 ++ (p3 ++ ([])))), [], hW', ?_, ?_, rfl, hb.frame _, fun h => by cases h⟩
  · exact trodAll_cons_mk (shut_bool Try.underlying4 true) trodAll_mk0
  · exact trodAll_cons_mk (k0 _ hb) (trodAll_cons_mk (k1 _ hb) (trodAll_cons_mk (k2 _ hb) (trodAll_cons_mk (k3 _ hb) (trodAll_mk0))))

theorem over : Rows.markPlaysRow.holds Try.pinned (OpenSpec.ofChange Rows.markPlaysSpec) :=
  OpenClaim.holds_of_wide 15 Try.f15 rfl rfl rfl rfl rfl rfl rfl ⟨rfl, rfl, rfl, rfl, rfl⟩ rfl rfl rfl rfl rfl (by kernel_rfl) Try.func15 (by kernel_rfl)
    (of_decide_eq_true (by kernel_rfl)) (by unfold Func.isWrapper; first | (rw [if_pos (by decide +kernel)]; kernel_rfl) | (rw [if_neg (by decide +kernel)]; exact ⟨rfl, rfl⟩))
    (fun os started H enc _ => lifted os started H enc)

/-- The given statement. -/
theorem proved : Rows.MarkPlaysSaid := over
#print axioms proved
end Go.Proofs.Ythcimfblmpapeaa.markPlays
