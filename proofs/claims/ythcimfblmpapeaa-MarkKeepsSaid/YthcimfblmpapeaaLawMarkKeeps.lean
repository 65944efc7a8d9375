/- What is marked stays so, and is shaded once alone. No condition. -/
import Derived.Test.YthcimfblmpapeaaAwake19
import Derived.SizedLaws
import Derived.Deep.DrawnRows
import Derived.Deep.DeepCutAuto
import Derived.Deep.CutBlock
namespace Go.Proofs.Ythcimfblmpapeaa.markKeeps
open Go.ChangeShapes Go.WideShapes Go.ChangeAt Go.RowKit
set_option linter.unusedVariables false
attribute [local go_sem] ite_min ite_max

/-- The state of the law's first loop. -/
def St (W : World) (B k : Nat) (x : Mk) (ws : List Int) (v : Value) (wr : World) : Prop :=
  IsMk wr B x ∧ Ok x ∧ x.n = k ∧ (∀ b ∈ ws, 0 ≤ b ∧ b < k ∧ x.m b.toNat = true) ∧ wr.ownsRow (B + 6) 3 1 v ws.length (ints ws) ∧ Upd (fun _ => False) W wr ∧ B + 6 ≤ wr.heap.size

theorem St.of {W wr w2 : World} {B k : Nat} {x y : Mk} {ws : List Int} {v : Value} (hW : W.heap.size ≤ B) (h : St W B k x ws v wr) (hI : IsMk w2 B y) (hO : Ok y) (hn : y.n = x.n) (hm : ∀ i, x.m i = true → y.m i = true) (u : Upd (InMk B) wr w2) : St W B k y ws v w2 := by
  obtain ⟨h1, h2, h3, h4, h5, h6, h7⟩ := h
  refine ⟨hI, hO, hn.trans h3, fun b hb => ?_, ownsRow_upd h5 u (fun i hi e => by have := e.2; omega), h6.own u (fun i e => by have := e.1; omega), Nat.le_trans h7 u.size⟩
  obtain ⟨a1, a2, a3⟩ := h4 b hb
  exact ⟨a1, a2, hm _ a3⟩
theorem St.push {W w2 w3 w4 : World} {B k : Nat} {y : Mk} {ws : List Int} {v : Value} {a' : Option Addr} {c' : Nat} {b : Int} {o : Obj} (hW : W.heap.size ≤ B) (h : St W B k y ws v w2) (hb : 0 ≤ b ∧ b < k ∧ y.m b.toNat = true) (h3 : w3 = w2.alloc o)
    (ho : w4.ownsRow (B + 6) 3 1 (.slice a' (ws.length + 1) c') (ws.length + 1) (ints ws ++ [.int .i64 b])) (hg : w3.grownBy w4 v.ownBlock) : St W B k y (ws ++ [b]) (.slice a' (ws ++ [b]).length c') w4 := by
  subst h3
  obtain ⟨k1, k2, k3, k4, k5, k6, k7⟩ := h
  have u3 : Upd (fun _ => False) w2 (w2.alloc o) := (Upd.refl _ _).alloc _
  have u4 : Upd (fun j => B + 6 ≤ j) (w2.alloc o) w4 := (Upd.refl _ _).grown hg (fun j e _ => (k5.lt j e).1)
  refine ⟨(k1.still u3).upd u4 (fun j hj e => by have := hj.2; omega), k2, k3, fun q hq => ?_, ?_, (k6.trans u3).own u4 (fun i e => by omega), by have := u4.size; simp at this; omega⟩
  · rcases List.mem_append.1 hq with hq | hq
    · exact k4 q hq
    · simp at hq
      subst hq
      exact hb
  · have : ints (ws ++ [b]) = ints ws ++ [.int .i64 b] := by simp [ints]
    rw [this, List.length_append]
    exact ho
theorem black_mono (x : Mk) (b : Int) (i : Nat) (h : x.m i = true) : (x.black b).m i = true := by
  unfold Mk.black
  split
  · show setF x.m b true i = true
    rw [setF_at]
    split <;> simp [h]
  · exact h
theorem black_same (x : Mk) (b : Int) : (x.black b).n = x.n := by
  unfold Mk.black
  split <;> rfl
theorem black_marks (x : Mk) (b : Int) (h0 : 0 ≤ b) (h1 : b < x.n) : (x.black b).m b.toNat = true := by
  unfold Mk.black
  cases hb : offB x.n x.m b
  · exact offB_false _ _ _ hb h0 h1
  · show setF x.m b true b.toNat = true
    rw [setF_at, if_pos (by omega)]
theorem cases4 (x : Mk) (k : Nat) (hk : x.n = k) (b : Int) :
    (b < 0 ∧ offB x.n x.m b = false) ∨ (0 ≤ b ∧ (k : Int) ≤ b ∧ offB x.n x.m b = false) ∨ (0 ≤ b ∧ b < k ∧ x.m b.toNat = true ∧ offB x.n x.m b = false) ∨ (0 ≤ b ∧ b < k ∧ x.m b.toNat = false ∧ offB x.n x.m b = true) := by
  subst hk
  unfold offB
  by_cases h0 : b < 0
  · exact Or.inl ⟨h0, by rw [decide_eq_false (by omega)]; rfl⟩
  · by_cases h1 : (x.n : Int) ≤ b
    · exact Or.inr (Or.inl ⟨by omega, h1, by rw [decide_eq_false (by omega)]; rfl⟩)
    · cases hm : x.m b.toNat
      · exact Or.inr (Or.inr (Or.inr ⟨by omega, by omega, rfl, by rw [decide_eq_true (by omega)]; rfl⟩))
      · exact Or.inr (Or.inr (Or.inl ⟨by omega, by omega, rfl, by rw [decide_eq_true (by omega)]; rfl⟩))
theorem marked_is {B : Nat} {x : Mk} {w : World} {b : Int} {r : Bool} (h : IsMk w B x) (hr : (decide (0 ≤ b ∧ b < x.n) && x.m b.toNat) = r) :
    Calls Try.prog 39 #[.pointer (some ⟨B + 5, 0, none⟩), .int .i64 b] w (Same w (.bool r)) := by
  rw [← hr]
  exact mark_Marked B b x w h

set_option maxRecDepth 100000 in
set_option maxHeartbeats 2000000 in
theorem walk {W : World} (n : Int) (w0 : (Lit.int .i64 n).wf = true) (room : Int) (w1 : (Lit.int .i64 room).wf = true) (tv : Value) (tt : List (List Int)) (ht : MatIn W tv tt ∧ tt.length * 24 ≤ 140737488351232) (lv : Value) (lx : Nat × (Nat → Nat → Value)) (hl : PairsIn W lv lx) :
    Calls Try.prog 10 #[.int .i64 n, .int .i64 room, tv, lv] W (LawPost W) := by
  obtain ⟨hM, hMl⟩ := ht
  have hlight := law_light tv tt W hM hMl
  obtain ⟨N, X⟩ := lx
  obtain ⟨hR, hreach, hX⟩ := hl
  simp only at hreach hR hX
  have hN : (N : Int) ≤ 17592186044416 := by omega
  obtain ⟨la, lcap, hlv, -⟩ := (show RowsIn W lv 2 N X from hR)
  subst hlv
  obtain ⟨ta, tcap, htv⟩ : ∃ ta tcap, tv = .slice ta tt.length tcap := by
    obtain ⟨H, ⟨ta, tcap, h, -⟩, -⟩ := hM
    exact ⟨ta, tcap, h⟩
  subst htv
  clear w0 w1 hreach
  cases hlt : lightM tt
  · rw [hlt] at hlight
    have haw := awake19 W W (Upd.refl _ _)
    have Hhlight := Lib.hid hlight; clear hlight
    have Hhaw := Lib.hid haw; clear haw
    clear hM hX hR hMl hlt
    go_enter Try.func10, Try.ntmps10
    go_wp2_with (first | (go_at_call 31; (with_reducible refine Hhlight.out.mono ?_); rintro e w2 ⟨rfl, rfl⟩) | (go_at_call 32; (with_reducible refine Hhaw.out.mono ?_); rintro e w2 ⟨rfl, hu⟩))
    go_ret
    exact ⟨rfl, hu.none⟩
  · rw [hlt] at hlight
    have h70 : tt.length ≤ 1000 := by
      unfold lightM at hlt
      simp only [Bool.and_eq_true, decide_eq_true_eq] at hlt
      omega
    have h30 : ∀ l ∈ tt, l.length ≤ 1000 := fun l hl => by
      unfold lightM at hlt
      simp only [Bool.and_eq_true, List.all_eq_true, decide_eq_true_eq] at hlt
      have := hlt.2 l hl
      omega
    obtain ⟨kI, hkI⟩ : ∃ kI, kI = max 0 (min n 70) := ⟨_, rfl⟩
    obtain ⟨k, hk⟩ : ∃ k : Nat, (k : Int) = kI := ⟨kI.toNat, by omega⟩
    have hnew := mark_New kI room W
    unfold NewPost at hnew
    rw [show (max 0 (min kI 1048576)).toNat = k from by omega] at hnew
    have hk70 : (k : Int) ≤ 70 := by omega
    have Hhlight := Lib.hid hlight; clear hlight
    have HhM := Lib.hid hM; clear hM
    have HhX := Lib.hid hX; clear hX
    have HhR := Lib.hid hR; clear hR
    have Hh30 := Lib.hid h30; clear h30
    have Hhnew := Lib.hid hnew; clear hnew
    clear hMl hlt
    go_enter Try.func10, Try.ntmps10
    go_wp2_with fail
    refine Hhlight.out.mono ?_
    rintro e w' ⟨rfl, rfl⟩
    go_wp2_with fail
    rw [← hkI]
    refine Hhnew.out.mono ?_
    rintro e w1 ⟨rfl, hI, hu1, hz1⟩
    rw [← hk]
    obtain ⟨B, hB⟩ : ∃ B, B = W.heap.size := ⟨_, rfl⟩
    rw [← hB] at hI hz1 ⊢
    have hBW : W.heap.size ≤ B := by omega
    have hst0 : St W B k ⟨k, fun _ => false, fun _ => false, [], roomOf room, false⟩ [] (.slice none 0 0) w1 :=
      ⟨hI, ok_new k _ (roomOf_pos room), rfl, fun b hb => (by cases hb), World.ownsRow_nil _ _ _ _, hu1, by omega⟩
    clear hkI hk hI hu1 hz1 Hhlight Hhnew
    have Hhst0 := Lib.hid hst0; clear hst0
    have HhBW := Lib.hid hBW; clear hBW
    have HhB := Lib.hid hB; clear hB
    go_upto_block 0 with fail
    go_cut [10, 11] (fun v i wx => ∃ (x : Mk) (ws : List Int) (a : Option Addr) (c : Nat), v = .slice a ws.length c ∧ ws.length ≤ 100 ∧ St W B k x ws v wx)
    case first =>
      go_wp2_with fail
      go_loopw [10, 11] (fun v i wr => ∃ (j : Nat) (x : Mk) (ws : List Int) (a : Option Addr) (c : Nat), i = .int .i64 j ∧ j ≤ N ∧ j ≤ 100 ∧ v = .slice a ws.length c ∧ ws.length ≤ j ∧ St W B k x ws v wr) (fun _ i _ => (N - intOf i).toNat)
      case atStart => exact ⟨0, _, [], none, 0, rfl, Nat.zero_le _, by omega, rfl, Nat.le_refl _, Hhst0.out⟩
      case round =>
        obtain ⟨j, x, ws, va, vc, rfl, hj, hj100, rfl, hwj, hst⟩ := hrel
        clear Hhst0
        by_cases hjN : j = N ∨ j = 100
        · have key : (¬ ((j : Int) < N)) ∨ (((j : Int) < N) ∧ ¬ ((j : Int) < 100)) := by omega
          have hw100 : ws.length ≤ 100 := by omega
          have Hhst := Lib.hid hst; clear hst
          clear hjN
          rcases key with c1 | ⟨c1, c2⟩
          all_goals
            go_wp2_with fail
            go_meet
            exact ⟨x, ws, va, vc, rfl, hw100, Hhst.out⟩
        · have c1 : (j : Int) < N := by omega
          have c2 : (j : Int) < 100 := by omega
          have hjn : j < N := by omega
          obtain ⟨d, b, hd, hbv, -⟩ := HhX.out j hjn
          obtain ⟨b0, off, hix, hb0, hc⟩ := HhR.out.index (P := Try.prog) Try.underlying59 (by kernel_rfl) (by kernel_rfl) hjn
          have cd := fun (w2 : World) (h : Below W.heap.size W w2) => (h.cell (p := ⟨b0, off + j * 2 + 0, none⟩) hb0).trans (hc 0 (by decide))
          have cb := fun (w2 : World) (h : Below W.heap.size W w2) => (h.cell (p := ⟨b0, off + j * 2 + 1, none⟩) hb0).trans (hc 1 (by decide))
          simp only [Nat.add_zero] at cd
          rw [hd] at cd
          rw [hbv] at cb
          have cd1 := cd wr hst.2.2.2.2.2.1.none
          have cb1 := cb wr hst.2.2.2.2.2.1.none
          have hI := hst.1
          have hO := hst.2.1
          have hn := hst.2.2.1
          have hown := hst.2.2.2.2.1
          have hsz := hst.2.2.2.2.2.2
          have hl3 : ws.length ≤ 1099511627776 := by omega
          have hwj2 : ws.length + 1 ≤ j + 1 := by omega
          have Hcd := Lib.hid cd; clear cd
          have Hcb := Lib.hid cb; clear cb
          clear hd hbv hc hjN
          by_cases d01 : d = 0 ∨ d = 1
          · rcases cases4 x k hn b with ⟨t1, t3⟩ | ⟨t1, t2, t3⟩ | ⟨t1, t2, tm, t3⟩ | ⟨t1, t2, tm, t3⟩
            · have hM1 := marked_is hI (b := b) (r := false) (by rw [decide_eq_false (by omega)]; rfl)
              have t4 : decide (0 ≤ b) = false := by simp; omega
              rcases d01 with rfl | rfl
              · have hop := mark_Shade B b x wr hI
                unfold MkPost at hop
                rw [t3] at hop
                have hyn : (x.shade b).n = k := ((shade_same x b).1).trans hn
                have hM2 := fun w2 (h : IsMk w2 B (x.shade b)) => marked_is h (b := b) (r := false) (by rw [decide_eq_false (by omega)]; rfl)
                have hSt := fun w2 (h : IsMk w2 B (x.shade b)) (u : Upd (InMk B) wr w2) => St.of HhBW.out hst h (ok_shade hO b) ((shade_same x b).1) (shade_mono x b) u
                generalize x.shade b = y at *
                have Hhop := Lib.hid hop; clear hop
                have HhM1 := Lib.hid hM1; clear hM1
                have HhM2 := Lib.hid hM2; clear hM2
                have HhSt := Lib.hid hSt; clear hSt
                have Hhown := Lib.hid hown; clear hown
                have HhI := Lib.hid hI; clear hI
                have HhO := Lib.hid hO; clear hO
                have Hhst := Lib.hid hst; clear hst
                have Hhn := Lib.hid hn; clear hn
                have Hhyn := Lib.hid hyn; clear hyn
                have Ht3 := Lib.hid t3; clear t3
                have Hhsz := Lib.hid hsz; clear hsz
                go_wp2_with (first | (go_at_call 39; first | ((with_reducible refine HhM1.out.mono ?_); rintro e w2 ⟨rfl, rfl⟩) | ((with_reducible refine HhM2b.out.mono ?_); rintro e w2 ⟨rfl, rfl⟩)) | (go_at_call 36; (with_reducible refine Hhop.out.mono ?_); rintro e w2 ⟨rfl, hI2, hu2, hz2⟩; have cd2 := Hcd.out w2 (HhSt.out w2 hI2 hu2).2.2.2.2.2.1.none; have HhM2b := Lib.hid (HhM2.out w2 hI2); have Hst2 := Lib.hid (HhSt.out w2 hI2 hu2); clear hI2 hu2 hz2))
                go_roundw
                case rel => exact ⟨j + 1, y, ws, va, vc, by go_num, by omega, by omega, rfl, by omega, Hst2.out⟩
                case measure => simp [intOf]; omega
              · have hop := mark_Black B b x wr hI
                unfold MkPost at hop
                rw [t3] at hop
                have hyn : (x.black b).n = k := (black_same x b).trans hn
                have hM2 := fun w2 (h : IsMk w2 B (x.black b)) => marked_is h (b := b) (r := false) (by rw [decide_eq_false (by omega)]; rfl)
                have hSt := fun w2 (h : IsMk w2 B (x.black b)) (u : Upd (InMk B) wr w2) => St.of HhBW.out hst h (ok_black hO b) (black_same x b) (black_mono x b) u
                generalize x.black b = y at *
                have Hhop := Lib.hid hop; clear hop
                have HhM1 := Lib.hid hM1; clear hM1
                have HhM2 := Lib.hid hM2; clear hM2
                have HhSt := Lib.hid hSt; clear hSt
                have Hhown := Lib.hid hown; clear hown
                have HhI := Lib.hid hI; clear hI
                have HhO := Lib.hid hO; clear hO
                have Hhst := Lib.hid hst; clear hst
                have Hhn := Lib.hid hn; clear hn
                have Hhyn := Lib.hid hyn; clear hyn
                have Ht3 := Lib.hid t3; clear t3
                have Hhsz := Lib.hid hsz; clear hsz
                go_wp2_with (first | (go_at_call 39; first | ((with_reducible refine HhM1.out.mono ?_); rintro e w2 ⟨rfl, rfl⟩) | ((with_reducible refine HhM2b.out.mono ?_); rintro e w2 ⟨rfl, rfl⟩)) | (go_at_call 34; (with_reducible refine Hhop.out.mono ?_); rintro e w2 ⟨rfl, hI2, hu2, hz2⟩; have cd2 := Hcd.out w2 (HhSt.out w2 hI2 hu2).2.2.2.2.2.1.none; have HhM2b := Lib.hid (HhM2.out w2 hI2); have Hst2 := Lib.hid (HhSt.out w2 hI2 hu2); clear hI2 hu2 hz2))
                go_roundw
                case rel => exact ⟨j + 1, y, ws, va, vc, by go_num, by omega, by omega, rfl, by omega, Hst2.out⟩
                case measure => simp [intOf]; omega
            · have hM1 := marked_is hI (b := b) (r := false) (by rw [hn, decide_eq_false (by omega)]; rfl)
              have t4 : decide (b < k) = false := by simp; omega
              rcases d01 with rfl | rfl
              · have hop := mark_Shade B b x wr hI
                unfold MkPost at hop
                rw [t3] at hop
                have hyn : (x.shade b).n = k := ((shade_same x b).1).trans hn
                have hM2 := fun w2 (h : IsMk w2 B (x.shade b)) => marked_is h (b := b) (r := false) (by rw [hyn, decide_eq_false (by omega)]; rfl)
                have hSt := fun w2 (h : IsMk w2 B (x.shade b)) (u : Upd (InMk B) wr w2) => St.of HhBW.out hst h (ok_shade hO b) ((shade_same x b).1) (shade_mono x b) u
                generalize x.shade b = y at *
                have Hhop := Lib.hid hop; clear hop
                have HhM1 := Lib.hid hM1; clear hM1
                have HhM2 := Lib.hid hM2; clear hM2
                have HhSt := Lib.hid hSt; clear hSt
                have Hhown := Lib.hid hown; clear hown
                have HhI := Lib.hid hI; clear hI
                have HhO := Lib.hid hO; clear hO
                have Hhst := Lib.hid hst; clear hst
                have Hhn := Lib.hid hn; clear hn
                have Hhyn := Lib.hid hyn; clear hyn
                have Ht3 := Lib.hid t3; clear t3
                have Hhsz := Lib.hid hsz; clear hsz
                go_wp2_with (first | (go_at_call 39; first | ((with_reducible refine HhM1.out.mono ?_); rintro e w2 ⟨rfl, rfl⟩) | ((with_reducible refine HhM2b.out.mono ?_); rintro e w2 ⟨rfl, rfl⟩)) | (go_at_call 36; (with_reducible refine Hhop.out.mono ?_); rintro e w2 ⟨rfl, hI2, hu2, hz2⟩; have cd2 := Hcd.out w2 (HhSt.out w2 hI2 hu2).2.2.2.2.2.1.none; have HhM2b := Lib.hid (HhM2.out w2 hI2); have Hst2 := Lib.hid (HhSt.out w2 hI2 hu2); clear hI2 hu2 hz2))
                go_roundw
                case rel => exact ⟨j + 1, y, ws, va, vc, by go_num, by omega, by omega, rfl, by omega, Hst2.out⟩
                case measure => simp [intOf]; omega
              · have hop := mark_Black B b x wr hI
                unfold MkPost at hop
                rw [t3] at hop
                have hyn : (x.black b).n = k := (black_same x b).trans hn
                have hM2 := fun w2 (h : IsMk w2 B (x.black b)) => marked_is h (b := b) (r := false) (by rw [hyn, decide_eq_false (by omega)]; rfl)
                have hSt := fun w2 (h : IsMk w2 B (x.black b)) (u : Upd (InMk B) wr w2) => St.of HhBW.out hst h (ok_black hO b) (black_same x b) (black_mono x b) u
                generalize x.black b = y at *
                have Hhop := Lib.hid hop; clear hop
                have HhM1 := Lib.hid hM1; clear hM1
                have HhM2 := Lib.hid hM2; clear hM2
                have HhSt := Lib.hid hSt; clear hSt
                have Hhown := Lib.hid hown; clear hown
                have HhI := Lib.hid hI; clear hI
                have HhO := Lib.hid hO; clear hO
                have Hhst := Lib.hid hst; clear hst
                have Hhn := Lib.hid hn; clear hn
                have Hhyn := Lib.hid hyn; clear hyn
                have Ht3 := Lib.hid t3; clear t3
                have Hhsz := Lib.hid hsz; clear hsz
                go_wp2_with (first | (go_at_call 39; first | ((with_reducible refine HhM1.out.mono ?_); rintro e w2 ⟨rfl, rfl⟩) | ((with_reducible refine HhM2b.out.mono ?_); rintro e w2 ⟨rfl, rfl⟩)) | (go_at_call 34; (with_reducible refine Hhop.out.mono ?_); rintro e w2 ⟨rfl, hI2, hu2, hz2⟩; have cd2 := Hcd.out w2 (HhSt.out w2 hI2 hu2).2.2.2.2.2.1.none; have HhM2b := Lib.hid (HhM2.out w2 hI2); have Hst2 := Lib.hid (HhSt.out w2 hI2 hu2); clear hI2 hu2 hz2))
                go_roundw
                case rel => exact ⟨j + 1, y, ws, va, vc, by go_num, by omega, by omega, rfl, by omega, Hst2.out⟩
                case measure => simp [intOf]; omega
            · have hM1 := marked_is hI (b := b) (r := true) (by rw [hn, decide_eq_true (by omega), Bool.true_and]; exact tm)
              rcases d01 with rfl | rfl
              · have hop := mark_Shade B b x wr hI
                unfold MkPost at hop
                rw [t3] at hop
                have hyn : (x.shade b).n = k := ((shade_same x b).1).trans hn
                have hM2 := fun w2 (h : IsMk w2 B (x.shade b)) => marked_is h (b := b) (r := true) (by rw [hyn, decide_eq_true (by omega), Bool.true_and]; exact shade_marks x b (by omega) (by rw [hn]; omega))
                have hSt := fun w2 (h : IsMk w2 B (x.shade b)) (u : Upd (InMk B) wr w2) => St.of HhBW.out hst h (ok_shade hO b) ((shade_same x b).1) (shade_mono x b) u
                generalize x.shade b = y at *
                have Hhop := Lib.hid hop; clear hop
                have HhM1 := Lib.hid hM1; clear hM1
                have HhM2 := Lib.hid hM2; clear hM2
                have HhSt := Lib.hid hSt; clear hSt
                have Hhown := Lib.hid hown; clear hown
                have HhI := Lib.hid hI; clear hI
                have HhO := Lib.hid hO; clear hO
                have Hhst := Lib.hid hst; clear hst
                have Hhn := Lib.hid hn; clear hn
                have Hhyn := Lib.hid hyn; clear hyn
                have Ht3 := Lib.hid t3; clear t3
                have Hhsz := Lib.hid hsz; clear hsz
                have Htm := Lib.hid tm; clear tm
                go_wp2_with (first | (go_at_call 39; first | ((with_reducible refine HhM1.out.mono ?_); rintro e w2 ⟨rfl, rfl⟩) | ((with_reducible refine HhM2b.out.mono ?_); rintro e w2 ⟨rfl, rfl⟩)) | (go_at_call 36; (with_reducible refine Hhop.out.mono ?_); rintro e w2 ⟨rfl, hI2, hu2, hz2⟩; have cd2 := Hcd.out w2 (HhSt.out w2 hI2 hu2).2.2.2.2.2.1.none; have HhM2b := Lib.hid (HhM2.out w2 hI2); have Hst2 := Lib.hid (HhSt.out w2 hI2 hu2); clear hI2 hu2 hz2))
                go_roundw
                case rel => exact ⟨j + 1, y, ws, va, vc, by go_num, by omega, by omega, rfl, by omega, Hst2.out⟩
                case measure => simp [intOf]; omega
              · have hop := mark_Black B b x wr hI
                unfold MkPost at hop
                rw [t3] at hop
                have hyn : (x.black b).n = k := (black_same x b).trans hn
                have hM2 := fun w2 (h : IsMk w2 B (x.black b)) => marked_is h (b := b) (r := true) (by rw [hyn, decide_eq_true (by omega), Bool.true_and]; exact black_marks x b (by omega) (by rw [hn]; omega))
                have hSt := fun w2 (h : IsMk w2 B (x.black b)) (u : Upd (InMk B) wr w2) => St.of HhBW.out hst h (ok_black hO b) (black_same x b) (black_mono x b) u
                generalize x.black b = y at *
                have Hhop := Lib.hid hop; clear hop
                have HhM1 := Lib.hid hM1; clear hM1
                have HhM2 := Lib.hid hM2; clear hM2
                have HhSt := Lib.hid hSt; clear hSt
                have Hhown := Lib.hid hown; clear hown
                have HhI := Lib.hid hI; clear hI
                have HhO := Lib.hid hO; clear hO
                have Hhst := Lib.hid hst; clear hst
                have Hhn := Lib.hid hn; clear hn
                have Hhyn := Lib.hid hyn; clear hyn
                have Ht3 := Lib.hid t3; clear t3
                have Hhsz := Lib.hid hsz; clear hsz
                have Htm := Lib.hid tm; clear tm
                go_wp2_with (first | (go_at_call 39; first | ((with_reducible refine HhM1.out.mono ?_); rintro e w2 ⟨rfl, rfl⟩) | ((with_reducible refine HhM2b.out.mono ?_); rintro e w2 ⟨rfl, rfl⟩)) | (go_at_call 34; (with_reducible refine Hhop.out.mono ?_); rintro e w2 ⟨rfl, hI2, hu2, hz2⟩; have cd2 := Hcd.out w2 (HhSt.out w2 hI2 hu2).2.2.2.2.2.1.none; have HhM2b := Lib.hid (HhM2.out w2 hI2); have Hst2 := Lib.hid (HhSt.out w2 hI2 hu2); clear hI2 hu2 hz2))
                go_roundw
                case rel => exact ⟨j + 1, y, ws, va, vc, by go_num, by omega, by omega, rfl, by omega, Hst2.out⟩
                case measure => simp [intOf]; omega
            · have hM1 := marked_is hI (b := b) (r := false) (by rw [hn, decide_eq_true (by omega), Bool.true_and]; exact tm)
              rcases d01 with rfl | rfl
              · have hop := mark_Shade B b x wr hI
                unfold MkPost at hop
                rw [t3] at hop
                have hyn : (x.shade b).n = k := ((shade_same x b).1).trans hn
                have hM2 := fun w2 (h : IsMk w2 B (x.shade b)) => marked_is h (b := b) (r := true) (by rw [hyn, decide_eq_true (by omega), Bool.true_and]; exact shade_marks x b (by omega) (by rw [hn]; omega))
                have hSt := fun w2 (h : IsMk w2 B (x.shade b)) (u : Upd (InMk B) wr w2) => St.of HhBW.out hst h (ok_shade hO b) ((shade_same x b).1) (shade_mono x b) u
                have hmk : 0 ≤ b ∧ b < k ∧ (x.shade b).m b.toNat = true := ⟨by omega, by omega, shade_marks x b (by omega) (by rw [hn]; omega)⟩
                generalize x.shade b = y at *
                have Hhop := Lib.hid hop; clear hop
                have HhM1 := Lib.hid hM1; clear hM1
                have HhM2 := Lib.hid hM2; clear hM2
                have HhSt := Lib.hid hSt; clear hSt
                have Hhown := Lib.hid hown; clear hown
                have HhI := Lib.hid hI; clear hI
                have HhO := Lib.hid hO; clear hO
                have Hhst := Lib.hid hst; clear hst
                have Hhn := Lib.hid hn; clear hn
                have Hhyn := Lib.hid hyn; clear hyn
                have Ht3 := Lib.hid t3; clear t3
                have Hhsz := Lib.hid hsz; clear hsz
                have Htm := Lib.hid tm; clear tm
                have Hhmk := Lib.hid hmk; clear hmk
                go_wp2_with (first | (go_at_call 39; first | ((with_reducible refine HhM1.out.mono ?_); rintro e w2 ⟨rfl, rfl⟩) | ((with_reducible refine HhM2b.out.mono ?_); rintro e w2 ⟨rfl, rfl⟩)) | (go_at_call 36; (with_reducible refine Hhop.out.mono ?_); rintro e w2 ⟨rfl, hI2, hu2, hz2⟩; have cd2 := Hcd.out w2 (HhSt.out w2 hI2 hu2).2.2.2.2.2.1.none; have HhM2b := Lib.hid (HhM2.out w2 hI2); have Hst2 := Lib.hid (HhSt.out w2 hI2 hu2); clear hI2 hu2 hz2) | (at_builtin; refine wpList_push rfl _ _ 50 3 rfl (.int .i64 0) 8 Try.underlying50 infoIntM rfl (B + 6) _ _ _ rfl (Hst2.out.2.2.2.2.1.alloc _) _ 1 (.int .i64 b) rfl (World.cell?_alloc_new _ #[.int .i64 b] _ 0) rfl hl3 (by decide) Hst2.out.2.2.2.2.2.2 ?_; intro a4 c4 w4 ho4 hg4; have Hst4 := Lib.hid (St.push HhBW.out Hst2.out Hhmk.out rfl ho4 hg4); clear ho4 hg4))
                go_roundw
                case rel => exact ⟨j + 1, y, ws ++ [b], a4, c4, by go_num, by omega, by omega, by rw [List.length_append]; rfl, by rw [List.length_append]; exact hwj2, by have h4 := Hst4.out; rw [List.length_append] at h4; exact h4⟩
                case measure => simp [intOf]; omega
              · have hop := mark_Black B b x wr hI
                unfold MkPost at hop
                rw [t3] at hop
                have hyn : (x.black b).n = k := (black_same x b).trans hn
                have hM2 := fun w2 (h : IsMk w2 B (x.black b)) => marked_is h (b := b) (r := true) (by rw [hyn, decide_eq_true (by omega), Bool.true_and]; exact black_marks x b (by omega) (by rw [hn]; omega))
                have hSt := fun w2 (h : IsMk w2 B (x.black b)) (u : Upd (InMk B) wr w2) => St.of HhBW.out hst h (ok_black hO b) (black_same x b) (black_mono x b) u
                have hmk : 0 ≤ b ∧ b < k ∧ (x.black b).m b.toNat = true := ⟨by omega, by omega, black_marks x b (by omega) (by rw [hn]; omega)⟩
                generalize x.black b = y at *
                have Hhop := Lib.hid hop; clear hop
                have HhM1 := Lib.hid hM1; clear hM1
                have HhM2 := Lib.hid hM2; clear hM2
                have HhSt := Lib.hid hSt; clear hSt
                have Hhown := Lib.hid hown; clear hown
                have HhI := Lib.hid hI; clear hI
                have HhO := Lib.hid hO; clear hO
                have Hhst := Lib.hid hst; clear hst
                have Hhn := Lib.hid hn; clear hn
                have Hhyn := Lib.hid hyn; clear hyn
                have Ht3 := Lib.hid t3; clear t3
                have Hhsz := Lib.hid hsz; clear hsz
                have Htm := Lib.hid tm; clear tm
                have Hhmk := Lib.hid hmk; clear hmk
                go_wp2_with (first | (go_at_call 39; first | ((with_reducible refine HhM1.out.mono ?_); rintro e w2 ⟨rfl, rfl⟩) | ((with_reducible refine HhM2b.out.mono ?_); rintro e w2 ⟨rfl, rfl⟩)) | (go_at_call 34; (with_reducible refine Hhop.out.mono ?_); rintro e w2 ⟨rfl, hI2, hu2, hz2⟩; have cd2 := Hcd.out w2 (HhSt.out w2 hI2 hu2).2.2.2.2.2.1.none; have HhM2b := Lib.hid (HhM2.out w2 hI2); have Hst2 := Lib.hid (HhSt.out w2 hI2 hu2); clear hI2 hu2 hz2) | (at_builtin; refine wpList_push rfl _ _ 50 3 rfl (.int .i64 0) 8 Try.underlying50 infoIntM rfl (B + 6) _ _ _ rfl (Hst2.out.2.2.2.2.1.alloc _) _ 1 (.int .i64 b) rfl (World.cell?_alloc_new _ #[.int .i64 b] _ 0) rfl hl3 (by decide) Hst2.out.2.2.2.2.2.2 ?_; intro a4 c4 w4 ho4 hg4; have Hst4 := Lib.hid (St.push HhBW.out Hst2.out Hhmk.out rfl ho4 hg4); clear ho4 hg4))
                go_roundw
                case rel => exact ⟨j + 1, y, ws ++ [b], a4, c4, by go_num, by omega, by omega, by rw [List.length_append]; rfl, by rw [List.length_append]; exact hwj2, by have h4 := Hst4.out; rw [List.length_append] at h4; exact h4⟩
                case measure => simp [intOf]; omega
          · have e0 : (d == 0) = false := by simp; omega
            have e1 : (d == 1) = false := by simp; omega
            have hM1 := mark_Marked B b x wr hI
            have hMt := HhM.out
            have hrf := law_refs ta tt.length tcap wr
            unfold RefsPost at hrf
            have hBr : B + 6 ≤ wr.heap.size := hsz
            generalize (decide (0 ≤ b ∧ b < x.n) && x.m b.toNat) = isv at *
            have HhM1 := Lib.hid hM1; clear hM1
            have Hhrf := Lib.hid hrf; clear hrf
            have Hhown := Lib.hid hown; clear hown
            have HhI := Lib.hid hI; clear hI
            have HhO := Lib.hid hO; clear hO
            have Hhst := Lib.hid hst; clear hst
            have Hhn := Lib.hid hn; clear hn
            have Hhsz := Lib.hid hsz; clear hsz
            have HhMt := Lib.hid hMt; clear hMt
            clear d01
            go_wp2_with (first | (go_at_call 39; (with_reducible refine HhM1.out.mono ?_); rintro e w2 ⟨rfl, rfl⟩) | (go_at_call 37; (with_reducible refine Hhrf.out.mono ?_); rintro e w2 ⟨bx, rfl, hc2, hbx, hbx2, hu2⟩))
            have hS := mark_Step_table B x w2 (HhI.out.still hu2) HhO.out (by rw [Hhn.out]; omega) bx _ tt hc2 (fun e => by have := e.2; omega) (fun w' u => HhMt.out.upd ((Hhst.out.2.2.2.2.2.1.trans hu2).own u (fun i e => by have := e.1; have := HhBW.out; omega)).none) h70 Hh30.out
            unfold StepPost at hS
            have hyn := step_n HhO.out (refsOf tt)
            have hmono := fun i => step_mono HhO.out (refsOf tt) i
            have hSt := fun w3 (h : IsMk w3 B (x.step (refsOf tt))) (u : Upd (InMk B) w2 w3) => St.of HhBW.out Hhst.out h (step_ok HhO.out _) hyn hmono ((hu2.mono (fun _ _ h => h.elim)).trans u)
            generalize x.step (refsOf tt) = y at *
            have HhS := Lib.hid hS; clear hS
            have HhSt := Lib.hid hSt; clear hSt
            have Hhu2 := Lib.hid hu2; clear hu2
            have Hhc2 := Lib.hid hc2; clear hc2
            have Hhyn := Lib.hid hyn; clear hyn
            have Hhmono := Lib.hid hmono; clear hmono
            go_wp2_with (go_at_call 38; (with_reducible refine HhS.out.mono ?_); rintro e w3 ⟨rfl, hI3, hu3⟩; have Hst3 := Lib.hid (HhSt.out w3 hI3 hu3); clear hI3 hu3)
            go_roundw
            case rel => exact ⟨j + 1, y, ws, va, vc, by go_num, by omega, by omega, rfl, by omega, Hst3.out⟩
            case measure => simp [intOf]; omega
    case rest =>
      obtain ⟨x, ws, va, vc, rfl, hw100, hst⟩ := hcut
      have hrI : (ws.length : Int) ≤ 100 := by omega
      have Hhst := Lib.hid hst; clear hst
      clear Hhst0 HhX HhR h70 Hh30 HhM
      go_wp2_with fail
      go_loopw [102] (fun i wr => ∃ j : Nat, i = .int .i64 j ∧ j ≤ ws.length ∧ St W B k x ws (.slice va ws.length vc) wr) (fun i _ => (ws.length - intOf i).toNat)
      case atStart => exact ⟨0, rfl, Nat.zero_le _, Hhst.out⟩
      case round =>
        obtain ⟨j, rfl, hj, hs⟩ := hrel
        by_cases hjl : j = ws.length
        · have e1 : ¬ ((j : Int) < ws.length) := by omega
          have haw := awake19 W wr hs.2.2.2.2.2.1
          have Hhaw := Lib.hid haw; clear haw
          clear hs hjl
          go_wp2_with (go_at_call 32; (with_reducible refine Hhaw.out.mono ?_); rintro e w2 ⟨rfl, hu⟩)
          go_ret
          exact ⟨rfl, hu.none⟩
        · have e1 : (j : Int) < ws.length := by omega
          have hj2 : j < ws.length := by omega
          obtain ⟨g, hix, -, -, hcell0, -, -⟩ := ownsRow_index hs.2.2.2.2.1 (P := Try.prog) Try.underlying50 (by kernel_rfl) (by kernel_rfl) hj2
          have hcell : wr.cell? ⟨g, j, none⟩ = some (.int .i64 (ws.getD j 0)) := by
            rw [hcell0]
            simp [ints, List.getD, hj2]
          obtain ⟨b1, b2, b3⟩ := hs.2.2.2.1 (ws.getD j 0) (by simp [List.getD, hj2])
          generalize ws.getD j 0 = b at *
          have hM1 := marked_is hs.1 (b := b) (r := true) (by rw [hs.2.2.1, decide_eq_true (by omega), Bool.true_and]; exact b3)
          have hSh := mark_Shade B b x wr hs.1
          have hoff : offB x.n x.m b = false := by unfold offB; rw [b3]; simp
          have hsh : x.shade b = x := by unfold Mk.shade; rw [hoff]; rfl
          rw [hoff, hsh] at hSh
          unfold MkPost at hSh
          have HhM1 := Lib.hid hM1; clear hM1
          have HhSh := Lib.hid hSh; clear hSh
          have Hhs := Lib.hid hs; clear hs
          clear hcell0 hjl b3 hoff hsh
          go_wp2_with (first | (go_at_call 39; (with_reducible refine HhM1.out.mono ?_); rintro e w2 ⟨rfl, rfl⟩) | (go_at_call 36; (with_reducible refine HhSh.out.mono ?_); rintro e w2 ⟨rfl, hI2, hu2, hz2⟩; have Hs2 := Lib.hid (St.of HhBW.out Hhs.out hI2 Hhs.out.2.1 rfl (fun _ h => h) hu2); clear hI2 hu2 hz2))
          go_roundw
          case rel => exact ⟨j + 1, by go_num, by omega, Hs2.out⟩
          case measure => simp [intOf]; omega

theorem own : ownKnob Try.prog.godebug = none := by kernel_rfl
theorem laidOut : laidOutB Try.prog = true := by kernel_rfl
set_option maxRecDepth 100000 in
theorem lifted (os : Os) (started : os.Started) (H : Type) (enc : TypeId × Value → H) :
    ReturnsInHanded {} Try.checked os 10 .any (Rows.markKeepsSpec.pre6 enc Try.prog Try.f10 Rows.markKeepsRow.domain false) (Rows.markKeepsSpec.post enc Try.prog Try.f10 false true false false) := by
  refine returnsInHanded_of_change_sized (C := Try.checked) own started (by kernel_rfl) Try.func10
    (ChangeSpec.witness6 (enc := enc) (C := Try.checked) false ⟨#[], #[.int .i64 0, .int .i64 0, .slice none 0 0, .slice none 0 0], []⟩ 8 (by kernel_rfl) (by kernel_rfl) (by kernel_rfl) (by kernel_rfl)) ?_
  intro W base args ds gs before hval0 hW _ hsz0 _
  have hsz : (DataW.weightsEach Try.prog (Try.f10.params.toList ++ Rows.markKeepsSpec.plain.varTypes Try.prog) (ds ++ gs)).all (· ≤ reachBytes) = true := hsz0
  clear hsz0
  have hval : ∀ (j : Nat) t v, Try.f10.params[j]? = some t → args[j]? = some v → Value.okWide Try.prog W .any base t v := hval0
  have hW' := hW
  obtain ⟨p, q, hA0, hV, rfl, _, _⟩ := hW
  have hA : DataW.TrodAll enc Try.prog W 0 (fun _ => true) true Try.f10.params.toList args.toList ds p := hA0
  rw [Try.params10] at hA hval hsz
  obtain ⟨v0, vs0, d0, ds0, p0, q0, hargs, rfl, rfl, h0, r0⟩ := trodAll_cons hA
  obtain ⟨v1, vs1, d1, ds1, p1, q1, rfl, rfl, rfl, h1, r1⟩ := trodAll_cons r0
  obtain ⟨v2, vs2, d2, ds2, p2, q2, rfl, rfl, rfl, h2, r2⟩ := trodAll_cons r1
  obtain ⟨v3, vs3, d3, ds3, p3, q3, rfl, rfl, rfl, h3, r3⟩ := trodAll_cons r2
  obtain ⟨rfl, rfl, rfl⟩ := trodAll_nil r3
  obtain rfl : args = #[v0, v1, v2, v3] := by cases args; simp_all
  obtain ⟨rfl, rfl⟩ := trodVars_none hV
  clear hA0 hval0
  simp only [List.append_nil] at hW'
  have hlt : ∀ x, (x ∈ p0 ∨ x ∈ p1 ∨ x ∈ p2 ∨ x ∈ p3) → x.block < W.heap.size := fun x hx => by simpa using hW'.lt x (by simpa using hx)
  have k0 : ∀ (W' : World), Below W.heap.size W W' → DataW.Trod enc Try.prog W' 0 (fun b => decide (b < W.heap.size)) true 3 v0 d0 p0 :=
    fun W' hn => Below.trod laidOut (by kernel_rfl) (of_decide_eq_true (by kernel_rfl)) h0 hn (fun x hx => hlt x (Or.inl hx))
  have k1 : ∀ (W' : World), Below W.heap.size W W' → DataW.Trod enc Try.prog W' 0 (fun b => decide (b < W.heap.size)) true 3 v1 d1 p1 :=
    fun W' hn => Below.trod laidOut (by kernel_rfl) (of_decide_eq_true (by kernel_rfl)) h1 hn (fun x hx => hlt x (Or.inr (Or.inl hx)))
  have k2 : ∀ (W' : World), Below W.heap.size W W' → DataW.Trod enc Try.prog W' 0 (fun b => decide (b < W.heap.size)) true 49 v2 d2 p2 :=
    fun W' hn => Below.trod laidOut (by kernel_rfl) (of_decide_eq_true (by kernel_rfl)) h2 hn (fun x hx => hlt x (Or.inr (Or.inr (Or.inl hx))))
  have k3 : ∀ (W' : World), Below W.heap.size W W' → DataW.Trod enc Try.prog W' 0 (fun b => decide (b < W.heap.size)) true 59 v3 d3 p3 :=
    fun W' hn => Below.trod laidOut (by kernel_rfl) (of_decide_eq_true (by kernel_rfl)) h3 hn (fun x hx => hlt x (Or.inr (Or.inr (Or.inr (hx)))))
  obtain ⟨a0, rfl, _, _, w0⟩ := open_int Try.underlying3 (hval 0 3 v0 rfl rfl) h0
  obtain ⟨a1, rfl, _, _, w1⟩ := open_int Try.underlying3 (hval 1 3 v1 rfl rfl) h1
  obtain ⟨x2, hx2⟩ := open_matAt Try.underlying49 Try.underlying50 Try.underlying3 (by kernel_rfl) (by kernel_rfl) (by kernel_rfl) (hval 2 49 v2 rfl rfl) h2 hsz 2 rfl rfl
  obtain ⟨x3, hx3⟩ := open_pairsAt _ _ Try.underlying59 Try.underlying61 (by kernel_rfl) (by decide) (by kernel_rfl) (by kernel_rfl) rfl rfl Try.underlying3 Try.underlying3 (hval 3 59 v3 rfl rfl) h3 hsz 3 rfl rfl
  refine (walk (W := W) a0 w0 a1 w1 v2 x2 hx2 v3 x3 hx3).mono fun e W' ⟨he, hb⟩ => ?_
  subst he
  refine ⟨_, rfl, _, _, _, [], p0 ++ (p1 ++ (p2 ++ (p3 ++ ([])))), [], hW', ?_, ?_, rfl, hb.frame _, fun h => by cases h⟩
  · exact trodAll_cons_mk (shut_bool Try.underlying4 true) trodAll_mk0
  · exact trodAll_cons_mk (k0 _ hb) (trodAll_cons_mk (k1 _ hb) (trodAll_cons_mk (k2 _ hb) (trodAll_cons_mk (k3 _ hb) (trodAll_mk0))))

theorem over : Rows.markKeepsRow.holds Try.pinned (OpenSpec.ofChange Rows.markKeepsSpec) :=
  OpenClaim.holds_of_wide 10 Try.f10 rfl rfl rfl rfl rfl rfl rfl ⟨rfl, rfl, rfl, rfl, rfl⟩ rfl rfl rfl rfl rfl (by kernel_rfl) Try.func10 (by kernel_rfl)
    (of_decide_eq_true (by kernel_rfl)) (by unfold Func.isWrapper; first | (rw [if_pos (by decide +kernel)]; kernel_rfl) | (rw [if_neg (by decide +kernel)]; exact ⟨rfl, rfl⟩))
    (fun os started H enc _ => lifted os started H enc)

/-- The given statement. -/
theorem proved : Rows.MarkKeepsSaid := over
#print axioms proved
end Go.Proofs.Ythcimfblmpapeaa.markKeeps
