/- awake of chapter 14's laws. -/
import Derived.Test.YtcnbcidbbeadcaaVhKe
import Derived.Test.YtcnbcidbbeadcaaVhQ
import Derived.Test.YtcnbcidbbeadcaaVhY
import Derived.Test.YtcnbcidbbeadcaaVhK
namespace Go.Proofs.Ytcnbcidbbeadcaa
open Go.RowKit Go.Deep
set_option linter.unusedVariables false

theorem ref14 (n : Int) (w : World) : Calls Try.prog 62 #[.int .i64 n] w (RetU w (.agg #[.int .i64 3, .int .i64 0, .int .u64 0, .int .u64 0, .int .i64 n])) := by
  have hu : Upd (fun _ => False) w (w.alloc (.cells #[.int .i64 3, .int .i64 0, .int .u64 0, .int .u64 0, .int .i64 n] 26)) := (Upd.refl _ _).alloc _
  have Hhu := Lib.hid hu; clear hu
  go_enter Try.func62, Try.ntmps62
  go_wp2
  first
    | (go_ret; exact ⟨rfl, Upd.refl _ _⟩)
    | (refine bodyPost_ret (v := .agg #[.int .i64 3, .int .i64 0, .int .u64 0, .int .u64 0, .int .i64 n]) ?_ rfl ?_
       · rw [results_cell1 rfl]; go_simp
       · exact ⟨rfl, Hhu.out⟩)
def no14 : Nat → VOb := fun _ => noOb
def aw1 : Nat → VOb := (makeV ks14 no14 0).1
def aw2 : Nat → VOb := (makeV ks14 aw1 1).1
def aw3 : Nat → VOb := (setV ks14 aw2 (-2) 2 ⟨3, 0, 0, 0, -1⟩).1
set_option maxRecDepth 100000
theorem aw_m1 : makeV ks14 no14 0 = (aw1, -1, 0) := by kernel_rfl
theorem aw_m2 : makeV ks14 aw1 1 = (aw2, -2, 0) := by kernel_rfl
theorem aw_s : setV ks14 aw2 (-2) 2 ⟨3, 0, 0, 0, -1⟩ = (aw3, 0) := by kernel_rfl
theorem aw_r : refsV aw3 (-2) = [-1] := by kernel_rfl
theorem aw_k : goneTo aw3 (keepV aw3 [-2]) 64 = 0 := by kernel_rfl
theorem aw_l : (allV (dropV aw3 (keepV aw3 [-2]) 64)).length = 2 := by kernel_rfl
theorem mat_shape {w : World} {v : Value} {tt : List (List Int)} (h : MatIn w v tt) : ∃ a c, v = .slice a tt.length c := by
  obtain ⟨H, ⟨a, c, h1, -⟩, -⟩ := h
  exact ⟨a, c, h1⟩
theorem v3_ok : (⟨3, 0, 0, 0, -1⟩ : Val).ok := ⟨by show I64 3; unfold I64; omega, by show I64 0; unfold I64; omega, by decide, by decide, by show I64 (-1); unfold I64; omega⟩
/-- What is known between the calls of awake. -/
structure AwSt (w : World) (b base : Nat) (kv : Value) (o : Nat → VOb) (wr : World) : Prop where
  hp : ∃ F, IsVh wr b base ks14 o kv F
  lo : w.heap.size ≤ b
  up : Upd (fun _ => False) w wr
theorem AwSt.still {w : World} {b base : Nat} {kv : Value} {o : Nat → VOb} {wr w' : World} (h : AwSt w b base kv o wr) (u : Upd (fun _ => False) wr w') : AwSt w b base kv o w' := by
  obtain ⟨F, hp⟩ := h.hp
  exact ⟨⟨F, hp.still u⟩, h.lo, h.up.trans u⟩
theorem AwSt.next {w : World} {b base : Nat} {kv : Value} {o o' : Nat → VOb} {wr w' : World} (h : AwSt w b base kv o wr) (hp : ∃ F, IsVh w' b base ks14 o' kv F) (u : Upd (fun j => j = b) wr w') : AwSt w b base kv o' w' :=
  ⟨hp, h.lo, h.up.own u (fun j e => by have := h.lo; omega)⟩
theorem AwSt.next2 {w : World} {b base : Nat} {kv : Value} {o o' : Nat → VOb} {wr w' : World} (h : AwSt w b base kv o wr) (hp : ∃ F, IsVh w' b base ks14 o' kv F) (u : Upd (fun j => base ≤ j) wr w') : AwSt w b base kv o' w' := by
  obtain ⟨F, h2⟩ := h.hp
  exact ⟨hp, h.lo, h.up.own u (fun j e => by have := h.lo; have := h2.low; omega)⟩
theorem AwSt.make {w : World} {b base : Nat} {kv : Value} {o : Nat → VOb} {wr : World} (h : AwSt w b base kv o wr) (k : Int) : Calls Try.prog 25 #[.pointer (some ⟨b, 0, none⟩), .int .i64 k] wr (fun e w' => e = .returned (.tuple #[.int .i64 (makeV ks14 o k).2.1, .int .i64 (makeV ks14 o k).2.2]) ∧ AwSt w b base kv (makeV ks14 o k).1 w') := by
  obtain ⟨F, hp⟩ := h.hp
  exact (vh_Make hp k).mono (fun e w' hh => ⟨hh.1, h.next hh.2.1 hh.2.2⟩)
theorem AwSt.set {w : World} {b base : Nat} {kv : Value} {o : Nat → VOb} {wr : World} (h : AwSt w b base kv o wr) (x j : Int) (v : Val) (hv : v.ok) : Calls Try.prog 32 #[.pointer (some ⟨b, 0, none⟩), .int .i64 x, .int .i64 j, v.v] wr (fun e w' => e = .returned (.int .i64 (setV ks14 o x j v).2) ∧ AwSt w b base kv (setV ks14 o x j v).1 w') := by
  obtain ⟨F, hp⟩ := h.hp
  exact (vh_Set hp x j v hv).mono (fun e w' hh => ⟨hh.1, h.next2 ⟨F, hh.2.1⟩ (hh.2.2.mono (fun j hj e => by obtain ⟨i, hi, e⟩ := e; exact ((hp.row i hi).lt j e).1))⟩)
theorem AwSt.refs {w : World} {b base : Nat} {kv : Value} {o : Nat → VOb} {wr : World} (h : AwSt w b base kv o wr) (x : Int) : Calls Try.prog 37 #[.pointer (some ⟨b, 0, none⟩), .int .i64 x] wr (RetNums wr (refsV o x)) := by
  obtain ⟨F, hp⟩ := h.hp
  exact vh_Refs hp x
theorem AwSt.keep {w : World} {b base : Nat} {kv : Value} {o : Nat → VOb} {wr : World} (h : AwSt w b base kv o wr) (v : Value) (l : List Int) (hl : IntsR wr v .i64 l) : Calls Try.prog 44 #[.pointer (some ⟨b, 0, none⟩), v] wr (fun e w' => e = .returned (.int .i64 (goneTo o (keepV o l) 64 : Int)) ∧ AwSt w b base kv (dropV o (keepV o l) 64) w') := by
  obtain ⟨F, hp⟩ := h.hp
  exact (vh_Keep hp v l hl).mono (fun e w' hh => ⟨hh.1, h.next hh.2.1 hh.2.2⟩)
theorem AwSt.len {w : World} {b base : Nat} {kv : Value} {o : Nat → VOb} {wr : World} (h : AwSt w b base kv o wr) : Calls Try.prog 27 #[.pointer (some ⟨b, 0, none⟩)] wr (RetU wr (.int .i64 ((allV o).length : Int))) := by
  obtain ⟨F, hp⟩ := h.hp
  exact vh_Len hp
theorem AwSt.new {w w1 : World} {v : Value} (hm : MatIn w1 v ks14) (hu : Upd (fun _ => False) w w1) : Calls Try.prog 23 #[v] w1 (fun e w' => ∃ b base kv, e = .returned (.pointer (some ⟨b, 0, none⟩)) ∧ AwSt w b base kv no14 w') := by
  refine (vh_New v ks14 w1 hm (by decide) (by decide)).mono (fun e w' hh => ?_)
  obtain ⟨b, base, kv, h1, h2, h3, h4⟩ := hh
  exact ⟨b, base, kv, h1, ⟨_, h3⟩, Nat.le_trans hu.size h2, hu.trans h4⟩
set_option maxHeartbeats 2000000 in
theorem awake14 (w : World) : Calls Try.prog 28 #[] w (RetU w (.bool true)) := by
  have k14 := Lib.hid kinds14
  have hN := Lib.hid (fun w1 v hm hu => AwSt.new (w := w) (w1 := w1) (v := v) hm hu)
  have hM1 := fun b base kv wr (h : AwSt w b base kv no14 wr) => h.make 0
  rw [aw_m1] at hM1
  have hM1 := Lib.hid hM1
  have hM2 := fun b base kv wr (h : AwSt w b base kv aw1 wr) => h.make 1
  rw [aw_m2] at hM2
  have hM2 := Lib.hid hM2
  have hS := fun b base kv wr (h : AwSt w b base kv aw2 wr) => h.set (-2) 2 ⟨3, 0, 0, 0, -1⟩ v3_ok
  rw [aw_s] at hS
  have hS := Lib.hid (show ∀ b base kv wr, AwSt w b base kv aw2 wr → Calls Try.prog 32 #[.pointer (some ⟨b, 0, none⟩), .int .i64 (-2), .int .i64 2, .agg #[.int .i64 3, .int .i64 0, .int .u64 0, .int .u64 0, .int .i64 (-1)]] wr (fun e w' => e = .returned (.int .i64 0) ∧ AwSt w b base kv aw3 w') from hS)
  have hR := fun b base kv wr (h : AwSt w b base kv aw3 wr) => h.refs (-2)
  rw [aw_r] at hR
  have hR := Lib.hid hR
  have hK := fun b base kv wr (h : AwSt w b base kv aw3 wr) v hl => h.keep v [-2] hl
  rw [aw_k] at hK
  have hK := Lib.hid hK
  have hL := fun b base kv wr (h : AwSt w b base kv (dropV aw3 (keepV aw3 [-2]) 64) wr) => h.len
  rw [aw_l] at hL
  have hL := Lib.hid hL
  have hr := Lib.hid (ref14 (-1))
  generalize dropV aw3 (keepV aw3 [-2]) 64 = aw4 at *
  generalize aw3 = aw3 at *
  generalize aw2 = aw2 at *
  generalize aw1 = aw1 at *
  generalize no14 = no14 at *
  go_enter Try.func28, Try.ntmps28
  go_wp2_with (first
    | (go_at_call 24; (with_reducible refine (k14.out _).mono ?_); rintro e w1 ⟨v, rfl, hm1, hu1⟩; obtain ⟨va, vc, rfl⟩ := mat_shape hm1; have hN2 := Lib.hid (hN.out w1 _ hm1 hu1); clear hm1 hu1)
    | (go_at_call 23; (with_reducible refine hN2.out.mono ?_); rintro e w2 ⟨b, base, kv, rfl, h2⟩; have hM1b := Lib.hid (hM1.out _ _ _ _ h2); clear hN2 h2)
    | (go_at_call 25; (with_reducible refine hM1b.out.mono ?_); rintro e w3 ⟨rfl, h3⟩; have hM2b := Lib.hid (hM2.out _ _ _ _ h3); clear h3 hM1b)
    | (go_at_call 25; (with_reducible refine hM2b.out.mono ?_); rintro e w4 ⟨rfl, h4⟩; have H4 := Lib.hid h4; clear h4 hM2b)
    | (go_at_call 62; (with_reducible refine (hr.out _).mono ?_); rintro e w5 ⟨rfl, hu5⟩; have H5 := Lib.hid (hS.out _ _ _ _ (H4.out.still hu5)); clear hu5)
    | (go_at_call 32; (with_reducible refine H5.out.mono ?_); rintro e w6 ⟨rfl, h6⟩; have H6 := Lib.hid h6; have R6 := Lib.hid (hR.out _ _ _ _ h6); clear h6)
    | (go_at_call 37; (with_reducible refine R6.out.mono ?_); rintro e w7 ⟨ra, rc, rfl, ho7, hu7⟩; have H7 := Lib.hid (H6.out.still hu7); have K7 := Lib.hid (show Calls Try.prog 44 #[.pointer (some ⟨b, 0, none⟩), .slice (some ⟨w7.heap.size, 0, none⟩) 1 1] (w7.alloc (.cells #[.int .i64 (-2)] 3)) (fun e w' => e = .returned (.int .i64 0) ∧ AwSt w b base kv aw4 w') from hK.out _ _ _ _ (H7.out.still ((Upd.refl _ _).alloc _)) _ (ints_blk (xs := [-2]) (Blk.new w7 [.int .i64 (-2)] 3) (by decide))); clear ho7 hu7)
    | (go_at_call 44; (with_reducible refine K7.out.mono ?_); rintro e w8 ⟨rfl, h8⟩; have H8 := Lib.hid h8; have L8 := Lib.hid (hL.out _ _ _ _ h8); clear h8)
    | (go_at_call 27; (with_reducible refine L8.out.mono ?_); rintro e w9 ⟨rfl, hu9⟩; have H9 := Lib.hid (H8.out.still hu9); clear hu9))
  go_ret
  exact ⟨rfl, H9.out.up⟩
end Go.Proofs.Ytcnbcidbbeadcaa
