/- A heap of volatile objects: Set. -/
import Derived.Test.YtcnbcidbbeadcaaVhW
namespace Go.Proofs.Ytcnbcidbbeadcaa
open Go.RowKit Go.Deep
set_option linter.unusedVariables false

def setV (ks : List (List Int)) (o : Nat → VOb) (x j : Int) (v : Val) : (Nat → VOb) × Int := match findV o x with
  | none => (o, 2)
  | some i => if j < 0 ∨ ((o i).f.length : Int) ≤ j then (o, 4) else
    if fitsV (ks.getD (o i).k.toNat []) j v = true then (setO o i ⟨true, (o i).k, (o i).f.set j.toNat (toldV v)⟩, 0) else (o, 3)
def RetSt (w : World) (b base : Nat) (ks : List (List Int)) (kv : Value) (F : Nat → Value) (r : (Nat → VOb) × Int) (e : Ending) (w' : World) : Prop :=
  e = .returned (.int .i64 r.2) ∧ IsVh w' b base ks r.1 kv F ∧ Upd (fun j => ∃ i, i < 64 ∧ (F i).ownBlock = some j) w w'
theorem st_same {w w' : World} {b base : Nat} {ks : List (List Int)} {o : Nat → VOb} {kv : Value} {F : Nat → Value} (h : IsVh w b base ks o kv F) (n : Int) (u : Upd (fun _ => False) w w') :
    RetSt w b base ks kv F (o, n) (.returned (.int .i64 n)) w' := ⟨rfl, h.still u, u.mono (fun _ _ e => e.elim)⟩
set_option maxRecDepth 100000 in
set_option maxHeartbeats 2000000 in
theorem vh_Set_no {w : World} {b base : Nat} {ks : List (List Int)} {o : Nat → VOb} {kv : Value} {F : Nat → Value} (h : IsVh w b base ks o kv F) (x j : Int) (v : Val) (hn : findV o x = none) :
    Calls Try.prog 32 #[.pointer (some ⟨b, 0, none⟩), .int .i64 x, .int .i64 j, v.v] w (RetSt w b base ks kv F (setV ks o x j v)) := by
  have hs : setV ks o x j v = (o, 2) := by unfold setV; rw [hn]
  rw [hs]
  obtain ⟨a, n, re, im, r⟩ := v
  show Calls _ _ #[.pointer (some ⟨b, 0, none⟩), .int .i64 x, .int .i64 j, .agg #[.int .i64 a, .int .i64 n, .int .u64 (re : Int), .int .u64 (im : Int), .int .i64 r]] _ _
  have hu : Upd (fun _ => False) w (w.alloc (.cells #[.int .i64 a, .int .i64 n, .int .u64 (re : Int), .int .u64 (im : Int), .int .i64 r] 26)) := (Upd.refl _ _).alloc _
  have hf := vh_find (h.still hu) x
  rw [hn] at hf
  have hf := Lib.hid (show Calls Try.prog 61 #[.pointer (some ⟨b, 0, none⟩), .int .i64 x] _ (RetU _ (.pointer none)) from hf)
  have hm := Lib.hid (vh_missing b)
  have fin := Lib.hid (fun w' (u : Upd (fun _ => False) w w') => st_same h 2 u)
  have Hhu := Lib.hid hu; clear hu
  clear h hn hs
  go_enter Try.func32, Try.ntmps32
  go_wp2_with (first
    | (go_at_call 61; (with_reducible refine hf.out.mono ?_); rintro e w2 ⟨rfl, hu2⟩; have Hu2 := Lib.hid hu2; clear hu2)
    | (go_at_call 67; (with_reducible refine (hm.out _).mono ?_); rintro e w3 ⟨rfl, rfl⟩))
  go_ret
  exact fin.out _ (Hhu.out.trans Hu2.out)
set_option maxRecDepth 100000 in
set_option maxHeartbeats 2000000 in
theorem vh_Set_out {w : World} {b base : Nat} {ks : List (List Int)} {o : Nat → VOb} {kv : Value} {F : Nat → Value} (h : IsVh w b base ks o kv F) (x j : Int) (v : Val) {i : Nat} (hn : findV o x = some i) (hj : j < 0 ∨ ((o i).f.length : Int) ≤ j) :
    Calls Try.prog 32 #[.pointer (some ⟨b, 0, none⟩), .int .i64 x, .int .i64 j, v.v] w (RetSt w b base ks kv F (setV ks o x j v)) := by
  have hs : setV ks o x j v = (o, 4) := by unfold setV; rw [hn]; simp only; rw [if_pos hj]
  rw [hs]
  obtain ⟨hi, hus, -⟩ := findV_some hn
  obtain ⟨a, n, re, im, r⟩ := v
  show Calls _ _ #[.pointer (some ⟨b, 0, none⟩), .int .i64 x, .int .i64 j, .agg #[.int .i64 a, .int .i64 n, .int .u64 (re : Int), .int .u64 (im : Int), .int .i64 r]] _ _
  have hu : Upd (fun _ => False) w (w.alloc (.cells #[.int .i64 a, .int .i64 n, .int .u64 (re : Int), .int .u64 (im : Int), .int .i64 r] 26)) := (Upd.refl _ _).alloc _
  have h1 := h.still hu
  have hf := vh_find h1 x
  rw [hn] at hf
  have hf := Lib.hid (show Calls Try.prog 61 #[.pointer (some ⟨b, 0, none⟩), .int .i64 x] _ (RetU _ (.pointer (some ⟨b, 1 + i * 3, none⟩))) from hf)
  have hc := fun w' u => ((h1.still (w' := w') u).cell i hi).2.2
  obtain ⟨fa, fc, hfe, -, -, -⟩ := h.vals i hi
  rw [hfe] at hc
  have hc := Lib.hid hc
  have h15 : ((o i).f.length : Int) ≤ 15 := by have := h.few i hi; omega
  have fin := Lib.hid (fun w' (u : Upd (fun _ => False) w w') => st_same h 4 u)
  generalize (o i).f.length = fl at *
  have Hhu := Lib.hid hu; clear hu
  clear h h1 hn hs hus hi hfe
  rcases hj with hj | hj
  · go_enter Try.func32, Try.ntmps32
    go_wp2_with (go_at_call 61; (with_reducible refine hf.out.mono ?_); rintro e w2 ⟨rfl, hu2⟩; have cF := hc.out w2 hu2; have Hu2 := Lib.hid hu2; clear hu2)
    go_ret
    exact fin.out _ (Hhu.out.trans Hu2.out)
  · go_enter Try.func32, Try.ntmps32
    have hj2 : ¬ j < 0 := by omega
    go_wp2_with (go_at_call 61; (with_reducible refine hf.out.mono ?_); rintro e w2 ⟨rfl, hu2⟩; have cF := hc.out w2 hu2; have Hu2 := Lib.hid hu2; clear hu2)
    go_ret
    exact fin.out _ (Hhu.out.trans Hu2.out)
end Go.Proofs.Ytcnbcidbbeadcaa
