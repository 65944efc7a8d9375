/- Get of a heap of volatile objects. -/
import Derived.Test.YtcnbcidbbeadcaaVhU
namespace Go.Proofs.Ytcnbcidbbeadcaa
open Go.RowKit Go.Deep
set_option linter.unusedVariables false

def getV (o : Nat → VOb) (x j : Int) : Val × Int := match findV o x with
  | none => (zeroV, 2)
  | some i => if j < 0 ∨ ((o i).f.length : Int) ≤ j then (zeroV, 4) else ((o i).f.getD j.toNat zeroV, 0)
set_option maxRecDepth 100000 in
set_option maxHeartbeats 1000000 in
theorem vh_Get {w : World} {b base : Nat} {ks : List (List Int)} {o : Nat → VOb} {kv : Value} {F : Nat → Value} (h : IsVh w b base ks o kv F) (x j : Int) :
    Calls Try.prog 35 #[.pointer (some ⟨b, 0, none⟩), .int .i64 x, .int .i64 j] w (RetU w (.tuple #[(getV o x j).1.v, .int .i64 (getV o x j).2])) := by
  have hu : Upd (fun _ => False) w (w.alloc (.cells #[.int .i64 0, .int .i64 0, .int .u64 0, .int .u64 0, .int .i64 0] 26)) := (Upd.refl _ _).alloc _
  have hB := Lib.hid (Blk.new w [.int .i64 0, .int .i64 0, .int .u64 0, .int .u64 0, .int .i64 0] 26)
  have h1 := h.still hu
  have hf := vh_find h1 x
  have hms := Lib.hid (vh_missing b)
  unfold getV
  cases hfv : findV o x with
  | none =>
    rw [hfv] at hf
    have hf := Lib.hid (show Calls Try.prog 61 #[.pointer (some ⟨b, 0, none⟩), .int .i64 x] _ (RetU _ (.pointer none)) from hf)
    show Calls _ _ _ _ (RetU w (.tuple #[.agg #[.int .i64 0, .int .i64 0, .int .u64 0, .int .u64 0, .int .i64 0], .int .i64 2]))
    have Hhu := Lib.hid hu; clear hu
    clear h h1 hfv
    go_enter Try.func35, Try.ntmps35
    go_wp2_with (first
      | (go_at_call 61; (with_reducible refine hf.out.mono ?_); rintro e w3 ⟨rfl, hu3⟩; have hT := hB.out.upd hu3 (fun h => h); have c0 := hT.cell 0 rfl; have c1 := hT.cell 1 rfl; have c2 := hT.cell 2 rfl; have c3 := hT.cell 3 rfl; have c4 := hT.cell 4 rfl; have f0 := hT.free 0; have f1 := hT.free 1; have f2 := hT.free 2; have f3 := hT.free 3; have f4 := hT.free 4; have Hu3 := Lib.hid hu3; clear hT hu3)
      | (go_at_call 67; (with_reducible refine (hms.out _).mono ?_); rintro e w4 ⟨rfl, rfl⟩))
    refine bodyPost_ret (v := .tuple #[.agg #[.int .i64 0, .int .i64 0, .int .u64 0, .int .u64 0, .int .i64 0], .int .i64 2]) ?_ rfl ?_
    · rw [results_cell_tmp rfl]; go_simp
    · exact ⟨rfl, upd_set5 (Hhu.out.trans Hu3.out) (Nat.le_refl _) _ _ _ _ _⟩
  | some i =>
    rw [hfv] at hf
    obtain ⟨hi, hus, -⟩ := findV_some hfv
    have hf := Lib.hid (show Calls Try.prog 61 #[.pointer (some ⟨b, 0, none⟩), .int .i64 x] _ (RetU _ (.pointer (some ⟨b, 1 + i * 3, none⟩))) from hf)
    have hc := fun w' (u : Upd (fun _ => False) (w.alloc (.cells #[.int .i64 0, .int .i64 0, .int .u64 0, .int .u64 0, .int .i64 0] 26)) w') => ((h1.still u).cell i hi).2.2
    have hv := h1.vals i hi
    have h15 := h.few i hi
    show Calls _ _ _ _ (RetU w (.tuple #[(if j < 0 ∨ ((o i).f.length : Int) ≤ j then (zeroV, 4) else ((o i).f.getD j.toNat zeroV, 0) : Val × Int).1.v, .int .i64 (if j < 0 ∨ ((o i).f.length : Int) ≤ j then (zeroV, 4) else ((o i).f.getD j.toNat zeroV, 0) : Val × Int).2]))
    generalize (o i).f = fs at *
    have hvX := Lib.hid hv
    obtain ⟨fa, fc, hfe, -, -, -⟩ := hv
    rw [hfe] at hc hvX
    have hc := Lib.hid hc
    have hfi : (fs.length : Int) ≤ 15 := by omega
    clear h h1 hfv hus hi hfe
    by_cases j0 : j < 0
    · rw [if_pos (Or.inl j0)]
      show Calls _ _ _ _ (RetU w (.tuple #[.agg #[.int .i64 0, .int .i64 0, .int .u64 0, .int .u64 0, .int .i64 0], .int .i64 4]))
      have Hhu := Lib.hid hu; clear hu
      go_enter Try.func35, Try.ntmps35
      go_wp2_with (go_at_call 61; (with_reducible refine hf.out.mono ?_); rintro e w3 ⟨rfl, hu3⟩; have cF := hc.out w3 hu3; have hT := hB.out.upd hu3 (fun h => h); have c0 := hT.cell 0 rfl; have c1 := hT.cell 1 rfl; have c2 := hT.cell 2 rfl; have c3 := hT.cell 3 rfl; have c4 := hT.cell 4 rfl; have f0 := hT.free 0; have f1 := hT.free 1; have f2 := hT.free 2; have f3 := hT.free 3; have f4 := hT.free 4; have Hu3 := Lib.hid hu3; clear hT hu3)
      refine bodyPost_ret (v := .tuple #[.agg #[.int .i64 0, .int .i64 0, .int .u64 0, .int .u64 0, .int .i64 0], .int .i64 4]) ?_ rfl ?_
      · rw [results_cell_tmp rfl]; go_simp
      · exact ⟨rfl, upd_set5 (Hhu.out.trans Hu3.out) (Nat.le_refl _) _ _ _ _ _⟩
    · by_cases j1 : (fs.length : Int) ≤ j
      · rw [if_pos (Or.inr j1)]
        show Calls _ _ _ _ (RetU w (.tuple #[.agg #[.int .i64 0, .int .i64 0, .int .u64 0, .int .u64 0, .int .i64 0], .int .i64 4]))
        have Hhu := Lib.hid hu; clear hu
        go_enter Try.func35, Try.ntmps35
        go_wp2_with (go_at_call 61; (with_reducible refine hf.out.mono ?_); rintro e w3 ⟨rfl, hu3⟩; have cF := hc.out w3 hu3; have hT := hB.out.upd hu3 (fun h => h); have c0 := hT.cell 0 rfl; have c1 := hT.cell 1 rfl; have c2 := hT.cell 2 rfl; have c3 := hT.cell 3 rfl; have c4 := hT.cell 4 rfl; have f0 := hT.free 0; have f1 := hT.free 1; have f2 := hT.free 2; have f3 := hT.free 3; have f4 := hT.free 4; have Hu3 := Lib.hid hu3; clear hT hu3)
        refine bodyPost_ret (v := .tuple #[.agg #[.int .i64 0, .int .i64 0, .int .u64 0, .int .u64 0, .int .i64 0], .int .i64 4]) ?_ rfl ?_
        · rw [results_cell_tmp rfl]; go_simp
        · exact ⟨rfl, upd_set5 (Hhu.out.trans Hu3.out) (Nat.le_refl _) _ _ _ _ _⟩
      · rw [if_neg (fun h => h.elim j0 j1)]
        obtain ⟨k, rfl⟩ : ∃ k : Nat, j = k := ⟨j.toNat, by omega⟩
        have hk : k < fs.length := by omega
        have d1 : (k : Int) < fs.length := by omega
        rw [show (k : Int).toNat = k from by omega]
        obtain ⟨b1, o1, hix, hb1, hy⟩ := hvX.out.index (P := Try.prog) Try.underlying23 (by kernel_rfl) (by kernel_rfl) hk
        have hyy := fun w' (u : Upd (fun _ => False) (w.alloc (.cells #[.int .i64 0, .int .i64 0, .int .u64 0, .int .u64 0, .int .i64 0] 26)) w') t (ht : t < 5) => (u.none.cell (p := ⟨b1, o1 + k * 5 + t, none⟩) hb1).trans (hy t ht)
        generalize fs.getD k zeroV = z at *
        generalize o1 + k * 5 = o1 at *
        obtain ⟨za, zn, zre, zim, zr⟩ := z
        have hyy := Lib.hid hyy
        show Calls _ _ _ _ (RetU w (.tuple #[.agg #[.int .i64 za, .int .i64 zn, .int .u64 (zre : Int), .int .u64 (zim : Int), .int .i64 zr], .int .i64 0]))
        have Hhu := Lib.hid hu; clear hu
        clear hy
        go_enter Try.func35, Try.ntmps35
        go_wp2_with (go_at_call 61; (with_reducible refine hf.out.mono ?_); rintro e w3 ⟨rfl, hu3⟩; have cF := hc.out w3 hu3; have y0 : w3.cell? ⟨b1, o1, none⟩ = some (.int .i64 za) := hyy.out w3 hu3 0 (by decide); have y1 : w3.cell? ⟨b1, o1 + 1, none⟩ = some (.int .i64 zn) := hyy.out w3 hu3 1 (by decide); have y2 : w3.cell? ⟨b1, o1 + 2, none⟩ = some (.int .u64 (zre : Int)) := hyy.out w3 hu3 2 (by decide); have y3 : w3.cell? ⟨b1, o1 + 3, none⟩ = some (.int .u64 (zim : Int)) := hyy.out w3 hu3 3 (by decide); have y4 : w3.cell? ⟨b1, o1 + 4, none⟩ = some (.int .i64 zr) := hyy.out w3 hu3 4 (by decide); have hT := hB.out.upd hu3 (fun h => h); have c0 := hT.cell 0 rfl; have c1 := hT.cell 1 rfl; have c2 := hT.cell 2 rfl; have c3 := hT.cell 3 rfl; have c4 := hT.cell 4 rfl; have f0 := hT.free 0; have f1 := hT.free 1; have f2 := hT.free 2; have f3 := hT.free 3; have f4 := hT.free 4; have Hu3 := Lib.hid hu3; clear hT hu3)
        refine bodyPost_ret (v := .tuple #[.agg #[.int .i64 za, .int .i64 zn, .int .u64 (zre : Int), .int .u64 (zim : Int), .int .i64 zr], .int .i64 0]) ?_ rfl ?_
        · rw [results_cell_tmp rfl]; go_simp
        · exact ⟨rfl, upd_set5 (Hhu.out.trans Hu3.out) (Nat.le_refl _) _ _ _ _ _⟩
end Go.Proofs.Ytcnbcidbbeadcaa
