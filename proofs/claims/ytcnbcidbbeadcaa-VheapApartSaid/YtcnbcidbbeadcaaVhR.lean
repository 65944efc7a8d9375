/- Kind, Get, Refs of a heap of volatile objects. -/
import Derived.Test.YtcnbcidbbeadcaaVhA
namespace Go.Proofs.Ytcnbcidbbeadcaa
open Go.RowKit Go.Deep
set_option linter.unusedVariables false

theorem findV_some {o : Nat → VOb} {x : Int} {i : Nat} (h : findV o x = some i) : i < 64 ∧ (o i).used = true ∧ x = -1 - (i : Int) := by
  unfold findV at h
  split at h
  · rename_i h1
    cases h
    exact ⟨by omega, h1.2.2, by omega⟩
  · cases h
theorem vh_missing (b : Nat) (w : World) : Calls Try.prog 67 #[.pointer (some ⟨b, 0, none⟩)] w (Same w (.int .i64 2)) := by
  go_enter Try.func67, Try.ntmps67
  go_wp2
  go_ret
  exact ⟨rfl, rfl⟩
def kindV (o : Nat → VOb) (x : Int) : Int × Int := match findV o x with
  | none => (0, 2)
  | some i => ((o i).k, 0)
theorem vh_Kind {w : World} {b base : Nat} {ks : List (List Int)} {o : Nat → VOb} {kv : Value} {F : Nat → Value} (h : IsVh w b base ks o kv F) (x : Int) :
    Calls Try.prog 39 #[.pointer (some ⟨b, 0, none⟩), .int .i64 x] w (RetU w (.tuple #[.int .i64 (kindV o x).1, .int .i64 (kindV o x).2])) := by
  have hf := vh_find h x
  have hms := Lib.hid (vh_missing b)
  unfold kindV
  cases hfv : findV o x with
  | none =>
    rw [hfv] at hf
    have hf := Lib.hid (show Calls Try.prog 61 #[.pointer (some ⟨b, 0, none⟩), .int .i64 x] w (RetU w (.pointer none)) from hf)
    clear h hfv
    go_enter Try.func39, Try.ntmps39
    go_wp2_with (first
      | (go_at_call 61; (with_reducible refine hf.out.mono ?_); rintro e w2 ⟨rfl, hu2⟩; have Hu2 := Lib.hid hu2; clear hu2)
      | (go_at_call 67; (with_reducible refine (hms.out _).mono ?_); rintro e w3 ⟨rfl, rfl⟩))
    go_ret2
    exact ⟨rfl, Hu2.out⟩
  | some i =>
    rw [hfv] at hf
    obtain ⟨hi, hus, -⟩ := findV_some hfv
    have hf := Lib.hid (show Calls Try.prog 61 #[.pointer (some ⟨b, 0, none⟩), .int .i64 x] w (RetU w (.pointer (some ⟨b, 1 + i * 3, none⟩))) from hf)
    have hc := Lib.hid (fun w' (u : Upd (fun _ => False) w w') => ((h.still u).cell i hi).2.1)
    show Calls _ _ _ _ (RetU w (.tuple #[.int .i64 (o i).k, .int .i64 0]))
    generalize (o i).k = kk at *
    clear h hfv hus hi
    generalize 1 + i * 3 = at1 at *
    go_enter Try.func39, Try.ntmps39
    go_wp2_with (go_at_call 61; (with_reducible refine hf.out.mono ?_); rintro e w2 ⟨rfl, hu2⟩; have c1 := hc.out w2 hu2; have Hu2 := Lib.hid hu2; clear hu2)
    go_ret2
    exact ⟨rfl, Hu2.out⟩

def refsTo5 : List Val → List Int
  | [] => []
  | x :: xs => (if x.k = 3 then [x.r] else []) ++ refsTo5 xs
theorem refsTo5_snoc (xs : List Val) (x : Val) : refsTo5 (xs ++ [x]) = refsTo5 xs ++ (if x.k = 3 then [x.r] else []) := by
  induction xs with
  | nil => simp [refsTo5]
  | cons y ys ih => simp [refsTo5, ih]
theorem refsTo5_len (xs : List Val) : (refsTo5 xs).length ≤ xs.length := by
  induction xs with
  | nil => exact Nat.le_refl _
  | cons y ys ih =>
    simp only [refsTo5, List.length_append, List.length_cons]
    split <;> simp <;> omega
def refsV (o : Nat → VOb) (x : Int) : List Int := match findV o x with
  | none => []
  | some i => refsTo5 (o i).f
theorem IsVh.vals {w : World} {b base : Nat} {ks : List (List Int)} {o : Nat → VOb} {kv : Value} {F : Nat → Value} (h : IsVh w b base ks o kv F) (i : Nat) (hi : i < 64) : ValsR w (F i) (o i).f := ownsRow_vals (h.row i hi)
theorem snoc_take (fs : List Val) (k : Nat) (hk : k < fs.length) : fs.take (k + 1) = fs.take k ++ [fs.getD k zeroV] := by
  rw [List.take_succ_eq_append_getElem hk]
  simp [List.getD, hk]

set_option maxRecDepth 100000 in
set_option maxHeartbeats 2000000 in
theorem vh_Refs {w : World} {b base : Nat} {ks : List (List Int)} {o : Nat → VOb} {kv : Value} {F : Nat → Value} (h : IsVh w b base ks o kv F) (x : Int) :
    Calls Try.prog 37 #[.pointer (some ⟨b, 0, none⟩), .int .i64 x] w (RetNums w (refsV o x)) := by
  have hf := vh_find h x
  unfold refsV
  cases hfv : findV o x with
  | none =>
    rw [hfv] at hf
    have hf := Lib.hid (show Calls Try.prog 61 #[.pointer (some ⟨b, 0, none⟩), .int .i64 x] w (RetU w (.pointer none)) from hf)
    clear h hfv
    go_enter Try.func37, Try.ntmps37
    go_wp2_with (go_at_call 61; (with_reducible refine hf.out.mono ?_); rintro e w2 ⟨rfl, hu2⟩; have Hu2 := Lib.hid hu2; clear hu2)
    go_ret
    exact ⟨none, 0, rfl, World.ownsRow_nil _ _ _ _, Hu2.out⟩
  | some i =>
    rw [hfv] at hf
    obtain ⟨hi, hus, -⟩ := findV_some hfv
    have hf := Lib.hid (show Calls Try.prog 61 #[.pointer (some ⟨b, 0, none⟩), .int .i64 x] w (RetU w (.pointer (some ⟨b, 1 + i * 3, none⟩))) from hf)
    have hc := fun w' (u : Upd (fun _ => False) w w') => ((h.still u).cell i hi).2.2
    have hv := h.vals i hi
    have h15 := h.few i hi
    show Calls _ _ _ _ (RetNums w (refsTo5 (o i).f))
    generalize (o i).f = fs at *
    have hvX := Lib.hid hv
    obtain ⟨fa, fc, hfe, -, -, -⟩ := hv
    rw [hfe] at hc hvX
    have hc := Lib.hid hc
    clear h hfv hus hi hfe
    generalize 1 + i * 3 = at1 at *
    have hrl := Lib.hid (fun k => refsTo5_len (fs.take k))
    have hfi : (fs.length : Int) ≤ 15 := by omega
    go_enter Try.func37, Try.ntmps37
    go_wp2_with (go_at_call 61; (with_reducible refine hf.out.mono ?_); rintro e w2 ⟨rfl, hu2⟩; have c1 := hc.out w2 hu2; have Hu2 := Lib.hid hu2; clear hu2)
    clear c1
    go_loopw [6, 19] (fun s i wr => ∃ (k : Nat) (oa : Option Addr) (oc : Nat), i = .int .i64 k ∧ k ≤ fs.length ∧ s = .slice oa (refsTo5 (fs.take k)).length oc ∧ wr.ownsRow w.heap.size 3 1 (.slice oa (refsTo5 (fs.take k)).length oc) (refsTo5 (fs.take k)).length (ints (refsTo5 (fs.take k))) ∧ Upd (fun _ => False) w wr) (fun _ i _ => (fs.length - intOf i).toNat)
    case atStart => exact ⟨0, none, 0, rfl, Nat.zero_le _, rfl, World.ownsRow_nil _ _ _ _, Hu2.out⟩
    case round =>
      obtain ⟨k, oa, oc, rfl, hk, rfl, ho, hu⟩ := hrel
      clear Hu2
      by_cases hk2 : k = fs.length
      · have d1 : ¬ (k : Int) < fs.length := by omega
        rw [hk2, List.take_length] at ho
        have fin : RetNums w (refsTo5 fs) (.returned (.slice oa (refsTo5 (fs.take k)).length oc)) wr := by
          rw [hk2, List.take_length]
          exact ⟨oa, oc, rfl, ho, hu⟩
        have Hfin := Lib.hid fin; clear fin
        clear ho hu hk2
        generalize (refsTo5 (fs.take k)).length = nn at *
        go_wp2_with fail
        go_ret
        exact Hfin.out
      · have hk3 : k < fs.length := by omega
        have d1 : (k : Int) < fs.length := by omega
        obtain ⟨b1, o1, hix, hb1, hy⟩ := hvX.out.index (P := Try.prog) Try.underlying23 (by kernel_rfl) (by kernel_rfl) hk3
        have y0 := (hu.none.cell (p := ⟨b1, o1 + k * 5 + 0, none⟩) hb1).trans (hy 0 (by decide))
        have y1 := (hu.none.cell (p := ⟨b1, o1 + k * 5 + 1, none⟩) hb1).trans (hy 1 (by decide))
        have y2 := (hu.none.cell (p := ⟨b1, o1 + k * 5 + 2, none⟩) hb1).trans (hy 2 (by decide))
        have y3 := (hu.none.cell (p := ⟨b1, o1 + k * 5 + 3, none⟩) hb1).trans (hy 3 (by decide))
        have y4 := (hu.none.cell (p := ⟨b1, o1 + k * 5 + 4, none⟩) hb1).trans (hy 4 (by decide))
        simp only [Nat.add_zero] at y0
        have hst : refsTo5 (fs.take (k + 1)) = refsTo5 (fs.take k) ++ (if (fs.getD k zeroV).k = 3 then [(fs.getD k zeroV).r] else []) := by rw [snoc_take fs k hk3, refsTo5_snoc]
        have hn1 := hrl.out k
        have hn2 : (fs.take k).length ≤ 15 := by rw [List.length_take]; omega
        generalize refsTo5 (fs.take k) = xs at *
        generalize fs.getD k zeroV = z at *
        generalize o1 + k * 5 = o1 at *
        obtain ⟨za, zn, zre, zim, zr⟩ := z
        change wr.cell? _ = some (.int .i64 za) at y0
        change wr.cell? _ = some (.int .i64 zn) at y1
        change wr.cell? _ = some (.int .u64 (zre : Int)) at y2
        change wr.cell? _ = some (.int .u64 (zim : Int)) at y3
        change wr.cell? _ = some (.int .i64 zr) at y4
        have hz0 := hu.size
        have hrow : ∀ j, (Value.slice oa xs.length oc).ownBlock = some j → w.heap.size ≤ j := by
          intro j e
          rcases ho.2 with ⟨hz, -⟩ | ⟨g, cap, cur, hv, hg, -⟩
          · rw [hz] at e
            cases e
          · rw [hv] at e
            have : g = j := by simpa [Value.ownBlock] using e
            omega
        by_cases hza : za = 3
        · subst hza
          rw [if_pos rfl] at hst
          have hst : refsTo5 (fs.take (k + 1)) = xs ++ [zr] := hst
          have hl2 : (xs ++ [zr]).length = xs.length + 1 := by simp
          have hl3 : xs.length ≤ 1099511627776 := by omega
          have hcl : ((wr.alloc (.cells #[.int .i64 3, .int .i64 zn, .int .u64 (zre : Int), .int .u64 (zim : Int), .int .i64 zr] 26)).alloc (.cells #[.int .i64 zr] 3)).cell? ⟨wr.heap.size + 1, 0, none⟩ = some (.int .i64 zr) := by
            have := (Blk.new (wr.alloc (.cells #[.int .i64 3, .int .i64 zn, .int .u64 (zre : Int), .int .u64 (zim : Int), .int .i64 zr] 26)) [.int .i64 zr] 3).cell 0 rfl
            rwa [alloc_size] at this
          have hua : Upd (fun _ => False) w ((wr.alloc (.cells #[.int .i64 3, .int .i64 zn, .int .u64 (zre : Int), .int .u64 (zim : Int), .int .i64 zr] 26)).alloc (.cells #[.int .i64 zr] 3)) := (hu.alloc _).alloc _
          have hgz : w.heap.size ≤ wr.heap.size + 1 := by omega
          have hown2 := (ho.alloc (.cells #[.int .i64 3, .int .i64 zn, .int .u64 (zre : Int), .int .u64 (zim : Int), .int .i64 zr] 26)).alloc (.cells #[.int .i64 zr] 3)
          have Hho := Lib.hid ho; clear ho
          have Hhst := Lib.hid hst; clear hst
          have Hhu := Lib.hid hu; clear hu
          have Hhcl := Lib.hid hcl; clear hcl
          have Hhua := Lib.hid hua; clear hua
          have Hhown2 := Lib.hid hown2; clear hown2
          have Hhl2 := Lib.hid hl2; clear hl2
          clear hk2 hy hn1 hn2
          go_wp2_with (at_builtin; refine wpList_push rfl _ _ 52 3 rfl (.int .i64 0) 8 Try.underlying52 infoInt rfl w.heap.size _ _ _ rfl Hhown2.out (wr.heap.size + 1) 1 (.int .i64 zr) rfl Hhcl.out rfl hl3 (by decide) hgz ?_; intro oa' oc' w5 ho5 hg5; have HE := Lib.hid (And.intro ho5 hg5); clear ho5 hg5)
          go_roundw
          case rel => exact ⟨k + 1, oa', oc', by go_num, by omega, by rw [Hhst.out, Hhl2.out], by rw [Hhst.out, Hhl2.out]; have := HE.out.1; rw [show ints (xs ++ [zr]) = ints xs ++ [.int .i64 zr] from by simp [ints]]; exact this, Hhua.out.grown HE.out.2 (fun j e hj => absurd hj (by have := hrow j e; omega))⟩
          case measure => simp [intOf]; omega
        · rw [if_neg hza, List.append_nil] at hst
          have e3 : (za == 3) = false := by rw [beq_eq_false_iff_ne]; exact hza
          have Hho := Lib.hid ho; clear ho
          have Hhst := Lib.hid hst; clear hst
          have Hhu := Lib.hid hu; clear hu
          clear hk2 hy hn1 hn2 hrow
          go_wp2_with fail
          go_roundw
          case rel => exact ⟨k + 1, oa, oc, by go_num, by omega, by rw [Hhst.out], by rw [Hhst.out]; exact Hho.out.alloc _, Hhu.out.alloc _⟩
          case measure => simp [intOf]; omega
end Go.Proofs.Ytcnbcidbbeadcaa
