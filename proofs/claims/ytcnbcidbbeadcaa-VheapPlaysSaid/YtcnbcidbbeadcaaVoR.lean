/- The document's volatile objects: Refs, Get, All. -/
import Derived.Test.YtcnbcidbbeadcaaVoM
namespace Go.Proofs.Ytcnbcidbbeadcaa
open Go.RowKit Go.Deep
set_option linter.unusedVariables false

set_option maxRecDepth 100000 in
set_option maxHeartbeats 2000000 in
theorem vo_Refs {w : World} {m : Nat} {T : Nat → Prop} {ks : List (List Int)} {o : Nat → VOb} {kv : Value} {Kd : Nat → Int} {G : Nat → Value} (h : IsVo w m T ks o kv Kd G) (x : Int) (h15 : ∀ i, i < 64 → (o i).used = true → (o i).f.length ≤ 15) :
    Calls Try.prog 46 #[.pointer (some ⟨m, 0, none⟩), .int .i64 x] w (RetNums w (refsV o x)) := by
  have hf := vo_At h x
  unfold atV at hf
  unfold refsV
  cases hfv : findV o x with
  | none =>
    rw [hfv] at hf
    have hf := Lib.hid (show Calls Try.prog 45 #[.pointer (some ⟨m, 0, none⟩), .int .i64 x] w (Same w (.int .i64 (-1))) from hf)
    clear h hfv
    go_enter Try.func46, Try.ntmps46
    go_wp2_with (go_at_call 45; (with_reducible refine hf.out.mono ?_); rintro e w2 ⟨rfl, rfl⟩)
    go_ret
    exact ⟨none, 0, rfl, World.ownsRow_nil _ _ _ _, Upd.refl _ _⟩
  | some i =>
    rw [hfv] at hf
    obtain ⟨hi, hus, -⟩ := findV_some hfv
    have hf := Lib.hid (show Calls Try.prog 45 #[.pointer (some ⟨m, 0, none⟩), .int .i64 x] w (Same w (.int .i64 (i : Int))) from hf)
    have c1 := (h.cell i hi).2.2.2
    have hv := h.row i hi hus w (Upd.refl _ _)
    have h15 := h15 i hi hus
    have hi1 : (i : Int) < 64 := by omega
    have hi2 : ¬ (i : Int) < 0 := by omega
    show Calls _ _ _ _ (RetNums w (refsTo5 (o i).f))
    generalize (o i).f = fs at *
    have hvX := Lib.hid hv
    obtain ⟨fa, fc, hfe, -, -, -⟩ := hv
    rw [hfe] at c1 hvX
    clear h hfv hus hfe
    have hrl := Lib.hid (fun k => refsTo5_len (fs.take k))
    have hfi : (fs.length : Int) ≤ 15 := by omega
    go_enter Try.func46, Try.ntmps46
    go_wp2_with (go_at_call 45; (with_reducible refine hf.out.mono ?_); rintro e w2 ⟨rfl, rfl⟩)
    clear c1
    go_loopw [6, 21] (fun s i wr => ∃ (k : Nat) (oa : Option Addr) (oc : Nat), i = .int .i64 k ∧ k ≤ fs.length ∧ s = .slice oa (refsTo5 (fs.take k)).length oc ∧ wr.ownsRow w.heap.size 3 1 (.slice oa (refsTo5 (fs.take k)).length oc) (refsTo5 (fs.take k)).length (ints (refsTo5 (fs.take k))) ∧ Upd (fun _ => False) w wr) (fun _ i _ => (fs.length - intOf i).toNat)
    case atStart => exact ⟨0, none, 0, rfl, Nat.zero_le _, rfl, World.ownsRow_nil _ _ _ _, Upd.refl _ _⟩
    case round =>
      obtain ⟨k, oa, oc, rfl, hk, rfl, ho, hu⟩ := hrel
      by_cases hk2 : k = fs.length
      · have d1 : ¬ (k : Int) < fs.length := by omega
        rw [hk2, List.take_length] at ho
        have fin : RetNums w (refsTo5 fs) (.returned (.slice oa (refsTo5 (fs.take k)).length oc)) wr := by
          rw [hk2, List.take_length]
          exact ⟨oa, oc, rfl, ho, hu⟩
        have Hfin := Lib.hid fin; clear fin
        clear ho hu hk2
        generalize (refsTo5 (fs.take k)).length = nn at *
        go_wp2_with fail
        go_ret
        exact Hfin.out
      · have hk3 : k < fs.length := by omega
        have d1 : (k : Int) < fs.length := by omega
        obtain ⟨b1, o1, hix, hb1, hy⟩ := hvX.out.index (P := Try.prog) Try.underlying23 (by kernel_rfl) (by kernel_rfl) hk3
        have y0 := (hu.none.cell (p := ⟨b1, o1 + k * 5 + 0, none⟩) hb1).trans (hy 0 (by decide))
        have y1 := (hu.none.cell (p := ⟨b1, o1 + k * 5 + 1, none⟩) hb1).trans (hy 1 (by decide))
        have y2 := (hu.none.cell (p := ⟨b1, o1 + k * 5 + 2, none⟩) hb1).trans (hy 2 (by decide))
        have y3 := (hu.none.cell (p := ⟨b1, o1 + k * 5 + 3, none⟩) hb1).trans (hy 3 (by decide))
        have y4 := (hu.none.cell (p := ⟨b1, o1 + k * 5 + 4, none⟩) hb1).trans (hy 4 (by decide))
        simp only [Nat.add_zero] at y0
        have hst : refsTo5 (fs.take (k + 1)) = refsTo5 (fs.take k) ++ (if (fs.getD k zeroV).k = 3 then [(fs.getD k zeroV).r] else []) := by rw [snoc_take fs k hk3, refsTo5_snoc]
        have hn1 := hrl.out k
        have hn2 : (fs.take k).length ≤ 15 := by rw [List.length_take]; omega
        generalize refsTo5 (fs.take k) = xs at *
        generalize fs.getD k zeroV = z at *
        generalize o1 + k * 5 = o1 at *
        obtain ⟨za, zn, zre, zim, zr⟩ := z
        change wr.cell? _ = some (.int .i64 za) at y0
        change wr.cell? _ = some (.int .i64 zn) at y1
        change wr.cell? _ = some (.int .u64 (zre : Int)) at y2
        change wr.cell? _ = some (.int .u64 (zim : Int)) at y3
        change wr.cell? _ = some (.int .i64 zr) at y4
        have hz0 := hu.size
        have hrow : ∀ j, (Value.slice oa xs.length oc).ownBlock = some j → w.heap.size ≤ j := by
          intro j e
          rcases ho.2 with ⟨hz, -⟩ | ⟨g, cap, cur, hv, hg, -⟩
          · rw [hz] at e
            cases e
          · rw [hv] at e
            have : g = j := by simpa [Value.ownBlock] using e
            omega
        by_cases hza : za = 3
        · subst hza
          rw [if_pos rfl] at hst
          have hst : refsTo5 (fs.take (k + 1)) = xs ++ [zr] := hst
          have hl2 : (xs ++ [zr]).length = xs.length + 1 := by simp
          have hl3 : xs.length ≤ 1099511627776 := by omega
          have hcl : ((wr.alloc (.cells #[.int .i64 3, .int .i64 zn, .int .u64 (zre : Int), .int .u64 (zim : Int), .int .i64 zr] 26)).alloc (.cells #[.int .i64 zr] 3)).cell? ⟨wr.heap.size + 1, 0, none⟩ = some (.int .i64 zr) := by
            have := (Blk.new (wr.alloc (.cells #[.int .i64 3, .int .i64 zn, .int .u64 (zre : Int), .int .u64 (zim : Int), .int .i64 zr] 26)) [.int .i64 zr] 3).cell 0 rfl
            rwa [alloc_size] at this
          have hua : Upd (fun _ => False) w ((wr.alloc (.cells #[.int .i64 3, .int .i64 zn, .int .u64 (zre : Int), .int .u64 (zim : Int), .int .i64 zr] 26)).alloc (.cells #[.int .i64 zr] 3)) := (hu.alloc _).alloc _
          have hgz : w.heap.size ≤ wr.heap.size + 1 := by omega
          have hown2 := (ho.alloc (.cells #[.int .i64 3, .int .i64 zn, .int .u64 (zre : Int), .int .u64 (zim : Int), .int .i64 zr] 26)).alloc (.cells #[.int .i64 zr] 3)
          have Hho := Lib.hid ho; clear ho
          have Hhst := Lib.hid hst; clear hst
          have Hhu := Lib.hid hu; clear hu
          have Hhcl := Lib.hid hcl; clear hcl
          have Hhua := Lib.hid hua; clear hua
          have Hhown2 := Lib.hid hown2; clear hown2
          have Hhl2 := Lib.hid hl2; clear hl2
          clear hk2 hy hn1 hn2
          go_wp2_with (at_builtin; refine wpList_push rfl _ _ 52 3 rfl (.int .i64 0) 8 Try.underlying52 infoInt rfl w.heap.size _ _ _ rfl Hhown2.out (wr.heap.size + 1) 1 (.int .i64 zr) rfl Hhcl.out rfl hl3 (by decide) hgz ?_; intro oa' oc' w5 ho5 hg5; have HE := Lib.hid (And.intro ho5 hg5); clear ho5 hg5)
          go_roundw
          case rel => exact ⟨k + 1, oa', oc', by go_num, by omega, by rw [Hhst.out, Hhl2.out], by rw [Hhst.out, Hhl2.out]; have := HE.out.1; rw [show ints (xs ++ [zr]) = ints xs ++ [.int .i64 zr] from by simp [ints]]; exact this, Hhua.out.grown HE.out.2 (fun j e hj => absurd hj (by have := hrow j e; omega))⟩
          case measure => simp [intOf]; omega
        · rw [if_neg hza, List.append_nil] at hst
          have e3 : (za == 3) = false := by rw [beq_eq_false_iff_ne]; exact hza
          have Hho := Lib.hid ho; clear ho
          have Hhst := Lib.hid hst; clear hst
          have Hhu := Lib.hid hu; clear hu
          clear hk2 hy hn1 hn2 hrow
          go_wp2_with fail
          go_roundw
          case rel => exact ⟨k + 1, oa, oc, by go_num, by omega, by rw [Hhst.out], by rw [Hhst.out]; exact Hho.out.alloc _, Hhu.out.alloc _⟩
          case measure => simp [intOf]; omega
set_option maxRecDepth 100000 in
set_option maxHeartbeats 2000000 in
theorem vo_Get {w : World} {m : Nat} {T : Nat → Prop} {ks : List (List Int)} {o : Nat → VOb} {kv : Value} {Kd : Nat → Int} {G : Nat → Value} (h : IsVo w m T ks o kv Kd G) (x j : Int) (h15 : ∀ i, i < 64 → (o i).used = true → (o i).f.length ≤ 15) :
    Calls Try.prog 71 #[.pointer (some ⟨m, 0, none⟩), .int .i64 x, .int .i64 j] w (RetU w (.tuple #[(getV o x j).1.v, .int .i64 (getV o x j).2])) := by
  have hu : Upd (fun _ => False) w (w.alloc (.cells #[.int .i64 0, .int .i64 0, .int .u64 0, .int .u64 0, .int .i64 0] 26)) := (Upd.refl _ _).alloc _
  have h1 := h.still hu
  have hf := vo_At h1 x
  unfold atV at hf
  unfold getV
  cases hfv : findV o x with
  | none =>
    rw [hfv] at hf
    have hf := Lib.hid (show Calls Try.prog 45 #[.pointer (some ⟨m, 0, none⟩), .int .i64 x] _ (Same _ (.int .i64 (-1))) from hf)
    show Calls _ _ _ _ (RetU w (.tuple #[.agg #[.int .i64 0, .int .i64 0, .int .u64 0, .int .u64 0, .int .i64 0], .int .i64 2]))
    have Hhu := Lib.hid hu; clear hu
    clear h h1 hfv
    go_enter Try.func71, Try.ntmps71
    go_wp2_with (go_at_call 45; (with_reducible refine hf.out.mono ?_); rintro e w3 ⟨rfl, rfl⟩)
    refine bodyPost_ret (v := .tuple #[.agg #[.int .i64 0, .int .i64 0, .int .u64 0, .int .u64 0, .int .i64 0], .int .i64 2]) ?_ rfl ?_
    · rw [results_cell_tmp rfl]; go_simp
    · exact ⟨rfl, by first | exact Hhu.out | exact upd_set5 Hhu.out (Nat.le_refl _) _ _ _ _ _⟩
  | some i =>
    rw [hfv] at hf
    obtain ⟨hi, hus, -⟩ := findV_some hfv
    have hf := Lib.hid (show Calls Try.prog 45 #[.pointer (some ⟨m, 0, none⟩), .int .i64 x] _ (Same _ (.int .i64 (i : Int))) from hf)
    have cF := (h1.cell i hi).2.2.2
    have hv := h1.row i hi hus _ (Upd.refl _ _)
    have h15 := h15 i hi hus
    have hi1 : (i : Int) < 64 := by omega
    have hi2 : ¬ (i : Int) < 0 := by omega
    show Calls _ _ _ _ (RetU w (.tuple #[(if j < 0 ∨ ((o i).f.length : Int) ≤ j then (zeroV, 4) else ((o i).f.getD j.toNat zeroV, 0) : Val × Int).1.v, .int .i64 (if j < 0 ∨ ((o i).f.length : Int) ≤ j then (zeroV, 4) else ((o i).f.getD j.toNat zeroV, 0) : Val × Int).2]))
    generalize (o i).f = fs at *
    have hvX := Lib.hid hv
    obtain ⟨fa, fc, hfe, -, -, -⟩ := hv
    rw [hfe] at cF hvX
    have hfi : (fs.length : Int) ≤ 15 := by omega
    clear h h1 hfv hus hfe
    by_cases j0 : j < 0
    · rw [if_pos (Or.inl j0)]
      show Calls _ _ _ _ (RetU w (.tuple #[.agg #[.int .i64 0, .int .i64 0, .int .u64 0, .int .u64 0, .int .i64 0], .int .i64 4]))
      have Hhu := Lib.hid hu; clear hu
      go_enter Try.func71, Try.ntmps71
      go_wp2_with (go_at_call 45; (with_reducible refine hf.out.mono ?_); rintro e w3 ⟨rfl, rfl⟩)
      refine bodyPost_ret (v := .tuple #[.agg #[.int .i64 0, .int .i64 0, .int .u64 0, .int .u64 0, .int .i64 0], .int .i64 4]) ?_ rfl ?_
      · rw [results_cell_tmp rfl]; go_simp
      · exact ⟨rfl, by first | exact Hhu.out | exact upd_set5 Hhu.out (Nat.le_refl _) _ _ _ _ _⟩
    · by_cases j1 : (fs.length : Int) ≤ j
      · rw [if_pos (Or.inr j1)]
        show Calls _ _ _ _ (RetU w (.tuple #[.agg #[.int .i64 0, .int .i64 0, .int .u64 0, .int .u64 0, .int .i64 0], .int .i64 4]))
        have Hhu := Lib.hid hu; clear hu
        go_enter Try.func71, Try.ntmps71
        go_wp2_with (go_at_call 45; (with_reducible refine hf.out.mono ?_); rintro e w3 ⟨rfl, rfl⟩)
        refine bodyPost_ret (v := .tuple #[.agg #[.int .i64 0, .int .i64 0, .int .u64 0, .int .u64 0, .int .i64 0], .int .i64 4]) ?_ rfl ?_
        · rw [results_cell_tmp rfl]; go_simp
        · exact ⟨rfl, by first | exact Hhu.out | exact upd_set5 Hhu.out (Nat.le_refl _) _ _ _ _ _⟩
      · rw [if_neg (fun h => h.elim j0 j1)]
        obtain ⟨k, rfl⟩ : ∃ k : Nat, j = k := ⟨j.toNat, by omega⟩
        have hk : k < fs.length := by omega
        have d1 : (k : Int) < fs.length := by omega
        rw [show (k : Int).toNat = k from by omega]
        obtain ⟨b1, o1, hix, hb1, hy⟩ := hvX.out.index (P := Try.prog) Try.underlying23 (by kernel_rfl) (by kernel_rfl) hk
        have y0 := hy 0 (by decide)
        have y1 := hy 1 (by decide)
        have y2 := hy 2 (by decide)
        have y3 := hy 3 (by decide)
        have y4 := hy 4 (by decide)
        simp only [Nat.add_zero] at y0
        generalize fs.getD k zeroV = z at *
        generalize o1 + k * 5 = o1 at *
        obtain ⟨za, zn, zre, zim, zr⟩ := z
        change World.cell? _ _ = some (.int .i64 za) at y0
        change World.cell? _ _ = some (.int .i64 zn) at y1
        change World.cell? _ _ = some (.int .u64 (zre : Int)) at y2
        change World.cell? _ _ = some (.int .u64 (zim : Int)) at y3
        change World.cell? _ _ = some (.int .i64 zr) at y4
        show Calls _ _ _ _ (RetU w (.tuple #[.agg #[.int .i64 za, .int .i64 zn, .int .u64 (zre : Int), .int .u64 (zim : Int), .int .i64 zr], .int .i64 0]))
        have Hhu := Lib.hid hu; clear hu
        clear hy
        go_enter Try.func71, Try.ntmps71
        go_wp2_with (go_at_call 45; (with_reducible refine hf.out.mono ?_); rintro e w3 ⟨rfl, rfl⟩)
        refine bodyPost_ret (v := .tuple #[.agg #[.int .i64 za, .int .i64 zn, .int .u64 (zre : Int), .int .u64 (zim : Int), .int .i64 zr], .int .i64 0]) ?_ rfl ?_
        · rw [results_cell_tmp rfl]; go_simp
        · exact ⟨rfl, by first | exact (Upd.refl _ _).alloc _ | exact Hhu.out | exact upd_set5 Hhu.out (Nat.le_refl _) _ _ _ _ _⟩
set_option maxRecDepth 100000 in
set_option maxHeartbeats 2000000 in
theorem vo_All {w : World} {m : Nat} {T : Nat → Prop} {ks : List (List Int)} {o : Nat → VOb} {kv : Value} {Kd : Nat → Int} {G : Nat → Value} (h : IsVo w m T ks o kv Kd G) :
    Calls Try.prog 76 #[.pointer (some ⟨m, 0, none⟩)] w (RetNums w (allV o)) := by
  have hcs := Lib.hid (fun w' (u : Upd (fun _ => False) w w') i (hi : i < 64) => ((h.still u).cell i hi).2.1)
  have hlen := Lib.hid (allTo_len o)
  clear h
  go_enter Try.func76, Try.ntmps76
  go_wp2_with fail
  go_loopw [3, 5] (fun s i wr => ∃ (k : Nat) (oa : Option Addr) (oc : Nat), i = .int .i64 k ∧ k ≤ 64 ∧ s = .slice oa (allTo o k).length oc ∧ wr.ownsRow w.heap.size 3 1 (.slice oa (allTo o k).length oc) (allTo o k).length (ints (allTo o k)) ∧ Upd (fun _ => False) w wr) (fun _ i _ => (64 - intOf i).toNat)
  case atStart => exact ⟨0, none, 0, rfl, by omega, rfl, World.ownsRow_nil _ _ _ _, Upd.refl _ _⟩
  case round =>
    obtain ⟨k, oa, oc, rfl, hk, rfl, ho, hu⟩ := hrel
    by_cases hk2 : k = 64
    · subst hk2
      have fin : RetNums w (allV o) (.returned (.slice oa (allTo o 64).length oc)) wr := ⟨oa, oc, rfl, ho, hu⟩
      have Hfin := Lib.hid fin; clear fin
      clear ho hu
      generalize (allTo o 64).length = n64 at *
      rw [show ((64 : Nat) : Int) = 64 from rfl]
      go_wp2_with fail
      go_ret
      exact Hfin.out
    · have hk3 : k < 64 := by omega
      have d1 : (k : Int) < 64 := by omega
      have c1 := hcs.out wr hu k hk3
      have hst : allTo o (k + 1) = allTo o k ++ (if (o k).used then [-1 - (k : Int)] else []) := rfl
      have hn64 := hlen.out k
      generalize allTo o k = xs at *
      have hz0 := hu.size
      have hrow : ∀ j, (Value.slice oa xs.length oc).ownBlock = some j → w.heap.size ≤ j := fun j e => (ho.lt j e).1
      cases hus : (o k).used with
      | false =>
        rw [hus] at c1 hst
        simp only [Bool.false_eq_true, if_false, List.append_nil] at hst
        have Hho := Lib.hid ho; clear ho
        have Hhst := Lib.hid hst; clear hst
        have Hhu := Lib.hid hu; clear hu
        clear hk2 hrow
        go_wp2_with fail
        go_roundw
        case rel => exact ⟨k + 1, oa, oc, by go_num, by omega, by rw [Hhst.out], by rw [Hhst.out]; exact Hho.out, Hhu.out⟩
        case measure => simp [intOf]; omega
      | true =>
        rw [hus] at c1 hst
        simp only [if_true] at hst
        have hl2 : (xs ++ [-1 - (k : Int)]).length = xs.length + 1 := by simp
        have hl3 : xs.length ≤ 1099511627776 := by omega
        have hcl : (wr.alloc (.cells #[.int .i64 (-1 - (k : Int))] 3)).cell? ⟨wr.heap.size, 0, none⟩ = some (.int .i64 (-1 - (k : Int))) := (Blk.new wr [.int .i64 (-1 - (k : Int))] 3).cell 0 rfl
        have hua : Upd (fun _ => False) w (wr.alloc (.cells #[.int .i64 (-1 - (k : Int))] 3)) := hu.alloc _
        have hown2 := ho.alloc (.cells #[.int .i64 (-1 - (k : Int))] 3)
        have Hho := Lib.hid ho; clear ho
        have Hhst := Lib.hid hst; clear hst
        have Hhu := Lib.hid hu; clear hu
        have Hhcl := Lib.hid hcl; clear hcl
        have Hhua := Lib.hid hua; clear hua
        have Hhown2 := Lib.hid hown2; clear hown2
        have Hhl2 := Lib.hid hl2; clear hl2
        clear hk2
        go_wp2_with (at_builtin; refine wpList_push rfl _ _ 52 3 rfl (.int .i64 0) 8 Try.underlying52 infoInt rfl w.heap.size _ _ _ rfl Hhown2.out wr.heap.size 1 (.int .i64 (-1 - (k : Int))) rfl Hhcl.out rfl hl3 (by decide) hz0 ?_; intro oa' oc' w5 ho5 hg5; have HE := Lib.hid (And.intro ho5 hg5); clear ho5 hg5)
        go_roundw
        case rel => exact ⟨k + 1, oa', oc', by go_num, by omega, by rw [Hhst.out, Hhl2.out], by rw [Hhst.out, Hhl2.out]; have := HE.out.1; rw [show ints (xs ++ [-1 - (k : Int)]) = ints xs ++ [.int .i64 (-1 - (k : Int))] from by simp [ints]]; exact this, Hhua.out.grown HE.out.2 (fun j e hj => absurd hj (by have := hrow j e; omega))⟩
        case measure => simp [intOf]; omega
end Go.Proofs.Ytcnbcidbbeadcaa
