/- value.Words and the document's answer. -/
import Derived.Test.YtcnbcidbbeadcaaObjP
namespace Go.Proofs.Ytcnbcidbbeadcaa
open Go.RowKit Go.Deep
set_option linter.unusedVariables false

theorem word_of (n : Int) (w : World) : Calls Try.prog 83 #[.int .i64 n] w (Same w (.int .u64 (u64n n : Int))) := by
  have e := u64n_eq n
  generalize u64n n = x at *
  go_enter Try.func83, Try.ntmps83
  go_wp2
  go_ret
  exact ⟨rfl, rfl⟩

theorem alloc_size (w : World) (o : Obj) : (w.alloc o).heap.size = w.heap.size + 1 := by simp
/-- The words of a field, or none. -/
def RetVW (w : World) (o : Option (List Nat)) (e : Ending) (w' : World) : Prop :=
  Upd (fun _ => False) w w' ∧ ((∃ ws g c, o = some ws ∧ e = .returned (.tuple #[.slice (some ⟨g, 0, none⟩) ws.length c, .bool true]) ∧ WordsR w' (.slice (some ⟨g, 0, none⟩) ws.length c) ws) ∨
    (o = none ∧ e = .returned (.tuple #[.slice none 0 0, .bool false])))
theorem words_one (w : World) (g : Nat) (hg : g = w.heap.size) (x : Nat) (hx : x < 2 ^ 64) : WordsR (w.alloc (.cells #[.int .u64 (x : Int)] 24)) (.slice (some ⟨g, 0, none⟩) 1 1) [x] :=
  hg ▸ ownsRow_words (ws := [x]) (World.ownsRow_lit (base := w.heap.size) w #[.int .u64 (x : Int)] 1 (Nat.le_refl _) (by decide) rfl) (by intro y hy; simp at hy; subst hy; exact hx)
theorem words_two (w : World) (g : Nat) (hg : g = w.heap.size) (x y : Nat) (hx : x < 2 ^ 64) (hy : y < 2 ^ 64) : WordsR (w.alloc (.cells #[.int .u64 (x : Int), .int .u64 (y : Int)] 24)) (.slice (some ⟨g, 0, none⟩) 2 2) [x, y] :=
  hg ▸ ownsRow_words (ws := [x, y]) (World.ownsRow_lit (base := w.heap.size) w #[.int .u64 (x : Int), .int .u64 (y : Int)] 2 (Nat.le_refl _) (by decide) rfl) (by intro z hz; simp at hz; rcases hz with rfl | rfl <;> assumption)
theorem retVW_none {w : World} {o : Option (List Nat)} {w' : World} (h : o = none) (u : Upd (fun _ => False) w w') : RetVW w o (.returned (.tuple #[.slice none 0 0, .bool false])) w' := ⟨u, Or.inr ⟨h, rfl⟩⟩
theorem retVW_some {w : World} {o : Option (List Nat)} {w' : World} {ws : List Nat} {g n c : Nat} (h : o = some ws) (hn : n = ws.length) (u : Upd (fun _ => False) w w') (hw : WordsR w' (.slice (some ⟨g, 0, none⟩) n c) ws) :
    RetVW w o (.returned (.tuple #[.slice (some ⟨g, 0, none⟩) n c, .bool true])) w' := ⟨u, Or.inl ⟨ws, g, c, h, by rw [hn], by rw [← hn]; exact hw⟩⟩

set_option maxRecDepth 100000 in
set_option maxHeartbeats 1000000 in
theorem value_Words (k : Int) (x : Val) (hx : x.ok) (w : World) : Calls Try.prog 50 #[.int .i64 k, x.v] w (RetVW w (vw k x)) := by
  have hn : vw k x = if k = 1 ∧ x.k = 1 then some [u64n x.n] else if k = 2 ∧ x.k = 2 then some [x.re, x.im] else if k = 3 ∧ x.k = 0 then some [0] else if k = 3 ∧ x.k = 3 ∧ 0 ≤ x.r ∧ x.r ≤ 1099511627776 then some [x.r.toNat + 1] else none := rfl
  obtain ⟨a, n, re, im, r⟩ := x
  have hre := hx.re
  have him := hx.im
  simp only at hn hre him
  have hu : Upd (fun _ => False) w (w.alloc (.cells #[.int .i64 a, .int .i64 n, .int .u64 (re : Int), .int .u64 (im : Int), .int .i64 r] 26)) := (Upd.refl _ _).alloc _
  show Calls _ _ #[.int .i64 k, .agg #[.int .i64 a, .int .i64 n, .int .u64 (re : Int), .int .u64 (im : Int), .int .i64 r]] _ _
  have hwi := Lib.hid (word_of n)
  generalize vw k ⟨a, n, re, im, r⟩ = o at *
  clear hx
  by_cases k1 : k = 1
  · subst k1
    simp only [show ¬ ((1 : Int) = 2) from by decide, show ¬ ((1 : Int) = 3) from by decide, true_and, false_and, if_false] at hn
    by_cases a1 : a = 1
    · subst a1
      rw [if_pos rfl] at hn
      have hl := u64n_lt n
      have hq := u64n_eq n
      generalize u64n n = q at *
      have fin := Lib.hid (fun w' g (hg : g = w'.heap.size) (u : Upd (fun _ => False) w w') => retVW_some (n := 1) hn rfl (u.alloc (.cells #[.int .u64 (q : Int)] 24)) (words_one w' g hg q hl))
      have Hhu := Lib.hid hu; clear hu
      clear hn hl hre him
      go_enter Try.func50, Try.ntmps50
      go_wp2_with (go_at_call 83; (with_reducible refine (hwi.out _).mono ?_); rintro e w' ⟨rfl, rfl⟩)
      go_ret2
      exact fin.out _ _ (alloc_size _ _).symm Hhu.out
    · rw [if_neg a1] at hn
      have a1' : (a == 1) = false := by rw [beq_eq_false_iff_ne]; exact a1
      have fin := Lib.hid (fun w' (u : Upd (fun _ => False) w w') => retVW_none hn u)
      have Hhu := Lib.hid hu; clear hu
      clear hn hre him
      go_enter Try.func50, Try.ntmps50
      go_wp2
      go_ret2
      exact fin.out _ Hhu.out
  · by_cases k2 : k = 2
    · subst k2
      simp only [show ¬ ((2 : Int) = 1) from by decide, show ¬ ((2 : Int) = 3) from by decide, true_and, false_and, if_false] at hn
      by_cases a1 : a = 2
      · subst a1
        rw [if_pos rfl] at hn
        have fin := Lib.hid (fun w' g (hg : g = w'.heap.size) (u : Upd (fun _ => False) w w') => retVW_some (n := 2) hn rfl (u.alloc (.cells #[.int .u64 (re : Int), .int .u64 (im : Int)] 24)) (words_two w' g hg re im hre him))
        have Hhu := Lib.hid hu; clear hu
        clear hn hre him
        go_enter Try.func50, Try.ntmps50
        go_wp2
        go_ret2
        exact fin.out _ _ (alloc_size _ _).symm Hhu.out
      · rw [if_neg a1] at hn
        have a1' : (a == 2) = false := by rw [beq_eq_false_iff_ne]; exact a1
        have fin := Lib.hid (fun w' (u : Upd (fun _ => False) w w') => retVW_none hn u)
        have Hhu := Lib.hid hu; clear hu
        clear hn hre him
        go_enter Try.func50, Try.ntmps50
        go_wp2
        go_ret2
        exact fin.out _ Hhu.out
    · by_cases k3 : k = 3
      · subst k3
        simp only [show ¬ ((3 : Int) = 1) from by decide, show ¬ ((3 : Int) = 2) from by decide, true_and, false_and, if_false] at hn
        by_cases a1 : a = 0
        · subst a1
          rw [if_pos rfl] at hn
          have fin := Lib.hid (fun w' g (hg : g = w'.heap.size) (u : Upd (fun _ => False) w w') => retVW_some (n := 1) hn rfl (u.alloc (.cells #[.int .u64 ((0 : Nat) : Int)] 24)) (words_one w' g hg 0 (by decide)))
          have Hhu := Lib.hid hu; clear hu
          clear hn hre him
          go_enter Try.func50, Try.ntmps50
          go_wp2
          go_ret2
          exact fin.out _ _ (alloc_size _ _).symm Hhu.out
        · rw [if_neg a1] at hn
          have a1' : (a == 0) = false := by rw [beq_eq_false_iff_ne]; exact a1
          by_cases a3 : a = 3
          · subst a3
            by_cases r0 : 0 ≤ r
            · by_cases r1 : r ≤ 1099511627776
              · rw [if_pos ⟨rfl, r0, r1⟩] at hn
                have ez : ((r.toNat + 1 : Nat) : Int) = r + 1 := by omega
                have fin := Lib.hid (fun w' g (hg : g = w'.heap.size) (u : Upd (fun _ => False) w w') => retVW_some (n := 1) hn rfl (u.alloc (.cells #[.int .u64 ((r.toNat + 1 : Nat) : Int)] 24)) (words_one w' g hg (r.toNat + 1) (by omega)))
                rw [ez] at fin
                clear ez
                have Hhu := Lib.hid hu; clear hu
                clear hn hre him
                go_enter Try.func50, Try.ntmps50
                go_wp2
                go_ret2
                exact fin.out _ _ (alloc_size _ _).symm Hhu.out
              · rw [if_neg (fun h => r1 h.2.2)] at hn
                have fin := Lib.hid (fun w' (u : Upd (fun _ => False) w w') => retVW_none hn u)
                have Hhu := Lib.hid hu; clear hu
                clear hn hre him
                go_enter Try.func50, Try.ntmps50
                go_wp2
                go_ret2
                exact fin.out _ Hhu.out
            · rw [if_neg (fun h => r0 h.2.1)] at hn
              have fin := Lib.hid (fun w' (u : Upd (fun _ => False) w w') => retVW_none hn u)
              have Hhu := Lib.hid hu; clear hu
              clear hn hre him
              go_enter Try.func50, Try.ntmps50
              go_wp2
              go_ret2
              exact fin.out _ Hhu.out
          · rw [if_neg (fun h => a3 h.1)] at hn
            have a3' : (a == 3) = false := by rw [beq_eq_false_iff_ne]; exact a3
            have fin := Lib.hid (fun w' (u : Upd (fun _ => False) w w') => retVW_none hn u)
            have Hhu := Lib.hid hu; clear hu
            clear hn hre him
            go_enter Try.func50, Try.ntmps50
            go_wp2
            go_ret2
            exact fin.out _ Hhu.out
      · rw [if_neg (fun h => k1 h.1), if_neg (fun h => k2 h.1), if_neg (fun h => k3 h.1), if_neg (fun h => k3 h.1)] at hn
        have k1' : (k == 1) = false := by rw [beq_eq_false_iff_ne]; exact k1
        have k2' : (k == 2) = false := by rw [beq_eq_false_iff_ne]; exact k2
        have k3' : (k == 3) = false := by rw [beq_eq_false_iff_ne]; exact k3
        have fin := Lib.hid (fun w' (u : Upd (fun _ => False) w w') => retVW_none hn u)
        have Hhu := Lib.hid hu; clear hu
        clear hn hre him
        go_enter Try.func50, Try.ntmps50
        go_wp2
        go_ret2
        exact fin.out _ Hhu.out
set_option maxRecDepth 100000 in
set_option maxHeartbeats 1000000 in
theorem ref_ValueWords (k : Int) (x : Val) (hx : x.ok) (w : World) : Calls Try.prog 53 #[.int .i64 k, x.v] w (RetVW w (vw k x)) := by
  have hn : vw k x = if k = 1 ∧ x.k = 1 then some [u64n x.n] else if k = 2 ∧ x.k = 2 then some [x.re, x.im] else if k = 3 ∧ x.k = 0 then some [0] else if k = 3 ∧ x.k = 3 ∧ 0 ≤ x.r ∧ x.r ≤ 1099511627776 then some [x.r.toNat + 1] else none := rfl
  obtain ⟨a, n, re, im, r⟩ := x
  have hre := hx.re
  have him := hx.im
  simp only at hn hre him
  have hu : Upd (fun _ => False) w (w.alloc (.cells #[.int .i64 a, .int .i64 n, .int .u64 (re : Int), .int .u64 (im : Int), .int .i64 r] 26)) := (Upd.refl _ _).alloc _
  show Calls _ _ #[.int .i64 k, .agg #[.int .i64 a, .int .i64 n, .int .u64 (re : Int), .int .u64 (im : Int), .int .i64 r]] _ _
  generalize vw k ⟨a, n, re, im, r⟩ = o at *
  clear hx
  by_cases k1 : k = 1
  · subst k1
    simp only [show ¬ ((1 : Int) = 2) from by decide, show ¬ ((1 : Int) = 3) from by decide, true_and, false_and, if_false] at hn
    by_cases a1 : a = 1
    · subst a1
      rw [if_pos rfl] at hn
      have hl := u64n_lt n
      have hq := u64n_eq n
      generalize u64n n = q at *
      have fin := Lib.hid (fun w' g (hg : g = w'.heap.size) (u : Upd (fun _ => False) w w') => retVW_some (n := 1) hn rfl (u.alloc (.cells #[.int .u64 (q : Int)] 24)) (words_one w' g hg q hl))
      have Hhu := Lib.hid hu; clear hu
      clear hn hl hre him
      go_enter Try.func53, Try.ntmps53
      go_wp2
      go_ret2
      exact fin.out _ _ (alloc_size _ _).symm Hhu.out
    · rw [if_neg a1] at hn
      have a1' : (a == 1) = false := by rw [beq_eq_false_iff_ne]; exact a1
      have fin := Lib.hid (fun w' (u : Upd (fun _ => False) w w') => retVW_none hn u)
      have Hhu := Lib.hid hu; clear hu
      clear hn hre him
      go_enter Try.func53, Try.ntmps53
      go_wp2
      go_ret2
      exact fin.out _ Hhu.out
  · by_cases k2 : k = 2
    · subst k2
      simp only [show ¬ ((2 : Int) = 1) from by decide, show ¬ ((2 : Int) = 3) from by decide, true_and, false_and, if_false] at hn
      by_cases a1 : a = 2
      · subst a1
        rw [if_pos rfl] at hn
        have fin := Lib.hid (fun w' g (hg : g = w'.heap.size) (u : Upd (fun _ => False) w w') => retVW_some (n := 2) hn rfl (u.alloc (.cells #[.int .u64 (re : Int), .int .u64 (im : Int)] 24)) (words_two w' g hg re im hre him))
        have Hhu := Lib.hid hu; clear hu
        clear hn hre him
        go_enter Try.func53, Try.ntmps53
        go_wp2
        go_ret2
        exact fin.out _ _ (alloc_size _ _).symm Hhu.out
      · rw [if_neg a1] at hn
        have a1' : (a == 2) = false := by rw [beq_eq_false_iff_ne]; exact a1
        have fin := Lib.hid (fun w' (u : Upd (fun _ => False) w w') => retVW_none hn u)
        have Hhu := Lib.hid hu; clear hu
        clear hn hre him
        go_enter Try.func53, Try.ntmps53
        go_wp2
        go_ret2
        exact fin.out _ Hhu.out
    · by_cases k3 : k = 3
      · subst k3
        simp only [show ¬ ((3 : Int) = 1) from by decide, show ¬ ((3 : Int) = 2) from by decide, true_and, false_and, if_false] at hn
        by_cases a1 : a = 0
        · subst a1
          rw [if_pos rfl] at hn
          have fin := Lib.hid (fun w' g (hg : g = w'.heap.size) (u : Upd (fun _ => False) w w') => retVW_some (n := 1) hn rfl (u.alloc (.cells #[.int .u64 ((0 : Nat) : Int)] 24)) (words_one w' g hg 0 (by decide)))
          have Hhu := Lib.hid hu; clear hu
          clear hn hre him
          go_enter Try.func53, Try.ntmps53
          go_wp2
          go_ret2
          exact fin.out _ _ (alloc_size _ _).symm Hhu.out
        · rw [if_neg a1] at hn
          have a1' : (a == 0) = false := by rw [beq_eq_false_iff_ne]; exact a1
          by_cases a3 : a = 3
          · subst a3
            by_cases r0 : 0 ≤ r
            · by_cases r1 : r ≤ 1099511627776
              · rw [if_pos ⟨rfl, r0, r1⟩] at hn
                have ez : ((r.toNat + 1 : Nat) : Int) = r + 1 := by omega
                have fin := Lib.hid (fun w' g (hg : g = w'.heap.size) (u : Upd (fun _ => False) w w') => retVW_some (n := 1) hn rfl (u.alloc (.cells #[.int .u64 ((r.toNat + 1 : Nat) : Int)] 24)) (words_one w' g hg (r.toNat + 1) (by omega)))
                rw [ez] at fin
                clear ez
                have Hhu := Lib.hid hu; clear hu
                clear hn hre him
                go_enter Try.func53, Try.ntmps53
                go_wp2
                go_ret2
                exact fin.out _ _ (alloc_size _ _).symm Hhu.out
              · rw [if_neg (fun h => r1 h.2.2)] at hn
                have fin := Lib.hid (fun w' (u : Upd (fun _ => False) w w') => retVW_none hn u)
                have Hhu := Lib.hid hu; clear hu
                clear hn hre him
                go_enter Try.func53, Try.ntmps53
                go_wp2
                go_ret2
                exact fin.out _ Hhu.out
            · rw [if_neg (fun h => r0 h.2.1)] at hn
              have fin := Lib.hid (fun w' (u : Upd (fun _ => False) w w') => retVW_none hn u)
              have Hhu := Lib.hid hu; clear hu
              clear hn hre him
              go_enter Try.func53, Try.ntmps53
              go_wp2
              go_ret2
              exact fin.out _ Hhu.out
          · rw [if_neg (fun h => a3 h.1)] at hn
            have a3' : (a == 3) = false := by rw [beq_eq_false_iff_ne]; exact a3
            have fin := Lib.hid (fun w' (u : Upd (fun _ => False) w w') => retVW_none hn u)
            have Hhu := Lib.hid hu; clear hu
            clear hn hre him
            go_enter Try.func53, Try.ntmps53
            go_wp2
            go_ret2
            exact fin.out _ Hhu.out
      · rw [if_neg (fun h => k1 h.1), if_neg (fun h => k2 h.1), if_neg (fun h => k3 h.1), if_neg (fun h => k3 h.1)] at hn
        have k1' : (k == 1) = false := by rw [beq_eq_false_iff_ne]; exact k1
        have k2' : (k == 2) = false := by rw [beq_eq_false_iff_ne]; exact k2
        have k3' : (k == 3) = false := by rw [beq_eq_false_iff_ne]; exact k3
        have fin := Lib.hid (fun w' (u : Upd (fun _ => False) w w') => retVW_none hn u)
        have Hhu := Lib.hid hu; clear hu
        clear hn hre him
        go_enter Try.func53, Try.ntmps53
        go_wp2
        go_ret2
        exact fin.out _ Hhu.out
end Go.Proofs.Ytcnbcidbbeadcaa
