/- The reference's bits: Unpack, Pack, SameWords. -/
import Derived.Test.YthaicpjgmplgcaaAwake5
namespace Go.Proofs.Ythaicpjgmplgcaa
open Go.RowKit
set_option linter.unusedVariables false
attribute [local go_sem] ite_min ite_max

theorem low_bit (x k : Nat) (hx : x < 2 ^ 64) : ((bits .and .u64 ((x : Int) / 2 ^ k) 1) == 1) = x.testBit k := by
  rw [bit_and_one x k hx, Nat.testBit_eq_decide_div_mod_eq]
  rcases Nat.mod_two_eq_zero_or_one (x / 2 ^ k) with h | h <;> simp [h]

/-- The bits f below n, as bools. -/
def bools (n : Nat) (f : Nat → Bool) : List Value := (List.range n).map fun i => .bool (f i)
theorem bools_length (n : Nat) (f : Nat → Bool) : (bools n f).length = n := by simp [bools]
theorem bools_get (n : Nat) (f : Nat → Bool) (i : Nat) (h : i < n) : (bools n f)[i]? = some (.bool (f i)) := by simp [bools, h]
theorem bools_congr {n : Nat} {f g : Nat → Bool} (h : ∀ i, i < n → f i = g i) : bools n f = bools n g := by
  unfold bools
  refine List.map_congr_left fun i hi => ?_
  rw [h i (List.mem_range.1 hi)]
theorem bools_set (n : Nat) (f : Nat → Bool) (i : Nat) (b : Bool) : (bools n f).set i (.bool b) = bools n (setF f i b) := by
  apply List.ext_getElem?
  intro j
  rw [List.getElem?_set, bools_length]
  by_cases hj : j < n
  · rw [bools_get _ _ _ hj, bools_get _ _ _ hj]
    unfold setF
    by_cases e : i = j
    · subst e
      simp [hj]
    · rw [if_neg e, if_neg (by omega)]
  · have h1 : (bools n f)[j]? = none := List.getElem?_eq_none (by rw [bools_length]; omega)
    have h2 : (bools n (setF f i b))[j]? = none := List.getElem?_eq_none (by rw [bools_length]; omega)
    rw [h1, h2]
    split
    · rw [if_neg (by omega)]
    · rfl
theorem bools_false (n : Nat) : bools n (fun _ => false) = List.replicate n (.bool false) := by
  apply List.ext_getElem?
  intro j
  simp [bools, List.getElem?_replicate]
  by_cases hj : j < n <;> simp [hj]

/-- A row of bools. -/
def BoolsAt (B : Nat) (w : World) (g c n : Nat) (f : Nat → Bool) : Prop := w.ownsRow B 4 1 (.slice (some ⟨g, 0, none⟩) n c) n (bools n f)
theorem BoolsAt.congr {B : Nat} {w : World} {g c n : Nat} {f f' : Nat → Bool} (h : BoolsAt B w g c n f) (e : ∀ i, i < n → f i = f' i) : BoolsAt B w g c n f' := by
  unfold BoolsAt at *
  rw [← bools_congr e]
  exact h
theorem BoolsAt.upd {B : Nat} {w w' : World} {g c n : Nat} {f : Nat → Bool} (h : BoolsAt B w g c n f) {S : Nat → Prop} (u : Upd S w w') (hs : ¬ S g) : BoolsAt B w' g c n f := by
  unfold BoolsAt at *
  refine ⟨h.1, ?_⟩
  rcases h.2 with ⟨h0, _⟩ | ⟨g', cap', cur, hv, hg, hh, r⟩
  · cases h0
  · cases hv
    exact Or.inr ⟨g, c, cur, rfl, hg, (u.block g (Array.getElem?_eq_some_iff.1 hh).1 hs).trans hh, r⟩
theorem BoolsAt.lt {B : Nat} {w : World} {g c n : Nat} {f : Nat → Bool} (h : BoolsAt B w g c n f) : B ≤ g ∧ g < w.heap.size := World.ownsRow.lt h g rfl
theorem BoolsAt.cell {B : Nat} {w : World} {g c n : Nat} {f : Nat → Bool} (h : BoolsAt B w g c n f) (i : Nat) (hi : i < n) : w.cell? ⟨g, i, none⟩ = some (.bool (f i)) := by
  rw [World.ownsRow.cellAt h i (by omega), bools_get _ _ _ hi]
theorem BoolsAt.set {B : Nat} {w : World} {g c n : Nat} {f : Nat → Bool} (h : BoolsAt B w g c n f) (i : Nat) (b : Bool) : BoolsAt B (w.setCell ⟨g, i, none⟩ (.bool b)) g c n (setF f i b) := by
  have := (World.ownsRow.stored h i (.bool b)).1
  rw [bools_set] at this
  exact this
theorem BoolsAt.cap {B : Nat} {w : World} {g c n : Nat} {f : Nat → Bool} (h : BoolsAt B w g c n f) : n ≤ c := by
  unfold BoolsAt at h
  rcases h.2 with ⟨h0, _⟩ | ⟨g', cap', cur, hv, hg, hh, hn, _⟩
  · cases h0
  · cases hv; exact hn

theorem infoBool : (Try.prog.info? 4).map (fun i => (i.zero, i.size, i.bytes)) = some (some (.bool false), 1, 1) := by kernel_rfl

def UnpackPost (w : World) (m : Nat) (f : Nat → Bool) (e : Ending) (w' : World) : Prop :=
  ∃ g c, e = .returned (.slice (some ⟨g, 0, none⟩) m c) ∧ BoolsAt w.heap.size w' g c m f ∧ Upd (fun _ => False) w w'

theorem made_bools (w : World) (m : Nat) (hm : m ≤ 1048576) : BoolsAt w.heap.size (w.alloc (.cells (madeCells #[.bool false] m) 4)) w.heap.size m m (fun _ => false) := by
  unfold BoolsAt
  rw [bools_false]
  refine ⟨by simp, Or.inr ⟨w.heap.size, m, madeCells #[.bool false] m, rfl, Nat.le_refl _, heap_alloc_new w _, Nat.le_refl _, by unfold maxLen; omega, by rw [size_madeCells]; omega, ?_⟩⟩
  rw [made_list]
  simp

theorem WordsR.at {w : World} {v : Value} {ws : List Nat} (h : WordsR w v ws) {j : Nat} (hj : j < ws.length) :
    ∃ b off, (∀ w', (Instr.indexAt 23 v (.int .i64 (j : Int))).run Try.prog w' = .ok (.pointer (some ⟨b, off + j, none⟩)) w') ∧ b < w.heap.size ∧ w.cell? ⟨b, off + j, none⟩ = some (.int .u64 ((ws.getD j 0 : Nat) : Int)) ∧ ws.getD j 0 < 2 ^ 64 := by
  obtain ⟨b, off, h1, h2, h3⟩ := h.1.index (P := Try.prog) Try.underlying23 (by kernel_rfl) (by kernel_rfl) hj
  simp only [Nat.mul_one] at h1 h3
  exact ⟨b, off, h1, h2, h3 0 (by decide), h.2 _ (by simp [List.getD, hj])⟩

theorem unpack_step (ws : List Nat) (k m : Nat) (g c : Nat) {B : Nat} {w : World} (h : BoolsAt B w g c m (fun j => decide (j < k) && bitW ws j)) : BoolsAt B (w.setCell ⟨g, k, none⟩ (.bool (bitW ws k))) g c m (fun j => decide (j < k + 1) && bitW ws j) := by
  refine (h.set k (bitW ws k)).congr (fun i hi => ?_)
  unfold setF
  by_cases e : i = k
  · subst e; simp
  · rw [if_neg (by omega)]
    show (decide (i < k) && bitW ws i) = _
    congr 1
    rw [decide_eq_decide]
    omega

set_option maxRecDepth 100000 in
set_option maxHeartbeats 1000000 in
theorem ref_Unpack (n : Int) (m : Nat) (v : Value) (ws : List Nat) (w : World) (h : WordsR w v ws) (hm : (max 0 (min n 1048576)) = (m : Int)) :
    Calls Try.prog 16 #[.int .i64 n, v] w (UnpackPost w m (bitW ws)) := by
  have hm2 : m ≤ 1048576 := by omega
  have hm3 : (m : Int) ≤ 1048576 := by omega
  have hmk := run_make_row' (P := Try.prog) 34 4 (.bool false) 1 Try.underlying34 infoBool rfl .i64 .i64 m (by omega) (by omega)
  have hr0 := made_bools w m hm2
  obtain ⟨a, cap, hv, hcap, hmax, -⟩ := h.1
  subst hv
  have hwl : (ws.length : Int) ≤ 9223372036854775807 := by unfold maxLen at hmax; omega
  have Hh := Lib.hid h; clear h
  have Hhr0 := Lib.hid hr0; clear hr0
  have Hhm2 := Lib.hid hm2; clear hm2
  go_enter Try.func16, Try.ntmps16
  go_wp2
  generalize hg : w.heap.size = g at *
  have Hhg := Lib.hid hg; clear hg
  go_loopw [13] (fun i wr => ∃ k : Nat, i = .int .i64 k ∧ k ≤ m ∧ BoolsAt g wr g m m (fun j => decide (j < k) && bitW ws j) ∧ Upd (fun _ => False) w wr) (fun i _ => (m - intOf i).toNat)
  case atStart => exact ⟨0, rfl, Nat.zero_le _, by simpa using Hhr0.out, (Upd.refl _ _).alloc _⟩
  case round =>
    obtain ⟨k, rfl, hk, hB, hu⟩ := hrel
    by_cases hkm : k = m
    · have d1 : ¬ ((k : Int) < m) := by omega
      have hfin : UnpackPost w m (bitW ws) (.returned (.slice (some ⟨g, 0, none⟩) m m)) wr := by
        refine ⟨g, m, rfl, ?_, hu⟩
        rw [Hhg.out]
        refine hB.congr (fun i hi => ?_)
        have : i < k := by omega
        simp [this]
      have Hhfin := Lib.hid hfin; clear hfin
      clear hkm hB hu hmk
      go_wp2
      go_ret
      exact Hhfin.out
    · have d1 : (k : Int) < m := by omega
      have d2 : k < m := by omega
      have hst := unpack_step ws k m g m hB
      have hfr : wr.frozen? ⟨g, k, none⟩ = false := World.ownsRow.frozenAt hB k
      obtain ⟨y, hcl⟩ : ∃ y, wr.cell? ⟨g, k, none⟩ = some y := ⟨_, hB.cell k d2⟩
      have hu2 : Upd (fun _ => False) w (wr.setCell ⟨g, k, none⟩ (.bool (bitW ws k))) := hu.own (Upd.at (b := g) (Upd.refl _ _) k _) (fun i e => by have := Hhg.out; omega)
      have e3 : (k : Int) % 64 = ((k % 64 : Nat) : Int) := by omega
      have e4 : (k : Int) / 64 = ((k / 64 : Nat) : Int) := by omega
      by_cases hin : k / 64 < ws.length
      · obtain ⟨b0, off, hix, hb0, hc, hx⟩ := (Hh.out).at hin
        have hcw := (hu.none.cell (p := ⟨b0, off + k / 64, none⟩) hb0).trans hc
        have hbit : bitW ws k = (ws.getD (k / 64) 0).testBit (k % 64) := rfl
        rw [hbit] at hst hu2
        have hlb := low_bit _ (k % 64) hx
        have hin' : ((k / 64 : Nat) : Int) < ws.length := by omega
        have hrb : ((k % 64 : Nat) : Int) < 64 := by omega
        clear hbit hc hkm hB hx hu hmk
        generalize ws.getD (k / 64) 0 = x at *
        generalize k / 64 = j at *
        generalize k % 64 = r at *
        generalize x.testBit r = tb at *
        have Hhst := Lib.hid hst; clear hst
        have Hhu2 := Lib.hid hu2; clear hu2
        go_wp2
        go_roundw
        case rel => exact ⟨k + 1, by go_num, by omega, Hhst.out, Hhu2.out⟩
        case measure => simp [intOf]; omega
      · have hbit : bitW ws k = false := by
          have h0 : ws.getD (k / 64) 0 = 0 := by simp [List.getD, Nat.le_of_not_lt hin]
          unfold bitW
          rw [h0, Nat.zero_testBit]
        rw [hbit] at hst hu2
        have hin' : ¬ ((k / 64 : Nat) : Int) < ws.length := by omega
        have hj0 : ((k / 64 : Nat) : Int) < 20000 := by omega
        clear hbit hkm hB hu hmk hin e3
        generalize k / 64 = j at *
        have Hhst := Lib.hid hst; clear hst
        have Hhu2 := Lib.hid hu2; clear hu2
        go_wp2
        go_roundw
        case rel => exact ⟨k + 1, by go_num, by omega, Hhst.out, Hhu2.out⟩
        case measure => simp [intOf]; omega

/-- A slice of bools that reads as f. -/
def BoolsR (w : World) (v : Value) (n : Nat) (f : Nat → Bool) : Prop := RowsIn w v 1 n (fun i _ => .bool (f i))
theorem BoolsR.upd {w w' : World} {v : Value} {n : Nat} {f : Nat → Bool} (h : BoolsR w v n f) (u : Below w.heap.size w w') : BoolsR w' v n f := RowsIn.upd h u
theorem BoolsAt.r {B : Nat} {w : World} {g c n : Nat} {f : Nat → Bool} (h : BoolsAt B w g c n f) : BoolsR w (.slice (some ⟨g, 0, none⟩) n c) n f := by
  have hc := fun i hi => h.cell i hi
  have hl := h.lt
  unfold BoolsAt at h
  rcases h.2 with ⟨h0, _⟩ | ⟨g', cap', cur, hv, hg, hh, hn, hm, _⟩
  · cases h0
  · cases hv
    refine ⟨_, c, rfl, hn, hm, fun h0 => ⟨g, 0, rfl, hl.2, fun i hi j hj => ?_⟩⟩
    obtain rfl : j = 0 := by omega
    simpa using hc i hi
theorem BoolsR.at {w : World} {v : Value} {n : Nat} {f : Nat → Bool} (h : BoolsR w v n f) {j : Nat} (hj : j < n) :
    ∃ b off, (∀ w', (Instr.indexAt 34 v (.int .i64 (j : Int))).run Try.prog w' = .ok (.pointer (some ⟨b, off + j, none⟩)) w') ∧ b < w.heap.size ∧ w.cell? ⟨b, off + j, none⟩ = some (.bool (f j)) := by
  obtain ⟨b, off, h1, h2, h3⟩ := RowsIn.index h (P := Try.prog) Try.underlying34 (by kernel_rfl) (by kernel_rfl) hj
  simp only [Nat.mul_one] at h1 h3
  exact ⟨b, off, h1, h2, h3 0 (by decide)⟩

/-- A row of words in block g. -/
def WordsAt (B : Nat) (w : World) (g c n : Nat) (f : Nat → Bool) : Prop := w.ownsRow B 82 1 (.slice (some ⟨g, 0, none⟩) ((n + 63) / 64) c) ((n + 63) / 64) (words (packN n f))
theorem WordsAt.r {B : Nat} {w : World} {g c n : Nat} {f : Nat → Bool} (h : WordsAt B w g c n f) : WordsR w (.slice (some ⟨g, 0, none⟩) ((n + 63) / 64) c) (packN n f) := by
  refine ownsRow_words (B := B) ?_ (packN_lt n f)
  rw [packN_length]
  exact h
def PackPost (w : World) (n : Nat) (f : Nat → Bool) (e : Ending) (w' : World) : Prop :=
  ∃ g c, e = .returned (.slice (some ⟨g, 0, none⟩) ((n + 63) / 64) c) ∧ WordsAt w.heap.size w' g c n f ∧ Upd (fun _ => False) w w'

theorem made_words (w : World) (n L : Nat) (hL : L = (n + 63) / 64) (hm : n ≤ 1048576) : WordsAt w.heap.size (w.alloc (.cells (madeCells #[.int .u64 0] L) 82)) w.heap.size L n (fun _ => false) := by
  unfold WordsAt
  rw [packN_false, ← hL]
  refine ⟨by simp [words], Or.inr ⟨w.heap.size, L, madeCells #[.int .u64 0] L, rfl, Nat.le_refl _, heap_alloc_new w _, Nat.le_refl _, by unfold maxLen; omega, by rw [size_madeCells]; omega, ?_⟩⟩
  rw [made_list]
  simp [words]

/-- The bits of f below k. -/
def cutF (f : Nat → Bool) (k : Nat) : Nat → Bool := fun j => decide (j < k) && f j
theorem cutF_skip (f : Nat → Bool) (k : Nat) (h : f k = false) : cutF f (k + 1) = cutF f k := by
  funext j
  unfold cutF
  by_cases e : j = k
  · subst e; simp [h]
  · congr 1
    rw [decide_eq_decide]
    omega
theorem cutF_set (f : Nat → Bool) (k : Nat) (h : f k = true) : cutF f (k + 1) = setF (cutF f k) k true := by
  funext j
  unfold cutF setF
  by_cases e : j = k
  · subst e; simp [h]
  · rw [if_neg (by omega)]
    congr 1
    rw [decide_eq_decide]
    omega
theorem cutF_full (f : Nat → Bool) (n : Nat) : ∀ i, i < n → cutF f n i = f i := fun i hi => by simp [cutF, hi]
theorem or_xor_new (x r : Nat) (h : x.testBit r = false) : x ||| 2 ^ r = x ^^^ 2 ^ r := by
  apply Nat.eq_of_testBit_eq
  intro i
  rw [Nat.testBit_or, Nat.testBit_xor]
  by_cases e : r = i
  · subst e; rw [h, Nat.testBit_two_pow_self]; rfl
  · rw [Nat.testBit_two_pow_of_ne e]; simp

theorem pack_step {B g c n k : Nat} {w : World} {f : Nat → Bool} (hk : k < n) (hf : f k = true) (h : WordsAt B w g c n (cutF f k)) :
    WordsAt B (w.setCell ⟨g, k / 64, none⟩ (.int .u64 (((packN n (cutF f k)).getD (k / 64) 0 ||| 2 ^ (k % 64) : Nat) : Int))) g c n (cutF f (k + 1)) := by
  have hbit : ((packN n (cutF f k)).getD (k / 64) 0).testBit (k % 64) = false := by
    rw [tb_packN _ _ _ _ (Nat.mod_lt _ (by decide)), Nat.div_add_mod]
    simp [cutF]
  rw [or_xor_new _ _ hbit, cutF_set f k hf]
  have := (World.ownsRow.stored h (k / 64) (.int .u64 (((packN n (cutF f k)).getD (k / 64) 0 ^^^ 2 ^ (k % 64) : Nat) : Int))).1
  rw [words_set, packN_set n (cutF f k) k true hk (by simp [cutF])] at this
  exact this
theorem WordsAt.cell {B g c n j : Nat} {w : World} {f : Nat → Bool} (h : WordsAt B w g c n f) (hj : j < (n + 63) / 64) : w.cell? ⟨g, j, none⟩ = some (.int .u64 (((packN n f).getD j 0 : Nat) : Int)) := by
  rw [World.ownsRow.cellAt h j (by omega)]
  have : j < (packN n f).length := by rw [packN_length]; exact hj
  simp [words, List.getD, this]

theorem same_stepN (a b : List Nat) (k : Nat) (ha : k < a.length) (hl : a.length = b.length) (h : a.take k = b.take k) (hx : a.getD k 0 = b.getD k 0) : a.take (k + 1) = b.take (k + 1) := by
  rw [List.take_succ_eq_append_getElem ha, List.take_succ_eq_append_getElem (by omega), h]
  rw [List.getD_eq_getElem?_getD, List.getD_eq_getElem?_getD, List.getElem?_eq_getElem ha, List.getElem?_eq_getElem (by omega)] at hx
  simp only [Option.getD_some] at hx
  rw [hx]
theorem same_noN (a b : List Nat) (k : Nat) (hx : a.getD k 0 ≠ b.getD k 0) : a ≠ b := fun e => hx (by rw [e])

end Go.Proofs.Ythaicpjgmplgcaa
