/- A heap of volatile objects: places and how many, plain. -/
import Derived.Test.YtcnbcidbbeadcaaVhAw
import Derived.Test.YtcnbcidbbeadcaaSameV
-- merged


namespace Go.Proofs.Ytcnbcidbbeadcaa
open Go.RowKit Go.Deep
set_option linter.unusedVariables false

theorem freeFrom_some {o : Nat → VOb} {i n t : Nat} (h1 : i ≤ t) (h2 : t < i + n) (hu : ∀ j, i ≤ j → j < t → (o j).used = true) (ht : (o t).used = false) : freeFrom o i n = some t := by
  induction n generalizing i with
  | zero => omega
  | succ n ih =>
    unfold freeFrom
    by_cases e : i = t
    · subst e
      rw [if_neg (by rw [ht]; decide)]
    · rw [if_pos (hu i (Nat.le_refl _) (by omega))]
      exact ih (by omega) (by omega) (fun j h3 h4 => hu j (by omega) h4)
theorem freeFrom_none {o : Nat → VOb} {i n : Nat} (hu : ∀ j, i ≤ j → j < i + n → (o j).used = true) : freeFrom o i n = none := by
  induction n generalizing i with
  | zero => rfl
  | succ n ih =>
    unfold freeFrom
    rw [if_pos (hu i (Nat.le_refl _) (by omega))]
    exact ih (fun j h3 h4 => hu j (by omega) (by omega))
theorem freeFrom_at {o : Nat → VOb} {i n t : Nat} (h : freeFrom o i n = some t) : i ≤ t ∧ t < i + n ∧ (o t).used = false := by
  induction n generalizing i with
  | zero => cases h
  | succ n ih =>
    unfold freeFrom at h
    split at h
    · obtain ⟨a1, a2, a3⟩ := ih h
      exact ⟨by omega, by omega, a3⟩
    · rename_i hu
      cases h
      exact ⟨Nat.le_refl _, by omega, by simpa using hu⟩
theorem freeFrom_full {o : Nat → VOb} {i n : Nat} (h : freeFrom o i n = none) : ∀ j, i ≤ j → j < i + n → (o j).used = true := by
  induction n generalizing i with
  | zero => intro j h1 h2; omega
  | succ n ih =>
    unfold freeFrom at h
    split at h
    · rename_i hu
      intro j h1 h2
      by_cases e : j = i
      · subst e; exact hu
      · exact ih h j (by omega) (by omega)
    · cases h
theorem ite_min (x y : Int) : (if y < x then y else x) = min x y := by rw [Int.min_def]; split <;> split <;> omega
theorem ite_max (x y : Int) : (if x < y then y else x) = max x y := by rw [Int.max_def]; split <;> split <;> omega
/-- How many objects there are. -/
def lenTo (o : Nat → VOb) : Nat → Nat
  | 0 => 0
  | k + 1 => lenTo o k + (if (o k).used = true then 1 else 0)
theorem allTo_lenTo (o : Nat → VOb) (k : Nat) : (allTo o k).length = lenTo o k := by
  induction k with
  | zero => rfl
  | succ k ih =>
    unfold allTo lenTo
    rw [List.length_append, ih]
    split <;> simp
theorem lenTo_le (o : Nat → VOb) (k : Nat) : lenTo o k ≤ k := by
  rw [← allTo_lenTo]
  exact allTo_len o k
theorem lenTo_min {o : Nat → VOb} {t n : Nat} (h : ∀ j, j < n → (o j).used = decide (j < t)) : lenTo o n = min t n := by
  induction n with
  | zero => simp [lenTo]
  | succ n ih =>
    unfold lenTo
    rw [ih (fun j hj => h j (by omega)), h n (by omega)]
    by_cases e : n < t
    · rw [decide_eq_true e, if_pos rfl]; omega
    · rw [decide_eq_false e, if_neg (by decide)]; omega
theorem lenTo_set {o : Nat → VOb} {i n : Nat} (hi : i < n) (ob : VOb) : lenTo (setO o i ob) n + (if (o i).used = true then 1 else 0) = lenTo o n + (if ob.used = true then 1 else 0) := by
  induction n with
  | zero => omega
  | succ n ih =>
    unfold lenTo
    by_cases e : i = n
    · subst e
      rw [setO_at]
      have : lenTo (setO o i ob) i = lenTo o i := by
        have aux : ∀ m, m ≤ i → lenTo (setO o i ob) m = lenTo o m := by
          intro m hm
          induction m with
          | zero => rfl
          | succ m ih2 => unfold lenTo; rw [ih2 (by omega), setO_ne o ob (by omega)]
        exact aux i (Nat.le_refl _)
      omega
    · rw [setO_ne o ob (fun h => e h.symm)]
      have := ih (by omega)
      omega
theorem lenTo_full {o : Nat → VOb} {n : Nat} (h : ∀ j, j < n → (o j).used = true) : lenTo o n = n := by
  have := lenTo_min (o := o) (t := n) (n := n) (fun j hj => by rw [h j hj, decide_eq_true hj])
  omega
/-- The first i places are taken. -/
def manyO (i : Nat) : Nat → VOb := fun j => if j < i ∧ j < 64 then ⟨true, 0, zeroVals [1] 1⟩ else noOb
theorem manyO_used (i j : Nat) : (manyO i j).used = decide (j < i ∧ j < 64) := by
  unfold manyO
  split
  · rename_i h; rw [decide_eq_true h]
  · rename_i h; rw [decide_eq_false h]; rfl
theorem manyO_zero : manyO 0 = no14 := by
  funext j
  unfold manyO
  rw [if_neg (by omega)]
  rfl
theorem ofK_0 : ofK ks14 0 = some [1] := by kernel_rfl
theorem ofK_1 : ofK ks14 1 = some [3, 1, 3] := by kernel_rfl
theorem many_make (i : Nat) : makeV ks14 (manyO i) 0 = (manyO (i + 1), if i < 64 then -1 - (i : Int) else 0, if i < 64 then 0 else 5) := by
  unfold makeV freeV
  rw [ofK_0]
  simp only
  by_cases h : i < 64
  · rw [freeFrom_some (t := i) (Nat.zero_le _) (by omega) (fun j _ hj => by rw [manyO_used, decide_eq_true ⟨hj, by omega⟩]) (by rw [manyO_used, decide_eq_false (by omega)]), if_pos h, if_pos h]
    simp only
    congr 1
    funext j
    by_cases e : j = i
    · subst e
      rw [setO_at]
      unfold manyO
      rw [if_pos ⟨by omega, h⟩]
      rfl
    · rw [setO_ne _ _ e]
      unfold manyO
      have : (j < i ∧ j < 64) ↔ (j < i + 1 ∧ j < 64) := by omega
      simp only [this]
  · rw [freeFrom_none (fun j _ hj => by rw [manyO_used, decide_eq_true ⟨by omega, by omega⟩]), if_neg h, if_neg h]
    simp only
    congr 1
    funext j
    unfold manyO
    have : (j < i ∧ j < 64) ↔ (j < i + 1 ∧ j < 64) := by omega
    simp only [this]
theorem many_gone (n g : Nat) (h1 : g < 60) (h2 : 60 ≤ n) : (findV (manyO n) (-1 - (g : Int))).isSome = true ∧ ∃ o', makeV ks14 (removeV (manyO n) (-1 - (g : Int))) 1 = (o', -1 - (g : Int), 0) ∧ ((allV o').length : Int) = min (n : Int) 64 := by
  have hf : findV (manyO n) (-1 - (g : Int)) = some g := by rw [findV_place _ g (by omega), manyO_used, decide_eq_true ⟨by omega, by omega⟩, if_pos rfl]
  refine ⟨by rw [hf]; rfl, setO (setO (manyO n) g noOb) g ⟨true, 1, zeroVals [3, 1, 3] 3⟩, ?_, ?_⟩
  · unfold removeV
    rw [hf]
    simp only
    unfold makeV freeV
    rw [ofK_1]
    simp only
    rw [freeFrom_some (t := g) (Nat.zero_le _) (by omega) (fun j _ hj => by rw [setO_ne _ _ (by omega), manyO_used, decide_eq_true ⟨by omega, by omega⟩]) (by rw [setO_at]; rfl)]
    rfl
  · have : (allV (setO (setO (manyO n) g noOb) g ⟨true, 1, zeroVals [3, 1, 3] 3⟩)).length = min n 64 := by
      show (allTo _ 64).length = _
      rw [allTo_lenTo]
      refine lenTo_min (fun j hj => ?_)
      by_cases e : j = g
      · subst e
        rw [setO_at, decide_eq_true (by omega)]
      · rw [setO_ne _ _ e, setO_ne _ _ e, manyO_used]
        exact decide_eq_decide.2 (by omega)
    rw [this]
    omega
theorem AwSt.remove {w : World} {b base : Nat} {kv : Value} {o : Nat → VOb} {wr : World} (h : AwSt w b base kv o wr) (x : Int) : Calls Try.prog 26 #[.pointer (some ⟨b, 0, none⟩), .int .i64 x] wr (fun e w' => e = .returned (.bool (findV o x).isSome) ∧ AwSt w b base kv (removeV o x) w') := by
  obtain ⟨F, hp⟩ := h.hp
  exact (vh_Remove hp x).mono (fun e w' hh => ⟨hh.1, h.next (ex1 hh.2.1) hh.2.2⟩)
theorem AwSt.kind {w : World} {b base : Nat} {kv : Value} {o : Nat → VOb} {wr : World} (h : AwSt w b base kv o wr) (x : Int) : Calls Try.prog 39 #[.pointer (some ⟨b, 0, none⟩), .int .i64 x] wr (RetU wr (.tuple #[.int .i64 (kindV o x).1, .int .i64 (kindV o x).2])) := by
  obtain ⟨F, hp⟩ := h.hp
  exact vh_Kind hp x
theorem AwSt.get {w : World} {b base : Nat} {kv : Value} {o : Nat → VOb} {wr : World} (h : AwSt w b base kv o wr) (x j : Int) : Calls Try.prog 35 #[.pointer (some ⟨b, 0, none⟩), .int .i64 x, .int .i64 j] wr (RetU wr (.tuple #[(getV o x j).1.v, .int .i64 (getV o x j).2])) := by
  obtain ⟨F, hp⟩ := h.hp
  exact vh_Get hp x j
theorem AwSt.all {w : World} {b base : Nat} {kv : Value} {o : Nat → VOb} {wr : World} (h : AwSt w b base kv o wr) : Calls Try.prog 33 #[.pointer (some ⟨b, 0, none⟩)] wr (RetNums wr (allV o)) := by
  obtain ⟨F, hp⟩ := h.hp
  exact vh_All hp
end Go.Proofs.Ytcnbcidbbeadcaa

/- A parameter that is calls to a heap of volatile objects. -/

namespace Go.Proofs.Ytcnbcidbbeadcaa
open Go.RowKit Go.Deep
set_option linter.unusedVariables false

structure Cal where
  d : Int
  o : Int
  f : Int
  v : Val
instance : Inhabited Cal := ⟨⟨0, 0, 0, zeroV⟩⟩
def noCal : Cal := ⟨0, 0, 0, zeroV⟩
/-- A slice of calls. -/
def CalsR (w : World) (c : Value) (l : List Cal) : Prop := ∃ X : Nat → Nat → Value, RowsIn w c 9 l.length X ∧ ∀ i, i < l.length → X i 0 = .int .i64 (l.getD i noCal).d ∧ X i 1 = .int .i64 (l.getD i noCal).o ∧ X i 2 = .int .i64 (l.getD i noCal).f ∧ ∀ j, j < 5 → X i (3 + j) = (l.getD i noCal).v.cell j
def CalsIn (w : World) (c : Value) (l : List Cal) : Prop := CalsR w c l ∧ ∀ x ∈ l, x.v.ok
theorem CalsR.upd {w w' : World} {c : Value} {l : List Cal} (h : CalsR w c l) (u : Below w.heap.size w w') : CalsR w' c l := by
  obtain ⟨X, h1, h2⟩ := h
  exact ⟨X, RowsIn.upd h1 u, h2⟩
section
variable {H : Type} {enc : TypeId × Value → H} {spare : Nat → Bool} {held : Bool} {W : World} {ts : List TypeId} {ds : List (DataW H)} {v : Value} {d : DataW H} {ps : List MemPlace}
set_option maxRecDepth 100000 in
theorem cal_of_cells {X : Nat → Value} {m : Nat} {y : DataW H × List MemPlace} (hy : DataW.trod enc Try.prog W 0 spare held m 54 ((List.range 9).map X) = some y) :
    ∃ c : Cal, c.v.ok ∧ X 0 = .int .i64 c.d ∧ X 1 = .int .i64 c.o ∧ X 2 = .int .i64 c.f ∧ ∀ j, j < 5 → X (3 + j) = c.v.cell j := by
  obtain ⟨ys, n', _, _, _, hyl, hf⟩ := DataW.trod_struct Try.underlying54 hy
  have c1 : Try.prog.cellsOf 3 = 1 := by kernel_rfl
  have c5 : Try.prog.cellsOf 26 = 5 := by kernel_rfl
  have hyl : ys.length = 5 := hyl
  have g0 : DataW.trod enc Try.prog W 0 spare held n' 3 ((((List.range 9).map X).drop 0).take (Try.prog.cellsOf 3)) = ys[0]? := hf 0 _ rfl
  have g1 : DataW.trod enc Try.prog W 0 spare held n' 3 ((((List.range 9).map X).drop 1).take (Try.prog.cellsOf 3)) = ys[1]? := hf 1 _ rfl
  have g2 : DataW.trod enc Try.prog W 0 spare held n' 3 ((((List.range 9).map X).drop 2).take (Try.prog.cellsOf 3)) = ys[2]? := hf 2 _ rfl
  have g3 : DataW.trod enc Try.prog W 0 spare held n' 26 ((((List.range 9).map X).drop 3).take (Try.prog.cellsOf 26)) = ys[3]? := hf 3 _ rfl
  rw [List.getElem?_eq_getElem (by omega), c1] at g0 g1 g2
  rw [List.getElem?_eq_getElem (by omega), c5] at g3
  change DataW.trod enc Try.prog W 0 spare held n' 3 [X 0] = _ at g0
  change DataW.trod enc Try.prog W 0 spare held n' 3 [X 1] = _ at g1
  change DataW.trod enc Try.prog W 0 spare held n' 3 [X 2] = _ at g2
  change DataW.trod enc Try.prog W 0 spare held n' 26 ((List.range 5).map (fun j => X (3 + j))) = _ at g3
  obtain ⟨d0, e0, w0⟩ := int_of_trod Try.underlying3 g0
  obtain ⟨d1, e1, w1⟩ := int_of_trod Try.underlying3 g1
  obtain ⟨d2, e2, w2⟩ := int_of_trod Try.underlying3 g2
  obtain ⟨x, hx, hc⟩ := val_of_cells _ _ _ _ _ Try.underlying26 (by kernel_rfl) (by decide) rfl rfl rfl rfl rfl Try.underlying3 Try.underlying2 Try.underlying24 Try.underlying24 Try.underlying3 g3
  exact ⟨⟨d0, d1, d2, x⟩, hx, e0, e1, e2, hc⟩
set_option maxRecDepth 100000 in
theorem open_cals {r : Reach} {b0 : Nat} (hval : Value.okWide Try.prog W r b0 51 v) (h : DataW.Trod enc Try.prog W 0 spare held 51 v d ps) (hsz : (DataW.weightsEach Try.prog ts ds).all (· ≤ reachBytes) = true) (j : Nat) (htj : ts[j]? = some 51) (hdj : ds[j]? = some d) :
    ∃ l, CalsIn W v l := by
  obtain ⟨n, X, hR, hn, m, hi⟩ := open_rowsAt (bytes := 88) (size := 9) Try.underlying51 (by kernel_rfl) (by decide) (by kernel_rfl) hval h hsz j htj hdj
  have each : ∀ i, i < n → ∃ c : Cal, c.v.ok ∧ X i 0 = .int .i64 c.d ∧ X i 1 = .int .i64 c.o ∧ X i 2 = .int .i64 c.f ∧ ∀ j, j < 5 → X i (3 + j) = c.v.cell j := by
    intro i hil
    obtain ⟨y, hy⟩ := hi i hil
    exact cal_of_cells hy
  obtain ⟨Z, hZ⟩ := choose_lt each
  have hg : ∀ i, i < n → ((List.range n).map Z).getD i noCal = Z i := fun i hi => by simp [List.getD, hi]
  refine ⟨(List.range n).map Z, ⟨X, ?_, ?_⟩, ?_⟩
  · rw [List.length_map, List.length_range]
    exact hR
  · intro i hi
    rw [List.length_map, List.length_range] at hi
    rw [hg i hi]
    exact (hZ i hi).2
  · intro x hx
    simp only [List.mem_map, List.mem_range] at hx
    obtain ⟨i, hi, rfl⟩ := hx
    exact (hZ i hi).1
end
end Go.Proofs.Ytcnbcidbbeadcaa

/- The document's Zero. -/

namespace Go.Proofs.Ytcnbcidbbeadcaa
open Go.RowKit Go.Deep
set_option linter.unusedVariables false

set_option maxRecDepth 100000 in
set_option maxHeartbeats 1000000 in
theorem ref_Zero (v : Value) (f : List Int) (w : World) (hv : IntsR w v .i64 f) (hb : f.length ≤ 15) : Calls Try.prog 40 #[.agg #[v]] w (RetZero w f) := by
  have hX := Lib.hid hv
  obtain ⟨a, cap, rfl, -, hcap, -⟩ := hv
  have hb2 : (f.length : Int) ≤ 15 := by omega
  go_enter Try.func40, Try.ntmps40
  go_wp2
  go_loopw [3, 14] (fun o i wr => ∃ (k : Nat) (oa : Option Addr) (oc : Nat), k ≤ f.length ∧ i = .int .i64 k ∧ o = .slice oa k oc ∧ wr.ownsRow w.heap.size 26 5 (.slice oa k oc) k (zeroTo f k) ∧ Upd (fun _ => False) w wr ∧ w.heap.size ≤ wr.heap.size) (fun _ i _ => (f.length - intOf i).toNat)
  case atStart => exact ⟨0, none, 0, Nat.zero_le _, rfl, rfl, World.ownsRow_nil _ _ _ _, (Upd.refl _ _).alloc _, by simp⟩
  case round =>
    obtain ⟨k, oa, oc, hk, rfl, rfl, ho, hu, hz⟩ := hrel
    by_cases hkl : k = f.length
    · have d1 : ¬ ((k : Int) < f.length) := by omega
      subst hkl
      have fin : RetZero w f (.returned (.slice oa f.length oc)) wr := ⟨_, _, rfl, ho, hu⟩
      have Hfin := Lib.hid fin; clear fin
      clear ho
      go_wp2
      go_ret
      exact Hfin.out
    · have d1 : (k : Int) < f.length := by omega
      have d1' : k < f.length := by omega
      have dk : k ≤ 1048576 := by omega
      obtain ⟨b0, off, hix, hb0, hc⟩ := hX.out.index (P := Try.prog) Try.underlying52 (by kernel_rfl) (by kernel_rfl) d1'
      simp only [Nat.mul_one] at hix hc
      have hc0 : wr.cell? ⟨b0, off + k, none⟩ = some (.int .i64 (f.getD k 0)) := (hu.none.cell (p := ⟨b0, off + k, none⟩) hb0).trans (hc 0 (by decide))
      have hst : zeroTo f (k + 1) = zeroTo f k ++ valK (f.getD k 0) := rfl
      generalize f.getD k 0 = x at *
      by_cases hx : x = 1 ∨ x = 2
      · have hvk : valK x = [.int .i64 x, .int .i64 0, .int .u64 0, .int .u64 0, .int .i64 0] := by unfold valK kindK; rw [if_pos hx]
        rw [hvk] at hst
        clear hvk
        rcases hx with rfl | rfl
        · have dummy := trivial
          have hnb := Lib.hid (show ((wr.alloc (.cells #[.int .i64 1, .int .i64 0, .int .u64 0, .int .u64 0, .int .i64 0] 26)).alloc (.cells #[.int .i64 1, .int .i64 0, .int .u64 0, .int .u64 0, .int .i64 0] 26)).heap[wr.heap.size + 1]? = some (.cells (List.toArray [.int .i64 1, .int .i64 0, .int .u64 0, .int .u64 0, .int .i64 0]) 26 (0, 0)) from by
            have := Blk.new (wr.alloc (.cells #[.int .i64 1, .int .i64 0, .int .u64 0, .int .u64 0, .int .i64 0] 26)) [.int .i64 1, .int .i64 0, .int .u64 0, .int .u64 0, .int .i64 0] 26
            simpa [Blk] using this)
          have Hho := Lib.hid ho; clear ho
          have Hhst := Lib.hid hst; clear hst
          have Hhu := Lib.hid hu; clear hu
          clear hkl hc
          go_wp2_with (at_builtin; refine wpList_pushN rfl _ _ 23 26 rfl (.agg #[.int .i64 0, .int .i64 0, .int .u64 0, .int .u64 0, .int .i64 0]) 5 40 (by decide) Try.underlying23 infoVal rfl w.heap.size _ _ _ rfl ((Hho.out.alloc _).alloc _) (wr.heap.size + 1) 1 [.int .i64 1, .int .i64 0, .int .u64 0, .int .u64 0, .int .i64 0] rfl rfl 26 (0, 0) hnb.out (by decide) dk (by decide) (by simp; omega) ?_; intro oa' oc' w4 ho4 hg4)
          go_roundw
          case rel =>
            have u4 : Upd (fun _ => False) w w4 := ((Hhu.out.alloc (.cells #[.int .i64 1, .int .i64 0, .int .u64 0, .int .u64 0, .int .i64 0] 26)).alloc (.cells #[.int .i64 1, .int .i64 0, .int .u64 0, .int .u64 0, .int .i64 0] 26)).grown hg4 (fun j e hj => absurd ((Hho.out.lt j e).1) (by omega))
            exact ⟨k + 1, oa', oc', by omega, by go_num, rfl, by rw [Hhst.out]; exact ho4, u4, u4.size⟩
          case measure => simp [intOf]; omega
        · have dummy := trivial
          have hnb := Lib.hid (show ((wr.alloc (.cells #[.int .i64 2, .int .i64 0, .int .u64 0, .int .u64 0, .int .i64 0] 26)).alloc (.cells #[.int .i64 2, .int .i64 0, .int .u64 0, .int .u64 0, .int .i64 0] 26)).heap[wr.heap.size + 1]? = some (.cells (List.toArray [.int .i64 2, .int .i64 0, .int .u64 0, .int .u64 0, .int .i64 0]) 26 (0, 0)) from by
            have := Blk.new (wr.alloc (.cells #[.int .i64 2, .int .i64 0, .int .u64 0, .int .u64 0, .int .i64 0] 26)) [.int .i64 2, .int .i64 0, .int .u64 0, .int .u64 0, .int .i64 0] 26
            simpa [Blk] using this)
          have Hho := Lib.hid ho; clear ho
          have Hhst := Lib.hid hst; clear hst
          have Hhu := Lib.hid hu; clear hu
          clear hkl hc
          go_wp2_with (at_builtin; refine wpList_pushN rfl _ _ 23 26 rfl (.agg #[.int .i64 0, .int .i64 0, .int .u64 0, .int .u64 0, .int .i64 0]) 5 40 (by decide) Try.underlying23 infoVal rfl w.heap.size _ _ _ rfl ((Hho.out.alloc _).alloc _) (wr.heap.size + 1) 1 [.int .i64 2, .int .i64 0, .int .u64 0, .int .u64 0, .int .i64 0] rfl rfl 26 (0, 0) hnb.out (by decide) dk (by decide) (by simp; omega) ?_; intro oa' oc' w4 ho4 hg4)
          go_roundw
          case rel =>
            have u4 : Upd (fun _ => False) w w4 := ((Hhu.out.alloc (.cells #[.int .i64 2, .int .i64 0, .int .u64 0, .int .u64 0, .int .i64 0] 26)).alloc (.cells #[.int .i64 2, .int .i64 0, .int .u64 0, .int .u64 0, .int .i64 0] 26)).grown hg4 (fun j e hj => absurd ((Hho.out.lt j e).1) (by omega))
            exact ⟨k + 1, oa', oc', by omega, by go_num, rfl, by rw [Hhst.out]; exact ho4, u4, u4.size⟩
          case measure => simp [intOf]; omega
      · have e1 : (x == 1) = false := by simp; omega
        have e2 : (x == 2) = false := by simp; omega
        have hvk : valK x = [.int .i64 0, .int .i64 0, .int .u64 0, .int .u64 0, .int .i64 0] := by unfold valK kindK; rw [if_neg hx]
        rw [hvk] at hst
        clear hx hvk
        have hnb := Lib.hid (show ((wr.alloc (.cells #[.int .i64 0, .int .i64 0, .int .u64 0, .int .u64 0, .int .i64 0] 26)).alloc (.cells #[.int .i64 0, .int .i64 0, .int .u64 0, .int .u64 0, .int .i64 0] 26)).heap[wr.heap.size + 1]? = some (.cells (List.toArray [.int .i64 0, .int .i64 0, .int .u64 0, .int .u64 0, .int .i64 0]) 26 (0, 0)) from by
          have := Blk.new (wr.alloc (.cells #[.int .i64 0, .int .i64 0, .int .u64 0, .int .u64 0, .int .i64 0] 26)) [.int .i64 0, .int .i64 0, .int .u64 0, .int .u64 0, .int .i64 0] 26
          simpa [Blk] using this)
        have Hho := Lib.hid ho; clear ho
        have Hhst := Lib.hid hst; clear hst
        have Hhu := Lib.hid hu; clear hu
        clear hkl hc
        go_wp2_with (at_builtin; refine wpList_pushN rfl _ _ 23 26 rfl (.agg #[.int .i64 0, .int .i64 0, .int .u64 0, .int .u64 0, .int .i64 0]) 5 40 (by decide) Try.underlying23 infoVal rfl w.heap.size _ _ _ rfl ((Hho.out.alloc _).alloc _) (wr.heap.size + 1) 1 [.int .i64 0, .int .i64 0, .int .u64 0, .int .u64 0, .int .i64 0] rfl rfl 26 (0, 0) hnb.out (by decide) dk (by decide) (by simp; omega) ?_; intro oa' oc' w4 ho4 hg4)
        go_roundw
        case rel =>
          have u4 : Upd (fun _ => False) w w4 := ((Hhu.out.alloc (.cells #[.int .i64 0, .int .i64 0, .int .u64 0, .int .u64 0, .int .i64 0] 26)).alloc (.cells #[.int .i64 0, .int .i64 0, .int .u64 0, .int .u64 0, .int .i64 0] 26)).grown hg4 (fun j e hj => absurd ((Hho.out.lt j e).1) (by omega))
          exact ⟨k + 1, oa', oc', by omega, by go_num, rfl, by rw [Hhst.out]; exact ho4, u4, u4.size⟩
        case measure => simp [intOf]; omega
end Go.Proofs.Ytcnbcidbbeadcaa

/- Calls ahead of a law of chapter 14; what a new object is: plain. -/



namespace Go.Proofs.Ytcnbcidbbeadcaa
open Go.RowKit Go.Deep
set_option linter.unusedVariables false

theorem sameV_refl {x : Val} (h0 : 0 ≤ x.k) (h3 : x.k ≤ 3) : sameV x x = true := by
  unfold sameV
  have : x.k = 0 ∨ x.k = 1 ∨ x.k = 2 ∨ x.k = 3 := by omega
  rcases this with h | h | h | h <;> simp [h]
theorem zeroVals_kind (f : List Int) (n : Nat) : ∀ x ∈ zeroVals f n, 0 ≤ x.k ∧ x.k < 3 := by
  induction n with
  | zero => simp [zeroVals]
  | succ n ih =>
    intro x hx
    simp only [zeroVals, List.mem_append, List.mem_cons, List.not_mem_nil, or_false] at hx
    rcases hx with hx | rfl
    · exact ih x hx
    · show 0 ≤ kindK _ ∧ kindK _ < 3
      unfold kindK
      split <;> omega
theorem refsTo5_none (xs : List Val) (h : ∀ x ∈ xs, 0 ≤ x.k ∧ x.k < 3) : refsTo5 xs = [] := by
  induction xs with
  | nil => rfl
  | cons x xs ih =>
    have := h x (by simp)
    unfold refsTo5
    rw [if_neg (by omega), ih (fun y hy => h y (by simp [hy]))]
    rfl
/-- The kinds of all values are known ones. -/
def KOk (o : Nat → VOb) : Prop := ∀ i, ∀ x ∈ (o i).f, 0 ≤ x.k ∧ x.k ≤ 3
theorem KOk.no : KOk no14 := by
  intro i x hx
  simp [no14, noOb] at hx
theorem KOk.setO {o : Nat → VOb} (h : KOk o) (i : Nat) (ob : VOb) (hb : ∀ x ∈ ob.f, 0 ≤ x.k ∧ x.k ≤ 3) : KOk (setO o i ob) := by
  intro j x hx
  by_cases e : j = i
  · subst e; rw [setO_at] at hx; exact hb x hx
  · rw [setO_ne _ _ e] at hx; exact h j x hx
theorem KOk.make {o : Nat → VOb} (h : KOk o) (ks : List (List Int)) (k : Int) : KOk (makeV ks o k).1 := by
  unfold makeV
  split
  · exact h
  · split
    · exact h
    · exact h.setO _ _ (fun x hx => by have := zeroVals_kind _ _ x hx; omega)
theorem toldV_kind (v : Val) : 0 ≤ (toldV v).k ∧ (toldV v).k ≤ 3 := by
  unfold toldV
  split
  · exact ⟨show (0 : Int) ≤ 1 by decide, show (1 : Int) ≤ 3 by decide⟩
  · split
    · exact ⟨show (0 : Int) ≤ 2 by decide, show (2 : Int) ≤ 3 by decide⟩
    · split
      · exact ⟨show (0 : Int) ≤ 3 by decide, show (3 : Int) ≤ 3 by decide⟩
      · exact ⟨show (0 : Int) ≤ 0 by decide, show (0 : Int) ≤ 3 by decide⟩
theorem KOk.set {o : Nat → VOb} (h : KOk o) (ks : List (List Int)) (x j : Int) (v : Val) : KOk (setV ks o x j v).1 := by
  unfold setV
  split
  · exact h
  · split
    · exact h
    · split
      · refine h.setO _ _ (fun y hy => ?_)
        rcases List.mem_or_eq_of_mem_set hy with hy | rfl
        · exact h _ y hy
        · exact toldV_kind v
      · exact h
/-- A heap that was made by calls. -/
structure CaSt (w : World) (b base : Nat) (kv : Value) (wr : World) : Prop where
  st : ∃ o, AwSt w b base kv o wr ∧ KOk o
theorem CaSt.make {w : World} {b base : Nat} {kv : Value} {wr : World} (h : CaSt w b base kv wr) (k : Int) : Calls Try.prog 25 #[.pointer (some ⟨b, 0, none⟩), .int .i64 k] wr (fun e w' => ∃ m n : Int, e = .returned (.tuple #[.int .i64 m, .int .i64 n]) ∧ CaSt w b base kv w') := by
  obtain ⟨o, ho, hk⟩ := h.st
  exact (ho.make k).mono (fun e w' hh => ⟨_, _, hh.1, ⟨_, hh.2, hk.make ks14 k⟩⟩)
theorem CaSt.set {w : World} {b base : Nat} {kv : Value} {wr : World} (h : CaSt w b base kv wr) (x j : Int) (v : Val) (hv : v.ok) : Calls Try.prog 32 #[.pointer (some ⟨b, 0, none⟩), .int .i64 x, .int .i64 j, v.v] wr (fun e w' => ∃ n : Int, e = .returned (.int .i64 n) ∧ CaSt w b base kv w') := by
  obtain ⟨o, ho, hk⟩ := h.st
  exact (ho.set x j v hv).mono (fun e w' hh => ⟨_, hh.1, ⟨_, hh.2, hk.set ks14 x j v⟩⟩)
theorem CaSt.up {w : World} {b base : Nat} {kv : Value} {wr : World} (h : CaSt w b base kv wr) : Upd (fun _ => False) w wr := by
  obtain ⟨o, ho, -⟩ := h.st
  exact ho.up
theorem CaSt.still {w : World} {b base : Nat} {kv : Value} {wr w' : World} (h : CaSt w b base kv wr) (u : Upd (fun _ => False) wr w') : CaSt w b base kv w' := by
  obtain ⟨o, ho, hk⟩ := h.st
  exact ⟨o, ho.still u, hk⟩
/-- A call's cells in a world that has not turned. -/
theorem CalsR.at {W : World} {v : Value} {l : List Cal} (h : CalsR W v l) {k : Nat} (hk : k < l.length) : ∃ b0 off, (∀ w', (Instr.indexAt 51 v (.int .i64 (k : Int))).run Try.prog w' = .ok (.pointer (some ⟨b0, off, none⟩)) w') ∧
    ∀ w', Upd (fun _ => False) W w' → w'.cell? ⟨b0, off, none⟩ = some (.int .i64 (l.getD k noCal).d) ∧ w'.cell? ⟨b0, off + 1, none⟩ = some (.int .i64 (l.getD k noCal).o) ∧ w'.cell? ⟨b0, off + 2, none⟩ = some (.int .i64 (l.getD k noCal).f) ∧
      w'.cell? ⟨b0, off + 3, none⟩ = some (.int .i64 (l.getD k noCal).v.k) ∧ w'.cell? ⟨b0, off + 3 + 1, none⟩ = some (.int .i64 (l.getD k noCal).v.n) ∧ w'.cell? ⟨b0, off + 3 + 2, none⟩ = some (.int .u64 ((l.getD k noCal).v.re : Int)) ∧ w'.cell? ⟨b0, off + 3 + 3, none⟩ = some (.int .u64 ((l.getD k noCal).v.im : Int)) ∧ w'.cell? ⟨b0, off + 3 + 4, none⟩ = some (.int .i64 (l.getD k noCal).v.r) := by
  obtain ⟨X, hR, hX⟩ := h
  obtain ⟨b0, off, hix, hb0, hc⟩ := hR.index (P := Try.prog) Try.underlying51 (by kernel_rfl) (by kernel_rfl) hk
  obtain ⟨x0, x1, x2, x3⟩ := hX k hk
  refine ⟨b0, off + k * 9, hix, fun w' u => ?_⟩
  have q := fun j hj => (u.none.cell (p := ⟨b0, off + k * 9 + j, none⟩) hb0).trans (hc j hj)
  refine ⟨by rw [← x0]; exact q 0 (by decide), by rw [← x1]; exact q 1 (by decide), by rw [← x2]; exact q 2 (by decide), (q 3 (by decide)).trans (congrArg some (x3 0 (by decide))), (q 4 (by decide)).trans (congrArg some (x3 1 (by decide))), (q 5 (by decide)).trans (congrArg some (x3 2 (by decide))), (q 6 (by decide)).trans (congrArg some (x3 3 (by decide))), (q 7 (by decide)).trans (congrArg some (x3 4 (by decide)))⟩
theorem CalsIn.okAt {W : World} {v : Value} {l : List Cal} (h : CalsIn W v l) (k : Nat) : (l.getD k noCal).v.ok := by
  by_cases hk : k < l.length
  · have : l.getD k noCal = l[k] := by simp [List.getD, hk]
    rw [this]
    exact h.2 _ (List.getElem_mem hk)
  · have : l.getD k noCal = noCal := by simp [List.getD, hk]
    rw [this]
    exact zeroV_ok
theorem CalsR.shape {W : World} {v : Value} {l : List Cal} (h : CalsR W v l) : ∃ a c, v = .slice a l.length c ∧ (l.length : Int) ≤ 9223372036854775807 := by
  obtain ⟨X, ⟨a, c, h1, h2, h3, -⟩, -⟩ := h
  exact ⟨a, c, h1, by unfold maxLen at h3; omega⟩
theorem zeroVals_get (f : List Int) (n k : Nat) (hk : k < n) : (zeroVals f n).getD k zeroV = ⟨kindK (f.getD k 0), 0, 0, 0, 0⟩ := by
  induction n with
  | zero => omega
  | succ n ih =>
    have hl := zeroVals_len f n
    unfold zeroVals
    simp only [List.getD]
    by_cases e : k = n
    · subst e
      rw [List.getElem?_append_right (by omega), hl]
      simp
    · rw [List.getElem?_append_left (by omega)]
      exact ih (by omega)
theorem ofK_2 : ofK ks14 2 = some [2, 3] := by kernel_rfl
/-- What Make answers, and what is known then. -/
theorem new_cases (o : Nat → VOb) (K : Nat) (hK : K < 3) :
    (makeV ks14 o K = (o, 0, 5) ∧ (allV o).length = 64) ∨
    ∃ (x : Int) (o' : Nat → VOb), makeV ks14 o K = (o', x, 0) ∧ (ks14.getD K []).length ≤ 15 ∧ kindV o' x = ((K : Int), 0) ∧ (∀ n : Nat, n < (ks14.getD K []).length → getV o' x n = ((zeroVals (ks14.getD K []) (ks14.getD K []).length).getD n zeroV, 0)) ∧ (allV o').length = (allV o).length + 1 ∧ refsV o' x = [] := by
  have hof : ofK ks14 K = some (ks14.getD K []) := by
    match K, hK with
    | 0, _ => exact ofK_0
    | 1, _ => exact ofK_1
    | 2, _ => exact ofK_2
  have h15 : (ks14.getD K []).length ≤ 15 := by
    match K, hK with
    | 0, _ => decide
    | 1, _ => decide
    | 2, _ => decide
  generalize ks14.getD K [] = f at *
  unfold makeV
  rw [hof]
  simp only
  cases hf : freeV o with
  | none =>
    left
    refine ⟨rfl, ?_⟩
    show (allTo o 64).length = 64
    rw [allTo_lenTo]
    exact lenTo_full (fun j hj => freeFrom_full hf j (Nat.zero_le _) (by omega))
  | some i =>
    right
    obtain ⟨-, hi, hu⟩ := freeFrom_at hf
    have hi : i < 64 := by omega
    have hz := zeroVals_len f f.length
    have hfd : findV (setO o i ⟨true, (K : Int), zeroVals f f.length⟩) (-1 - (i : Int)) = some i := by rw [findV_place _ i hi, setO_at, if_pos rfl]
    refine ⟨-1 - (i : Int), setO o i ⟨true, K, zeroVals f f.length⟩, rfl, h15, ?_, fun n hn => ?_, ?_, ?_⟩
    · unfold kindV
      rw [hfd]
      simp only
      rw [setO_at]
    · unfold getV
      rw [hfd]
      simp only
      rw [setO_at, if_neg (by simp only [hz]; omega)]
      rfl
    · show (allTo _ 64).length = (allTo o 64).length + 1
      rw [allTo_lenTo, allTo_lenTo]
      have := lenTo_set (o := o) hi ⟨true, (K : Int), zeroVals f f.length⟩
      rw [if_neg (by rw [hu]; decide), if_pos rfl] at this
      omega
    · unfold refsV
      rw [hfd]
      simp only
      rw [setO_at]
      exact refsTo5_none _ (zeroVals_kind f f.length)
theorem kinds_at {w : World} {a : Option Addr} {n c : Nat} (h : MatIn w (.slice a n c) ks14) {K : Nat} (hK : K < 4) : ∃ b off fa fc, (∀ w', (Instr.indexAt 22 (.slice a n c) (.int .i64 (K : Int))).run Try.prog w' = .ok (.pointer (some ⟨b, off, none⟩)) w') ∧
    w.cell? ⟨b, off, none⟩ = some (.slice fa (ks14.getD K []).length fc) ∧ IntsR w (.slice fa (ks14.getD K []).length fc) .i64 (ks14.getD K []) := by
  obtain ⟨H, hR, hrows⟩ := h
  have hK4 : K < ks14.length := hK
  obtain ⟨b, off, hix, hb, hc⟩ := RowsIn.index (P := Try.prog) hR Try.underlying22 (by kernel_rfl) (by kernel_rfl) hK4
  have hf := hrows K hK4
  obtain ⟨fa, fc, hfe⟩ : ∃ fa fc, H K = .slice fa (ks14.getD K []).length fc := by
    obtain ⟨fa, fc, h1, -⟩ := hf
    exact ⟨fa, fc, h1⟩
  rw [hfe] at hf
  refine ⟨b, off + K * 1, fa, fc, hix, ?_, hf⟩
  rw [← hfe]
  exact hc 0 (by decide)
end Go.Proofs.Ytcnbcidbbeadcaa

