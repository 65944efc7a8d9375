/- kind.Zero and kind.Fits, in the terms of chapter 14. -/
import Derived.Test.YtcnbcidbbeadcaaVhS
import Derived.Deep.Onto
import Derived.Deep.RegionWith
import Derived.BigQuiet
-- merged


namespace Go.Proofs.Ytcnbcidbbeadcaa
open Go.RowKit
set_option linter.unusedVariables false
def kindK (x : Int) : Int := if x = 1 ∨ x = 2 then x else 0
/-- The cells of a field's value at first. -/
def valK (x : Int) : List Value := [.int .i64 (kindK x), .int .i64 0, .int .u64 0, .int .u64 0, .int .i64 0]
def zeroTo (f : List Int) : Nat → List Value
  | 0 => []
  | k + 1 => zeroTo f k ++ valK (f.getD k 0)
/-- The values of a new object, in a row of the call's own. -/
def RetZero (w : World) (f : List Int) (e : Ending) (w' : World) : Prop :=
  ∃ a c, e = .returned (.slice a f.length c) ∧ w'.ownsRow w.heap.size 26 5 (.slice a f.length c) f.length (zeroTo f f.length) ∧ Upd (fun _ => False) w w'
set_option maxRecDepth 100000 in
set_option maxHeartbeats 1000000 in
theorem kind_Zero (v : Value) (f : List Int) (w : World) (hv : IntsR w v .i64 f) (hb : f.length ≤ 15) : Calls Try.prog 59 #[.agg #[v]] w (RetZero w f) := by
  have hX := Lib.hid hv
  obtain ⟨a, cap, rfl, -, hcap, -⟩ := hv
  have hb2 : (f.length : Int) ≤ 15 := by omega
  go_enter Try.func59, Try.ntmps59
  go_wp2
  go_loopw [3, 14] (fun o i wr => ∃ (k : Nat) (oa : Option Addr) (oc : Nat), k ≤ f.length ∧ i = .int .i64 k ∧ o = .slice oa k oc ∧ wr.ownsRow w.heap.size 26 5 (.slice oa k oc) k (zeroTo f k) ∧ Upd (fun _ => False) w wr ∧ w.heap.size ≤ wr.heap.size) (fun _ i _ => (f.length - intOf i).toNat)
  case atStart => exact ⟨0, none, 0, Nat.zero_le _, rfl, rfl, World.ownsRow_nil _ _ _ _, (Upd.refl _ _).alloc _, by simp⟩
  case round =>
    obtain ⟨k, oa, oc, hk, rfl, rfl, ho, hu, hz⟩ := hrel
    by_cases hkl : k = f.length
    · have d1 : ¬ ((k : Int) < f.length) := by omega
      subst hkl
      have fin : RetZero w f (.returned (.slice oa f.length oc)) wr := ⟨_, _, rfl, ho, hu⟩
      have Hfin := Lib.hid fin; clear fin
      clear ho
      go_wp2
      go_ret
      exact Hfin.out
    · have d1 : (k : Int) < f.length := by omega
      have d1' : k < f.length := by omega
      have dk : k ≤ 1048576 := by omega
      obtain ⟨b0, off, hix, hb0, hc⟩ := hX.out.index (P := Try.prog) Try.underlying52 (by kernel_rfl) (by kernel_rfl) d1'
      simp only [Nat.mul_one] at hix hc
      have hc0 : wr.cell? ⟨b0, off + k, none⟩ = some (.int .i64 (f.getD k 0)) := (hu.none.cell (p := ⟨b0, off + k, none⟩) hb0).trans (hc 0 (by decide))
      have hst : zeroTo f (k + 1) = zeroTo f k ++ valK (f.getD k 0) := rfl
      generalize f.getD k 0 = x at *
      by_cases hx : x = 1 ∨ x = 2
      · have hvk : valK x = [.int .i64 x, .int .i64 0, .int .u64 0, .int .u64 0, .int .i64 0] := by unfold valK kindK; rw [if_pos hx]
        rw [hvk] at hst
        clear hvk
        rcases hx with rfl | rfl
        · have dummy := trivial
          have hnb := Lib.hid (show ((wr.alloc (.cells #[.int .i64 1, .int .i64 0, .int .u64 0, .int .u64 0, .int .i64 0] 26)).alloc (.cells #[.int .i64 1, .int .i64 0, .int .u64 0, .int .u64 0, .int .i64 0] 26)).heap[wr.heap.size + 1]? = some (.cells (List.toArray [.int .i64 1, .int .i64 0, .int .u64 0, .int .u64 0, .int .i64 0]) 26 (0, 0)) from by
            have := Blk.new (wr.alloc (.cells #[.int .i64 1, .int .i64 0, .int .u64 0, .int .u64 0, .int .i64 0] 26)) [.int .i64 1, .int .i64 0, .int .u64 0, .int .u64 0, .int .i64 0] 26
            simpa [Blk] using this)
          have Hho := Lib.hid ho; clear ho
          have Hhst := Lib.hid hst; clear hst
          have Hhu := Lib.hid hu; clear hu
          clear hkl hc
          go_wp2_with (at_builtin; refine wpList_pushN rfl _ _ 23 26 rfl (.agg #[.int .i64 0, .int .i64 0, .int .u64 0, .int .u64 0, .int .i64 0]) 5 40 (by decide) Try.underlying23 infoVal rfl w.heap.size _ _ _ rfl ((Hho.out.alloc _).alloc _) (wr.heap.size + 1) 1 [.int .i64 1, .int .i64 0, .int .u64 0, .int .u64 0, .int .i64 0] rfl rfl 26 (0, 0) hnb.out (by decide) dk (by decide) (by simp; omega) ?_; intro oa' oc' w4 ho4 hg4)
          go_roundw
          case rel =>
            have u4 : Upd (fun _ => False) w w4 := ((Hhu.out.alloc (.cells #[.int .i64 1, .int .i64 0, .int .u64 0, .int .u64 0, .int .i64 0] 26)).alloc (.cells #[.int .i64 1, .int .i64 0, .int .u64 0, .int .u64 0, .int .i64 0] 26)).grown hg4 (fun j e hj => absurd ((Hho.out.lt j e).1) (by omega))
            exact ⟨k + 1, oa', oc', by omega, by go_num, rfl, by rw [Hhst.out]; exact ho4, u4, u4.size⟩
          case measure => simp [intOf]; omega
        · have dummy := trivial
          have hnb := Lib.hid (show ((wr.alloc (.cells #[.int .i64 2, .int .i64 0, .int .u64 0, .int .u64 0, .int .i64 0] 26)).alloc (.cells #[.int .i64 2, .int .i64 0, .int .u64 0, .int .u64 0, .int .i64 0] 26)).heap[wr.heap.size + 1]? = some (.cells (List.toArray [.int .i64 2, .int .i64 0, .int .u64 0, .int .u64 0, .int .i64 0]) 26 (0, 0)) from by
            have := Blk.new (wr.alloc (.cells #[.int .i64 2, .int .i64 0, .int .u64 0, .int .u64 0, .int .i64 0] 26)) [.int .i64 2, .int .i64 0, .int .u64 0, .int .u64 0, .int .i64 0] 26
            simpa [Blk] using this)
          have Hho := Lib.hid ho; clear ho
          have Hhst := Lib.hid hst; clear hst
          have Hhu := Lib.hid hu; clear hu
          clear hkl hc
          go_wp2_with (at_builtin; refine wpList_pushN rfl _ _ 23 26 rfl (.agg #[.int .i64 0, .int .i64 0, .int .u64 0, .int .u64 0, .int .i64 0]) 5 40 (by decide) Try.underlying23 infoVal rfl w.heap.size _ _ _ rfl ((Hho.out.alloc _).alloc _) (wr.heap.size + 1) 1 [.int .i64 2, .int .i64 0, .int .u64 0, .int .u64 0, .int .i64 0] rfl rfl 26 (0, 0) hnb.out (by decide) dk (by decide) (by simp; omega) ?_; intro oa' oc' w4 ho4 hg4)
          go_roundw
          case rel =>
            have u4 : Upd (fun _ => False) w w4 := ((Hhu.out.alloc (.cells #[.int .i64 2, .int .i64 0, .int .u64 0, .int .u64 0, .int .i64 0] 26)).alloc (.cells #[.int .i64 2, .int .i64 0, .int .u64 0, .int .u64 0, .int .i64 0] 26)).grown hg4 (fun j e hj => absurd ((Hho.out.lt j e).1) (by omega))
            exact ⟨k + 1, oa', oc', by omega, by go_num, rfl, by rw [Hhst.out]; exact ho4, u4, u4.size⟩
          case measure => simp [intOf]; omega
      · have e1 : (x == 1) = false := by simp; omega
        have e2 : (x == 2) = false := by simp; omega
        have hvk : valK x = [.int .i64 0, .int .i64 0, .int .u64 0, .int .u64 0, .int .i64 0] := by unfold valK kindK; rw [if_neg hx]
        rw [hvk] at hst
        clear hx hvk
        have hnb := Lib.hid (show ((wr.alloc (.cells #[.int .i64 0, .int .i64 0, .int .u64 0, .int .u64 0, .int .i64 0] 26)).alloc (.cells #[.int .i64 0, .int .i64 0, .int .u64 0, .int .u64 0, .int .i64 0] 26)).heap[wr.heap.size + 1]? = some (.cells (List.toArray [.int .i64 0, .int .i64 0, .int .u64 0, .int .u64 0, .int .i64 0]) 26 (0, 0)) from by
          have := Blk.new (wr.alloc (.cells #[.int .i64 0, .int .i64 0, .int .u64 0, .int .u64 0, .int .i64 0] 26)) [.int .i64 0, .int .i64 0, .int .u64 0, .int .u64 0, .int .i64 0] 26
          simpa [Blk] using this)
        have Hho := Lib.hid ho; clear ho
        have Hhst := Lib.hid hst; clear hst
        have Hhu := Lib.hid hu; clear hu
        clear hkl hc
        go_wp2_with (at_builtin; refine wpList_pushN rfl _ _ 23 26 rfl (.agg #[.int .i64 0, .int .i64 0, .int .u64 0, .int .u64 0, .int .i64 0]) 5 40 (by decide) Try.underlying23 infoVal rfl w.heap.size _ _ _ rfl ((Hho.out.alloc _).alloc _) (wr.heap.size + 1) 1 [.int .i64 0, .int .i64 0, .int .u64 0, .int .u64 0, .int .i64 0] rfl rfl 26 (0, 0) hnb.out (by decide) dk (by decide) (by simp; omega) ?_; intro oa' oc' w4 ho4 hg4)
        go_roundw
        case rel =>
          have u4 : Upd (fun _ => False) w w4 := ((Hhu.out.alloc (.cells #[.int .i64 0, .int .i64 0, .int .u64 0, .int .u64 0, .int .i64 0] 26)).alloc (.cells #[.int .i64 0, .int .i64 0, .int .u64 0, .int .u64 0, .int .i64 0] 26)).grown hg4 (fun j e hj => absurd ((Hho.out.lt j e).1) (by omega))
          exact ⟨k + 1, oa', oc', by omega, by go_num, rfl, by rw [Hhst.out]; exact ho4, u4, u4.size⟩
        case measure => simp [intOf]; omega
end Go.Proofs.Ytcnbcidbbeadcaa

/- A heap of volatile objects: Make. -/


namespace Go.Proofs.Ytcnbcidbbeadcaa
open Go.RowKit Go.Deep
set_option linter.unusedVariables false

def zeroVals (f : List Int) : Nat → List Val
  | 0 => []
  | k + 1 => zeroVals f k ++ [⟨kindK (f.getD k 0), 0, 0, 0, 0⟩]
theorem zeroVals_len (f : List Int) (k : Nat) : (zeroVals f k).length = k := by
  induction k with
  | zero => rfl
  | succ k ih => simp [zeroVals, ih]
theorem zeroTo_cells (f : List Int) (k : Nat) : zeroTo f k = cellsV (zeroVals f k) := by
  induction k with
  | zero => rfl
  | succ k ih =>
    rw [zeroTo, zeroVals, ← cellsV_append, ih]
    rfl
theorem zeroVals_ok (f : List Int) (k : Nat) : ∀ x ∈ zeroVals f k, x.ok := by
  induction k with
  | zero => simp [zeroVals]
  | succ k ih =>
    intro x hx
    simp only [zeroVals, List.mem_append, List.mem_cons, List.not_mem_nil, or_false] at hx
    rcases hx with hx | rfl
    · exact ih x hx
    · refine ⟨?_, zeroV_ok.n, zeroV_ok.re, zeroV_ok.im, zeroV_ok.r⟩
      show I64 (kindK _)
      unfold kindK
      split
      · rename_i h
        unfold I64
        omega
      · exact zeroV_ok.k
/-- The first place at or behind i that is not used. -/
def freeFrom (o : Nat → VOb) (i : Nat) : Nat → Option Nat
  | 0 => none
  | n + 1 => if (o i).used = true then freeFrom o (i + 1) n else some i
def freeV (o : Nat → VOb) : Option Nat := freeFrom o 0 64
def makeV (ks : List (List Int)) (o : Nat → VOb) (k : Int) : (Nat → VOb) × Int × Int := match ofK ks k with
  | none => (o, 0, 3)
  | some f => match freeV o with
    | none => (o, 0, 5)
    | some i => (setO o i ⟨true, k, zeroVals f f.length⟩, -1 - (i : Int), 0)
theorem freeFrom_lt {o : Nat → VOb} {i n j : Nat} (h : freeFrom o i n = some j) : j < i + n := by
  induction n generalizing i with
  | zero => cases h
  | succ n ih =>
    unfold freeFrom at h
    split at h
    · have := ih h
      omega
    · cases h
      omega
/-- Two numbers; the heap is another. -/
def RetMk (w : World) (b base : Nat) (ks : List (List Int)) (kv : Value) (F : Nat → Value) (r : (Nat → VOb) × Int × Int) (e : Ending) (w' : World) : Prop :=
  e = .returned (.tuple #[.int .i64 r.2.1, .int .i64 r.2.2]) ∧ (∃ F', IsVh w' b base ks r.1 kv F' ∧ Fr w F F') ∧ Upd (fun j => j = b) w w'
theorem mk_same {w w' : World} {b base : Nat} {ks : List (List Int)} {o : Nat → VOb} {kv : Value} {F : Nat → Value} (h : IsVh w b base ks o kv F) (n : Int) (u : Upd (fun _ => False) w w') :
    RetMk w b base ks kv F (o, 0, n) (.returned (.tuple #[.int .i64 0, .int .i64 n])) w' := ⟨rfl, ⟨F, h.still u, Fr.refl _ _⟩, u.mono (fun _ _ e => e.elim)⟩
/-- A new object is put. -/
theorem mk_put {w w2 w3 : World} {b base : Nat} {ks : List (List Int)} {o : Nat → VOb} {kv : Value} {F : Nat → Value} (h : IsVh w b base ks o kv F) (u2 : Upd (fun _ => False) w w2) (u3 : Upd (fun _ => False) w2 w3) {i : Nat} (hi : i < 64) (k : Int) {f : List Int} (hof : ofK ks k = some f) (h15 : f.length ≤ 15)
    {a : Option Addr} {c : Nat} (hr : w3.ownsRow w2.heap.size 26 5 (.slice a f.length c) f.length (zeroTo f f.length)) (y : Int) (hy : y = -1 - (i : Int)) :
    RetMk w b base ks kv F (setO o i ⟨true, k, zeroVals f f.length⟩, -1 - (i : Int), 0) (.returned (.tuple #[.int .i64 y, .int .i64 0])) (((w3.setCell ⟨b, 1 + i * 3, none⟩ (.bool true)).setCell ⟨b, 1 + i * 3 + 1, none⟩ (.int .i64 k)).setCell ⟨b, 1 + i * 3 + 2, none⟩ (.slice a f.length c)) := by
  subst hy
  have h2 := h.still u2
  have h3 := h2.still u3
  have hb := ((h3.blk.set (1 + i * 3) (.bool true)).set (1 + i * 3 + 1) (.int .i64 k)).set (1 + i * 3 + 2) (.slice a f.length c)
  have e : (((vhCells kv o F).set (1 + i * 3) (.bool true)).set (1 + i * 3 + 1) (.int .i64 k)).set (1 + i * 3 + 2) (.slice a f.length c) = vhCells kv (setO o i ⟨true, k, zeroVals f f.length⟩) (setO F i (.slice a f.length c)) := vh_set kv o F i ⟨true, k, zeroVals f f.length⟩ (.slice a f.length c) hi
  rw [e] at hb
  have u4 := (((Upd.refl (fun j => j = b) w3).at (1 + i * 3) (.bool true)).at (1 + i * 3 + 1) (.int .i64 k)).at (1 + i * 3 + 2) (.slice a f.length c)
  have hzl := zeroVals_len f f.length
  have hbl := h2.blk.lt
  have hnew : ∀ g, (Value.slice a f.length c).ownBlock = some g → w2.heap.size ≤ g := by
    intro g e
    rcases hr.2 with ⟨hz, -⟩ | ⟨g', cap, cur, hv, hg, -⟩
    · rw [hz] at e
      cases e
    · rw [hv] at e
      have : g' = g := by simpa [Value.ownBlock] using e
      omega
  refine ⟨rfl, ⟨_, h3.put hi ⟨true, k, zeroVals f f.length⟩ (.slice a f.length c) hb u4 ?_ ?_ (fun h => by cases h) (zeroVals_ok f f.length) (by rw [hzl]; exact h15) (fun _ => ⟨(ofK_some hof).1, (ofK_some hof).2.1, by rw [hzl, (ofK_some hof).2.2.2.2]⟩), Fr.new _ _ (fun g e => Nat.le_trans u2.size (hnew g e))⟩, ((u2.trans u3).mono (fun _ _ e => e.elim)).trans u4⟩
  · show World.ownsRow _ _ _ _ _ (zeroVals f f.length).length _
    rw [hzl, ← zeroTo_cells]
    have hr2 := hr.mono h2.size
    refine ⟨hr2.1, ?_⟩
    rcases hr2.2 with hz | ⟨g, cap, cur, hv, hg, hh, r⟩
    · exact Or.inl hz
    · refine Or.inr ⟨g, cap, cur, hv, hg, ?_, r⟩
      have hgn := hnew g (by rw [hv]; rfl)
      rw [u4.block g (Array.getElem?_eq_some_iff.1 hh).1 (fun e => by omega)]
      exact hh
  · intro j hj hne g e1 e2
    have hg := hnew g e1
    obtain ⟨-, h5⟩ := h2.row j hj
    rcases h5 with ⟨hz, -⟩ | ⟨g', cap, cur, hv, -, hh, -⟩
    · rw [hz] at e2
      cases e2
    · rw [hv] at e2
      have : g' = g := by simpa [Value.ownBlock] using e2
      have := (Array.getElem?_eq_some_iff.1 hh).1
      omega
end Go.Proofs.Ytcnbcidbbeadcaa

/- A heap of volatile objects: the walk of Make. -/


namespace Go.Proofs.Ytcnbcidbbeadcaa
open Go.RowKit Go.Deep
set_option linter.unusedVariables false

set_option maxRecDepth 100000 in
set_option maxHeartbeats 4000000 in
theorem vh_Make {w : World} {b base : Nat} {ks : List (List Int)} {o : Nat → VOb} {kv : Value} {F : Nat → Value} (h : IsVh w b base ks o kv F) (k : Int) :
    Calls Try.prog 25 #[.pointer (some ⟨b, 0, none⟩), .int .i64 k] w (RetMk w b base ks kv F (makeV ks o k)) := by
  obtain ⟨r, hr⟩ : ∃ r, makeV ks o k = r := ⟨_, rfl⟩
  rw [hr]
  have hof : ofK ks k = if 0 ≤ k ∧ k < ks.length ∧ k < 16 ∧ MayK (ks.getD k.toNat []) = true then some (ks.getD k.toNat []) else none := rfl
  obtain ⟨H, hR, hrows⟩ := h.kinds w (Upd.refl _ _)
  have hX := Lib.hid hR
  obtain ⟨va, vc, rfl, hcap1, hcap, -⟩ := hR
  have l1 : (ks.length : Int) ≤ 9223372036854775807 := by unfold maxLen at hcap; omega
  have hc0 : w.cell? ⟨b, 0, none⟩ = some (.slice va ks.length vc) := h.blk.cell 0 rfl
  have hno := Lib.hid (fun (n : Int) (hn : r = (o, 0, n)) w' (u : Upd (fun _ => False) w w') => show RetMk w b base ks (.slice va ks.length vc) F r (.returned (.tuple #[.int .i64 0, .int .i64 n])) w' from hn ▸ mk_same h n u)
  unfold makeV at hr
  clear hcap hcap1
  by_cases k0 : k < 0
  · rw [if_neg (fun h => by omega)] at hof
    rw [hof] at hr
    have fin := Lib.hid (hno.out 3 hr.symm)
    clear hof hr h hrows hno
    go_enter Try.func25, Try.ntmps25
    go_wp2
    go_step3
    go_wp2
    rw [Exit.noGoto_ret]
    go_ret2
    exact fin.out _ (Upd.refl _ _)
  · by_cases k1 : k < ks.length
    · by_cases k2 : k < 16
      · obtain ⟨kn, rfl⟩ : ∃ kn : Nat, k = kn := ⟨k.toNat, by omega⟩
        have hy : kn < ks.length := by omega
        obtain ⟨b0, off, hix, hb0, hc⟩ := hX.out.index (P := Try.prog) Try.underlying22 (by kernel_rfl) (by kernel_rfl) hy
        simp only [Nat.mul_one] at hix hc
        have hck : w.cell? ⟨b0, off + kn, none⟩ = some (H kn) := hc 0 (by decide)
        have hf := hrows kn hy
        have k16 : ¬ (kn : Int) ≥ 16 := by omega
        have k1' : ¬ (kn : Int) ≥ ks.length := by omega
        rw [show (kn : Int).toNat = kn from by omega] at hof
        obtain ⟨fa, fc, hfe⟩ : ∃ fa fc, H kn = .slice fa (ks.getD kn []).length fc := by
          obtain ⟨fa, fc, h1, -⟩ := hf
          exact ⟨fa, fc, h1⟩
        rw [hfe] at hf hck
        have hm := Lib.hid (fun w' (u : Upd (fun _ => False) w w') => kind_May _ _ w' (ints_upd hf u))
        by_cases hMay : MayK (ks.getD kn []) = true
        · rw [if_pos ⟨by omega, by omega, by omega, hMay⟩] at hof
          rw [hof] at hr
          simp only at hr
          have h15 := (mayK_facts _ hMay).2.1
          rw [hMay] at hm
          generalize ks.getD kn [] = f at *
          have hzr := Lib.hid (fun w' (u : Upd (fun _ => False) w w') => kind_Zero _ f w' (ints_upd hf u) h15)
          have hcs := Lib.hid (fun w' (u : Upd (fun _ => False) w w') i (hi : i < 64) => ((h.still u).cell i hi))
          have hfr := Lib.hid (fun w' (u : Upd (fun _ => False) w w') j => (h.still u).blk.free j)
          have hput := Lib.hid (fun w2 w3 (u2 : Upd (fun _ => False) w w2) (u3 : Upd (fun _ => False) w2 w3) i (hi : i < 64) a c hr y hy => mk_put (o := o) h u2 u3 hi (kn : Int) hof h15 (a := a) (c := c) hr y hy)
          have hcc := Lib.hid (fun w' (u : Upd (fun _ => False) w w') => (⟨(h.still u).blk.cell 0 rfl, (u.none.cell (p := ⟨b0, off + kn, none⟩) hb0).trans hck⟩ : w'.cell? ⟨b, 0, none⟩ = some (.slice va ks.length vc) ∧ w'.cell? ⟨b0, off + kn, none⟩ = some (.slice fa f.length fc)))
          have hpl := Lib.hid (fun (i : Nat) (hi : i < 64) w => vh_place (i : Int) w (by omega) (by omega))
          clear hof hf hMay h hfe hrows hc
          have Hhr := Lib.hid hr; clear hr
          go_enter Try.func25, Try.ntmps25
          go_wp2
          refine wp_scope_loop 0 (fun a' w' => ∃ (i : Nat) (u2 u3 u4 u5 u7 u8 u9 u10 u11 u12 u13 u14 u15 u16 u17 u18 u19 u20 u21 u22 u23 u24 u25 u26 u27 u28 u29 u30 u31 u32 u33 u34 u35 u36 u37 u38 u39 u40 u41 u42 u43 u44 u45 u46 u47 u48 u49 u50 u51 u52 u53 u54 u55 u56 u57 u58 u59 u60 u61 u62 : Value), a' = { tmps := #[.pointer (some ⟨b, 0, none⟩), .int .i64 kn, u2, u3, u4, u5, .int .i64 i, u7, u8, u9, u10, u11, u12, u13, u14, u15, u16, u17, u18, u19, u20, u21, u22, u23, u24, u25, u26, u27, u28, u29, u30, u31, u32, u33, u34, u35, u36, u37, u38, u39, u40, u41, u42, u43, u44, u45, u46, u47, u48, u49, u50, u51, u52, u53, u54, u55, u56, u57, u58, u59, u60, u61, u62], defers := [] } ∧ i ≤ 64 ∧ freeFrom o i (64 - i) = freeV o ∧ Upd (fun _ => False) w w') (fun a' _ => (64 - intOf (a'.tmps.getD 6 undef)).toNat) rfl ?_ ?_
          · rintro a' w2 ⟨i, u2, u3, u4, u5, u7, u8, u9, u10, u11, u12, u13, u14, u15, u16, u17, u18, u19, u20, u21, u22, u23, u24, u25, u26, u27, u28, u29, u30, u31, u32, u33, u34, u35, u36, u37, u38, u39, u40, u41, u42, u43, u44, u45, u46, u47, u48, u49, u50, u51, u52, u53, u54, u55, u56, u57, u58, u59, u60, u61, u62, rfl, hi, hfree, hu⟩
            clear hc0 hck
            obtain ⟨hc0, hck⟩ := hcc.out w2 hu
            by_cases hi2 : i = 64
            · subst hi2
              have fin := Lib.hid (hno.out 5 (by have := Hhr.out; rw [← hfree] at this; exact this.symm) w2 hu)
              clear hu hfree
              rw [show ((64 : Nat) : Int) = 64 from rfl]
              go_wp2
              simp only [Exit.jump]
              go_ret2
              exact fin.out
            · have hi3 : i < 64 := by omega
              have hi4 : (i : Int) < 64 := by omega
              have hi5 : ((i : Int) == 64) = false := by rw [beq_eq_false_iff_ne]; omega
              obtain ⟨c1, c2, c3⟩ := hcs.out w2 hu i hi3
              have hfs : freeFrom o i (64 - i) = if (o i).used = true then freeFrom o (i + 1) (64 - (i + 1)) else some i := by
                obtain ⟨m, hm⟩ : ∃ m, 64 - i = m + 1 := ⟨63 - i, by omega⟩
                rw [hm, show 64 - (i + 1) = m from by omega]
                rfl
              cases hus : (o i).used with
              | true =>
                rw [hus] at c1 hfs
                rw [if_pos rfl] at hfs
                have hfree2 := hfs.symm.trans hfree
                have Hhu := Lib.hid hu; clear hu
                have Hhfree2 := Lib.hid hfree2; clear hfree2
                clear hfree hfs hi2
                go_wp2
                go_step3
                exact ⟨rfl, ⟨i + 1, _, _, _, _, _, _, _, _, _, _, _, _, _, _, _, _, _, _, _, _, _, _, _, _, _, _, _, _, _, _, _, _, _, _, _, _, _, _, _, _, _, _, _, _, _, _, _, _, _, _, _, _, _, _, _, _, _, _, _, _, rfl, by omega, Hhfree2.out, Hhu.out⟩, by simp [intOf]; omega⟩
              | false =>
                rw [hus] at c1 hfs
                rw [if_neg (by decide)] at hfs
                have hre : r = (setO o i ⟨true, (kn : Int), zeroVals f f.length⟩, -1 - (i : Int), 0) := by
                  have := Hhr.out
                  rw [← hfree, hfs] at this
                  exact this.symm
                have hcD := Lib.hid (fun w3 (u3 : Upd (fun _ => False) w2.drew w3) => hcs.out w3 (hu.drew.trans u3) i hi3)
                have hfD := Lib.hid (fun w3 (u3 : Upd (fun _ => False) w2.drew w3) j => hfr.out w3 (hu.drew.trans u3) j)
                have hzD := Lib.hid (hzr.out w2.drew hu.drew)
                have fin := Lib.hid (fun w3 (u3 : Upd (fun _ => False) w2.drew w3) a c ho y hy => show RetMk w b base ks (.slice va ks.length vc) F r _ _ from hre ▸ hput.out w2.drew w3 hu.drew u3 i hi3 a c ho y hy)
                have hplc := Lib.hid (hpl.out i hi3)
                have Hhu := Lib.hid hu; clear hu
                have Hhre := Lib.hid hre; clear hre
                clear hfree hfs hi2 hzr hput
                go_wp2_with fail
                go_region_with (go_at_call 59; (with_reducible refine hzD.out.mono ?_); rintro e w3 ⟨a, c, rfl, ho3, hu3⟩; obtain ⟨g1, g2, g3⟩ := hcD.out w3 hu3; have q1 := hfD.out w3 hu3 (1 + i * 3); have q2 := hfD.out w3 hu3 (1 + i * 3 + 1); have q3 := hfD.out w3 hu3 (1 + i * 3 + 2); have Ho3 := Lib.hid ho3; have Hu3 := Lib.hid hu3; clear ho3 hu3)
                all_goals go_wp2_with (go_at_call 60; (with_reducible refine (hplc.out _).mono ?_); rintro e w4 ⟨rfl, rfl⟩)
                all_goals simp only [Exit.jump]
                all_goals go_ret2
                all_goals exact fin.out _ Hu3.out _ _ Ho3.out _ rfl
          · intro Hk
            have hm0 := Lib.hid (hm.out w (Upd.refl _ _))
            go_wp2_with (go_at_call 58; (with_reducible refine hm0.out.mono ?_); rintro e w2 ⟨rfl, hu2⟩; have Hu2 := Lib.hid hu2; clear hu2)
            go_step3
            rename_i hK
            exact hK _ _ (Hk _ _ ⟨0, _, _, _, _, _, _, _, _, _, _, _, _, _, _, _, _, _, _, _, _, _, _, _, _, _, _, _, _, _, _, _, _, _, _, _, _, _, _, _, _, _, _, _, _, _, _, _, _, _, _, _, _, _, _, _, _, _, _, _, _, rfl, by omega, rfl, Hu2.out⟩)
        · rw [if_neg (fun h => hMay h.2.2.2)] at hof
          rw [hof] at hr
          rw [show MayK (ks.getD kn []) = false from by simpa using hMay] at hm
          have fin := Lib.hid (hno.out 3 hr.symm)
          have hm0 := Lib.hid (hm.out w (Upd.refl _ _))
          generalize (ks.getD kn []).length = fl at *
          clear hof hr h hrows hno hf hMay hfe hc hm
          go_enter Try.func25, Try.ntmps25
          go_wp2
          go_step3
          go_wp2_with (go_at_call 58; (with_reducible refine hm0.out.mono ?_); rintro e w2 ⟨rfl, hu2⟩; have Hu2 := Lib.hid hu2; clear hu2)
          rw [Exit.noGoto_ret]
          go_ret2
          exact fin.out _ Hu2.out
      · rw [if_neg (fun h => k2 h.2.2.1)] at hof
        rw [hof] at hr
        have fin := Lib.hid (hno.out 3 hr.symm)
        have k16 : (16 : Int) ≤ k := by omega
        have k1' : ¬ k ≥ (ks.length : Int) := by omega
        clear hof hr h hrows hno
        go_enter Try.func25, Try.ntmps25
        go_wp2
        go_step3
        go_wp2
        rw [Exit.noGoto_ret]
        go_ret2
        exact fin.out _ (Upd.refl _ _)
    · rw [if_neg (fun h => k1 h.2.1)] at hof
      rw [hof] at hr
      have fin := Lib.hid (hno.out 3 hr.symm)
      have k1' : (ks.length : Int) ≤ k := by omega
      clear hof hr h hrows hno
      go_enter Try.func25, Try.ntmps25
      go_wp2
      go_step3
      go_wp2
      rw [Exit.noGoto_ret]
      go_ret2
      exact fin.out _ (Upd.refl _ _)
end Go.Proofs.Ytcnbcidbbeadcaa

/- What counts of a value: told; Fits in general. -/


namespace Go.Proofs.Ytcnbcidbbeadcaa
open Go.RowKit Go.Deep
set_option linter.unusedVariables false

def toldV (x : Val) : Val := if x.k = 1 then ⟨1, x.n, 0, 0, 0⟩ else if x.k = 2 then ⟨2, 0, x.re, x.im, 0⟩ else if x.k = 3 then ⟨3, 0, 0, 0, x.r⟩ else zeroV
set_option maxRecDepth 100000 in
set_option maxHeartbeats 1000000 in
theorem vh_told (x : Val) (w : World) : Calls Try.prog 69 #[x.v] w (RetU w (toldV x).v) := by
  obtain ⟨a, n, re, im, r⟩ := x
  show Calls _ _ #[.agg #[.int .i64 a, .int .i64 n, .int .u64 (re : Int), .int .u64 (im : Int), .int .i64 r]] _ _
  unfold toldV
  simp only
  by_cases k1 : a = 1
  · subst k1
    rw [if_pos rfl]
    have hu : Upd (fun _ => False) w ((w.alloc (.cells #[.int .i64 1, .int .i64 n, .int .u64 (re : Int), .int .u64 (im : Int), .int .i64 r] 26)).alloc (.cells #[.int .i64 1, .int .i64 n, .int .u64 0, .int .u64 0, .int .i64 0] 26)) := ((Upd.refl _ _).alloc _).alloc _
    have Hhu := Lib.hid hu; clear hu
    go_enter Try.func69, Try.ntmps69
    go_wp2
    refine bodyPost_ret (v := .agg #[.int .i64 1, .int .i64 n, .int .u64 0, .int .u64 0, .int .i64 0]) ?_ rfl ?_
    · rw [results_cell1 rfl]; go_simp
    · exact ⟨rfl, Hhu.out⟩
  · rw [if_neg k1]
    by_cases k2 : a = 2
    · subst k2
      rw [if_pos rfl]
      have hu : Upd (fun _ => False) w ((w.alloc (.cells #[.int .i64 2, .int .i64 n, .int .u64 (re : Int), .int .u64 (im : Int), .int .i64 r] 26)).alloc (.cells #[.int .i64 2, .int .i64 0, .int .u64 (re : Int), .int .u64 (im : Int), .int .i64 0] 26)) := ((Upd.refl _ _).alloc _).alloc _
      have Hhu := Lib.hid hu; clear hu
      go_enter Try.func69, Try.ntmps69
      go_wp2
      refine bodyPost_ret (v := .agg #[.int .i64 2, .int .i64 0, .int .u64 (re : Int), .int .u64 (im : Int), .int .i64 0]) ?_ rfl ?_
      · rw [results_cell1 rfl]; go_simp
      · exact ⟨rfl, Hhu.out⟩
    · rw [if_neg k2]
      by_cases k3 : a = 3
      · subst k3
        rw [if_pos rfl]
        have hu : Upd (fun _ => False) w ((w.alloc (.cells #[.int .i64 3, .int .i64 n, .int .u64 (re : Int), .int .u64 (im : Int), .int .i64 r] 26)).alloc (.cells #[.int .i64 3, .int .i64 0, .int .u64 0, .int .u64 0, .int .i64 r] 26)) := ((Upd.refl _ _).alloc _).alloc _
        have Hhu := Lib.hid hu; clear hu
        go_enter Try.func69, Try.ntmps69
        go_wp2
        refine bodyPost_ret (v := .agg #[.int .i64 3, .int .i64 0, .int .u64 0, .int .u64 0, .int .i64 r]) ?_ rfl ?_
        · rw [results_cell1 rfl]; go_simp
        · exact ⟨rfl, Hhu.out⟩
      · rw [if_neg k3]
        have k1' : (a == 1) = false := by rw [beq_eq_false_iff_ne]; exact k1
        have k2' : (a == 2) = false := by rw [beq_eq_false_iff_ne]; exact k2
        have k3' : (a == 3) = false := by rw [beq_eq_false_iff_ne]; exact k3
        have hu : Upd (fun _ => False) w ((w.alloc (.cells #[.int .i64 a, .int .i64 n, .int .u64 (re : Int), .int .u64 (im : Int), .int .i64 r] 26)).alloc (.cells #[.int .i64 0, .int .i64 0, .int .u64 0, .int .u64 0, .int .i64 0] 26)) := ((Upd.refl _ _).alloc _).alloc _
        have Hhu := Lib.hid hu; clear hu
        go_enter Try.func69, Try.ntmps69
        go_wp2
        refine bodyPost_ret (v := .agg #[.int .i64 0, .int .i64 0, .int .u64 0, .int .u64 0, .int .i64 0]) ?_ rfl ?_
        · rw [results_cell1 rfl]; go_simp
        · exact ⟨rfl, Hhu.out⟩
end Go.Proofs.Ytcnbcidbbeadcaa

