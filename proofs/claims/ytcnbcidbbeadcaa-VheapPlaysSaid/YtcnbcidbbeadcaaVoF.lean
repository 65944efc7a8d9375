/- A heap of volatile objects and the document's, side by side. -/
import Derived.Test.YtcnbcidbbeadcaaVoT
import Derived.Deep.RegionLaw
-- merged



namespace Go.Proofs.Ytcnbcidbbeadcaa
open Go.RowKit Go.Deep
set_option linter.unusedVariables false

theorem IsVh.other {w w' : World} {b base m : Nat} {ks : List (List Int)} {o : Nat → VOb} {kv : Value} {F : Nat → Value} (h : IsVh w b base ks o kv F) (u : Upd (fun j => j = m) w w') (hm : base ≤ m) (sep : ∀ i, i < 64 → (F i).ownBlock ≠ some m) : IsVh w' b base ks o kv F := by
  have hlow := h.low
  refine ⟨h.blk.upd u (by omega), h.low, Nat.le_trans h.size u.size, fun w2 u2 => h.kinds w2 ((u.mono (fun j _ (e : j = m) => Or.inl (by omega))).trans u2), fun i hi => ?_, h.apart, h.off, h.ok, h.few, h.kin⟩
  obtain ⟨h1, h2⟩ := h.row i hi
  refine ⟨h1, ?_⟩
  rcases h2 with h2 | ⟨g, cap, cur, hv, hg, hh, r⟩
  · exact Or.inl h2
  · refine Or.inr ⟨g, cap, cur, hv, hg, ?_, r⟩
    rw [u.block g (Array.getElem?_eq_some_iff.1 hh).1 (fun (e : g = m) => sep i hi (by rw [hv, e]; rfl))]
    exact hh
/-- What the heap's own operations may turn, and the document's block. -/
def TT (m b : Nat) (F : Nat → Value) (j : Nat) : Prop := j = m ∨ j = b ∨ ∃ i, i < 64 ∧ (F i).ownBlock = some j
/-- Between the two calls: the heap holds o, the document p; the blocks of gd are none of theirs. -/
structure Mid (W : World) (gd : Nat → Prop) (b base m : Nat) (kv kw : Value) (o p : Nat → VOb) (wr : World) : Prop where
  st : ∃ F Kd G, IsVh wr b base ks14 o kv F ∧ IsVo wr m (TT m b F) ks14 p kw Kd G ∧ (∀ i, i < 64 → (F i).ownBlock ≠ some m) ∧ ∀ g, gd g → g < wr.heap.size ∧ ¬ TT m b F g
  lo : W.heap.size ≤ b ∧ base ≤ m
  up : Upd (fun _ => False) W wr
theorem Mid.still {W : World} {gd : Nat → Prop} {b base m : Nat} {kv kw : Value} {o p : Nat → VOb} {wr w' : World} (h : Mid W gd b base m kv kw o p wr) (u : Upd (fun _ => False) wr w') : Mid W gd b base m kv kw o p w' := by
  obtain ⟨F, Kd, G, h1, h2, h3, h4⟩ := h.st
  exact ⟨⟨F, Kd, G, h1.still u, h2.still u, h3, fun g hg => ⟨Nat.lt_of_lt_of_le (h4 g hg).1 u.size, (h4 g hg).2⟩⟩, h.lo, h.up.trans u⟩
/-- Blocks that are new are guarded. -/
theorem Mid.guard {W : World} {gd gd' : Nat → Prop} {b base m : Nat} {kv kw : Value} {o p : Nat → VOb} {wr w' : World} (h : Mid W gd b base m kv kw o p wr) (u : Upd (fun _ => False) wr w') (hg : ∀ g, gd' g → gd g ∨ (wr.heap.size ≤ g ∧ g < w'.heap.size)) : Mid W gd' b base m kv kw o p w' := by
  obtain ⟨F, Kd, G, h1, h2, h3, h4⟩ := h.st
  refine ⟨⟨F, Kd, G, h1.still u, h2.still u, h3, fun g hh => ?_⟩, h.lo, h.up.trans u⟩
  rcases hg g hh with k | k
  · exact ⟨Nat.lt_of_lt_of_le (h4 g k).1 u.size, (h4 g k).2⟩
  · exact ⟨k.2, fun e => by have := h2.lt g e; omega⟩
def MidPost (W : World) (gd : Nat → Prop) (b base m : Nat) (kv kw : Value) (o p : Nat → VOb) (wr : World) (v : Value) (e : Ending) (w' : World) : Prop :=
  e = .returned v ∧ Mid W gd b base m kv kw o p w' ∧ Upd (fun j => ¬ gd j) wr w'
/-- The heap's operation that turns its block alone. -/
theorem Mid.hop {W : World} {gd : Nat → Prop} {b base m : Nat} {kv kw : Value} {o o' p : Nat → VOb} {wr w' : World} {F : Nat → Value} {Kd : Nat → Int} {G : Nat → Value} (h1 : IsVh wr b base ks14 o kv F) (h2 : IsVo wr m (TT m b F) ks14 p kw Kd G) (h3 : ∀ i, i < 64 → (F i).ownBlock ≠ some m) (h4 : ∀ g, gd g → g < wr.heap.size ∧ ¬ TT m b F g) (lo : W.heap.size ≤ b ∧ base ≤ m) (up : Upd (fun _ => False) W wr)
    (hp : ∃ F', IsVh w' b base ks14 o' kv F' ∧ Fr wr F F') (u : Upd (fun j => j = b) wr w') : Mid W gd b base m kv kw o' p w' ∧ Upd (fun j => ¬ gd j) wr w' := by
  obtain ⟨F', h1', hfr⟩ := hp
  have hlow := h1.low
  have hmlt := h2.blk.lt
  refine ⟨⟨⟨F', Kd, G, h1', h2.shift u (fun j (e : j = b) => ⟨Or.inr (Or.inl e), by omega⟩) (Or.inl rfl) (fun j e => ?_) (fun j hj e => ?_), fun i hi e => ?_, fun g hg => ⟨Nat.lt_of_lt_of_le (h4 g hg).1 u.size, fun e => ?_⟩⟩, lo, up.own u (fun j (e : j = b) => by omega)⟩, u.mono (fun j _ (e : j = b) hg => (h4 j hg).2 (Or.inr (Or.inl e)))⟩
  · rcases e with e | e | ⟨i, hi, e⟩
    · subst e; exact Nat.lt_of_lt_of_le hmlt u.size
    · subst e; exact h1'.blk.lt
    · exact ((h1'.row i hi).lt j e).2
  · rcases e with e | e | ⟨i, hi, e⟩
    · exact Or.inl e
    · exact Or.inr (Or.inl e)
    · rcases hfr i hi j e with e2 | e2
      · exact Or.inr (Or.inr e2)
      · omega
  · rcases hfr i hi m e with ⟨k, hk, e2⟩ | e2
    · exact h3 k hk e2
    · omega
  · have hlt := (h4 g hg).1
    rcases e with e | e | ⟨i, hi, e⟩
    · exact (h4 g hg).2 (Or.inl e)
    · exact (h4 g hg).2 (Or.inr (Or.inl e))
    · rcases hfr i hi g e with e2 | e2
      · exact (h4 g hg).2 (Or.inr (Or.inr e2))
      · omega
/-- The heap's operation that writes into its rows. -/
theorem Mid.hrow {W : World} {gd : Nat → Prop} {b base m : Nat} {kv kw : Value} {o o' p : Nat → VOb} {wr w' : World} {F : Nat → Value} {Kd : Nat → Int} {G : Nat → Value} (h1 : IsVh wr b base ks14 o kv F) (h2 : IsVo wr m (TT m b F) ks14 p kw Kd G) (h3 : ∀ i, i < 64 → (F i).ownBlock ≠ some m) (h4 : ∀ g, gd g → g < wr.heap.size ∧ ¬ TT m b F g) (lo : W.heap.size ≤ b ∧ base ≤ m) (up : Upd (fun _ => False) W wr)
    (hp : IsVh w' b base ks14 o' kv F) (u : Upd (fun j => ∃ i, i < 64 ∧ (F i).ownBlock = some j) wr w') : Mid W gd b base m kv kw o' p w' ∧ Upd (fun j => ¬ gd j) wr w' := by
  have hlow := h1.low
  refine ⟨⟨⟨F, Kd, G, hp, h2.shift u (fun j e => ⟨Or.inr (Or.inr e), ?_⟩) (Or.inl rfl) (fun j e => Nat.lt_of_lt_of_le (h2.lt j e) u.size) (fun j hj e => e), h3, fun g hg => ⟨Nat.lt_of_lt_of_le (h4 g hg).1 u.size, (h4 g hg).2⟩⟩, lo, up.own u (fun j e => ?_)⟩, u.mono (fun j _ e hg => (h4 j hg).2 (Or.inr (Or.inr e)))⟩
  · obtain ⟨i, hi, e⟩ := e
    intro hj
    subst hj
    exact h3 i hi e
  · obtain ⟨i, hi, e⟩ := e
    have := (h1.row i hi).lt j e
    omega
/-- The document's operation. -/
theorem Mid.vop {W : World} {gd : Nat → Prop} {b base m : Nat} {kv kw : Value} {o p' : Nat → VOb} {wr w' : World} {F : Nat → Value} (h1 : IsVh wr b base ks14 o kv F) (h3 : ∀ i, i < 64 → (F i).ownBlock ≠ some m) (h4 : ∀ g, gd g → g < wr.heap.size ∧ ¬ TT m b F g) (lo : W.heap.size ≤ b ∧ base ≤ m) (up : Upd (fun _ => False) W wr)
    (hp : ∃ Kd G, IsVo w' m (TT m b F) ks14 p' kw Kd G) (u : Upd (fun j => j = m) wr w') : Mid W gd b base m kv kw o p' w' ∧ Upd (fun j => ¬ gd j) wr w' := by
  obtain ⟨Kd', G', h2'⟩ := hp
  have hlow := h1.low
  exact ⟨⟨⟨F, Kd', G', h1.other u lo.2 h3, h2', h3, fun g hg => ⟨Nat.lt_of_lt_of_le (h4 g hg).1 u.size, (h4 g hg).2⟩⟩, lo, up.own u (fun j (e : j = m) => by omega)⟩, u.mono (fun j _ (e : j = m) hg => (h4 j hg).2 (Or.inl e))⟩
theorem Mid.facts {W : World} {gd : Nat → Prop} {b base m : Nat} {kv kw : Value} {o p : Nat → VOb} {wr : World} (h : Mid W gd b base m kv kw o p wr) : (∀ i, i < 64 → (o i).used = true → (o i).f.length ≤ 15) ∧ ∀ i, i < 64 → (o i).used = true → 0 ≤ (o i).k ∧ (o i).k < ks14.length ∧ (o i).f.length = (ks14.getD (o i).k.toNat []).length := by
  obtain ⟨F, Kd, G, h1, -⟩ := h.st
  exact ⟨fun i hi _ => h1.few i hi, h1.kin⟩
theorem Mid.hMake {W : World} {gd : Nat → Prop} {b base m : Nat} {kv kw : Value} {o p : Nat → VOb} {wr : World} (h : Mid W gd b base m kv kw o p wr) (k : Int) : Calls Try.prog 25 #[.pointer (some ⟨b, 0, none⟩), .int .i64 k] wr (MidPost W gd b base m kv kw (makeV ks14 o k).1 p wr (.tuple #[.int .i64 (makeV ks14 o k).2.1, .int .i64 (makeV ks14 o k).2.2])) := by
  obtain ⟨F, Kd, G, h1, h2, h3, h4⟩ := h.st
  exact (vh_Make h1 k).mono (fun e w' hh => ⟨hh.1, Mid.hop h1 h2 h3 h4 h.lo h.up hh.2.1 hh.2.2⟩)
theorem Mid.vMake {W : World} {gd : Nat → Prop} {b base m : Nat} {kv kw : Value} {o p : Nat → VOb} {wr : World} (h : Mid W gd b base m kv kw o p wr) (k : Int) : Calls Try.prog 70 #[.pointer (some ⟨m, 0, none⟩), .int .i64 k] wr (MidPost W gd b base m kv kw o (makeV ks14 p k).1 wr (.tuple #[.int .i64 (makeV ks14 p k).2.1, .int .i64 (makeV ks14 p k).2.2])) := by
  obtain ⟨F, Kd, G, h1, h2, h3, h4⟩ := h.st
  exact (vo_Make h2 k).mono (fun e w' hh => ⟨hh.1, Mid.vop h1 h3 h4 h.lo h.up hh.2.1 hh.2.2⟩)
theorem Mid.hSet {W : World} {gd : Nat → Prop} {b base m : Nat} {kv kw : Value} {o p : Nat → VOb} {wr : World} (h : Mid W gd b base m kv kw o p wr) (x j : Int) (v : Val) (hv : v.ok) : Calls Try.prog 32 #[.pointer (some ⟨b, 0, none⟩), .int .i64 x, .int .i64 j, v.v] wr (MidPost W gd b base m kv kw (setV ks14 o x j v).1 p wr (.int .i64 (setV ks14 o x j v).2)) := by
  obtain ⟨F, Kd, G, h1, h2, h3, h4⟩ := h.st
  exact (vh_Set h1 x j v hv).mono (fun e w' hh => ⟨hh.1, Mid.hrow h1 h2 h3 h4 h.lo h.up hh.2.1 hh.2.2⟩)
theorem Mid.vSet {W : World} {gd : Nat → Prop} {b base m : Nat} {kv kw : Value} {o p : Nat → VOb} {wr : World} (h : Mid W gd b base m kv kw o p wr) (x j : Int) (v : Val) (hv : v.ok) (f15 : ∀ i, i < 64 → (p i).used = true → (p i).f.length ≤ 15) (fk : ∀ i, i < 64 → (p i).used = true → 0 ≤ (p i).k ∧ (p i).k < ks14.length ∧ (p i).f.length = (ks14.getD (p i).k.toNat []).length) :
    Calls Try.prog 72 #[.pointer (some ⟨m, 0, none⟩), .int .i64 x, .int .i64 j, v.v] wr (MidPost W gd b base m kv kw o (setV ks14 p x j v).1 wr (.int .i64 (setV ks14 p x j v).2)) := by
  obtain ⟨F, Kd, G, h1, h2, h3, h4⟩ := h.st
  exact (vo_Set h2 x j v hv f15 fk).mono (fun e w' hh => ⟨hh.1, Mid.vop h1 h3 h4 h.lo h.up hh.2.1 hh.2.2⟩)
end Go.Proofs.Ytcnbcidbbeadcaa

/- A parameter that is calls, with what they keep. -/

namespace Go.Proofs.Ytcnbcidbbeadcaa
open Go.RowKit Go.Deep
set_option linter.unusedVariables false

/-- A slice of calls; fl: the numbers of their last field. -/
def Cals9 (w : World) (c : Value) (l : List Cal) (fl : Nat → List Int) : Prop := ∃ X : Nat → Nat → Value, RowsIn w c 9 l.length X ∧ ∀ i, i < l.length → X i 0 = .int .i64 (l.getD i noCal).d ∧ X i 1 = .int .i64 (l.getD i noCal).o ∧ X i 2 = .int .i64 (l.getD i noCal).f ∧ (∀ j, j < 5 → X i (3 + j) = (l.getD i noCal).v.cell j) ∧ IntsR w (X i 8) .i64 (fl i)
def CalsIn9 (w : World) (c : Value) (x : List Cal × (Nat → List Int)) : Prop := Cals9 w c x.1 x.2 ∧ ∀ y ∈ x.1, y.v.ok ∧ I64 y.d ∧ I64 y.o ∧ I64 y.f
theorem Cals9.shape {W : World} {v : Value} {l : List Cal} {fl : Nat → List Int} (h : Cals9 W v l fl) : ∃ a c, v = .slice a l.length c ∧ (l.length : Int) ≤ 9223372036854775807 := by
  obtain ⟨X, ⟨a, c, h1, h2, h3, -⟩, -⟩ := h
  exact ⟨a, c, h1, by unfold maxLen at h3; omega⟩
section
variable {H : Type} {enc : TypeId × Value → H} {spare : Nat → Bool} {held : Bool} {W : World} {ts : List TypeId} {ds : List (DataW H)} {v : Value} {d : DataW H} {ps : List MemPlace}
set_option maxRecDepth 100000 in
theorem cal9_of_cells {X : Nat → Value} {m : Nat} {y : DataW H × List MemPlace} (hy : DataW.trod enc Try.prog W 0 spare held m 54 ((List.range 9).map X) = some y) :
    ∃ c : Cal × List Int, (c.1.v.ok ∧ I64 c.1.d ∧ I64 c.1.o ∧ I64 c.1.f) ∧ X 0 = .int .i64 c.1.d ∧ X 1 = .int .i64 c.1.o ∧ X 2 = .int .i64 c.1.f ∧ (∀ j, j < 5 → X (3 + j) = c.1.v.cell j) ∧ IntsR W (X 8) .i64 c.2 := by
  obtain ⟨ys, n', _, _, _, hyl, hf⟩ := DataW.trod_struct Try.underlying54 hy
  have c1 : Try.prog.cellsOf 3 = 1 := by kernel_rfl
  have c5 : Try.prog.cellsOf 26 = 5 := by kernel_rfl
  have c8 : Try.prog.cellsOf 52 = 1 := by kernel_rfl
  have hyl : ys.length = 5 := hyl
  have g0 : DataW.trod enc Try.prog W 0 spare held n' 3 ((((List.range 9).map X).drop 0).take (Try.prog.cellsOf 3)) = ys[0]? := hf 0 _ rfl
  have g1 : DataW.trod enc Try.prog W 0 spare held n' 3 ((((List.range 9).map X).drop 1).take (Try.prog.cellsOf 3)) = ys[1]? := hf 1 _ rfl
  have g2 : DataW.trod enc Try.prog W 0 spare held n' 3 ((((List.range 9).map X).drop 2).take (Try.prog.cellsOf 3)) = ys[2]? := hf 2 _ rfl
  have g3 : DataW.trod enc Try.prog W 0 spare held n' 26 ((((List.range 9).map X).drop 3).take (Try.prog.cellsOf 26)) = ys[3]? := hf 3 _ rfl
  have g4 : DataW.trod enc Try.prog W 0 spare held n' 52 ((((List.range 9).map X).drop 8).take (Try.prog.cellsOf 52)) = ys[4]? := hf 4 _ rfl
  rw [List.getElem?_eq_getElem (by omega), c1] at g0 g1 g2
  rw [List.getElem?_eq_getElem (by omega), c5] at g3
  rw [List.getElem?_eq_getElem (by omega), c8] at g4
  change DataW.trod enc Try.prog W 0 spare held n' 3 [X 0] = _ at g0
  change DataW.trod enc Try.prog W 0 spare held n' 3 [X 1] = _ at g1
  change DataW.trod enc Try.prog W 0 spare held n' 3 [X 2] = _ at g2
  change DataW.trod enc Try.prog W 0 spare held n' 26 ((List.range 5).map (fun j => X (3 + j))) = _ at g3
  change DataW.trod enc Try.prog W 0 spare held n' 52 [X 8] = _ at g4
  obtain ⟨d0, e0, w0⟩ := int_of_trod Try.underlying3 g0
  obtain ⟨d1, e1, w1⟩ := int_of_trod Try.underlying3 g1
  obtain ⟨d2, e2, w2⟩ := int_of_trod Try.underlying3 g2
  obtain ⟨x, hx, hc⟩ := val_of_cells _ _ _ _ _ Try.underlying26 (by kernel_rfl) (by decide) rfl rfl rfl rfl rfl Try.underlying3 Try.underlying2 Try.underlying24 Try.underlying24 Try.underlying3 g3
  obtain ⟨xs, h8, -⟩ := ints_of_trod Try.underlying52 Try.underlying3 c1 g4
  exact ⟨(⟨d0, d1, d2, x⟩, xs), ⟨hx, wf_i64 w0, wf_i64 w1, wf_i64 w2⟩, e0, e1, e2, hc, h8.1⟩
set_option maxRecDepth 100000 in
theorem open_cals9 {r : Reach} {b0 : Nat} (hval : Value.okWide Try.prog W r b0 51 v) (h : DataW.Trod enc Try.prog W 0 spare held 51 v d ps) (hsz : (DataW.weightsEach Try.prog ts ds).all (· ≤ reachBytes) = true) (j : Nat) (htj : ts[j]? = some 51) (hdj : ds[j]? = some d) :
    ∃ x, CalsIn9 W v x := by
  obtain ⟨n, X, hR, hn, m, hi⟩ := open_rowsAt (bytes := 88) (size := 9) Try.underlying51 (by kernel_rfl) (by decide) (by kernel_rfl) hval h hsz j htj hdj
  have each : ∀ i, i < n → ∃ c : Cal × List Int, (c.1.v.ok ∧ I64 c.1.d ∧ I64 c.1.o ∧ I64 c.1.f) ∧ X i 0 = .int .i64 c.1.d ∧ X i 1 = .int .i64 c.1.o ∧ X i 2 = .int .i64 c.1.f ∧ (∀ j, j < 5 → X i (3 + j) = c.1.v.cell j) ∧ IntsR W (X i 8) .i64 c.2 := by
    intro i hil
    obtain ⟨y, hy⟩ := hi i hil
    exact cal9_of_cells hy
  obtain ⟨Z, hZ⟩ := choose_lt each
  have hg : ∀ i, i < n → ((List.range n).map (fun i => (Z i).1)).getD i noCal = (Z i).1 := fun i hi => by simp [List.getD, hi]
  refine ⟨((List.range n).map (fun i => (Z i).1), fun i => (Z i).2), ⟨X, ?_, ?_⟩, ?_⟩
  · show RowsIn _ _ _ ((List.range n).map (fun i => (Z i).1)).length _
    rw [List.length_map, List.length_range]
    exact hR
  · intro i hi
    have hi : i < ((List.range n).map (fun i => (Z i).1)).length := hi
    rw [List.length_map, List.length_range] at hi
    show X i 0 = .int .i64 (((List.range n).map (fun i => (Z i).1)).getD i noCal).d ∧ _
    rw [hg i hi]
    obtain ⟨-, q0, q1, q2, q3, q4⟩ := hZ i hi
    exact ⟨q0, q1, q2, q3, q4⟩
  · intro x hx
    have hx : x ∈ (List.range n).map (fun i => (Z i).1) := hx
    simp only [List.mem_map, List.mem_range] at hx
    obtain ⟨i, hi, rfl⟩ := hx
    exact (hZ i hi).1
end
theorem Cals9.at {W : World} {v : Value} {l : List Cal} {fl : Nat → List Int} (h : Cals9 W v l fl) {k : Nat} (hk : k < l.length) : ∃ b0 off fa fc, (∀ w', (Instr.indexAt 51 v (.int .i64 (k : Int))).run Try.prog w' = .ok (.pointer (some ⟨b0, off, none⟩)) w') ∧
    ∀ w', Upd (fun _ => False) W w' → w'.cell? ⟨b0, off, none⟩ = some (.int .i64 (l.getD k noCal).d) ∧ w'.cell? ⟨b0, off + 1, none⟩ = some (.int .i64 (l.getD k noCal).o) ∧ w'.cell? ⟨b0, off + 2, none⟩ = some (.int .i64 (l.getD k noCal).f) ∧
      w'.cell? ⟨b0, off + 3, none⟩ = some (.int .i64 (l.getD k noCal).v.k) ∧ w'.cell? ⟨b0, off + 4, none⟩ = some (.int .i64 (l.getD k noCal).v.n) ∧ w'.cell? ⟨b0, off + 5, none⟩ = some (.int .u64 ((l.getD k noCal).v.re : Int)) ∧ w'.cell? ⟨b0, off + 6, none⟩ = some (.int .u64 ((l.getD k noCal).v.im : Int)) ∧ w'.cell? ⟨b0, off + 7, none⟩ = some (.int .i64 (l.getD k noCal).v.r) ∧
      w'.cell? ⟨b0, off + 8, none⟩ = some (.slice fa (fl k).length fc) ∧ IntsR w' (.slice fa (fl k).length fc) .i64 (fl k) := by
  obtain ⟨X, hR, hX⟩ := h
  obtain ⟨b0, off, hix, hb0, hc⟩ := hR.index (P := Try.prog) Try.underlying51 (by kernel_rfl) (by kernel_rfl) hk
  obtain ⟨x0, x1, x2, x3, x8⟩ := hX k hk
  obtain ⟨fa, fc, hfe⟩ : ∃ fa fc, X k 8 = .slice fa (fl k).length fc := by
    obtain ⟨fa, fc, h1, -⟩ := x8
    exact ⟨fa, fc, h1⟩
  refine ⟨b0, off + k * 9, fa, fc, hix, fun w' u => ?_⟩
  have q := fun j hj => (u.none.cell (p := ⟨b0, off + k * 9 + j, none⟩) hb0).trans (hc j hj)
  refine ⟨by rw [← x0]; exact q 0 (by decide), by rw [← x1]; exact q 1 (by decide), by rw [← x2]; exact q 2 (by decide), (q 3 (by decide)).trans (congrArg some (x3 0 (by decide))), (q 4 (by decide)).trans (congrArg some (x3 1 (by decide))), (q 5 (by decide)).trans (congrArg some (x3 2 (by decide))), (q 6 (by decide)).trans (congrArg some (x3 3 (by decide))), (q 7 (by decide)).trans (congrArg some (x3 4 (by decide))), by rw [← hfe]; exact q 8 (by decide), by rw [← hfe]; exact ints_upd x8 u⟩
theorem CalsIn9.okAt {W : World} {v : Value} {x : List Cal × (Nat → List Int)} (h : CalsIn9 W v x) (k : Nat) : (x.1.getD k noCal).v.ok ∧ I64 (x.1.getD k noCal).f := by
  by_cases hk : k < x.1.length
  · have : x.1.getD k noCal = x.1[k] := by simp [List.getD, hk]
    rw [this]
    have := h.2 _ (List.getElem_mem hk)
    exact ⟨this.1, this.2.2.2⟩
  · have : x.1.getD k noCal = noCal := by simp [List.getD, hk]
    rw [this]
    exact ⟨zeroV_ok, by show I64 0; unfold I64; omega⟩
end Go.Proofs.Ytcnbcidbbeadcaa

/- A call to both: Make and Set. -/

namespace Go.Proofs.Ytcnbcidbbeadcaa
open Go.RowKit Go.Deep
set_option linter.unusedVariables false

/-- Both hold the same. -/
def Duo (W : World) (gd : Nat → Prop) (b base m : Nat) (kv kw : Value) (wr : World) : Prop := ∃ o, Mid W gd b base m kv kw o o wr ∧ KOk o
theorem Duo.still {W : World} {gd : Nat → Prop} {b base m : Nat} {kv kw : Value} {wr w' : World} (h : Duo W gd b base m kv kw wr) (u : Upd (fun _ => False) wr w') : Duo W gd b base m kv kw w' := by
  obtain ⟨o, h1, h2⟩ := h
  exact ⟨o, h1.still u, h2⟩
def DoPost (W : World) (gd : Nat → Prop) (b base m : Nat) (kv kw : Value) (wr : World) (e : Ending) (w' : World) : Prop := e = .returned (.bool true) ∧ Duo W gd b base m kv kw w' ∧ Upd (fun j => ¬ gd j) wr w'
/-- A box is made; then it is forgotten. -/
theorem do_fin {W : World} {gd : Nat → Prop} {b base m : Nat} {kv kw : Value} {wr w1 w2 : World} {g : Nat} (hg : ∀ j, gd j → j < wr.heap.size) (h : Duo W (fun j => gd j ∨ j = wr.heap.size) b base m kv kw w2) (u1 : Upd (fun _ => False) wr w1) (u2 : Upd (fun j => ¬ (gd j ∨ j = wr.heap.size)) w1 w2) : DoPost W gd b base m kv kw wr (.returned (.bool true)) w2 := by
  obtain ⟨o, h1, h2⟩ := h
  exact ⟨rfl, ⟨o, h1.guard (Upd.refl _ _) (fun g hh => Or.inl (Or.inl hh)), h2⟩, (u1.mono (fun _ _ x => x.elim)).trans (u2.mono (fun j _ e hh => e (Or.inl hh)))⟩
theorem Mid.lt {W : World} {gd : Nat → Prop} {b base m : Nat} {kv kw : Value} {o p : Nat → VOb} {wr : World} (h : Mid W gd b base m kv kw o p wr) : ∀ j, gd j → j < wr.heap.size := by
  obtain ⟨F, Kd, G, h1, h2, h3, h4⟩ := h.st
  exact fun j hj => (h4 j hj).1
set_option maxRecDepth 100000 in
set_option maxHeartbeats 4000000 in
theorem do_Make {W : World} {gd : Nat → Prop} {b base m : Nat} {kv kw : Value} {wr : World} (h : Duo W gd b base m kv kw wr) (co cf xk xn : Int) (xre xim : Nat) (xr : Int) (fa : Option Addr) (fn fc : Nat) :
    Calls Try.prog 42 #[.pointer (some ⟨b, 0, none⟩), .pointer (some ⟨m, 0, none⟩), (.agg #[.int .i64 0, .int .i64 co, .int .i64 cf, .int .i64 xk, .int .i64 xn, .int .u64 (xre : Int), .int .u64 (xim : Int), .int .i64 xr, .slice fa fn fc])] wr (DoPost W gd b base m kv kw wr) := by
  obtain ⟨o, h1, hk⟩ := h
  have hu : Upd (fun _ => False) wr (wr.alloc (.cells #[.int .i64 0, .int .i64 co, .int .i64 cf, .int .i64 xk, .int .i64 xn, .int .u64 (xre : Int), .int .u64 (xim : Int), .int .i64 xr, .slice fa fn fc] 54)) := (Upd.refl _ _).alloc _
  have hB := Lib.hid (Blk.new wr [.int .i64 0, .int .i64 co, .int .i64 cf, .int .i64 xk, .int .i64 xn, .int .u64 (xre : Int), .int .u64 (xim : Int), .int .i64 xr, .slice fa fn fc] 54)
  have hlt := h1.lt
  have hG : Mid W (fun j => gd j ∨ j = wr.heap.size) b base m kv kw o o (wr.alloc (.cells #[.int .i64 0, .int .i64 co, .int .i64 cf, .int .i64 xk, .int .i64 xn, .int .u64 (xre : Int), .int .u64 (xim : Int), .int .i64 xr, .slice fa fn fc] 54)) := h1.guard hu (fun g hh => by
    rcases hh with hh | hh
    · exact Or.inl hh
    · exact Or.inr ⟨by omega, by subst hh; simp⟩)
  have hH := hG.hMake cf
  have hV := fun w' (h : Mid W (fun j => gd j ∨ j = wr.heap.size) b base m kv kw (makeV ks14 o cf).1 o w') => h.vMake cf
  have hk2 := Lib.hid (hk.make ks14 cf)
  generalize makeV ks14 o cf = r at *
  obtain ⟨o', r1, r2⟩ := r
  simp only at hH hV
  have fin := Lib.hid (fun w2 (h : Mid W (fun j => gd j ∨ j = wr.heap.size) b base m kv kw o' o' w2) u2 => do_fin (g := 0) hlt (show Duo W (fun j => gd j ∨ j = wr.heap.size) b base m kv kw w2 from ⟨o', h, hk2.out⟩) hu u2)
  have HhH := Lib.hid hH; clear hH
  have HhV := Lib.hid hV; clear hV
  clear h1 hk hu hG
  go_enter Try.func42, Try.ntmps42
  go_wp2_with (first
    | (go_at_call 25; (with_reducible refine HhH.out.mono ?_); rintro e w2 ⟨rfl, h2, hu2⟩; have hT := hB.out.upd hu2 (fun e => e (Or.inr rfl)); have c0 := hT.cell 0 rfl; have c1 := hT.cell 1 rfl; have c2 := hT.cell 2 rfl; have c3 := hT.cell 3 rfl; have c4 := hT.cell 4 rfl; have c5 := hT.cell 5 rfl; have c6 := hT.cell 6 rfl; have c7 := hT.cell 7 rfl; have c8 := hT.cell 8 rfl; have Hu2 := Lib.hid hu2; have V2 := Lib.hid (HhV.out w2 h2); clear hT hu2 h2)
    | (go_at_call 70; (with_reducible refine V2.out.mono ?_); rintro e w3 ⟨rfl, h3, hu3⟩; have H3 := Lib.hid (fin.out w3 h3 (Hu2.out.trans hu3)); clear h3 hu3))
  go_ret
  exact H3.out
set_option maxRecDepth 100000 in
set_option maxHeartbeats 4000000 in
theorem do_Set {W : World} {gd : Nat → Prop} {b base m : Nat} {kv kw : Value} {wr : World} (h : Duo W gd b base m kv kw wr) (co cf xk xn : Int) (xre xim : Nat) (xr : Int) (hv : (⟨xk, xn, xre, xim, xr⟩ : Val).ok) (fa : Option Addr) (fn fc : Nat) :
    Calls Try.prog 42 #[.pointer (some ⟨b, 0, none⟩), .pointer (some ⟨m, 0, none⟩), (.agg #[.int .i64 2, .int .i64 co, .int .i64 cf, .int .i64 xk, .int .i64 xn, .int .u64 (xre : Int), .int .u64 (xim : Int), .int .i64 xr, .slice fa fn fc])] wr (DoPost W gd b base m kv kw wr) := by
  obtain ⟨o, h1, hk⟩ := h
  have hu : Upd (fun _ => False) wr (wr.alloc (.cells #[.int .i64 2, .int .i64 co, .int .i64 cf, .int .i64 xk, .int .i64 xn, .int .u64 (xre : Int), .int .u64 (xim : Int), .int .i64 xr, .slice fa fn fc] 54)) := (Upd.refl _ _).alloc _
  have hB := Lib.hid (Blk.new wr [.int .i64 2, .int .i64 co, .int .i64 cf, .int .i64 xk, .int .i64 xn, .int .u64 (xre : Int), .int .u64 (xim : Int), .int .i64 xr, .slice fa fn fc] 54)
  have hlt := h1.lt
  obtain ⟨f15, fk⟩ := h1.facts
  have hG : Mid W (fun j => gd j ∨ j = wr.heap.size) b base m kv kw o o (wr.alloc (.cells #[.int .i64 2, .int .i64 co, .int .i64 cf, .int .i64 xk, .int .i64 xn, .int .u64 (xre : Int), .int .u64 (xim : Int), .int .i64 xr, .slice fa fn fc] 54)) := h1.guard hu (fun g hh => by
    rcases hh with hh | hh
    · exact Or.inl hh
    · exact Or.inr ⟨by omega, by subst hh; simp⟩)
  have hH := fun w' (u : Upd (fun _ => False) (wr.alloc (.cells #[.int .i64 2, .int .i64 co, .int .i64 cf, .int .i64 xk, .int .i64 xn, .int .u64 (xre : Int), .int .u64 (xim : Int), .int .i64 xr, .slice fa fn fc] 54)) w') => (hG.still u).hSet co cf ⟨xk, xn, xre, xim, xr⟩ hv
  have hV := fun w' (h : Mid W (fun j => gd j ∨ j = wr.heap.size) b base m kv kw (setV ks14 o co cf ⟨xk, xn, xre, xim, xr⟩).1 o w') => h.vSet co cf ⟨xk, xn, xre, xim, xr⟩ hv f15 fk
  have hk2 := Lib.hid (hk.set ks14 co cf ⟨xk, xn, xre, xim, xr⟩)
  generalize setV ks14 o co cf ⟨xk, xn, xre, xim, xr⟩ = r at *
  obtain ⟨o', r1⟩ := r
  simp only at hH hV
  have fin := Lib.hid (fun w2 (h : Mid W (fun j => gd j ∨ j = wr.heap.size) b base m kv kw o' o' w2) u2 => do_fin (g := 0) hlt (show Duo W (fun j => gd j ∨ j = wr.heap.size) b base m kv kw w2 from ⟨o', h, hk2.out⟩) hu u2)
  have hH := Lib.hid (show ∀ w', Upd (fun _ => False) (wr.alloc (.cells #[.int .i64 2, .int .i64 co, .int .i64 cf, .int .i64 xk, .int .i64 xn, .int .u64 (xre : Int), .int .u64 (xim : Int), .int .i64 xr, .slice fa fn fc] 54)) w' → Calls Try.prog 32 #[.pointer (some ⟨b, 0, none⟩), .int .i64 co, .int .i64 cf, .agg #[.int .i64 xk, .int .i64 xn, .int .u64 (xre : Int), .int .u64 (xim : Int), .int .i64 xr]] w' (MidPost W (fun j => gd j ∨ j = wr.heap.size) b base m kv kw o' o w' (.int .i64 r1)) from hH)
  have hV := Lib.hid (show ∀ w', Mid W (fun j => gd j ∨ j = wr.heap.size) b base m kv kw o' o w' → Calls Try.prog 72 #[.pointer (some ⟨m, 0, none⟩), .int .i64 co, .int .i64 cf, .agg #[.int .i64 xk, .int .i64 xn, .int .u64 (xre : Int), .int .u64 (xim : Int), .int .i64 xr]] w' (MidPost W (fun j => gd j ∨ j = wr.heap.size) b base m kv kw o' o' w' (.int .i64 r1)) from hV)
  have huD := Lib.hid (fun nq w' (u : Upd (fun j => ¬ (gd j ∨ j = wr.heap.size)) ((wr.alloc (.cells #[.int .i64 2, .int .i64 co, .int .i64 cf, .int .i64 xk, .int .i64 xn, .int .u64 (xre : Int), .int .u64 (xim : Int), .int .i64 xr, .slice fa fn fc] 54)).drewN nq) w') => show Upd (fun j => ¬ (gd j ∨ j = wr.heap.size)) (wr.alloc (.cells #[.int .i64 2, .int .i64 co, .int .i64 cf, .int .i64 xk, .int .i64 xn, .int .u64 (xre : Int), .int .u64 (xim : Int), .int .i64 xr, .slice fa fn fc] 54)) w' from ((Upd.refl _ _).drewN nq).trans u)
  have e0 : (r1 == r1) = true := by simp
  clear h1 hk hu hG f15 fk
  go_enter Try.func42, Try.ntmps42
  have k1 := hB.out.cell 1 rfl
  have k2 := hB.out.cell 2 rfl
  have k3 := hB.out.cell 3 rfl
  have k4 := hB.out.cell 4 rfl
  have k5 := hB.out.cell 5 rfl
  have k6 := hB.out.cell 6 rfl
  have k7 := hB.out.cell 7 rfl
  go_wp2_with fail
  refine wp_hide (fun Q2 hQ2 => ?_)
  go_region_held3 (fun w' => w'.cell? ⟨wr.heap.size, 1, none⟩ = some (.int .i64 co) ∧ w'.cell? ⟨wr.heap.size, 2, none⟩ = some (.int .i64 cf) ∧ w'.cell? ⟨wr.heap.size, 3, none⟩ = some (.int .i64 xk) ∧ w'.cell? ⟨wr.heap.size, 4, none⟩ = some (.int .i64 xn) ∧ w'.cell? ⟨wr.heap.size, 5, none⟩ = some (.int .u64 (xre : Int)) ∧ w'.cell? ⟨wr.heap.size, 6, none⟩ = some (.int .u64 (xim : Int)) ∧ w'.cell? ⟨wr.heap.size, 7, none⟩ = some (.int .i64 xr))
    (((try go_split_ands); exact ⟨by first | assumption | simpa using k1, by first | assumption | simpa using k2, by first | assumption | simpa using k3, by first | assumption | simpa using k4, by first | assumption | simpa using k5, by first | assumption | simpa using k6, by first | assumption | simpa using k7⟩))
    (((try go_split_ands); first
      | (go_at_call 32; (with_reducible refine (hH.out _ (by first | exact (Upd.refl _ _) | exact (Upd.refl _ _).drew | exact (Upd.refl _ _).drewN _)).mono ?_); rintro e w2 ⟨rfl, h2, hu2⟩; have hu2b := huD.out _ w2 hu2; have hT := hB.out.upd hu2b (fun e => e (Or.inr rfl)); have c1 := hT.cell 1 rfl; have c2 := hT.cell 2 rfl; have c3 := hT.cell 3 rfl; have c4 := hT.cell 4 rfl; have c5 := hT.cell 5 rfl; have c6 := hT.cell 6 rfl; have c7 := hT.cell 7 rfl; have HT2 := Lib.hid hT; have Hu2 := Lib.hid hu2b; have V2 := Lib.hid (hV.out _ h2); clear hT hu2 hu2b h2)
      | (go_at_call 72; (with_reducible refine V2.out.mono ?_); rintro e w3 ⟨rfl, h3, hu3⟩; have H3 := Lib.hid (fin.out w3 h3 (Hu2.out.trans hu3)); have hT3 := HT2.out.upd hu3 (fun e => e (Or.inr rfl)); have d1 := hT3.cell 1 rfl; have d2 := hT3.cell 2 rfl; have d3 := hT3.cell 3 rfl; have d4 := hT3.cell 4 rfl; have d5 := hT3.cell 5 rfl; have d6 := hT3.cell 6 rfl; have d7 := hT3.cell 7 rfl; clear hT3 h3 hu3)))
  all_goals
    rw [hQ2.out]
    go_wp2_with fail
    go_ret
    exact H3.out
end Go.Proofs.Ytcnbcidbbeadcaa

