/- A heap whose pointer lies in a cell, and a value beside it. -/
import Derived.Test.YtcnbcidbbeadcaaVhSc
namespace Go.Proofs.Ytcnbcidbbeadcaa
open Go.RowKit Go.Deep
set_option linter.unusedVariables false

theorem IsVh.rebase {w : World} {b base base' : Nat} {ks : List (List Int)} {kv : Value} (h : IsVh w b base ks (fun _ => noOb) kv (fun _ => .slice none 0 0)) (h1 : base ≤ base') (h2 : base' ≤ w.heap.size) : IsVh w b base' ks (fun _ => noOb) kv (fun _ => .slice none 0 0) :=
  ⟨h.blk, by have := h.low; omega, h2, fun w' u => h.kinds w' (u.mono (fun j _ e => by omega)), fun i hi => World.ownsRow_nil _ _ _ _, fun i j _ _ _ g e => (by cases e), fun _ _ _ => rfl, fun i hi x hx => (by simp [noOb] at hx), fun i hi => (by simp [noOb]), fun i hi h => (by cases h)⟩
structure BxSt (W : World) (b base bv bh : Nat) (kv : Value) (vc : List Value) (wr : World) : Prop where
  st : CaSt W b base kv wr
  bx : wr.cell? ⟨bh, 0, none⟩ = some (.pointer (some ⟨b, 0, none⟩))
  bb : Blk wr bv vc 26
  ne : bv ≠ b ∧ bh ≠ b ∧ bv < base ∧ bh < base ∧ W.heap.size ≤ b ∧ b < base
theorem BxSt.still {W : World} {b base bv bh : Nat} {kv : Value} {vc : List Value} {wr w' : World} (h : BxSt W b base bv bh kv vc wr) (u : Upd (fun _ => False) wr w') : BxSt W b base bv bh kv vc w' :=
  ⟨h.st.still u, (World.cell?_of_block (a := ⟨bh, 0, none⟩) (u.block bh (World.block_lt_of_cell? _ _ h.bx) (fun x => x))).trans h.bx, h.bb.upd u (fun x => x), h.ne⟩
theorem BxSt.move {W : World} {b base bv bh : Nat} {kv : Value} {vc : List Value} {wr w' : World} (h : BxSt W b base bv bh kv vc wr) (hs : CaSt W b base kv w') (u : Upd (fun j => j = b ∨ base ≤ j) wr w') : BxSt W b base bv bh kv vc w' := by
  obtain ⟨n1, n2, n3, n4, -⟩ := h.ne
  exact ⟨hs, (World.cell?_of_block (a := ⟨bh, 0, none⟩) (u.block bh (World.block_lt_of_cell? _ _ h.bx) (fun (x : bh = b ∨ base ≤ bh) => by omega))).trans h.bx, h.bb.upd u (fun (x : bv = b ∨ base ≤ bv) => by omega), h.ne⟩
theorem BxSt.make {W : World} {b base bv bh : Nat} {kv : Value} {vc : List Value} {wr : World} (h : BxSt W b base bv bh kv vc wr) (k : Int) : Calls Try.prog 25 #[.pointer (some ⟨b, 0, none⟩), .int .i64 k] wr (fun e w' => ∃ m n : Int, e = .returned (.tuple #[.int .i64 m, .int .i64 n]) ∧ BxSt W b base bv bh kv vc w') := by
  obtain ⟨o, ho, hk⟩ := h.st.st
  obtain ⟨F, hp⟩ := ho.hp
  exact (vh_Make hp k).mono (fun e w' hh => ⟨_, _, hh.1, h.move ⟨_, ho.next hh.2.1 hh.2.2, hk.make ks14 k⟩ (hh.2.2.mono (fun _ _ e => Or.inl e))⟩)
theorem BxSt.set {W : World} {b base bv bh : Nat} {kv : Value} {vc : List Value} {wr : World} (h : BxSt W b base bv bh kv vc wr) (x j : Int) (v : Val) (hv : v.ok) : Calls Try.prog 32 #[.pointer (some ⟨b, 0, none⟩), .int .i64 x, .int .i64 j, v.v] wr (fun e w' => ∃ n : Int, e = .returned (.int .i64 n) ∧ BxSt W b base bv bh kv vc w') := by
  obtain ⟨o, ho, hk⟩ := h.st.st
  obtain ⟨F, hp⟩ := ho.hp
  refine (vh_Set hp x j v hv).mono (fun e w' hh => ?_)
  have u : Upd (fun j => base ≤ j) wr w' := hh.2.2.mono (fun j hj e => by obtain ⟨i, hi, e⟩ := e; exact ((hp.row i hi).lt j e).1)
  exact ⟨_, hh.1, h.move ⟨_, ho.next2 ⟨F, hh.2.1⟩ u, hk.set ks14 x j v⟩ (u.mono (fun _ _ e => Or.inr e))⟩
/-- A new heap, and its pointer in a cell of its own. -/
theorem BxSt.new {W w1 : World} {v : Value} {bv : Nat} {vc : List Value} (hm : MatIn w1 v ks14) (hu : Upd (fun _ => False) W w1) (hb : Blk w1 bv vc 26) : Calls Try.prog 23 #[v] w1 (fun e w' => ∃ b base kv, e = .returned (.pointer (some ⟨b, 0, none⟩)) ∧ BxSt W b base bv w'.heap.size kv vc (w'.alloc (.cells #[.pointer (some ⟨b, 0, none⟩)] 39))) := by
  refine (vh_New v ks14 w1 hm (by decide) (by decide)).mono (fun e w' hh => ?_)
  obtain ⟨b, base, kv, h1, h2, h3, h4⟩ := hh
  have ha : Upd (fun _ => False) w' (w'.alloc (.cells #[.pointer (some ⟨b, 0, none⟩)] 39)) := (Upd.refl _ _).alloc _
  have hbl := hb.lt
  have hlt := h3.blk.lt
  have hlow := h3.low
  have hsz := h4.size
  have hbs := h3.size
  have hus := hu.size
  refine ⟨b, (w'.alloc (.cells #[.pointer (some ⟨b, 0, none⟩)] 39)).heap.size, kv, h1, ⟨⟨no14, ⟨⟨_, (h3.still ha).rebase (by simp; omega) (Nat.le_refl _)⟩, by omega, (hu.trans h4).trans ha⟩, KOk.no⟩, (Blk.new w' [.pointer (some ⟨b, 0, none⟩)] 39).cell 0 rfl, (hb.upd h4 (fun x => x)).upd ha (fun x => x), by omega, by omega, ?_, ?_, by omega, ?_⟩⟩
  · simp; omega
  · simp
  · simp; omega
end Go.Proofs.Ytcnbcidbbeadcaa
