/- Calls to both that look only; append onto a row. -/
import Derived.Test.YtcnbcidbbeadcaaVoG
-- merged


namespace Go.Proofs.Ytcnbcidbbeadcaa
open Go.RowKit Go.Deep
set_option linter.unusedVariables false

section
variable {W : World} {gd : Nat → Prop} {b base m : Nat} {kv kw : Value} {o p : Nat → VOb} {wr : World}
theorem Mid.vAt (h : Mid W gd b base m kv kw o p wr) (x : Int) : Calls Try.prog 45 #[.pointer (some ⟨m, 0, none⟩), .int .i64 x] wr (Same wr (.int .i64 (atV p x))) := by
  obtain ⟨F, Kd, G, h1, h2, -, -⟩ := h.st
  exact vo_At h2 x
theorem Mid.vRefs (h : Mid W gd b base m kv kw o p wr) (f15 : ∀ i, i < 64 → (p i).used = true → (p i).f.length ≤ 15) (x : Int) : Calls Try.prog 46 #[.pointer (some ⟨m, 0, none⟩), .int .i64 x] wr (RetNums wr (refsV p x)) := by
  obtain ⟨F, Kd, G, h1, h2, -, -⟩ := h.st
  exact vo_Refs h2 x f15
theorem Mid.hAll (h : Mid W gd b base m kv kw o p wr) : Calls Try.prog 33 #[.pointer (some ⟨b, 0, none⟩)] wr (RetNums wr (allV o)) := by
  obtain ⟨F, Kd, G, h1, h2, -, -⟩ := h.st
  exact vh_All h1
theorem Mid.hLen (h : Mid W gd b base m kv kw o p wr) : Calls Try.prog 27 #[.pointer (some ⟨b, 0, none⟩)] wr (RetU wr (.int .i64 ((allV o).length : Int))) := by
  obtain ⟨F, Kd, G, h1, h2, -, -⟩ := h.st
  exact vh_Len h1
theorem Mid.hKind (h : Mid W gd b base m kv kw o p wr) (x : Int) : Calls Try.prog 39 #[.pointer (some ⟨b, 0, none⟩), .int .i64 x] wr (RetU wr (.tuple #[.int .i64 (kindV o x).1, .int .i64 (kindV o x).2])) := by
  obtain ⟨F, Kd, G, h1, h2, -, -⟩ := h.st
  exact vh_Kind h1 x
theorem Mid.hGet (h : Mid W gd b base m kv kw o p wr) (x j : Int) : Calls Try.prog 35 #[.pointer (some ⟨b, 0, none⟩), .int .i64 x, .int .i64 j] wr (RetU wr (.tuple #[(getV o x j).1.v, .int .i64 (getV o x j).2])) := by
  obtain ⟨F, Kd, G, h1, h2, -, -⟩ := h.st
  exact vh_Get h1 x j
theorem Mid.hKeep (h : Mid W gd b base m kv kw o p wr) (v : Value) (l : List Int) (hl : IntsR wr v .i64 l) : Calls Try.prog 44 #[.pointer (some ⟨b, 0, none⟩), v] wr (MidPost W gd b base m kv kw (dropV o (keepV o l) 64) p wr (.int .i64 (goneTo o (keepV o l) 64 : Int))) := by
  obtain ⟨F, Kd, G, h1, h2, h3, h4⟩ := h.st
  exact (vh_Keep h1 v l hl).mono (fun e w' hh => ⟨hh.1, Mid.hop h1 h2 h3 h4 h.lo h.up hh.2.1 hh.2.2⟩)
theorem Mid.vRow (h : Mid W gd b base m kv kw o p wr) (i : Nat) (hi : i < 64) (hu : (p i).used = true) : ∃ ga gc, wr.cell? ⟨m, 129 + i, none⟩ = some (.slice ga (p i).f.length gc) ∧ ValsR wr (.slice ga (p i).f.length gc) (p i).f := by
  obtain ⟨F, Kd, G, h1, h2, -, -⟩ := h.st
  have hv := h2.row i hi hu wr (Upd.refl _ _)
  obtain ⟨ga, gc, he⟩ : ∃ ga gc, G i = .slice ga (p i).f.length gc := by
    obtain ⟨ga, gc, h3, -⟩ := hv
    exact ⟨ga, gc, h3⟩
  rw [he] at hv
  exact ⟨ga, gc, by rw [← he]; exact (h2.cell i hi).2.2.2, hv⟩
theorem Mid.refs15 (h : Mid W gd b base m kv kw o p wr) (x : Int) : (refsV o x).length ≤ 15 := by
  obtain ⟨F, Kd, G, h1, h2, -, -⟩ := h.st
  unfold refsV
  split
  · simp
  · rename_i i hi
    have := h1.few i (findV_some hi).1
    have := refsTo5_len (o i).f
    omega
theorem Mid.refsI (h : Mid W gd b base m kv kw o p wr) (x : Int) : ∀ y ∈ refsV o x, I64 y := by
  obtain ⟨F, Kd, G, h1, h2, -, -⟩ := h.st
  unfold refsV
  split
  · intro y hy; simp at hy
  · rename_i i hi
    exact refsTo5_i64 (h1.ok i (findV_some hi).1)
end
/-- The law's search in memory. -/
structure SrSt (wq w5 : World) (bm : Nat) (o : Nat → VOb) (fs : List Int) (k : Nat) (row S : List Int) (rv : Value) (wr : World) : Prop where
  ks : KSet wr bm S
  own : wr.ownsRow (bm + 1) 3 1 rv row.length (ints row)
  inv : SInv o fs k row S
  i64 : ∀ x ∈ row, I64 x
  lo : wq.heap.size ≤ bm
  up : Upd (fun _ => False) wq wr
  up2 : Upd (fun j => bm ≤ j) w5 wr
theorem SrSt.pass {wq w5 : World} {bm : Nat} {o : Nat → VOb} {fs : List Int} {k : Nat} {row S : List Int} {rv : Value} {wr : World} (h : SrSt wq w5 bm o fs k row S rv wr) (hk : k < row.length) (hc : row.getD k 0 ∈ S ∨ (findV o (row.getD k 0)).isSome = false) : SrSt wq w5 bm o fs (k + 1) row S rv wr :=
  ⟨h.ks, h.own, h.inv.pass hk hc, h.i64, h.lo, h.up, h.up2⟩
theorem SrSt.take {wq w5 : World} {bm : Nat} {o : Nat → VOb} {fs : List Int} {k : Nat} {row S : List Int} {rv : Value} {wr w7 w8 w9 : World} (h : SrSt wq w5 bm o fs k row S rv wr) (r15 : ∀ x, (refsV o x).length ≤ 15) (r64 : ∀ x, ∀ y ∈ refsV o x, I64 y) (hk : k < row.length) (hn : row.getD k 0 ∉ S) (hu : (findV o (row.getD k 0)).isSome = true)
    (hk7 : KSet w7 bm (row.getD k 0 :: S)) (u7 : Upd (fun j => j = bm) wr w7) (u8 : Upd (fun _ => False) w7 w8) {a' : Option Addr} {c' : Nat}
    (ho9 : w9.ownsRow (bm + 1) 3 1 (.slice a' (row.length + (refsV o (row.getD k 0)).length) c') (row.length + (refsV o (row.getD k 0)).length) (ints row ++ (refsV o (row.getD k 0)).map (Value.int .i64))) (hg9 : w8.grownBy w9 rv.ownBlock) :
    SrSt wq w5 bm o fs (k + 1) (row ++ refsV o (row.getD k 0)) (row.getD k 0 :: S) (.slice a' (row ++ refsV o (row.getD k 0)).length c') w9 := by
  have hlo := h.lo
  have u9 : Upd (fun j => bm < j) w8 w9 := (Upd.refl _ _).grown hg9 (fun j e _ => by have := (h.own.lt j e).1; omega)
  refine ⟨(hk7.upd u8 (fun x => x)).upd u9 (fun (x : bm < bm) => by omega), ?_, h.inv.take r15 hk hn hu, fun x hx => ?_, h.lo, ((h.up.own u7 (fun j (e : j = bm) => by omega)).trans u8).own u9 (fun j (e : bm < j) => by omega), ((h.up2.trans (u7.mono (fun j _ (e : j = bm) => by omega))).trans (u8.mono (fun _ _ x => x.elim))).trans (u9.mono (fun j _ (e : bm < j) => by omega))⟩
  · rw [List.length_append]
    have : ints (row ++ refsV o (row.getD k 0)) = ints row ++ (refsV o (row.getD k 0)).map (Value.int .i64) := by simp [ints]
    rw [this]
    exact ho9
  · rcases List.mem_append.1 hx with hx | hx
    · exact h.i64 x hx
    · exact r64 _ x hx
end Go.Proofs.Ytcnbcidbbeadcaa

/- What the law asks of the objects when those that are not reached are gone. -/

namespace Go.Proofs.Ytcnbcidbbeadcaa
open Go.ChangeShapes Go.WideShapes Go.ChangeAt Go.RowKit Go.Deep
set_option linter.unusedVariables false

theorem all_at (o : Nat → VOb) (n : Nat) (hn : n < (allV o).length) : ∃ i, i < 64 ∧ (o i).used = true ∧ findV o ((allV o).getD n 0) = some i := by
  have hm : (allV o).getD n 0 ∈ allTo o 64 := by
    have : (allV o).getD n 0 = (allV o)[n] := by simp [List.getD, hn]
    rw [this]
    exact List.getElem_mem hn
  obtain ⟨i, hi, hu, hx⟩ := (allTo_mem o 64 _).1 hm
  refine ⟨i, hi, hu, ?_⟩
  rw [hx, findV_place o i hi, if_pos hu]
theorem drop_gone {o : Nat → VOb} {K : List Int} {x : Int} {i : Nat} (hf : findV o x = some i) (hx : x ∉ K) : kindV (dropV o K 64) x = (0, 2) := by
  obtain ⟨hi, hu, rfl⟩ := findV_some hf
  have e : dropV o K 64 i = noOb := by unfold dropV; rw [if_pos ⟨hi, hu, hx⟩]
  unfold kindV
  rw [findV_place _ i hi, e, if_neg (by decide)]
theorem drop_kept {o : Nat → VOb} {K : List Int} {x : Int} {i : Nat} (hf : findV o x = some i) (hx : x ∈ K) (n : Nat) (hn : n < (o i).f.length) : getV (dropV o K 64) x (n : Int) = ((o i).f.getD n zeroV, 0) := by
  obtain ⟨hi, hu, rfl⟩ := findV_some hf
  have e : dropV o K 64 i = o i := by unfold dropV; rw [if_neg (fun h => h.2.2 hx)]
  unfold getV
  rw [findV_place _ i hi, e, if_pos hu]
  simp only
  rw [e, if_neg (by omega)]
  simp
/-- The heap behind Keep, with the law's map and what was there before. -/
structure KlSt (W : World) (gd : Nat → Prop) (b base m : Nat) (kv kw : Value) (o : Nat → VOb) (K S : List Int) (bm : Nat) (bv : Value) (wr : World) : Prop where
  mid : Mid W gd b base m kv kw (dropV o K 64) o wr
  ks : KSet wr bm S
  bf : IntsR wr bv .i64 (allV o)
theorem KlSt.still {W : World} {gd : Nat → Prop} {b base m : Nat} {kv kw : Value} {o : Nat → VOb} {K S : List Int} {bm : Nat} {bv : Value} {wr w' : World} (h : KlSt W gd b base m kv kw o K S bm bv wr) (u : Upd (fun _ => False) wr w') : KlSt W gd b base m kv kw o K S bm bv w' :=
  ⟨h.mid.still u, h.ks.upd u (fun x => x), ints_upd h.bf u⟩
theorem SrSt.kp {wq w5 w5b wr w7 : World} {bm : Nat} {o : Nat → VOb} {fs row S : List Int} {k : Nat} {rv : Value} (h : SrSt wq w5b bm o fs k row S rv wr) {W : World} {b base m : Nat} {kv kw : Value} {K : List Int} {ba : Option Addr} {bc : Nat}
    (hb : w5.heap.size = bm) (u5 : Upd (fun _ => False) w5 w5b) (ho : w5.ownsRow wq.heap.size 3 1 (.slice ba (allV o).length bc) (allV o).length (ints (allV o)))
    (hm : Mid W (fun g => wq.heap.size ≤ g ∧ g < wr.heap.size) b base m kv kw (dropV o K 64) o w7) (u : Upd (fun j => ¬ (wq.heap.size ≤ j ∧ j < wr.heap.size)) wr w7) :
    KlSt W (fun g => wq.heap.size ≤ g ∧ g < wr.heap.size) b base m kv kw o K S bm (.slice ba (allV o).length bc) w7 := by
  have hlt := h.ks.lt
  have hlo := h.lo
  have u2 : Upd (fun _ => False) w5 wr := u5.own h.up2 (fun j (e : bm ≤ j) => by omega)
  have ho1 := ownsRow_upd ho u2 (fun _ _ x => x)
  have ho2 := ownsRow_upd ho1 (u.mono (fun j hj (e : ¬ (wq.heap.size ≤ j ∧ j < wr.heap.size)) => show j < wq.heap.size by omega)) (fun j hj (e : j < wq.heap.size) => by omega)
  exact ⟨hm, h.ks.upd u (fun e => e ⟨hlo, hlt⟩), ownsRow_intsR ho2⟩
theorem KSet.runLen {w : World} {bm : Nat} {S : List Int} (h : KSet w bm S) (ty : TypeId) : (Builtin.len_ #[81] ty #[.map (some bm)]).run Try.prog w = .ok (.int .i64 (S.length : Int)) w := by
  obtain ⟨n, D, h0, h1, h2, h3, h4, h5⟩ := h
  have := h1.len Try.underlying81 ty
  rw [h5] at this
  exact this
end Go.Proofs.Ytcnbcidbbeadcaa

