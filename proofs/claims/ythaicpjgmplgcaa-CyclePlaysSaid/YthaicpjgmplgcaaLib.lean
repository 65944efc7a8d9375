/-
  General words of these proofs: what a call may have turned in memory ('Upd'), a block of cells known whole ('Blk'), a drawn region whose tail is forced.
-/
import Derived.WalkKit
import Derived.ProofKit
import Derived.OpenShut
import Derived.Deep.QuietTactic
import Derived.BigQuiet
import Derived.StillTailTactics
import Derived.Lib.Hide
import Derived.ScopeJumps
namespace Go.Proofs.Ythaicpjgmplgcaa
open Go.RowKit

theorem wp_region_st {P : Program} {id : Nat} {Q : Exit → Act → World → Prop} {a : Act} {w : World} {l : List Oper} (n : Nat) (hm : P.follows .mixedOrders = true) (hB : Region.lexTailB .any l.toArray n = true)
    (h : wpStill P l.toArray w.drew (fun a' => wpList P l.toArray Q (l.drop n) a' w.drew) (l.take n) a) : (Code.region id l.toArray true).wp P Q a w :=
  wp_region_still_tail n hm hB h

/-- A scope in which the run jumps to labels: J tells what holds at each jump; a measure falls from jump to jump. -/
def Exit.jumps (J : Nat → Act → World → Prop) (Q : Exit → Act → World → Prop) : Exit → Act → World → Prop
  | .goto l, a, w => J l a w
  | e, a, w => Q e a w

theorem wp_scope_many {P : Program} {a : Act} {w : World} {Q : Exit → Act → World → Prop} {c : Code} (J : Nat → Act → World → Prop) (μ : Nat → Act → World → Nat)
    (pass : ∀ l a w, J l a w → ∃ rest, findLabel c l = some rest ∧ rest.wp P (Exit.jumps (fun l' a' w' => J l' a' w' ∧ μ l' a' w' < μ l a w) Q) a w)
    (first : c.wp P (Exit.jumps J Q) a w) : (Code.scope c).wp P Q a w := by
  intro b k cs
  have key : ∀ n l a w, μ l a w = n → J l a w → ∃ rest, findLabel c l = some rest ∧ ∃ e a' w', Q e a' w' ∧ Arrives P (lone (b.at a (.code rest :: .inScope c :: k)) cs w) b k cs e a' w' := by
    intro n
    induction n using Nat.strongRecOn with
    | _ n ih =>
      intro l a w hn hJ
      obtain ⟨rest, hf, hp⟩ := pass l a w hJ
      refine ⟨rest, hf, ?_⟩
      obtain ⟨e, a₁, w₁, hq, harr⟩ := hp b (.inScope c :: k) cs
      cases e with
      | normal => exact ⟨.normal, a₁, w₁, hq, Steps.trans harr (.one step_inScope)⟩
      | exit id => exact ⟨.exit id, a₁, w₁, hq, fun k' hk => harr k' (by simp [exitTo, hk])⟩
      | goto l' =>
        obtain ⟨hJ', hlt⟩ := hq
        obtain ⟨rest', hf', e₂, a₂, w₂, hq₂, harr₂⟩ := ih _ (by omega) l' a₁ w₁ rfl hJ'
        exact ⟨e₂, a₂, w₂, hq₂, .of_steps (harr _ (by simp [gotoIn, hf'])) harr₂⟩
      | ret => exact ⟨_, a₁, w₁, hq, harr⟩
      | panic ch => exact ⟨_, a₁, w₁, hq, harr⟩
      | outgrown => exact ⟨_, a₁, w₁, hq, harr⟩
  obtain ⟨e, a₁, w₁, hq, harr⟩ := first b (.inScope c :: k) cs
  cases e with
  | normal => exact ⟨.normal, a₁, w₁, hq, .head step_scope (Steps.trans harr (.one step_inScope))⟩
  | exit id => exact ⟨.exit id, a₁, w₁, hq, fun k' hk => .head step_scope (harr k' (by simp [exitTo, hk]))⟩
  | goto l' =>
    obtain ⟨rest', hf', e₂, a₂, w₂, hq₂, harr₂⟩ := key _ l' a₁ w₁ rfl hq
    exact ⟨e₂, a₂, w₂, hq₂, .of_steps (.head step_scope (harr _ (by simp [gotoIn, hf']))) harr₂⟩
  | ret => exact ⟨_, a₁, w₁, hq, .of_steps (.one step_scope) harr⟩
  | panic ch => exact ⟨_, a₁, w₁, hq, .of_steps (.one step_scope) harr⟩
  | outgrown => exact ⟨_, a₁, w₁, hq, .of_steps (.one step_scope) harr⟩

/-- One label alone; the first arrival at it by falling through is told as a jump. -/
theorem wp_scope_loop {P : Program} {a : Act} {w : World} {Q : Exit → Act → World → Prop} {c rest : Code} (l : Nat) (J : Act → World → Prop) (μ : Act → World → Nat) (hf : findLabel c l = some (Code.skip.seq rest))
    (pass : ∀ a w, J a w → rest.wp P (Exit.jump l (fun a' w' => J a' w' ∧ μ a' w' < μ a w) Q) a w)
    (first : (∀ a w, J a w → rest.wp P (Exit.jump l J Q) a w) → c.wp P (Exit.jump l J Q) a w) : (Code.scope c).wp P Q a w := by
  refine wp_scope_jumps l J μ hf (first fun a w hJ => ?_) (fun a w hJ => wp_seq (wp_skip (pass a w hJ)))
  refine Code.wp_mono (fun e a' w' h => ?_) (pass a w hJ)
  cases e with
  | goto l' => exact ⟨h.1, h.2.1⟩
  | _ => exact h

theorem results_tmp4 {fn : Func} {t u v x : Tmp} (h : fn.results = #[.tmp t, .tmp u, .tmp v, .tmp x]) (tmps : Array Value) (P : Program) (w : World) :
    (results fn tmps).run P w = .ok (.tuple #[tmps.getD t undef, tmps.getD u undef, tmps.getD v undef, tmps.getD x undef]) w := by
  simp [results, h]

/-- Of the blocks that were there only those in S may have turned. -/
structure Upd (S : Nat → Prop) (w w' : World) : Prop where
  os : w'.os = w.os
  tape : w'.tape = w.tape
  output : w'.output = w.output
  size : w.heap.size ≤ w'.heap.size
  block : ∀ k, k < w.heap.size → ¬ S k → w'.heap[k]? = w.heap[k]?

theorem Upd.refl (S : Nat → Prop) (w : World) : Upd S w w := ⟨rfl, rfl, rfl, Nat.le_refl _, fun _ _ _ => rfl⟩

theorem Upd.comp {S T U : Nat → Prop} {a b c : World} (h : Upd S a b) (k : Upd T b c) (hs : ∀ i, i < a.heap.size → S i → U i) (ht : ∀ i, i < a.heap.size → T i → U i) : Upd U a c :=
  ⟨k.os.trans h.os, k.tape.trans h.tape, k.output.trans h.output, Nat.le_trans h.size k.size,
    fun i hi hu => (k.block i (Nat.lt_of_lt_of_le hi h.size) (fun x => hu (ht i hi x))).trans (h.block i hi (fun x => hu (hs i hi x)))⟩

theorem Upd.trans {S : Nat → Prop} {a b c : World} (h : Upd S a b) (k : Upd S b c) : Upd S a c := h.comp k (fun _ _ x => x) (fun _ _ x => x)

theorem Upd.mono {S T : Nat → Prop} {a b : World} (h : Upd S a b) (hs : ∀ i, i < a.heap.size → S i → T i) : Upd T a b :=
  ⟨h.os, h.tape, h.output, h.size, fun i hi hu => h.block i hi (fun x => hu (hs i hi x))⟩

theorem Upd.drew {S : Nat → Prop} {a w : World} (h : Upd S a w) : Upd S a w.drew := ⟨h.os, h.tape, h.output, h.size, h.block⟩
theorem Upd.drewN {S : Nat → Prop} {a w : World} (h : Upd S a w) (n : Nat) : Upd S a (w.drewN n) := ⟨h.os, h.tape, h.output, h.size, h.block⟩
theorem Upd.alloc {S : Nat → Prop} {a w : World} (h : Upd S a w) (o : Obj) : Upd S a (w.alloc o) :=
  h.trans ⟨rfl, rfl, rfl, by simp, fun k hk _ => Below.heap_alloc _ _ _ hk⟩
theorem Upd.setCell {S : Nat → Prop} {a w : World} (h : Upd S a w) {p : Addr} (hp : p.block < a.heap.size → S p.block) (u : Value) : Upd S a (w.setCell p u) :=
  ⟨h.os, h.tape, h.output, Nat.le_trans h.size (by simp [World.setCell]), fun k hk hs =>
    (Below.heap_setCell w p u k (fun e => hs (by rw [e]; exact hp (by rw [← e]; exact hk)))).trans (h.block k hk hs)⟩
theorem Upd.at {a w : World} {b : Nat} (h : Upd (fun k => k = b) a w) (i : Nat) (u : Value) : Upd (fun k => k = b) a (w.setCell ⟨b, i, none⟩ u) := h.setCell (fun _ => rfl) u
theorem Upd.grown {S : Nat → Prop} {a w w' : World} {row : Option Nat} (h : Upd S a w) (hg : w.grownBy w' row) (hr : ∀ k, row = some k → k < a.heap.size → S k) : Upd S a w' :=
  h.comp (T := fun k => row = some k) ⟨hg.os, hg.tape, hg.output, hg.size, fun k hk hn => hg.block k hk (fun e => hn e.symm)⟩ (fun _ _ x => x) (fun k hk e => hr k e hk)
theorem Upd.below {S : Nat → Prop} {w w' : World} {B : Nat} (h : Upd S w w') (hB : B ≤ w.heap.size) (hs : ∀ k, k < B → ¬ S k) : Below B w w' :=
  ⟨h.os, h.tape, h.output, h.size, fun k hk => h.block k (by omega) (hs k hk)⟩
theorem Upd.ofBelow {w w' : World} {B : Nat} (h : Below B w w') : Upd (fun k => B ≤ k) w w' :=
  ⟨h.os, h.tape, h.output, h.size, fun k _ hn => h.block k (by omega)⟩
theorem Upd.grownBy {w w' : World} (row : Option Nat) (h : Upd (fun k => row = some k) w w') : w.grownBy w' row :=
  ⟨h.os, h.tape, h.output, h.size, fun k hk hn => h.block k hk (fun e => hn e.symm)⟩

/-- What a call does to blocks that are newer than the world w does not count at w. -/
theorem Upd.own {w a c : World} {S T : Nat → Prop} (h : Upd S w a) (k : Upd T a c) (hb : ∀ i, T i → w.heap.size ≤ i) : Upd S w c :=
  h.comp k (fun _ _ x => x) (fun i hi e => absurd (hb i e) (by omega))
theorem Upd.none {w a : World} (h : Upd (fun _ => False) w a) : Below w.heap.size w a := h.below (Nat.le_refl _) (fun _ _ x => x)

def ints (f : List Int) : List Value := f.map (Value.int .i64)

/-- The block b, known whole: the cells l, of elements of type T; none is frozen. -/
def Blk (w : World) (b : Nat) (l : List Value) (T : TypeId) : Prop := w.heap[b]? = some (.cells l.toArray T (0, 0))

section
variable {w w' : World} {b : Nat} {l : List Value} {T : TypeId}
theorem Blk.lt (h : Blk w b l T) : b < w.heap.size := (Array.getElem?_eq_some_iff.1 h).1
theorem Blk.of (h : Blk w b l T) (e : w'.heap[b]? = w.heap[b]?) : Blk w' b l T := e.trans h
theorem Blk.upd (h : Blk w b l T) {S : Nat → Prop} (e : Upd S w w') (hs : ¬ S b) : Blk w' b l T := h.of (e.block b h.lt hs)
theorem Blk.cell (h : Blk w b l T) (i : Nat) {v : Value} (hv : l[i]? = some v) : w.cell? ⟨b, i, none⟩ = some v := by
  unfold Blk at h
  simp [World.cell?, h, hv]
theorem Blk.free (h : Blk w b l T) (i : Nat) : w.frozen? ⟨b, i, none⟩ = false := by
  unfold Blk at h
  simp [World.frozen?, h]
theorem Blk.drew (h : Blk w b l T) : Blk w.drew b l T := h
theorem Blk.drewN (h : Blk w b l T) (n : Nat) : Blk (w.drewN n) b l T := h
theorem Blk.set (h : Blk w b l T) (i : Nat) (v : Value) : Blk (w.setCell ⟨b, i, none⟩ v) b (l.set i v) T := by
  unfold Blk at *
  simp [World.setCell, Array.getElem?_modify, h]
theorem Blk.setOther (h : Blk w b l T) {p : Addr} (hp : p.block ≠ b) (v : Value) : Blk (w.setCell p v) b l T := h.of (Below.heap_setCell _ _ _ _ (fun e => hp e.symm))
theorem Blk.alloc (h : Blk w b l T) (o : Obj) : Blk (w.alloc o) b l T := h.of (Below.heap_alloc _ _ _ h.lt)
theorem Blk.new (w : World) (l : List Value) (T : TypeId) : Blk (w.alloc (.cells l.toArray T)) w.heap.size l T := by
  unfold Blk World.alloc
  simp
end
end Go.Proofs.Ythaicpjgmplgcaa
