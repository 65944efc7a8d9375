/- Just what is reached is marked, however little room the stack has; what is black besides, and what that refers to not; within so many steps. No condition. -/
import Derived.Test.YthcimfblmpapeaaMarkAllS
import Derived.Test.YthcimfblmpapeaaLater
import Derived.SizedLaws
import Derived.Deep.DrawnRows
import Derived.Deep.DeepCutAuto
import Derived.Deep.CutBlock
import Derived.Deep.RegionHeld3
namespace Go.Proofs.Ythcimfblmpapeaa.markAll
open Go.ChangeShapes Go.WideShapes Go.ChangeAt Go.RowKit
set_option linter.unusedVariables false
attribute [local go_sem] ite_min ite_max

theorem far {bn j : Nat} (h : j = bn ∨ j = bn + 7 ∨ j = bn + 8 ∨ j = bn + 9) : ¬ InMk (bn + 1) j := fun e => by
  have h1 := e.1
  have h2 := e.2
  omega
theorem S1.cells {W w w2 : World} {bn k : Nat} {x : Mk} {D : Nat → Bool} (h : S1 W bn k x D w) (u : Upd (InMk (bn + 1)) w w2) {q : Nat} (hq : q < k) :
    w2.cell? ⟨bn, 0, none⟩ = some (.int .i64 k) ∧ w2.cell? ⟨bn + 8, 0, none⟩ = some (.slice (some ⟨bn + 7, 0, none⟩) k k) ∧ w2.frozen? ⟨bn + 7, q, none⟩ = false ∧ w2.cell? ⟨bn + 7, q, none⟩ = some (.bool (D q)) ∧
      (w2.setCell ⟨bn + 7, q, none⟩ (.bool true)).frozen? ⟨bn + 9, q, none⟩ = false ∧ (w2.setCell ⟨bn + 7, q, none⟩ (.bool true)).cell? ⟨bn + 9, q, none⟩ = some (.bool (D q)) := by
  have in2 := h.inB.upd u (far (by omega))
  have dk2 := (h.dk.upd u (far (by omega))).upd ((Upd.refl (fun i => i = bn + 7) _).at q (.bool true)) (by omega)
  exact ⟨(h.cn.upd u (far (by omega))).cell 0 rfl, (h.cin.upd u (far (by omega))).cell 0 rfl, World.ownsRow.frozenAt in2 q, in2.cell q hq, World.ownsRow.frozenAt dk2 q, dk2.cell q hq⟩

structure P2 (W : World) (bn k : Nat) (refs : Int → List Int) (fr : List Int) (D : Nat → Bool) (x : Mk) (In : Nat → Bool) (row : List Int) (j : Nat) (w : World) : Prop where
  st : S2 W bn k x D In row w
  bfs : Bfs k refs fr D In row
  cl : Closed x D refs
  so : Sound x D refs (fun b => b ∈ fr)
  root : ∀ p, p < j → ∀ q : Nat, fr.getD p 0 = q → q < k → x.m q = true ∧ In q = true
  lf : x.left = countN (fun i => !D i) k

theorem bfs_small {k : Nat} {refs : Int → List Int} {fr : List Int} {D In : Nat → Bool} {row : List Int} (h : Bfs k refs fr D In row) : row.length ≤ k := by
  have h1 := h.cnt
  have h2 := countN_le (fun i => !D i) k
  omega

theorem P2.of {W w : World} {bn k : Nat} {x : Mk} {D : Nat → Bool} (refs : Int → List Int) (fr : List Int) (h : S1 W bn k x D w) : P2 W bn k refs fr D x D [] 0 (w.alloc (.cells #[.slice none 0 0] 50)) :=
  ⟨S2.of h, Bfs.new k refs fr D, fun i hi hs hd => (by
    rw [h.n] at hi
    rw [(h.ms i hi).2, hd] at hs
    cases hs), ⟨fun i hi hm => (by rw [h.n] at hi; rw [(h.ms i hi).1] at hm; exact Or.inl hm), fun i hi hd => (by rw [h.n] at hi; rw [(h.ms i hi).1, (h.ms i hi).2]; exact ⟨hd, hd⟩)⟩, fun p hp => absurd hp (Nat.not_lt_zero _), (by
    unfold Mk.left
    rw [h.n]
    exact countN_congr (fun i hi => by rw [(h.ms i hi).2]))⟩

/-- One root more. -/
theorem P2.next {W w w2 w3 : World} {bn k : Nat} {refs : Int → List Int} {fr : List Int} {D : Nat → Bool} {x : Mk} {In : Nat → Bool} {row : List Int} {j : Nat} {b : Int} {e : Ending} (hW : W.heap.size ≤ bn) (h : P2 W bn k refs fr D x In row j w) (hj : j < fr.length) (hb : fr.getD j 0 = b)
    (hI : IsMk w2 (bn + 1) (x.shade b)) (u : Upd (InMk (bn + 1)) w w2) (hp : PutPost k bn (bn + 8) (bn + 10) (bn + 7) k In row w2 b e w3) : P2 W bn k refs fr D (x.shade b) (putF k In b) (putL k In row b) (j + 1) w3 := by
  obtain ⟨k1, k2, -⟩ := shade_same x b
  have hmem : b ∈ fr := by rw [← hb]; simp [List.getD, hj]
  have hs2 := S2.mark hW h.st hI (ok_shade h.st.ok b) k1 u
  refine ⟨S2.add hW hs2 hp, h.bfs.put b (fun q hq hqk hd => Rch.root q (by rw [← hq]; exact hmem) hqk hd), closed_shade h.cl b, sound_shades [b] x h.so (fun i hi hin hd => ?_), fun p hp' q hq hqk => ?_, ?_⟩
  · have hi : (i : Int) = b := by simpa using hi
    exact Rch.root i (by rw [hi]; exact hmem) hin hd
  · by_cases hpj : p = j
    · subst hpj
      rw [hb] at hq
      subst hq
      have h1 := shade_marks x (q : Int) (by omega) (by rw [h.st.n]; omega)
      have h2 := putF_has k In (q : Int) (by omega) (by omega)
      rw [Int.toNat_natCast] at h1 h2
      exact ⟨h1, h2⟩
    · obtain ⟨h1, h2⟩ := h.root p (by omega) q hq hqk
      exact ⟨shade_mono x b q h1, putF_mono k In b q h2⟩
  · unfold Mk.left
    rw [k1, k2]
    exact h.lf

/-- The rest of the search. -/
structure P3 (W : World) (bn k : Nat) (refs : Int → List Int) (fr : List Int) (D : Nat → Bool) (x : Mk) (In : Nat → Bool) (row : List Int) (p : Nat) (w : World) : Prop where
  st : S2 W bn k x D In row w
  bfs : Bfs k refs fr D In row
  seen : Seen k refs In row p
  root : ∀ i : Nat, (i : Int) ∈ fr → i < k → In i = true
  le : p ≤ row.length

theorem P2.roots {W w : World} {bn k : Nat} {refs : Int → List Int} {fr : List Int} {D : Nat → Bool} {x : Mk} {In : Nat → Bool} {row : List Int} (h : P2 W bn k refs fr D x In row fr.length w) : ∀ i : Nat, (i : Int) ∈ fr → i < k → x.m i = true ∧ In i = true := fun i hi hik => by
  obtain ⟨p, hp, hpe⟩ := List.mem_iff_getElem.1 hi
  exact h.root p hp i (by simp [List.getD, hp, hpe]) hik

theorem P3.still {W w w2 : World} {bn k : Nat} {refs : Int → List Int} {fr : List Int} {D : Nat → Bool} {x : Mk} {In : Nat → Bool} {row : List Int} {p : Nat} (h : P3 W bn k refs fr D x In row p w) (u : Upd (fun _ => False) w w2) : P3 W bn k refs fr D x In row p w2 :=
  ⟨h.st.still u, h.bfs, h.seen, h.root, h.le⟩

/-- Among what one of the row refers to. -/
structure P4 (W : World) (bn k : Nat) (refs : Int → List Int) (fr : List Int) (D : Nat → Bool) (x : Mk) (In : Nat → Bool) (row : List Int) (p z : Nat) (r : Int) (base : Nat) (v : Value) (w : World) : Prop where
  st : S2 W bn k x D In row w
  bfs : Bfs k refs fr D In row
  seen : Seen k refs In row p
  root : ∀ i : Nat, (i : Int) ∈ fr → i < k → In i = true
  lt : p < row.length
  at_ : row.getD p 0 = r
  got : ∀ y, y < z → ∀ b, (refs r).getD y 0 = b → 0 ≤ b → b < k → In b.toNat = true
  rs : w.ownsRow base 3 1 v (refs r).length (ints (refs r))
  new : ∀ j, v.ownBlock = some j → j < w.heap.size ∧ ¬ RowB w (bn + 10) j ∧ bn + 10 < j

theorem P3.into {W w w2 w3 : World} {bn k : Nat} {refs : Int → List Int} {fr : List Int} {D : Nat → Bool} {x : Mk} {In : Nat → Bool} {row : List Int} {p : Nat} {r : Int} {v : Value} (h : P3 W bn k refs fr D x In row p w) (hr : row.getD p 0 = r) (hp : p < row.length)
    (u : Upd (fun _ => False) w w2) (u3 : Upd (fun _ => False) w2 w3) (ho : w3.ownsRow w2.heap.size 3 1 v (refs r).length (ints (refs r))) : P4 W bn k refs fr D x In row p 0 r w2.heap.size v w3 := by
  have h2 := h.still u
  have h3 := h2.still u3
  refine ⟨h3.st, h3.bfs, h3.seen, h3.root, hp, hr, fun y hy => absurd hy (Nat.not_lt_zero _), ho, fun j hj => ?_⟩
  have hj2 := ho.lt j hj
  refine ⟨hj2.2, fun hRB => ?_, by have := h2.st.size; omega⟩
  obtain ⟨s, hs, he⟩ := hRB
  obtain ⟨a, c, hrw, how⟩ := h2.st.put.rw_
  have hc3 := (hrw.upd u3 (fun x => x)).cell 0 rfl
  rw [hc3] at hs
  have hs := Option.some.inj hs
  subst hs
  have := (how.lt j he).2
  omega

theorem P4.next {W w w2 : World} {bn k : Nat} {refs : Int → List Int} {fr : List Int} {D : Nat → Bool} {x : Mk} {In : Nat → Bool} {row : List Int} {p z : Nat} {r b : Int} {base : Nat} {v : Value} {e : Ending} (hW : W.heap.size ≤ bn) (h : P4 W bn k refs fr D x In row p z r base v w) (hz : z < (refs r).length) (hb : (refs r).getD z 0 = b)
    (hp : PutPost k bn (bn + 8) (bn + 10) (bn + 7) k In row w b e w2) : P4 W bn k refs fr D x (putF k In b) (putL k In row b) p (z + 1) r base v w2 := by
  obtain ⟨-, -, hu, hrb⟩ := id hp
  have hrm : b ∈ refs r := by rw [← hb]; simp [List.getD, hz]
  have hlen := putL_len k In row b
  have hin := h.bfs
  refine ⟨S2.add hW h.st hp, h.bfs.put b (fun q hq hqk hd => ?_), h.seen.put (Nat.le_of_lt h.lt) b, fun i hi hik => putF_mono k In b i (h.root i hi hik), by have := h.lt; omega, (putL_getD k In row b p h.lt).trans h.at_, fun y hy c hc h0 h1 => ?_, ?_, fun j hj => ?_⟩
  · have hmem : r ∈ row := by rw [← h.at_]; simp [List.getD, h.lt]
    obtain ⟨q0, e0, g1, g2, g3⟩ := h.bfs.inb r hmem
    exact Rch.next q0 q g3 (by rw [← e0, ← hq]; exact hrm) hqk hd
  · by_cases hyz : y = z
    · subst hyz
      rw [hb] at hc
      subst hc
      exact putF_has k In b h0 h1
    · exact putF_mono k In b _ (h.got y (by omega) c hc h0 h1)
  · refine ownsRow_own h.rs hu (fun j hj e => ?_)
    obtain ⟨n1, n2, n3⟩ := h.new j hj
    rcases e with e | e | e
    · omega
    · omega
    · exact n2 e
  · obtain ⟨n1, n2, n3⟩ := h.new j hj
    refine ⟨Nat.lt_of_lt_of_le n1 hu.size, fun e => ?_, n3⟩
    rcases hrb j e with e | e
    · exact n2 e
    · omega

theorem P4.out {W w : World} {bn k : Nat} {refs : Int → List Int} {fr : List Int} {D : Nat → Bool} {x : Mk} {In : Nat → Bool} {row : List Int} {p : Nat} {r : Int} {base : Nat} {v : Value} (h : P4 W bn k refs fr D x In row p (refs r).length r base v w) : P3 W bn k refs fr D x In row (p + 1) w := by
  refine ⟨h.st, h.bfs, fun j hj c hc h0 h1 => ?_, h.root, h.lt⟩
  by_cases hjp : j = p
  · subst hjp
    rw [h.at_] at hc
    obtain ⟨y, hy, hye⟩ := List.mem_iff_getElem.1 hc
    exact h.got y hy c (by simp [List.getD, hy, hye]) h0 h1
  · exact h.seen j (by omega) c hc h0 h1

/-- The marking. -/
structure P5 (W : World) (bn k : Nat) (refs : Int → List Int) (fr : List Int) (D : Nat → Bool) (x : Mk) (In : Nat → Bool) (row : List Int) (s : Nat) (w : World) : Prop where
  st : S2 W bn k x D In row w
  cl : Closed x D refs
  so : Sound x D refs (fun b => b ∈ fr)
  root : ∀ i : Nat, (i : Int) ∈ fr → i < k → x.m i = true
  ph : s + x.phi ≤ 2 * k + 1
  lf : countN (fun i => !D i) k ≤ x.left + s

theorem P5.next {W w w2 w3 : World} {bn k : Nat} {refs : Int → List Int} {fr : List Int} {D : Nat → Bool} {x : Mk} {In : Nat → Bool} {row : List Int} {s : Nat} (hW : W.heap.size ≤ bn) (h : P5 W bn k refs fr D x In row s w) (hd : x.done = false) (u : Upd (fun _ => False) w w2)
    (hI : IsMk w3 (bn + 1) (x.step refs)) (u3 : Upd (InMk (bn + 1)) w2 w3) : P5 W bn k refs fr D (x.step refs) In row (s + 1) w3 := by
  have hO := h.st.ok
  have h1 := step_phi hO refs hd
  have h2 := (step_left hO refs).2
  have h3 := h.ph
  have h4 := h.lf
  exact ⟨S2.mark hW (h.st.still u) hI (step_ok hO refs) (step_n hO refs) u3, closed_step hO h.cl, sound_step hO h.so, fun i hi hik => step_mono hO refs i (h.root i hi hik), by omega, by omega⟩

def CA (bn : Nat) (ra : Option Addr) (rl rc g p : Nat) (r : Int) (w : World) : Prop := w.cell? ⟨bn + 10, 0, none⟩ = some (.slice ra rl rc) ∧ w.cell? ⟨g, p, none⟩ = some (.int .i64 r)
theorem CA.still {bn : Nat} {ra : Option Addr} {rl rc g p : Nat} {r : Int} {w w' : World} (h : CA bn ra rl rc g p r w) (u : Upd (fun _ => False) w w') : CA bn ra rl rc g p r w' :=
  ⟨(u.none.cell (World.block_lt_of_cell? w _ h.1)).trans h.1, (u.none.cell (World.block_lt_of_cell? w _ h.2)).trans h.2⟩

theorem refs_held {wr : World} {bn : Nat} {ra : Option Addr} {rl rc g p : Nat} {r : Int} (ta : Option Addr) (n tc : Nat) (w' : World) (u : Upd (fun _ => False) wr w') (ca : w'.cell? ⟨bn + 10, 0, none⟩ = some (.slice ra rl rc)) (cb : w'.cell? ⟨g, p, none⟩ = some (.int .i64 r)) :
    Calls Try.prog 37 #[.slice ta n tc] w' (fun e w2 => ∃ bx, e = .returned (.func (.func 53) #[] #[.pointer (some ⟨bx, 0, none⟩)]) ∧ w2.cell? ⟨bx, 0, none⟩ = some (.slice ta n tc) ∧ Upd (fun _ => False) wr w2 ∧ w2.cell? ⟨bn + 10, 0, none⟩ = some (.slice ra rl rc) ∧ w2.cell? ⟨g, p, none⟩ = some (.int .i64 r)) := by
  have h := law_refs ta n tc w'
  unfold RefsPost refsFn at h
  refine h.mono ?_
  rintro e w2 ⟨bx, rfl, h1, h2, h3, h4⟩
  obtain ⟨g1, g2⟩ := (show CA bn ra rl rc g p r w' from ⟨ca, cb⟩).still h4
  exact ⟨bx, rfl, h1, u.trans h4, g1, g2⟩
theorem refs1_held {wr : World} {bn : Nat} {ra : Option Addr} {rl rc g p : Nat} {r : Int} {v : Value} {tt : List (List Int)} (hM : ∀ w', Upd (fun _ => False) wr w' → MatIn w' v tt) (hl : tt.length ≤ 1000 ∧ ∀ l ∈ tt, l.length ≤ 1000) (bx : Nat) (w' : World) (hc : w'.cell? ⟨bx, 0, none⟩ = some v) (u : Upd (fun _ => False) wr w')
    (ca : w'.cell? ⟨bn + 10, 0, none⟩ = some (.slice ra rl rc)) (cb : w'.cell? ⟨g, p, none⟩ = some (.int .i64 r)) :
    Calls Try.prog 53 #[.int .i64 r, .pointer (some ⟨bx, 0, none⟩)] w' (fun e w3 => ∃ va vc, e = .returned (.slice va (refsOf tt r).length vc) ∧ w3.ownsRow w'.heap.size 3 1 (.slice va (refsOf tt r).length vc) (refsOf tt r).length (ints (refsOf tt r)) ∧ Upd (fun _ => False) w' w3 ∧ Upd (fun _ => False) wr w3 ∧ w3.cell? ⟨bn + 10, 0, none⟩ = some (.slice ra rl rc) ∧ w3.cell? ⟨g, p, none⟩ = some (.int .i64 r)) := by
  have h := law_refs1 r ⟨bx, 0, none⟩ v tt w' hc (hM w' u) hl.1 hl.2
  refine h.mono ?_
  rintro e w3 ⟨x, rfl, h1, h2⟩
  obtain ⟨va, vc, rfl⟩ := ownsRow_shape h1
  obtain ⟨g1, g2⟩ := (show CA bn ra rl rc g p r w' from ⟨ca, cb⟩).still h2
  exact ⟨va, vc, rfl, h1, h2, u.trans h2, g1, g2⟩

set_option maxRecDepth 100000 in
set_option maxHeartbeats 2000000 in
theorem walk {W : World} (n : Int) (w0 : (Lit.int .i64 n).wf = true) (room : Int) (w1 : (Lit.int .i64 room).wf = true) (tv : Value) (tt : List (List Int)) (ht : MatIn W tv tt ∧ tt.length * 24 ≤ 140737488351232)
    (fv : Value) (fr : List Int) (hf : IntsIn W fv .i64 fr ∧ fr.length * 8 ≤ 140737488351232) (bv : Value) (bl : List Int) (hb : IntsIn W bv .i64 bl ∧ bl.length * 8 ≤ 140737488351232) :
    Calls Try.prog 9 #[.int .i64 n, .int .i64 room, tv, fv, bv] W (LawPost W) := by
  obtain ⟨hM, hMl⟩ := ht
  obtain ⟨hF, hFl⟩ := hf
  obtain ⟨hB, hBl⟩ := hb
  have ua : ∀ v T, Upd (fun _ => False) W (W.alloc (.cells #[v] T)) := fun v T => (Upd.refl _ _).alloc _
  have hlight := law_light tv tt (W.alloc (.cells #[.int .i64 n] 3)) (hM.upd (ua _ _).none) hMl
  obtain ⟨ta, tc, htv⟩ := mat_shape hM
  obtain ⟨fa, fc, hfv⟩ := ints_shape hF
  obtain ⟨ba, bc, hbv⟩ := ints_shape hB
  subst htv hfv hbv
  have hfI : (fr.length : Int) ≤ 17592186044416 := by omega
  have hbI : (bl.length : Int) ≤ 17592186044416 := by omega
  clear w0 w1 hMl hFl hBl
  by_cases hgo : lightM tt = true ∧ fr.length ≤ 60 ∧ bl.length ≤ 60
  · obtain ⟨hlt, hf60, hb60⟩ := hgo
    rw [hlt] at hlight
    have hlb := light_bounds hlt
    have f60 : (fr.length : Int) ≤ 60 := by omega
    have b60 : (bl.length : Int) ≤ 60 := by omega
    obtain ⟨kI, hkI⟩ : ∃ kI, kI = max 0 (min n 70) := ⟨_, rfl⟩
    obtain ⟨k, hk⟩ : ∃ k : Nat, (k : Int) = kI := ⟨kI.toNat, by omega⟩
    have hk70 : (k : Int) ≤ 70 := by omega
    obtain ⟨bn, hbn⟩ : ∃ bn, bn = W.heap.size := ⟨_, rfl⟩
    have hbW : W.heap.size ≤ bn := by omega
    obtain ⟨W2, hW2⟩ : ∃ W2, W2 = W.alloc (.cells #[.int .i64 kI] 3) := ⟨_, rfl⟩
    have hz2 : W2.heap.size = bn + 1 := by rw [hW2, hbn]; simp
    have hu2 : Upd (fun _ => False) W W2 := by rw [hW2]; exact ua _ _
    have hcn2 : Blk W2 bn [.int .i64 k] 3 := by
      rw [hW2, hk, hbn]
      exact Blk.new W [.int .i64 kI] 3
    have hnew := mark_New kI room W2
    unfold NewPost at hnew
    rw [show (max 0 (min kI 1048576)).toNat = k from by omega, hz2] at hnew
    have hmk := run_make_row' (P := Try.prog) 36 4 (.bool false) 1 Try.underlying36 infoBool rfl .i64 .i64 k (by omega) (by omega)
    have Hhlight := Lib.hid hlight; clear hlight
    have HhM := Lib.hid hM; clear hM
    have HhF := Lib.hid hF; clear hF
    have HhB := Lib.hid hB; clear hB
    have Hhlb := Lib.hid hlb; clear hlb
    have Hhnew := Lib.hid hnew; clear hnew
    have Hhcn2 := Lib.hid hcn2; clear hcn2
    have Hhu2 := Lib.hid hu2; clear hu2
    have Hhz2 := Lib.hid hz2; clear hz2
    have HhbW := Lib.hid hbW; clear hbW
    have Hua := Lib.hid ua; clear ua
    clear hlt hf60 hb60
    go_enter Try.func9, Try.ntmps9
    go_wp2_with fail
    refine Hhlight.out.mono ?_
    rintro e w' ⟨rfl, rfl⟩
    go_wp2_with fail
    rw [← hkI, ← hW2, ← hbn]
    refine Hhnew.out.mono ?_
    rintro e w1 ⟨rfl, hI, hu1, hz1⟩
    have cn1 := (Hhcn2.out.upd hu1 (fun x => x)).cell 0 rfl
    have hcn1 := Lib.hid (Hhcn2.out.upd hu1 (fun x => x))
    replace hz1 : w1.heap.size = bn + 7 := hz1
    have hmb := made_bools w1 k (by omega)
    rw [hz1] at hmb
    clear hkI hk hbn hW2 Hhlight Hhnew Hhcn2
    have HhI := Lib.hid hI; clear hI
    have Hhu1 := Lib.hid hu1; clear hu1
    have Hhmb := Lib.hid hmb; clear hmb
    go_upto_block 0 with fail
    rw [show bn + 7 + 1 + 1 = bn + 9 from rfl, show bn + 7 + 1 = bn + 8 from rfl]
    have hst0 : S1 W bn k ⟨k, fun _ => false, fun _ => false, [], roomOf room, false⟩ (fun _ => false) (((w1.alloc (Obj.cells (madeCells #[Value.bool false] k) 4)).alloc (Obj.cells #[Value.slice (some ⟨bn + 7, 0, none⟩) k k] 36)).alloc (Obj.cells (madeCells #[Value.bool false] k) 4)) := by
      have v1 : Upd (fun _ => False) w1 (w1.alloc (.cells (madeCells #[.bool false] k) 4)) := (Upd.refl _ _).alloc _
      have v2 := (Upd.refl (fun _ => False) (w1.alloc (.cells (madeCells #[.bool false] k) 4))).alloc (.cells #[.slice (some ⟨bn + 7, 0, none⟩) k k] 36)
      have hn2 := Blk.new (w1.alloc (.cells (madeCells #[.bool false] k) 4)) [.slice (some ⟨bn + 7, 0, none⟩) k k] 36
      have hz3 : (w1.alloc (.cells (madeCells #[.bool false] k) 4)).heap.size = bn + 8 := by simp [hz1]
      rw [hz3] at hn2
      have hz4 : ((w1.alloc (.cells (madeCells #[.bool false] k) 4)).alloc (.cells #[.slice (some ⟨bn + 7, 0, none⟩) k k] 36)).heap.size = bn + 9 := by simp [hz1]
      have hm2 := made_bools ((w1.alloc (.cells (madeCells #[.bool false] k) 4)).alloc (.cells #[.slice (some ⟨bn + 7, 0, none⟩) k k] 36)) k (by omega)
      rw [hz4] at hm2
      generalize (w1.alloc (.cells (madeCells #[.bool false] k) 4)).alloc (.cells #[.slice (some ⟨bn + 7, 0, none⟩) k k] 36) = W4 at *
      have v3 : Upd (fun _ => False) W4 (W4.alloc (.cells (madeCells #[.bool false] k) 4)) := (Upd.refl _ _).alloc _
      have v23 := v2.trans v3
      exact ⟨HhI.out.still (v1.trans v23), ok_new k _ (roomOf_pos room), rfl, hcn1.out.upd (v1.trans v23) (fun x => x), Blk.upd hn2 v3 (fun x => x), Hhmb.out.upd v23 (fun x => x), hm2, (Hhu2.out.trans Hhu1.out).trans (v1.trans v23), by simp [hz4], fun i hi => ⟨rfl, rfl⟩⟩
    generalize ((w1.alloc (Obj.cells (madeCells #[Value.bool false] k) 4)).alloc (Obj.cells #[Value.slice (some ⟨bn + 7, 0, none⟩) k k] 36)).alloc (Obj.cells (madeCells #[Value.bool false] k) 4) = W3 at *
    have Hhst0 := Lib.hid hst0; clear hst0
    clear cn1 hcn1 HhI Hhu1 Hhmb hz1 hmk Hhu2 Hhz2
    go_cut [51] (fun i wx => ∃ (x : Mk) (D : Nat → Bool), S1 W bn k x D wx)
    case first =>
      go_wp2_with fail
      go_loopw [51] (fun i wr => ∃ (j : Nat) (x : Mk) (D : Nat → Bool), i = .int .i64 j ∧ j ≤ bl.length ∧ S1 W bn k x D wr) (fun i _ => (bl.length - intOf i).toNat)
      case atStart => exact ⟨0, _, _, rfl, Nat.zero_le _, Hhst0.out⟩
      case round =>
        obtain ⟨j, x, D, rfl, hj, hst⟩ := hrel
        clear Hhst0
        by_cases hjl : j = bl.length
        · have e1 : ¬ ((j : Int) < bl.length) := by omega
          have Hhst := Lib.hid hst; clear hst
          clear hjl
          go_wp2_with fail
          go_meet
          exact ⟨x, D, Hhst.out⟩
        · have e1 : (j : Int) < bl.length := by omega
          obtain ⟨b0, off, hix, hcb⟩ := int_at HhB.out (j := j) (by omega)
          have hcell := hcb wr hst.up.none
          generalize bl.getD j 0 = b at *
          have hop := mark_Black (bn + 1) b x wr hst.im
          unfold MkPost at hop
          have hO := ok_black hst.ok b
          have hyn := (black_same x b).trans hst.n
          have key : b < 0 ∨ (0 ≤ b ∧ (k : Int) ≤ b) ∨ (0 ≤ b ∧ b < k) := by omega
          rcases key with c1 | ⟨c1, c2⟩ | ⟨c1, c2⟩
          · have hsame := black_out hst.n b (Or.inl c1)
            rw [hsame] at hop
            generalize offB x.n x.m b = ofb at *
            have c3 : decide (0 ≤ b) = false := by simp; omega
            have Hhop := Lib.hid hop; clear hop
            have Hhst := Lib.hid hst; clear hst
            have HhO := Lib.hid hO; clear hO
            have Hhyn := Lib.hid hyn; clear hyn
            have Hhsame := Lib.hid hsame; clear hsame
            clear hjl hcb
            go_wp2_with (go_at_call 34; (with_reducible refine Hhop.out.mono ?_); rintro e w2 ⟨rfl, hI2, hu2, hz2⟩; have Hs2 := Lib.hid (S1.same HhbW.out Hhst.out hI2 hu2 hz2); clear hI2 hu2 hz2)
            go_roundw
            case rel => exact ⟨j + 1, x, D, by go_num, by omega, Hs2.out⟩
            case measure => simp [intOf]; omega
          · have hsame := black_out hst.n b (Or.inr c2)
            rw [hsame] at hop
            generalize offB x.n x.m b = ofb at *
            have c3 : ¬ (b < k) := by omega
            have Hhop := Lib.hid hop; clear hop
            have Hhst := Lib.hid hst; clear hst
            have HhO := Lib.hid hO; clear hO
            have Hhyn := Lib.hid hyn; clear hyn
            have Hhsame := Lib.hid hsame; clear hsame
            clear hjl hcb
            go_wp2_with (go_at_call 34; (with_reducible refine Hhop.out.mono ?_); rintro e w2 ⟨rfl, hI2, hu2, hz2⟩; have Hs2 := Lib.hid (S1.same HhbW.out Hhst.out hI2 hu2 hz2); have cn2 := Hs2.out.cn.cell 0 rfl; clear hI2 hu2 hz2)
            go_roundw
            case rel => exact ⟨j + 1, x, D, by go_num, by omega, Hs2.out⟩
            case measure => simp [intOf]; omega
          · obtain ⟨q, rfl⟩ : ∃ q : Nat, b = q := ⟨b.toNat, by omega⟩
            have hqk : q < k := by omega
            have hms := black_in hst.n hst.ms q hqk
            generalize offB x.n x.m (q : Int) = ofb at *
            generalize x.black (q : Int) = y at *
            have Hhop := Lib.hid hop; clear hop
            have Hhst := Lib.hid hst; clear hst
            have HhO := Lib.hid hO; clear hO
            have Hhyn := Lib.hid hyn; clear hyn
            have Hhms := Lib.hid hms; clear hms
            clear hjl hcb
            go_wp2_with (go_at_call 34; (with_reducible refine Hhop.out.mono ?_); rintro e w2 ⟨rfl, hI2, hu2, hz2⟩; have Hs2 := Lib.hid (S1.black HhbW.out Hhst.out hI2 HhO.out Hhyn.out hu2 hz2 Hhms.out); obtain ⟨cn2, cin2, fr1, cl1, fr2, cl2⟩ := S1.cells Hhst.out hu2 hqk; clear hI2 hu2 hz2)
            go_roundw
            case rel => exact ⟨j + 1, y, setF D q true, by go_num, by omega, Hs2.out⟩
            case measure => simp [intOf]; omega
    case rest =>
      obtain ⟨x1, D, hst⟩ := hcut
      clear Hhst0 HhB
      have hzz := hst.size
      have hp2 := P2.of (refsOf tt) fr hst
      have Hhst := Lib.hid hst; clear hst
      go_upto_block 2 with fail
      generalize wc.alloc (Obj.cells #[Value.slice none 0 0] 50) = W5 at *
      have Hhp2 := Lib.hid hp2; clear hp2
      clear hzz
      go_cut [75] (fun i wx => ∃ (x : Mk) (In : Nat → Bool) (row : List Int), P2 W bn k (refsOf tt) fr D x In row fr.length wx)
      case first =>
        go_wp2_with fail
        go_loopw [75] (fun i wr => ∃ (j : Nat) (x : Mk) (In : Nat → Bool) (row : List Int), i = .int .i64 j ∧ j ≤ fr.length ∧ P2 W bn k (refsOf tt) fr D x In row j wr) (fun i _ => (fr.length - intOf i).toNat)
        case atStart => exact ⟨0, _, _, _, rfl, Nat.zero_le _, Hhp2.out⟩
        case round =>
          obtain ⟨j, x, In, row, rfl, hj, hst⟩ := hrel
          clear Hhp2
          by_cases hjl : j = fr.length
          · have e1 : ¬ ((j : Int) < fr.length) := by omega
            rw [hjl] at hst
            have Hhst := Lib.hid hst; clear hst
            clear hjl
            go_wp2_with fail
            go_meet
            exact ⟨x, In, row, Hhst.out⟩
          · have e1 : (j : Int) < fr.length := by omega
            have hjf : j < fr.length := by omega
            obtain ⟨b0, off, hix, hcb⟩ := int_at HhF.out (j := j) (by omega)
            have hcell := hcb wr hst.st.up.none
            obtain ⟨b, hb⟩ : ∃ b, fr.getD j 0 = b := ⟨_, rfl⟩
            rw [hb] at hcell
            have hop := mark_Shade (bn + 1) b x wr hst.st.im
            unfold MkPost at hop
            have hrl := bfs_small hst.bfs
            have hput := fun w2 (hI : IsMk w2 (bn + 1) (x.shade b)) (u : Upd (InMk (bn + 1)) wr w2) => law_put k bn (bn + 8) (bn + 10) (bn + 7) k In row b w2 (S2.mark HhbW.out hst.st hI (ok_shade hst.st.ok b) (shade_same x b).1 u).put (by omega)
            have hnx := fun w2 w3 (hI : IsMk w2 (bn + 1) (x.shade b)) (u : Upd (InMk (bn + 1)) wr w2) e hp => P2.next (e := e) (w3 := w3) HhbW.out hst hjf hb hI u hp
            unfold PutPost at hput
            generalize offB x.n x.m b = ofb at *
            generalize x.shade b = y at *
            have Hhop := Lib.hid hop; clear hop
            have Hhst := Lib.hid hst; clear hst
            have Hhput := Lib.hid hput; clear hput
            have Hhnx := Lib.hid hnx; clear hnx
            have Hhrl := Lib.hid hrl; clear hrl
            have Hhjf := Lib.hid hjf; clear hjf
            have Hhb := Lib.hid hb; clear hb
            clear hjl hcb
            go_wp2_with (first | (go_at_call 36; (with_reducible refine Hhop.out.mono ?_); rintro e w2 ⟨rfl, hI2, hu2, hz2⟩; have hpc := Hhput.out w2 hI2 hu2; have Hnn := Lib.hid (fun w3 e => Hhnx.out w2 w3 hI2 hu2 e); clear hI2 hu2 hz2) | (go_at_call 35; (with_reducible refine hpc.mono ?_); rintro e w3 ⟨rfl, hp⟩; have Hs2 := Lib.hid (Hnn.out w3 _ ⟨rfl, hp⟩); clear hp))
            go_roundw
            case rel => exact ⟨j + 1, y, _, _, by go_num, by omega, Hs2.out⟩
            case measure => simp [intOf]; omega
      case rest =>
        obtain ⟨x2, In, row, hst2⟩ := hcut
        clear Hhp2 HhF Hhst
        have hroots := hst2.roots
        have hp3 : P3 W bn k (refsOf tt) fr D x2 In row 0 wc := ⟨hst2.st, hst2.bfs, fun j hj => absurd hj (Nat.not_lt_zero _), fun i hi hik => (hroots i hi hik).2, Nat.zero_le _⟩
        have h5 : Closed x2 D (refsOf tt) ∧ Sound x2 D (refsOf tt) (fun b => b ∈ fr) ∧ (∀ i : Nat, (i : Int) ∈ fr → i < k → x2.m i = true) ∧ x2.left = countN (fun i => !D i) k := ⟨hst2.cl, hst2.so, fun i hi hik => (hroots i hi hik).1, hst2.lf⟩
        clear hst2 hroots
        have Hhp3 := Lib.hid hp3; clear hp3
        have Hh5 := Lib.hid h5; clear h5
        go_upto_block 4 with fail
        go_cut [20] (fun i wx => ∃ (In : Nat → Bool) (row : List Int), P3 W bn k (refsOf tt) fr D x2 In row row.length wx)
        case first =>
          go_wp2_with fail
          go_loopw [20] (fun i wr => ∃ (p : Nat) (In : Nat → Bool) (row : List Int), i = .int .i64 p ∧ P3 W bn k (refsOf tt) fr D x2 In row p wr) (fun i _ => (k - intOf i).toNat)
          case atStart => exact ⟨0, _, _, rfl, Hhp3.out⟩
          case round =>
            obtain ⟨p, In, row, rfl, hst⟩ := hrel
            clear Hhp3
            have hrl := bfs_small hst.bfs
            have hpl := hst.le
            obtain ⟨ra, rc, hr, ho⟩ := hst.st.put.rw_
            have hcr := hr.cell 0 rfl
            by_cases hpr : p = row.length
            · have e1 : ¬ ((p : Int) < row.length) := by omega
              rw [hpr] at hst
              have Hhst := Lib.hid hst; clear hst
              clear hpr hr ho hpl hrl
              go_wp2_with fail
              go_meet
              exact ⟨In, row, Hhst.out⟩
            · have e1 : (p : Int) < row.length := by omega
              have hpr2 : p < row.length := by omega
              obtain ⟨g, hix, hg, -, hcell0, -, hgb⟩ := ownsRow_index ho (P := Try.prog) Try.underlying50 (by kernel_rfl) (by kernel_rfl) hpr2
              obtain ⟨r, hrp⟩ : ∃ r, row.getD p 0 = r := ⟨_, rfl⟩
              have hcell : wr.cell? ⟨g, p, none⟩ = some (.int .i64 r) := by
                rw [hcell0, ← hrp]
                simp [ints, List.getD, hpr2]
              have hp70 : (p : Int) < 70 := by omega
              have Hhst := Lib.hid hst; clear hst
              have Hhrp := Lib.hid hrp; clear hrp
              have Hhr := Lib.hid hr; clear hr
              have Hho := Lib.hid ho; clear ho
              clear hpr hcell0
              have hR := Lib.hid (refs_held (wr := wr) (bn := bn) (ra := ra) (rl := row.length) (rc := rc) (g := g) (p := p) (r := r) ta tt.length tc)
              have hR1 := Lib.hid (refs1_held (wr := wr) (bn := bn) (ra := ra) (rl := row.length) (rc := rc) (g := g) (p := p) (r := r) (fun w' u => HhM.out.upd (Hhst.out.st.up.trans u).none) Hhlb.out)
              have hu0 := Upd.refl (fun _ => False) wr
              go_wp2_with fail
              refine wp_hide (fun Q' hQ' => ?_)
              go_region_held3 (fun w' => Upd (fun _ => False) wr w' ∧ w'.cell? ⟨bn + 10, 0, none⟩ = some (.slice ra row.length rc) ∧ w'.cell? ⟨g, p, none⟩ = some (.int .i64 r))
                (((try go_split_ands); exact ⟨by first | assumption | exact Upd.drew (by assumption), by assumption, by assumption⟩))
                (((try go_split_ands); first
                  | (go_at_call 37; refine (hR.out _ (by assumption) (by assumption) (by assumption)).mono ?_; rintro e w2 ⟨bx, rfl, hc2, hu2, hca2, hcb2⟩)
                  | (go_at_call 53; refine (hR1.out _ _ (by assumption) (by assumption) (by assumption) (by assumption)).mono ?_; rintro e w3 ⟨va, vc, rfl, ho3, hu23, hu3, hca3, hcb3⟩)))
              rw [hQ'.out]
              have hp4 := P3.into Hhst.out Hhrp.out hpr2 hu2 hu23 ho3
              have hrI : ((refsOf tt r).length : Int) ≤ 1000 := by have := refs_len Hhlb.out r; omega
              clear hQ' hR hR1 hu0 hc2 hu2 hca2 hcb2 ho3 hu23 hu3 hca3 hcb3 Hhr Hho hcell hix hg hgb hcr Hhst Hhrp
              have Hhp4 := Lib.hid hp4; clear hp4
              go_wp2_with fail
              obtain ⟨wo, hwo⟩ : ∃ wo : World, wo = wr := ⟨_, rfl⟩
              subst hwo
              go_loopw [100] (fun i wq => ∃ (z : Nat) (In : Nat → Bool) (row : List Int), i = .int .i64 z ∧ z ≤ (refsOf tt r).length ∧ P4 W bn k (refsOf tt) fr D x2 In row p z r w2.heap.size (.slice va (refsOf tt r).length vc) wq) (fun i _ => ((refsOf tt r).length - intOf i).toNat)
              case atStart => exact ⟨0, _, _, rfl, Nat.zero_le _, Hhp4.out⟩
              case round =>
                obtain ⟨z, In, row, rfl, hz, hst⟩ := hrel
                clear Hhp4
                have hrl2 := bfs_small hst.bfs
                have hlt2 := hst.lt
                by_cases hzl : z = (refsOf tt r).length
                · have e2 : ¬ ((z : Int) < (refsOf tt r).length) := by omega
                  rw [hzl] at hst
                  have hst := hst.out
                  have Hhst := Lib.hid hst; clear hst
                  clear hzl
                  go_wp2_with fail
                  go_roundw
                  case rel => exact ⟨p + 1, In, row, by go_num, Hhst.out⟩
                  case measure => simp [intOf]; omega
                · have e2 : (z : Int) < (refsOf tt r).length := by omega
                  have hz3 : z < (refsOf tt r).length := by omega
                  obtain ⟨g2, hix2, -, -, hcell2, -, -⟩ := ownsRow_index hst.rs (P := Try.prog) Try.underlying50 (by kernel_rfl) (by kernel_rfl) hz3
                  obtain ⟨b, hb⟩ : ∃ b, (refsOf tt r).getD z 0 = b := ⟨_, rfl⟩
                  have hcell : wr.cell? ⟨g2, z, none⟩ = some (.int .i64 b) := by
                    rw [hcell2, ← hb]
                    simp [ints, List.getD, hz3]
                  have hput := law_put k bn (bn + 8) (bn + 10) (bn + 7) k In row b wr hst.st.put (by omega)
                  have hnx := fun w2 e hp => P4.next (e := e) (w2 := w2) HhbW.out hst hz3 hb hp
                  unfold PutPost at hput
                  have Hhst := Lib.hid hst; clear hst
                  have Hhput := Lib.hid hput; clear hput
                  have Hhnx := Lib.hid hnx; clear hnx
                  have Hhb := Lib.hid hb; clear hb
                  clear hzl hcell2
                  go_wp2_with (go_at_call 35; (with_reducible refine Hhput.out.mono ?_); rintro e w5 ⟨rfl, hp⟩; have Hs2 := Lib.hid (Hhnx.out w5 _ ⟨rfl, hp⟩); clear hp)
                  go_roundw
                  case rel => exact ⟨z + 1, _, _, by go_num, by omega, Hs2.out⟩
                  case measure => simp [intOf]; omega
        case rest =>
          obtain ⟨In, row, hst⟩ := hcut
          clear Hhp3
          have hall := hst.bfs.all hst.seen hst.root
          have hcnt := hst.bfs.cnt
          have hrl := bfs_small hst.bfs
          have hp5 : P5 W bn k (refsOf tt) fr D x2 In row 0 wc := ⟨hst.st, Hh5.out.1, Hh5.out.2.1, Hh5.out.2.2.1, by have h1 := phi_le x2; have h2 := hst.st.n; omega, by have := Hh5.out.2.2.2; omega⟩
          clear Hh5 hst
          have Hhp5 := Lib.hid hp5; clear hp5
          have Hhall := Lib.hid hall; clear hall
          have Hhcnt := Lib.hid hcnt; clear hcnt
          go_upto_block 8 with fail
          go_cut [23] (fun i wx => ∃ (s : Nat) (x : Mk), i = .int .i64 s ∧ s ≤ 2 * k + 1 ∧ P5 W bn k (refsOf tt) fr D x In row s wx ∧ x.done = true)
          case first =>
            go_wp2_with fail
            go_loopw [23] (fun i wr => ∃ (s : Nat) (x : Mk), i = .int .i64 s ∧ P5 W bn k (refsOf tt) fr D x In row s wr) (fun i _ => (2 * k + 2 - intOf i).toNat)
            case atStart => exact ⟨0, _, rfl, Hhp5.out⟩
            case round =>
              obtain ⟨s, x, rfl, hs⟩ := hrel
              clear Hhp5
              have hsb := hs.ph
              have hsI : (s : Int) ≤ 200 := by omega
              have hrf := law_refs ta tt.length tc wr
              unfold RefsPost refsFn at hrf
              have Hhrf := Lib.hid hrf; clear hrf
              have Hhs := Lib.hid hs; clear hs
              go_wp2_with fail
              refine Hhrf.out.mono ?_
              rintro e w2 ⟨bx, rfl, hc2, hbx, hbx2, hu2⟩
              have hS := step_table (W := W) Hhs.out.st.im Hhs.out.st.ok (by rw [Hhs.out.st.n]; omega) (Nat.le_succ_of_le HhbW.out) HhM.out Hhs.out.st.up (by have := Hhs.out.st.size; omega) hc2 hbx hu2 Hhlb.out
              unfold StepPost refsFn at hS
              cases hd : x.done
              · rw [hd] at hS
                have hnx := fun w3 hI u3 => P5.next (w3 := w3) HhbW.out Hhs.out hd hu2 hI u3
                have hph := step_phi Hhs.out.st.ok (refsOf tt) hd
                have hs1 : s + 1 ≤ 2 * k + 1 := by omega
                have hno : ¬ (3 * (k : Int) + 3 < (s : Int) + 1) := by omega
                generalize x.step (refsOf tt) = y at *
                have HhS := Lib.hid hS; clear hS
                have Hhnx := Lib.hid hnx; clear hnx
                have Hhph := Lib.hid hph; clear hph
                have Hhd := Lib.hid hd; clear hd
                have Hhsb := Lib.hid hsb; clear hsb
                clear hc2 hbx hbx2 hu2
                go_wp2_with (go_at_call 38; (with_reducible refine HhS.out.mono ?_); rintro e w3 ⟨rfl, hI3, hu3⟩; have Hs3 := Lib.hid (Hhnx.out w3 hI3 hu3); have cn3 := Hs3.out.st.put.cn.cell 0 rfl; clear hI3 hu3)
                go_roundw
                case rel => exact ⟨s + 1, y, by go_num, Hs3.out⟩
                case measure => simp [intOf]; omega
              · rw [hd, step_done hd] at hS
                have hnx := fun w3 hI u3 => show P5 W bn k (refsOf tt) fr D x In row s w3 from ⟨S2.mark HhbW.out (Hhs.out.st.still hu2) hI Hhs.out.st.ok rfl u3, Hhs.out.cl, Hhs.out.so, Hhs.out.root, Hhs.out.ph, Hhs.out.lf⟩
                have HhS := Lib.hid hS; clear hS
                have Hhnx := Lib.hid hnx; clear hnx
                have Hhd := Lib.hid hd; clear hd
                clear hc2 hbx hbx2 hu2
                go_wp2_with (go_at_call 38; (with_reducible refine HhS.out.mono ?_); rintro e w3 ⟨rfl, hI3, hu3⟩; have Hs3 := Lib.hid (Hhnx.out w3 hI3 hu3); clear hI3 hu3)
                go_meet
                exact ⟨s, x, rfl, by omega, Hs3.out, Hhd.out⟩
          case rest =>
            obtain ⟨s, x, rfl, hs2k, hs, hd⟩ := hcut
            clear Hhp5
            obtain ⟨hm, hleft⟩ := end_marks hs.st.ok hs.st.n hs.cl hs.so hd (fun i hi hik => hs.root i hi hik) Hhall.out
            have hge : (row.length : Int) ≤ s := by
              have h1 := hs.lf
              have h2 := Hhcnt.out
              omega
            have hst := hs.st
            have hcin := hst.put.cin.cell 0 rfl
            clear Hhall Hhcnt hleft hs
            have Hhst := Lib.hid hst; clear hst
            have Hhm := Lib.hid hm; clear hm
            have Hhd := Lib.hid hd; clear hd
            go_wp2_with fail
            clear hcin
            go_loopw [121] (fun i wr => ∃ q : Nat, i = .int .i64 q ∧ q ≤ k ∧ S2 W bn k x D In row wr) (fun i _ => (k - intOf i).toNat)
            case atStart => exact ⟨0, rfl, Nat.zero_le _, Hhst.out⟩
            case round =>
              obtain ⟨q, rfl, hq, hsr⟩ := hrel
              clear Hhst
              by_cases hqk : q = k
              · have e1 : ¬ ((q : Int) < k) := by omega
                have hD := mark_Done (bn + 1) x wr hsr.im
                rw [Hhd.out] at hD
                have haw := awake19 W wr hsr.up
                obtain ⟨ra, rc, hr, -⟩ := hsr.put.rw_
                have hcr := hr.cell 0 rfl
                have HhD := Lib.hid hD; clear hD
                have Hhaw := Lib.hid haw; clear haw
                have Hhr := Lib.hid hr; clear hr
                clear hsr hqk
                go_wp2_with (first | (go_at_call 40; (with_reducible refine HhD.out.mono ?_); rintro e w2 ⟨rfl, rfl⟩) | (go_at_call 32; (with_reducible refine Hhaw.out.mono ?_); rintro e w2 ⟨rfl, hu⟩))
                go_ret
                exact ⟨rfl, hu.none⟩
              · have e1 : (q : Int) < k := by omega
                have hq2 : q < k := by omega
                have hM1 := Lib.hid (fun w' (u : Upd (fun _ => False) wr w') => from_same (marked_is (hsr.im.still u) (b := (q : Int)) (r := x.m q) (by rw [hsr.n, decide_eq_true (by omega), Bool.true_and, Int.toNat_natCast])) u)
                rw [Hhm.out q hq2] at hM1
                have hkc := fun (t : Later wr) => show t.val.cell? ⟨bn + 8, 0, none⟩ = _ from (hsr.put.cin.upd t.up (fun x => x)).cell 0 rfl
                have hki := fun (t : Later wr) => show t.val.cell? ⟨bn + 7, q, none⟩ = _ from (hsr.put.inB.upd t.up (fun x => x)).cell q hq2
                have Hhsr := Lib.hid hsr; clear hsr
                clear hqk
                generalize In q = iq at *
                go_wp2_with fail
                refine wp_region_later (by kernel_rfl) (by kernel_rfl) ?_
                repeat (go_big_quiet_step ((first
                  | (go_at_call 39; exact calls_later (hM1.out _ (Later.up _))))))
                refine wpQuiet_nil ?_
                intro w4 hw4
                have u4 : Upd (fun _ => False) wr w4 := by
                  obtain ⟨s, rfl⟩ := hw4
                  exact s.up
                clear hw4 hkc hki
                go_wp2
                go_roundw
                case rel => exact ⟨q + 1, by go_num, by omega, Hhsr.out.still u4⟩
                case measure => simp [intOf]; omega
  · have haw := awake19 W (W.alloc (.cells #[.int .i64 n] 3)) (ua _ _)
    cases hlt : lightM tt
    · rw [hlt] at hlight
      have Hhlight := Lib.hid hlight; clear hlight
      have Hhaw := Lib.hid haw; clear haw
      clear hM hF hB hgo hlt ua
      go_enter Try.func9, Try.ntmps9
      go_wp2_with (first | (go_at_call 31; (with_reducible refine Hhlight.out.mono ?_); rintro e w2 ⟨rfl, rfl⟩) | (go_at_call 32; (with_reducible refine Hhaw.out.mono ?_); rintro e w2 ⟨rfl, hu⟩))
      go_ret
      exact ⟨rfl, hu.none⟩
    · rw [hlt] at hlight hgo
      have key : ((60 : Int) < fr.length) ∨ (¬ ((60 : Int) < fr.length) ∧ (60 : Int) < bl.length) := by
        by_cases h1 : fr.length ≤ 60
        · by_cases h2 : bl.length ≤ 60
          · exact absurd ⟨rfl, h1, h2⟩ hgo
          · exact Or.inr ⟨by omega, by omega⟩
        · exact Or.inl (by omega)
      have Hhlight := Lib.hid hlight; clear hlight
      have Hhaw := Lib.hid haw; clear haw
      clear hM hF hB hgo hlt ua
      rcases key with c1 | ⟨c1, c2⟩
      all_goals
        go_enter Try.func9, Try.ntmps9
        go_wp2_with (first | (go_at_call 31; (with_reducible refine Hhlight.out.mono ?_); rintro e w2 ⟨rfl, rfl⟩) | (go_at_call 32; (with_reducible refine Hhaw.out.mono ?_); rintro e w2 ⟨rfl, hu⟩))
        go_ret
        exact ⟨rfl, hu.none⟩

theorem own : ownKnob Try.prog.godebug = none := by kernel_rfl
theorem laidOut : laidOutB Try.prog = true := by kernel_rfl
set_option maxRecDepth 100000 in
theorem lifted (os : Os) (started : os.Started) (H : Type) (enc : TypeId × Value → H) :
    ReturnsInHanded {} Try.checked os 9 .any (Rows.markAllSpec.pre6 enc Try.prog Try.f9 Rows.markAllRow.domain false) (Rows.markAllSpec.post enc Try.prog Try.f9 false true false false) := by
  refine returnsInHanded_of_change_sized (C := Try.checked) own started (by kernel_rfl) Try.func9
    (ChangeSpec.witness6 (enc := enc) (C := Try.checked) false ⟨#[], #[.int .i64 0, .int .i64 0, .slice none 0 0, .slice none 0 0, .slice none 0 0], []⟩ 8 (by kernel_rfl) (by kernel_rfl) (by kernel_rfl) (by kernel_rfl)) ?_
  intro W base args ds gs before hval0 hW _ hsz0 _
  have hsz : (DataW.weightsEach Try.prog (Try.f9.params.toList ++ Rows.markAllSpec.plain.varTypes Try.prog) (ds ++ gs)).all (· ≤ reachBytes) = true := hsz0
  clear hsz0
  have hval : ∀ (j : Nat) t v, Try.f9.params[j]? = some t → args[j]? = some v → Value.okWide Try.prog W .any base t v := hval0
  have hW' := hW
  obtain ⟨p, q, hA0, hV, rfl, _, _⟩ := hW
  have hA : DataW.TrodAll enc Try.prog W 0 (fun _ => true) true Try.f9.params.toList args.toList ds p := hA0
  rw [Try.params9] at hA hval hsz
  obtain ⟨v0, vs0, d0, ds0, p0, q0, hargs, rfl, rfl, h0, r0⟩ := trodAll_cons hA
  obtain ⟨v1, vs1, d1, ds1, p1, q1, rfl, rfl, rfl, h1, r1⟩ := trodAll_cons r0
  obtain ⟨v2, vs2, d2, ds2, p2, q2, rfl, rfl, rfl, h2, r2⟩ := trodAll_cons r1
  obtain ⟨v3, vs3, d3, ds3, p3, q3, rfl, rfl, rfl, h3, r3⟩ := trodAll_cons r2
  obtain ⟨v4, vs4, d4, ds4, p4, q4, rfl, rfl, rfl, h4, r4⟩ := trodAll_cons r3
  obtain ⟨rfl, rfl, rfl⟩ := trodAll_nil r4
  obtain rfl : args = #[v0, v1, v2, v3, v4] := by cases args; simp_all
  obtain ⟨rfl, rfl⟩ := trodVars_none hV
  clear hA0 hval0
  simp only [List.append_nil] at hW'
  have hlt : ∀ x, (x ∈ p0 ∨ x ∈ p1 ∨ x ∈ p2 ∨ x ∈ p3 ∨ x ∈ p4) → x.block < W.heap.size := fun x hx => by simpa using hW'.lt x (by simpa using hx)
  have k0 : ∀ (W' : World), Below W.heap.size W W' → DataW.Trod enc Try.prog W' 0 (fun b => decide (b < W.heap.size)) true 3 v0 d0 p0 :=
    fun W' hn => Below.trod laidOut (by kernel_rfl) (of_decide_eq_true (by kernel_rfl)) h0 hn (fun x hx => hlt x (Or.inl hx))
  have k1 : ∀ (W' : World), Below W.heap.size W W' → DataW.Trod enc Try.prog W' 0 (fun b => decide (b < W.heap.size)) true 3 v1 d1 p1 :=
    fun W' hn => Below.trod laidOut (by kernel_rfl) (of_decide_eq_true (by kernel_rfl)) h1 hn (fun x hx => hlt x (Or.inr (Or.inl hx)))
  have k2 : ∀ (W' : World), Below W.heap.size W W' → DataW.Trod enc Try.prog W' 0 (fun b => decide (b < W.heap.size)) true 49 v2 d2 p2 :=
    fun W' hn => Below.trod laidOut (by kernel_rfl) (of_decide_eq_true (by kernel_rfl)) h2 hn (fun x hx => hlt x (Or.inr (Or.inr (Or.inl hx))))
  have k3 : ∀ (W' : World), Below W.heap.size W W' → DataW.Trod enc Try.prog W' 0 (fun b => decide (b < W.heap.size)) true 50 v3 d3 p3 :=
    fun W' hn => Below.trod laidOut (by kernel_rfl) (of_decide_eq_true (by kernel_rfl)) h3 hn (fun x hx => hlt x (Or.inr (Or.inr (Or.inr (Or.inl hx)))))
  have k4 : ∀ (W' : World), Below W.heap.size W W' → DataW.Trod enc Try.prog W' 0 (fun b => decide (b < W.heap.size)) true 50 v4 d4 p4 :=
    fun W' hn => Below.trod laidOut (by kernel_rfl) (of_decide_eq_true (by kernel_rfl)) h4 hn (fun x hx => hlt x (Or.inr (Or.inr (Or.inr (Or.inr (hx))))))
  obtain ⟨a0, rfl, _, _, w0⟩ := open_int Try.underlying3 (hval 0 3 v0 rfl rfl) h0
  obtain ⟨a1, rfl, _, _, w1⟩ := open_int Try.underlying3 (hval 1 3 v1 rfl rfl) h1
  obtain ⟨x2, hx2⟩ := open_matAt Try.underlying49 Try.underlying50 Try.underlying3 (by kernel_rfl) (by kernel_rfl) (by kernel_rfl) (hval 2 49 v2 rfl rfl) h2 hsz 2 rfl rfl
  obtain ⟨x3, hx3⟩ := open_intsAt (bytes := 8) Try.underlying50 Try.underlying3 (by kernel_rfl) (by kernel_rfl) (hval 3 50 v3 rfl rfl) h3 hsz 3 rfl rfl
  obtain ⟨x4, hx4⟩ := open_intsAt (bytes := 8) Try.underlying50 Try.underlying3 (by kernel_rfl) (by kernel_rfl) (hval 4 50 v4 rfl rfl) h4 hsz 4 rfl rfl
  refine (walk (W := W) a0 w0 a1 w1 v2 x2 hx2 v3 x3 hx3 v4 x4 hx4).mono fun e W' ⟨he, hb⟩ => ?_
  subst he
  refine ⟨_, rfl, _, _, _, [], p0 ++ (p1 ++ (p2 ++ (p3 ++ (p4 ++ ([]))))), [], hW', ?_, ?_, rfl, hb.frame _, fun h => by cases h⟩
  · exact trodAll_cons_mk (shut_bool Try.underlying4 true) trodAll_mk0
  · exact trodAll_cons_mk (k0 _ hb) (trodAll_cons_mk (k1 _ hb) (trodAll_cons_mk (k2 _ hb) (trodAll_cons_mk (k3 _ hb) (trodAll_cons_mk (k4 _ hb) (trodAll_mk0)))))

theorem over : Rows.markAllRow.holds Try.pinned (OpenSpec.ofChange Rows.markAllSpec) :=
  OpenClaim.holds_of_wide 9 Try.f9 rfl rfl rfl rfl rfl rfl rfl ⟨rfl, rfl, rfl, rfl, rfl⟩ rfl rfl rfl rfl rfl (by kernel_rfl) Try.func9 (by kernel_rfl)
    (of_decide_eq_true (by kernel_rfl)) (by unfold Func.isWrapper; first | (rw [if_pos (by decide +kernel)]; kernel_rfl) | (rw [if_neg (by decide +kernel)]; exact ⟨rfl, rfl⟩))
    (fun os started H enc _ => lifted os started H enc)

/-- The given statement. -/
theorem proved : Rows.MarkAllSaid := over
#print axioms proved
end Go.Proofs.Ythcimfblmpapeaa.markAll
