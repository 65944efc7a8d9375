/- A heap of volatile objects: what is kept: plain part. -/
import Derived.Test.YtcnbcidbbeadcaaVhX
import Derived.Test.YtcnbcidbbeadcaaPushL
-- merged


namespace Go.Proofs.Ytcnbcidbbeadcaa
open Go.RowKit Go.Deep
set_option linter.unusedVariables false

def stepK (o : Nat → VOb) (K : List Int) (x : Int) : List Int := if (findV o x).isSome = true ∧ x ∉ K then K ++ [x] else K
def addK (o : Nat → VOb) (K l : List Int) : List Int := l.foldl (stepK o) K
def keepGo (o : Nat → VOb) : Nat → Nat → List Int → List Int
  | 0, _, K => K
  | n + 1, i, K => if i < K.length then keepGo o n (i + 1) (addK o K (refsV o (K.getD i 0))) else K
def keepV (o : Nat → VOb) (l : List Int) : List Int := keepGo o 65 0 (addK o [] l)
def dropV (o : Nat → VOb) (K : List Int) (n : Nat) : Nat → VOb := fun i => if i < n ∧ (o i).used = true ∧ (-1 - (i : Int)) ∉ K then noOb else o i
def goneTo (o : Nat → VOb) (K : List Int) : Nat → Nat
  | 0 => 0
  | n + 1 => goneTo o K n + (if (o n).used = true ∧ (-1 - (n : Int)) ∉ K then 1 else 0)
structure KeepOk (o : Nat → VOb) (K : List Int) : Prop where
  nd : K.Nodup
  us : ∀ x ∈ K, (findV o x).isSome = true
theorem findV_isSome {o : Nat → VOb} {x : Int} (h : (findV o x).isSome = true) : -64 ≤ x ∧ x < 0 := by
  unfold findV at h
  split at h
  · omega
  · cases h
theorem nodup_bound (n : Nat) (l : List Nat) (hn : l.Nodup) (hb : ∀ x ∈ l, x < n) : l.length ≤ n := by
  induction n generalizing l with
  | zero => cases l with
    | nil => exact Nat.le_refl _
    | cons y ys => exact absurd (hb y (by simp)) (by omega)
  | succ n ih =>
    by_cases hm : n ∈ l
    · have h1 := List.length_erase_of_mem hm
      have h2 := ih (l.erase n) (hn.erase n) (fun x hx => by
        have h3 := (hn.mem_erase_iff).1 hx
        have := hb x h3.2
        have := h3.1
        omega)
      omega
    · have := ih l hn (fun x hx => by
        have := hb x hx
        have : x ≠ n := fun e => hm (e ▸ hx)
        omega)
      omega
theorem KeepOk.len {o : Nat → VOb} {K : List Int} (h : KeepOk o K) : K.length ≤ 64 := by
  have h1 : (K.map (fun x => (-1 - x).toNat)).Nodup := by
    rw [List.Nodup, List.pairwise_map]
    refine h.nd.imp_of_mem ?_
    intro a b ha hb hab e
    have := findV_isSome (h.us a ha)
    have := findV_isSome (h.us b hb)
    omega
  have h2 := nodup_bound 64 _ h1 (fun t ht => by
    obtain ⟨x, hx, rfl⟩ := List.mem_map.1 ht
    have := findV_isSome (h.us x hx)
    omega)
  simpa using h2
theorem KeepOk.step {o : Nat → VOb} {K : List Int} (h : KeepOk o K) (x : Int) : KeepOk o (stepK o K x) := by
  unfold stepK
  split
  · rename_i hc
    refine ⟨?_, ?_⟩
    · rw [List.nodup_append]
      refine ⟨h.nd, by simp, ?_⟩
      intro a ha b hb
      simp at hb
      subst hb
      intro e
      subst e
      exact hc.2 ha
    · intro y hy
      rcases List.mem_append.1 hy with hy | hy
      · exact h.us y hy
      · simp at hy
        subst hy
        exact hc.1
  · exact h
theorem KeepOk.add {o : Nat → VOb} {K : List Int} (h : KeepOk o K) (l : List Int) : KeepOk o (addK o K l) := by
  induction l generalizing K with
  | nil => exact h
  | cons x l ih => exact ih (h.step x)
theorem KeepOk.nil (o : Nat → VOb) : KeepOk o [] := ⟨List.nodup_nil, by simp⟩
theorem addK_snoc (o : Nat → VOb) (K l : List Int) (x : Int) : addK o K (l ++ [x]) = stepK o (addK o K l) x := by
  unfold addK
  rw [List.foldl_append]
  rfl
theorem KeepOk.go {o : Nat → VOb} (n i : Nat) {K : List Int} (h : KeepOk o K) : KeepOk o (keepGo o n i K) := by
  induction n generalizing i K with
  | zero => exact h
  | succ n ih =>
    unfold keepGo
    split
    · exact ih (i + 1) (h.add _)
    · exact h
theorem dropV_succ (o : Nat → VOb) (K : List Int) (n : Nat) : dropV o K (n + 1) = if (o n).used = true ∧ (-1 - (n : Int)) ∉ K then setO (dropV o K n) n noOb else dropV o K n := by
  funext i
  by_cases e : i = n
  · subst e
    by_cases hc : (o i).used = true ∧ (-1 - (i : Int)) ∉ K
    · rw [if_pos hc, setO_at]
      unfold dropV
      rw [if_pos ⟨by omega, hc⟩]
    · rw [if_neg hc]
      unfold dropV
      rw [if_neg (fun h => hc h.2), if_neg (fun h => hc h.2)]
  · have e1 : dropV o K (n + 1) i = dropV o K n i := by
      unfold dropV
      have : (i < n + 1 ∧ (o i).used = true ∧ (-1 - (i : Int)) ∉ K) ↔ (i < n ∧ (o i).used = true ∧ (-1 - (i : Int)) ∉ K) :=
        ⟨fun h => ⟨by omega, h.2⟩, fun h => ⟨by omega, h.2⟩⟩
      simp only [this]
    split
    · rw [setO_ne _ _ e]; exact e1
    · exact e1
theorem dropV_behind (o : Nat → VOb) (K : List Int) (n i : Nat) (h : n ≤ i) : dropV o K n i = o i := by
  unfold dropV
  rw [if_neg (by omega)]
end Go.Proofs.Ytcnbcidbbeadcaa

/- slices.Contains; the closure that adds to what is kept. -/


namespace Go.Proofs.Ytcnbcidbbeadcaa
open Go.RowKit Go.Deep
set_option linter.unusedVariables false

def idxI (y : Int) : List Int → Nat → Int
  | [], _ => -1
  | x :: xs, k => if y = x then k else idxI y xs (k + 1)
theorem idxI_mem (y : Int) (xs : List Int) (k : Nat) : (0 ≤ idxI y xs k) ↔ y ∈ xs := by
  induction xs generalizing k with
  | nil => simp [idxI]
  | cons x xs ih =>
    unfold idxI
    split
    · rename_i h
      subst h
      simp
    · rename_i h
      rw [ih]
      simp [h]
theorem idxI_drop (y : Int) (xs : List Int) (k : Nat) (hk : k < xs.length) : idxI y (xs.drop k) k = if y = xs.getD k 0 then (k : Int) else idxI y (xs.drop (k + 1)) (k + 1) := by
  rw [List.drop_eq_getElem_cons hk]
  simp [idxI, List.getD, hk]
set_option maxRecDepth 100000 in
set_option maxHeartbeats 600000 in
theorem slices_Index (v : Value) (xs : List Int) (y : Int) (w : World) (hv : IntsR w v .i64 xs) : Calls Try.prog 96 #[v, .int .i64 y] w (RetU w (.int .i64 (idxI y xs 0))) := by
  have hX := Lib.hid hv
  obtain ⟨a, ca, rfl, hca1, hca, -⟩ := hv
  have l1 : (xs.length : Int) ≤ 9223372036854775807 := by unfold maxLen at hca; omega
  clear hca hca1
  go_enter Try.func96, Try.ntmps96
  go_wp2
  go_loopw [8] (fun i wr => ∃ k : Nat, k ≤ xs.length ∧ i = .int .i64 k ∧ idxI y (xs.drop k) k = idxI y xs 0 ∧ Upd (fun _ => False) w wr) (fun i _ => (xs.length - intOf i).toNat)
  case atStart => exact ⟨0, Nat.zero_le _, rfl, rfl, Upd.refl _ _⟩
  case round =>
    obtain ⟨k, hk, rfl, hfg, hu⟩ := hrel
    by_cases hkl : k = xs.length
    · have d1 : ¬ ((k : Int) < xs.length) := by omega
      have e0 : idxI y xs 0 = -1 := by rw [← hfg, hkl, List.drop_length]; rfl
      have He0 := Lib.hid e0; clear e0
      clear hfg hkl
      go_wp2
      go_ret
      exact ⟨by rw [He0.out]; rfl, hu⟩
    · have d1 : (k : Int) < xs.length := by omega
      have d1' : k < xs.length := by omega
      obtain ⟨b0, off, hix, hb0, hc⟩ := hX.out.index (P := Try.prog) Try.underlying52 (by kernel_rfl) (by kernel_rfl) d1'
      simp only [Nat.mul_one] at hix hc
      have hc0 : wr.cell? ⟨b0, off + k, none⟩ = some (.int .i64 (xs.getD k 0)) := (hu.none.cell (p := ⟨b0, off + k, none⟩) hb0).trans (hc 0 (by decide))
      rw [idxI_drop y xs k d1'] at hfg
      generalize xs.getD k 0 = x at *
      by_cases hxy : y = x
      · rw [if_pos hxy] at hfg
        have e2 : (y == x) = true := by rw [beq_iff_eq]; exact hxy
        clear hc hkl hxy
        have Hhu := Lib.hid hu; clear hu
        have Hhfg := Lib.hid hfg; clear hfg
        go_wp2
        go_ret
        exact ⟨by rw [← Hhfg.out]; rfl, Hhu.out⟩
      · rw [if_neg hxy] at hfg
        have e2 : (y == x) = false := by rw [beq_eq_false_iff_ne]; exact hxy
        clear hc hkl hxy
        have Hhu := Lib.hid hu; clear hu
        have Hhfg := Lib.hid hfg; clear hfg
        go_wp2
        go_roundw
        case rel => exact ⟨k + 1, by omega, by go_num, Hhfg.out, Hhu.out⟩
        case measure => simp [intOf]; omega
theorem slices_Contains (v : Value) (xs : List Int) (y : Int) (w : World) (hv : IntsR w v .i64 xs) : Calls Try.prog 79 #[v, .int .i64 y] w (RetU w (.bool (decide (y ∈ xs)))) := by
  have hI := slices_Index v xs y w hv
  obtain ⟨a, ca, rfl, -, -, -⟩ := hv
  have e := idxI_mem y xs 0
  have e : decide (idxI y xs 0 ≥ 0) = decide (y ∈ xs) := decide_eq_decide.2 e
  generalize idxI y xs 0 = q at *
  have HhI := Lib.hid hI; clear hI
  have He := Lib.hid e; clear e
  go_enter Try.func79, Try.ntmps79
  go_wp2_with (go_at_call 96; (with_reducible refine HhI.out.mono ?_); rintro e w2 ⟨rfl, hu2⟩)
  go_ret
  exact ⟨by rw [← He.out]; rfl, hu2⟩
end Go.Proofs.Ytcnbcidbbeadcaa

/- The closure that adds to what is kept. -/

namespace Go.Proofs.Ytcnbcidbbeadcaa
open Go.RowKit Go.Deep
set_option linter.unusedVariables false

/-- What Keep holds: the heap's pointer in block ch, what is kept in block ck. -/
structure KpSt (w0 : World) (b ch ck : Nat) (K : List Int) (wr : World) : Prop where
  bh : Blk wr ch [.pointer (some ⟨b, 0, none⟩)] 39
  bk : ∃ a c, Blk wr ck [.slice a K.length c] 52 ∧ wr.ownsRow (ck + 1) 3 1 (.slice a K.length c) K.length (ints K)
  lo : w0.heap.size ≤ ch ∧ ch < ck
  up : Upd (fun _ => False) w0 wr
theorem KpSt.still {w0 : World} {b ch ck : Nat} {K : List Int} {wr w' : World} (h : KpSt w0 b ch ck K wr) (u : Upd (fun _ => False) wr w') : KpSt w0 b ch ck K w' := by
  obtain ⟨a, c, h1, h2⟩ := h.bk
  exact ⟨h.bh.upd u (fun x => x), ⟨a, c, h1.upd u (fun x => x), ownsRow_upd h2 u (fun _ _ x => x)⟩, h.lo, h.up.trans u⟩
/-- The block of the kept row's own elements. -/
def RowK (w : World) (ck j : Nat) : Prop := ∃ s : Value, w.cell? ⟨ck, 0, none⟩ = some s ∧ s.ownBlock = some j
theorem RowK.back {w w' : World} {ck j : Nat} {s : Value} (h : RowK w' ck j) (hs : w.cell? ⟨ck, 0, none⟩ = some s) (u : Upd (fun _ => False) w w') : RowK w ck j := by
  obtain ⟨s', h1, h2⟩ := h
  rw [World.cell?_of_block (a := ⟨ck, 0, none⟩) (u.block ck (World.block_lt_of_cell? w _ hs) (fun x => x))] at h1
  exact ⟨s', h1, h2⟩
/-- The closure's state within a call that began at w. -/
structure AdSt (w0 : World) (b ch ck : Nat) (w : World) (K : List Int) (wr : World) : Prop where
  st : KpSt w0 b ch ck K wr
  up : Upd (fun j => j = ck ∨ RowK w ck j) w wr
  rows : ∀ j, RowK wr ck j → RowK w ck j ∨ w.heap.size ≤ j
theorem AdSt.still {w0 : World} {b ch ck : Nat} {K : List Int} {w wr w' : World} (h : AdSt w0 b ch ck w K wr) (u : Upd (fun _ => False) wr w') : AdSt w0 b ch ck w K w' := by
  obtain ⟨a, c, h1, h2⟩ := h.st.bk
  exact ⟨h.st.still u, h.up.trans (u.mono (fun _ _ x => x.elim)), fun j hj => h.rows j (hj.back (h1.cell 0 rfl) u)⟩
theorem AdSt.put {w0 : World} {b ch ck : Nat} {K : List Int} {w wr w4 : World} (h : AdSt w0 b ch ck w K wr) (x : Int) {a : Option Addr} {c : Nat} (hr : Blk wr ck [.slice a K.length c] 52) (ho0 : wr.ownsRow (ck + 1) 3 1 (.slice a K.length c) K.length (ints K)) {o : Obj} {g' c' : Nat}
    (ho : w4.ownsRow (ck + 1) 3 1 (.slice (some ⟨g', 0, none⟩) (K.length + 1) c') (K.length + 1) (ints K ++ [.int .i64 x])) (hg : (wr.alloc o).grownBy w4 (Value.slice a K.length c).ownBlock) (hl : (Value.slice a K.length c).ownBlock = some g' ∨ g' = (wr.alloc o).heap.size) :
    (w4.cell? ⟨ck, 0, none⟩ = some (.slice a K.length c) ∧ w4.frozen? ⟨ck, 0, none⟩ = false) ∧ AdSt w0 b ch ck w (K ++ [x]) (w4.setCell ⟨ck, 0, none⟩ (.slice (some ⟨g', 0, none⟩) (K.length + 1) c')) := by
  have hkb : ∀ j, (Value.slice a K.length c).ownBlock = some j → ck < j ∧ j < wr.heap.size := fun j e => by
    have := ho0.lt j e
    omega
  have ua : Upd (fun _ => False) wr (wr.alloc o) := (Upd.refl _ _).alloc _
  have u3 : Upd (fun j => (Value.slice a K.length c).ownBlock = some j) (wr.alloc o) w4 := (Upd.refl _ _).grown hg (fun j e _ => e)
  have u4 : Upd (fun j => j = ck) w4 (w4.setCell ⟨ck, 0, none⟩ (.slice (some ⟨g', 0, none⟩) (K.length + 1) c')) := (Upd.refl _ _).at _ _
  have hb4 := (hr.upd ua (fun x => x)).upd u3 (fun e => by have := hkb ck e; omega)
  have hl0 := h.st.lo
  have hup := h.st.up.size
  have hckl := hr.lt
  have hrow : ints (K ++ [x]) = ints K ++ [.int .i64 x] := by simp [ints]
  refine ⟨⟨hb4.cell 0 rfl, hb4.free 0⟩, ⟨?_, ⟨some ⟨g', 0, none⟩, c', ?_, ?_⟩, h.st.lo, ?_⟩, ?_, ?_⟩
  · exact ((h.st.bh.upd ua (fun x => x)).upd u3 (fun e => by have := hkb ch e; omega)).upd u4 (by omega)
  · rw [List.length_append]
    have := hb4.set 0 (.slice (some ⟨g', 0, none⟩) (K.length + 1) c')
    simpa using this
  · rw [hrow, List.length_append]
    exact ownsRow_upd ho u4 (fun j hj e => by omega)
  · exact ((h.st.up.trans ua).own u3 (fun j e => by have := hkb j e; omega)).own u4 (fun j e => by omega)
  · refine ((h.up.trans (ua.mono (fun _ _ x => x.elim))).comp u3 (fun _ _ e => e) (fun j hj e => ?_)).comp u4 (fun _ _ e => e) (fun j _ e => Or.inl e)
    rcases h.rows j ⟨_, hr.cell 0 rfl, e⟩ with e2 | e2
    · exact Or.inr e2
    · omega
  · rintro j ⟨s, hs, he⟩
    have hb2 := (hb4.set 0 (.slice (some ⟨g', 0, none⟩) (K.length + 1) c')).cell 0 rfl
    have hs2 : s = .slice (some ⟨g', 0, none⟩) (K.length + 1) c' := by
      rw [hb2] at hs
      exact (Option.some.inj hs).symm
    subst hs2
    have he : g' = j := by simpa [Value.ownBlock] using he
    subst he
    rcases hl with e | e
    · exact h.rows _ ⟨_, hr.cell 0 rfl, e⟩
    · have := h.up.size
      have := ua.size
      exact Or.inr (by omega)
def AdPost (w0 : World) (b ch ck : Nat) (w : World) (K : List Int) (e : Ending) (w' : World) : Prop := e = .returned (.tuple #[]) ∧ KpSt w0 b ch ck K w'
set_option maxRecDepth 100000 in
set_option maxHeartbeats 2000000 in
theorem vh_add {w0 : World} {b base : Nat} {ks : List (List Int)} {o : Nat → VOb} {kv : Value} {F : Nat → Value} (h : IsVh w0 b base ks o kv F) {ch ck : Nat} {K : List Int} {w : World} (hs : KpSt w0 b ch ck K w) (hK : KeepOk o K) (v : Value) (l : List Int)
    (hl : ∀ w', Upd (fun j => j = ck ∨ RowK w ck j) w w' → IntsR w' v .i64 l) :
    Calls Try.prog 78 #[v, .pointer (some ⟨ch, 0, none⟩), .pointer (some ⟨ck, 0, none⟩)] w (AdPost w0 b ch ck w (addK o K l)) := by
  have hX := Lib.hid hl
  obtain ⟨va, vc, rfl, hcap1, hcap, -⟩ := hl w (Upd.refl _ _)
  have l1 : (l.length : Int) ≤ 9223372036854775807 := by unfold maxLen at hcap; omega
  have hS0 : AdSt w0 b ch ck w K w := ⟨hs, Upd.refl _ _, fun j hj => Or.inl hj⟩
  have hH := Lib.hid h
  clear hcap hcap1 hl hs h
  go_enter Try.func78, Try.ntmps78
  go_wp2_with fail
  go_loopw [8] (fun i wr => ∃ (k : Nat), i = .int .i64 k ∧ k ≤ l.length ∧ AdSt w0 b ch ck w (addK o K (l.take k)) wr) (fun i _ => (l.length - intOf i).toNat)
  case atStart => exact ⟨0, rfl, Nat.zero_le _, hS0⟩
  case round =>
    obtain ⟨k, rfl, hk, hst⟩ := hrel
    clear hS0
    by_cases hk2 : k = l.length
    · have d1 : ¬ (k : Int) < l.length := by omega
      rw [hk2, List.take_length] at hst
      have fin := Lib.hid (show AdPost w0 b ch ck w (addK o K l) (.returned (.tuple #[])) wr from ⟨rfl, hst.st⟩)
      clear hst hk2
      go_wp2_with fail
      go_end0
      exact fin.out
    · have hk3 : k < l.length := by omega
      have d1 : (k : Int) < l.length := by omega
      obtain ⟨b1, o1, hix, hb1, hy⟩ := RowsIn.index (P := Try.prog) (hX.out wr hst.up) Try.underlying52 (by kernel_rfl) (by kernel_rfl) hk3
      simp only [Nat.mul_one] at hix hy
      have hy0 := hy 0 (by decide)
      simp only [Nat.add_zero] at hy0
      have htk : addK o K (l.take (k + 1)) = stepK o (addK o K (l.take k)) (l.getD k 0) := by
        rw [List.take_succ_eq_append_getElem hk3, addK_snoc]
        simp [List.getD, hk3]
      have hok := (hK.add (l.take k)).len
      generalize addK o K (l.take k) = K1 at *
      change wr.cell? _ = some (.int .i64 (l.getD k 0)) at hy0
      generalize l.getD k 0 = x at *
      have hfd := vh_find (hH.out.still hst.st.up) x
      have hc0 := hst.st.bh.cell 0 rfl
      have hS := Lib.hid hst
      unfold stepK at htk
      clear hy hk2 hst
      cases hfv : findV o x with
      | none =>
        rw [hfv, if_neg (by simp)] at htk
        rw [hfv] at hfd
        have hfd := Lib.hid (show Calls Try.prog 61 #[.pointer (some ⟨b, 0, none⟩), .int .i64 x] wr (RetU wr (.pointer none)) from hfd)
        have Hhtk := Lib.hid htk; clear htk
        clear hfv
        go_wp2_with (go_at_call 61; (with_reducible refine hfd.out.mono ?_); rintro e w2 ⟨rfl, hu2⟩; have Hu2 := Lib.hid hu2; clear hu2)
        go_roundw
        case rel => exact ⟨k + 1, by go_num, by omega, by rw [Hhtk.out]; exact hS.out.still Hu2.out⟩
        case measure => simp [intOf]; omega
      | some i =>
        rw [hfv] at hfd
        have hfd := Lib.hid (show Calls Try.prog 61 #[.pointer (some ⟨b, 0, none⟩), .int .i64 x] wr (RetU wr (.pointer (some ⟨b, 1 + i * 3, none⟩))) from hfd)
        obtain ⟨ka, kc, hkB, hkO⟩ := hS.out.st.bk
        have hkI := ownsRow_intsR hkO
        have hcon := fun w' (u : Upd (fun _ => False) wr w') => slices_Contains _ K1 x w' (ints_upd hkI u)
        have hck := Lib.hid (fun w' (u : Upd (fun _ => False) wr w') => (hkB.upd u (fun h => h)).cell 0 rfl)
        by_cases hmem : x ∈ K1
        · rw [if_neg (fun h => h.2 hmem)] at htk
          simp only [decide_eq_true hmem] at hcon
          have hcon := Lib.hid hcon
          have Hhtk := Lib.hid htk; clear htk
          clear hfv hkB hkO hkI hmem
          generalize K1.length = kl at *
          go_wp2_with (first
            | (go_at_call 61; (with_reducible refine hfd.out.mono ?_); rintro e w2 ⟨rfl, hu2⟩; have ck2 := hck.out w2 hu2; have Hu2 := Lib.hid hu2; clear hu2)
            | (go_at_call 79; (with_reducible refine (hcon.out _ Hu2.out).mono ?_); rintro e w3 ⟨rfl, hu3⟩; have Hu3 := Lib.hid (Hu2.out.trans hu3); clear hu3))
          go_roundw
          case rel => exact ⟨k + 1, by go_num, by omega, by rw [Hhtk.out]; exact hS.out.still Hu3.out⟩
          case measure => simp [intOf]; omega
        · rw [hfv, if_pos ⟨rfl, hmem⟩] at htk
          simp only [decide_eq_false hmem] at hcon
          have hcon := Lib.hid hcon
          have hkl : K1.length ≤ 1099511627776 := by omega
          have hput := Lib.hid (fun w3 (u : Upd (fun _ => False) wr w3) o w4 g' c' ho hg hl => (hS.out.still u).put (w4 := w4) x (o := o) (g' := g') (c' := c') (hkB.upd u (fun h => h)) (ownsRow_upd hkO u (fun _ _ x => x)) ho hg hl)
          have hoA := Lib.hid (fun w3 (u : Upd (fun _ => False) wr w3) => (ownsRow_upd hkO u (fun _ _ x => x)).alloc (.cells #[.int .i64 x] 3))
          have hsz := Lib.hid (hkB.lt)
          have Hhtk := Lib.hid htk; clear htk
          clear hfv hkB hkO hkI hmem
          go_wp2_with (first
            | (go_at_call 61; (with_reducible refine hfd.out.mono ?_); rintro e w2 ⟨rfl, hu2⟩; have ck2 := hck.out w2 hu2; have Hu2 := Lib.hid hu2; clear hu2)
            | (go_at_call 79; (with_reducible refine (hcon.out _ Hu2.out).mono ?_); rintro e w3 ⟨rfl, hu3⟩; have ck3 := hck.out w3 (Hu2.out.trans hu3); have cN3 := (Blk.new w3 [.int .i64 x] 3).cell 0 rfl; have Hu3 := Lib.hid (Hu2.out.trans hu3); clear hu3)
            | (at_builtin; refine wpList_pushL rfl _ _ 52 3 rfl (.int .i64 0) 8 Try.underlying52 infoIntM rfl (ck + 1) _ _ _ rfl (hoA.out w3 Hu3.out) w3.heap.size 1 (.int .i64 x) rfl cN3 rfl hkl (by decide) (by have := hsz.out; have := Hu3.out.size; simp; omega) ?_; intro g4 c4 w4 ho4 hg4 hl4; obtain ⟨⟨e4, f4⟩, fin⟩ := hput.out w3 Hu3.out _ w4 g4 c4 ho4 hg4 hl4; have Hfin := Lib.hid fin; clear ho4 hg4 hl4 fin))
          go_roundw
          case rel => exact ⟨k + 1, by go_num, by omega, by rw [Hhtk.out]; exact Hfin.out⟩
          case measure => simp [intOf]; omega
end Go.Proofs.Ytcnbcidbbeadcaa

