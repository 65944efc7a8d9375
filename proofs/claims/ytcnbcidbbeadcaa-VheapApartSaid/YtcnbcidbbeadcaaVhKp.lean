/- A heap of volatile objects: what is kept: plain part. -/
import Derived.Test.YtcnbcidbbeadcaaVhX
namespace Go.Proofs.Ytcnbcidbbeadcaa
open Go.RowKit Go.Deep
set_option linter.unusedVariables false

def stepK (o : Nat → VOb) (K : List Int) (x : Int) : List Int := if (findV o x).isSome = true ∧ x ∉ K then K ++ [x] else K
def addK (o : Nat → VOb) (K l : List Int) : List Int := l.foldl (stepK o) K
def keepGo (o : Nat → VOb) : Nat → Nat → List Int → List Int
  | 0, _, K => K
  | n + 1, i, K => if i < K.length then keepGo o n (i + 1) (addK o K (refsV o (K.getD i 0))) else K
def keepV (o : Nat → VOb) (l : List Int) : List Int := keepGo o 65 0 (addK o [] l)
def dropV (o : Nat → VOb) (K : List Int) (n : Nat) : Nat → VOb := fun i => if i < n ∧ (o i).used = true ∧ (-1 - (i : Int)) ∉ K then noOb else o i
def goneTo (o : Nat → VOb) (K : List Int) : Nat → Nat
  | 0 => 0
  | n + 1 => goneTo o K n + (if (o n).used = true ∧ (-1 - (n : Int)) ∉ K then 1 else 0)
structure KeepOk (o : Nat → VOb) (K : List Int) : Prop where
  nd : K.Nodup
  us : ∀ x ∈ K, (findV o x).isSome = true
theorem findV_isSome {o : Nat → VOb} {x : Int} (h : (findV o x).isSome = true) : -64 ≤ x ∧ x < 0 := by
  unfold findV at h
  split at h
  · omega
  · cases h
theorem nodup_bound (n : Nat) (l : List Nat) (hn : l.Nodup) (hb : ∀ x ∈ l, x < n) : l.length ≤ n := by
  induction n generalizing l with
  | zero => cases l with
    | nil => exact Nat.le_refl _
    | cons y ys => exact absurd (hb y (by simp)) (by omega)
  | succ n ih =>
    by_cases hm : n ∈ l
    · have h1 := List.length_erase_of_mem hm
      have h2 := ih (l.erase n) (hn.erase n) (fun x hx => by
        have h3 := (hn.mem_erase_iff).1 hx
        have := hb x h3.2
        have := h3.1
        omega)
      omega
    · have := ih l hn (fun x hx => by
        have := hb x hx
        have : x ≠ n := fun e => hm (e ▸ hx)
        omega)
      omega
theorem KeepOk.len {o : Nat → VOb} {K : List Int} (h : KeepOk o K) : K.length ≤ 64 := by
  have h1 : (K.map (fun x => (-1 - x).toNat)).Nodup := by
    rw [List.Nodup, List.pairwise_map]
    refine h.nd.imp_of_mem ?_
    intro a b ha hb hab e
    have := findV_isSome (h.us a ha)
    have := findV_isSome (h.us b hb)
    omega
  have h2 := nodup_bound 64 _ h1 (fun t ht => by
    obtain ⟨x, hx, rfl⟩ := List.mem_map.1 ht
    have := findV_isSome (h.us x hx)
    omega)
  simpa using h2
theorem KeepOk.step {o : Nat → VOb} {K : List Int} (h : KeepOk o K) (x : Int) : KeepOk o (stepK o K x) := by
  unfold stepK
  split
  · rename_i hc
    refine ⟨?_, ?_⟩
    · rw [List.nodup_append]
      refine ⟨h.nd, by simp, ?_⟩
      intro a ha b hb
      simp at hb
      subst hb
      intro e
      subst e
      exact hc.2 ha
    · intro y hy
      rcases List.mem_append.1 hy with hy | hy
      · exact h.us y hy
      · simp at hy
        subst hy
        exact hc.1
  · exact h
theorem KeepOk.add {o : Nat → VOb} {K : List Int} (h : KeepOk o K) (l : List Int) : KeepOk o (addK o K l) := by
  induction l generalizing K with
  | nil => exact h
  | cons x l ih => exact ih (h.step x)
theorem KeepOk.nil (o : Nat → VOb) : KeepOk o [] := ⟨List.nodup_nil, by simp⟩
theorem addK_snoc (o : Nat → VOb) (K l : List Int) (x : Int) : addK o K (l ++ [x]) = stepK o (addK o K l) x := by
  unfold addK
  rw [List.foldl_append]
  rfl
theorem KeepOk.go {o : Nat → VOb} (n i : Nat) {K : List Int} (h : KeepOk o K) : KeepOk o (keepGo o n i K) := by
  induction n generalizing i K with
  | zero => exact h
  | succ n ih =>
    unfold keepGo
    split
    · exact ih (i + 1) (h.add _)
    · exact h
theorem dropV_succ (o : Nat → VOb) (K : List Int) (n : Nat) : dropV o K (n + 1) = if (o n).used = true ∧ (-1 - (n : Int)) ∉ K then setO (dropV o K n) n noOb else dropV o K n := by
  funext i
  by_cases e : i = n
  · subst e
    by_cases hc : (o i).used = true ∧ (-1 - (i : Int)) ∉ K
    · rw [if_pos hc, setO_at]
      unfold dropV
      rw [if_pos ⟨by omega, hc⟩]
    · rw [if_neg hc]
      unfold dropV
      rw [if_neg (fun h => hc h.2), if_neg (fun h => hc h.2)]
  · have e1 : dropV o K (n + 1) i = dropV o K n i := by
      unfold dropV
      have : (i < n + 1 ∧ (o i).used = true ∧ (-1 - (i : Int)) ∉ K) ↔ (i < n ∧ (o i).used = true ∧ (-1 - (i : Int)) ∉ K) :=
        ⟨fun h => ⟨by omega, h.2⟩, fun h => ⟨by omega, h.2⟩⟩
      simp only [this]
    split
    · rw [setO_ne _ _ e]; exact e1
    · exact e1
theorem dropV_behind (o : Nat → VOb) (K : List Int) (n i : Nat) (h : n ≤ i) : dropV o K n i = o i := by
  unfold dropV
  rw [if_neg (by omega)]
end Go.Proofs.Ytcnbcidbbeadcaa
