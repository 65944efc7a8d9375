/- A heap of volatile objects is written: Remove. -/
import Derived.Test.YtcnbcidbbeadcaaVhR
namespace Go.Proofs.Ytcnbcidbbeadcaa
open Go.RowKit Go.Deep
set_option linter.unusedVariables false

def setO {α : Type} (o : Nat → α) (i : Nat) (v : α) : Nat → α := fun k => if k = i then v else o k
theorem setO_at {α : Type} (o : Nat → α) (i : Nat) (v : α) : setO o i v i = v := if_pos rfl
theorem setO_ne {α : Type} (o : Nat → α) {i k : Nat} (v : α) (h : k ≠ i) : setO o i v k = o k := if_neg h
theorem obRows_set (o : Nat → VOb) (F : Nat → Value) (i : Nat) (ob : VOb) (fv : Value) (n : Nat) (hi : i < n) :
    (((obRows o F n).set (i * 3 + 0) (.bool ob.used)).set (i * 3 + 1) (.int .i64 ob.k)).set (i * 3 + 2) fv = obRows (setO o i ob) (setO F i fv) n := by
  apply List.ext_getElem?
  intro t
  have hl := obRows_len o F n
  by_cases ht : t < n * 3
  · obtain ⟨k, j, hk, hj, rfl⟩ : ∃ k j, k < n ∧ j < 3 ∧ t = k * 3 + j := ⟨t / 3, t % 3, by omega, by omega, by omega⟩
    rw [obRows_get _ _ n k j hk hj]
    by_cases e : k = i
    · subst e
      unfold obCells
      rw [setO_at, setO_at]
      match j, hj with
      | 0, _ => rw [List.getElem?_set_ne (by omega), List.getElem?_set_ne (by omega), List.getElem?_set_self (by omega)]; rfl
      | 1, _ => rw [List.getElem?_set_ne (by omega), List.getElem?_set_self (by rw [List.length_set]; omega)]; rfl
      | 2, _ => rw [List.getElem?_set_self (by rw [List.length_set, List.length_set]; omega)]; rfl
    · rw [List.getElem?_set_ne (by omega), List.getElem?_set_ne (by omega), List.getElem?_set_ne (by omega), obRows_get _ _ n k j hk hj]
      unfold obCells
      rw [setO_ne o ob e, setO_ne F fv e]
  · rw [List.getElem?_eq_none (by rw [List.length_set, List.length_set, List.length_set]; omega), List.getElem?_eq_none (by rw [obRows_len]; omega)]
theorem vh_set (kv : Value) (o : Nat → VOb) (F : Nat → Value) (i : Nat) (ob : VOb) (fv : Value) (hi : i < 64) :
    (((vhCells kv o F).set (1 + i * 3) (.bool ob.used)).set (1 + i * 3 + 1) (.int .i64 ob.k)).set (1 + i * 3 + 2) fv = vhCells kv (setO o i ob) (setO F i fv) := by
  unfold vhCells
  rw [show 1 + i * 3 = (i * 3 + 0) + 1 from by omega, List.set_cons_succ, show i * 3 + 0 + 1 + 1 = (i * 3 + 1) + 1 from by omega, List.set_cons_succ, show i * 3 + 0 + 1 + 2 = (i * 3 + 2) + 1 from by omega, List.set_cons_succ]
  exact congrArg _ (obRows_set o F i ob fv 64 hi)
/-- One object is put anew. -/
theorem IsVh.put {w w' : World} {b base : Nat} {ks : List (List Int)} {o : Nat → VOb} {kv : Value} {F : Nat → Value} (h : IsVh w b base ks o kv F) {i : Nat} (hi : i < 64) (ob : VOb) (fv : Value)
    (hb : Blk w' b (vhCells kv (setO o i ob) (setO F i fv)) 96) (u : Upd (fun j => j = b) w w') (hrow : w'.ownsRow base 26 5 fv ob.f.length (cellsV ob.f))
    (hap : ∀ j, j < 64 → j ≠ i → ∀ g, fv.ownBlock = some g → (F j).ownBlock ≠ some g) (hoff : ob.used = false → ob = noOb) (hok : ∀ x ∈ ob.f, x.ok) (hfew : ob.f.length ≤ 15)
    (hkin : ob.used = true → 0 ≤ ob.k ∧ ob.k < ks.length ∧ ob.f.length = (ks.getD ob.k.toNat []).length) :
    IsVh w' b base ks (setO o i ob) kv (setO F i fv) := by
  refine ⟨hb, h.low, Nat.le_trans h.size u.size, fun w2 u2 => h.kinds w2 ((u.mono (fun _ _ e => Or.inr e)).trans u2), fun k hk => ?_, fun k j hk hj hne g => ?_, fun k hk => ?_, fun k hk => ?_, fun k hk => ?_, fun k hk => ?_⟩
  · by_cases e : k = i
    · subst e
      rw [setO_at, setO_at]
      exact hrow
    · rw [setO_ne o ob e, setO_ne F fv e]
      obtain ⟨h1, h2⟩ := h.row k hk
      refine ⟨h1, ?_⟩
      rcases h2 with h2 | ⟨g, cap, cur, hv, hg, hh, r⟩
      · exact Or.inl h2
      · refine Or.inr ⟨g, cap, cur, hv, hg, ?_, r⟩
        rw [u.block g (Array.getElem?_eq_some_iff.1 hh).1 (fun e2 => by have := h.low; omega)]
        exact hh
  · by_cases e : k = i
    · subst e
      rw [setO_at, setO_ne F fv (fun e => hne e.symm)]
      exact hap j hj (fun e => hne e.symm) g
    · rw [setO_ne F fv e]
      by_cases e2 : j = i
      · subst e2
        rw [setO_at]
        intro h1 h2
        exact hap k hk e g h2 h1
      · rw [setO_ne F fv e2]
        exact h.apart k j hk hj hne g
  · by_cases e : k = i
    · subst e; rw [setO_at]; exact hoff
    · rw [setO_ne o ob e]; exact h.off k hk
  · by_cases e : k = i
    · subst e; rw [setO_at]; exact hok
    · rw [setO_ne o ob e]; exact h.ok k hk
  · by_cases e : k = i
    · subst e; rw [setO_at]; exact hfew
    · rw [setO_ne o ob e]; exact h.few k hk
  · by_cases e : k = i
    · subst e; rw [setO_at]; exact hkin
    · rw [setO_ne o ob e]; exact h.kin k hk

def removeV (o : Nat → VOb) (x : Int) : Nat → VOb := match findV o x with
  | none => o
  | some i => setO o i noOb
/-- A bool; the heap is another. -/
def RetVh (w : World) (b base : Nat) (ks : List (List Int)) (o : Nat → VOb) (kv : Value) (v : Value) (e : Ending) (w' : World) : Prop :=
  e = .returned v ∧ (∃ F, IsVh w' b base ks o kv F) ∧ Upd (fun j => j = b) w w'

set_option maxRecDepth 100000 in
set_option maxHeartbeats 2000000 in
theorem vh_Remove {w : World} {b base : Nat} {ks : List (List Int)} {o : Nat → VOb} {kv : Value} {F : Nat → Value} (h : IsVh w b base ks o kv F) (x : Int) :
    Calls Try.prog 26 #[.pointer (some ⟨b, 0, none⟩), .int .i64 x] w (RetVh w b base ks (removeV o x) kv (.bool (findV o x).isSome)) := by
  have hf := vh_find h x
  unfold removeV
  cases hfv : findV o x with
  | none =>
    rw [hfv] at hf
    have hf := Lib.hid (show Calls Try.prog 61 #[.pointer (some ⟨b, 0, none⟩), .int .i64 x] w (RetU w (.pointer none)) from hf)
    show Calls _ _ _ _ (RetVh w b base ks o kv (.bool false))
    have hst := Lib.hid (fun w' (u : Upd (fun _ => False) w w') => h.still u)
    clear h hfv
    go_enter Try.func26, Try.ntmps26
    go_wp2_with (go_at_call 61; (with_reducible refine hf.out.mono ?_); rintro e w2 ⟨rfl, hu2⟩; have Hu2 := Lib.hid hu2; clear hu2)
    go_ret
    exact ⟨rfl, ⟨F, hst.out _ Hu2.out⟩, Hu2.out.mono (fun _ _ e => e.elim)⟩
  | some i =>
    rw [hfv] at hf
    obtain ⟨hi, hus, -⟩ := findV_some hfv
    have hf := Lib.hid (show Calls Try.prog 61 #[.pointer (some ⟨b, 0, none⟩), .int .i64 x] w (RetU w (.pointer (some ⟨b, 1 + i * 3, none⟩))) from hf)
    show Calls _ _ _ _ (RetVh w b base ks (setO o i noOb) kv (.bool true))
    have hc := Lib.hid (fun w' (u : Upd (fun _ => False) w w') => (h.still u).cell i hi)
    have hfr := Lib.hid (fun w' (u : Upd (fun _ => False) w w') j => (h.still u).blk.free j)
    have fin := Lib.hid (fun w' (u : Upd (fun _ => False) w w') => show RetVh w b base ks (setO o i noOb) kv (.bool true) (.returned (.bool true)) (((w'.setCell ⟨b, 1 + i * 3, none⟩ (.bool false)).setCell ⟨b, 1 + i * 3 + 1, none⟩ (.int .i64 0)).setCell ⟨b, 1 + i * 3 + 2, none⟩ (.slice none 0 0)) from by
      have h2 := h.still u
      have hb := ((h2.blk.set (1 + i * 3) (.bool false)).set (1 + i * 3 + 1) (.int .i64 0)).set (1 + i * 3 + 2) (.slice none 0 0)
      have e : (((vhCells kv o F).set (1 + i * 3) (.bool false)).set (1 + i * 3 + 1) (.int .i64 0)).set (1 + i * 3 + 2) (.slice none 0 0) = vhCells kv (setO o i noOb) (setO F i (.slice none 0 0)) := vh_set kv o F i noOb (.slice none 0 0) hi
      rw [e] at hb
      have u3 := (((Upd.refl (fun j => j = b) w').at (1 + i * 3) (.bool false)).at (1 + i * 3 + 1) (.int .i64 0)).at (1 + i * 3 + 2) (.slice none 0 0)
      exact ⟨rfl, ⟨_, h2.put hi noOb (.slice none 0 0) hb u3 (World.ownsRow_nil _ _ _ _) (fun j _ _ g e => by simp [Value.ownBlock] at e) (fun _ => rfl) (fun x hx => by simp [noOb] at hx) (by decide) (fun h => by cases h)⟩, (u.mono (fun _ _ e => e.elim)).trans u3⟩)
    clear h hfv hus hi
    generalize 1 + i * 3 = at1 at *
    go_enter Try.func26, Try.ntmps26
    go_wp2_with (go_at_call 61; (with_reducible refine hf.out.mono ?_); rintro e w2 ⟨rfl, hu2⟩; obtain ⟨c0, c1, c2⟩ := hc.out w2 hu2; have f0 := hfr.out w2 hu2 at1; have f1 := hfr.out w2 hu2 (at1 + 1); have f2 := hfr.out w2 hu2 (at1 + 2); have Hu2 := Lib.hid hu2; clear hu2)
    go_ret
    exact fin.out _ Hu2.out
end Go.Proofs.Ytcnbcidbbeadcaa
