/- Package mark: its functions' contracts. -/
import Derived.Test.YthaicpjgmplgcaaMarkP
import Derived.Test.YthaicpjgmplgcaaMapOf
namespace Go.Proofs.Ythaicpjgmplgcaa
open Go.RowKit
set_option linter.unusedVariables false

/-- The marker whose blocks begin at block B. -/
def IsMk (w : World) (B : Nat) (x : Mk) : Prop :=
  Blk w (B + 5) [.pointer (some ⟨B + 1, 0, none⟩), .pointer (some ⟨B + 3, 0, none⟩), .pointer (some ⟨B + 4, 0, none⟩)] 118 ∧
    MapF w (B + 1) B x.n x.m ∧ MapF w (B + 3) (B + 2) x.n x.s ∧ Stk w (B + 4) x.l x.room x.over
/-- Its blocks. -/
def InMk (B k : Nat) : Prop := B ≤ k ∧ k < B + 6

theorem IsMk.upd {w w' : World} {B : Nat} {x : Mk} (h : IsMk w B x) {S : Nat → Prop} (u : Upd S w w') (hs : ∀ k, InMk B k → ¬ S k) : IsMk w' B x := by
  obtain ⟨h1, h2, h3, h4⟩ := h
  exact ⟨h1.upd u (hs _ ⟨by omega, by omega⟩), h2.upd u (hs _ ⟨by omega, by omega⟩) (hs _ ⟨by omega, by omega⟩), h3.upd u (hs _ ⟨by omega, by omega⟩) (hs _ ⟨by omega, by omega⟩), h4.upd u (hs _ ⟨by omega, by omega⟩)⟩
theorem IsMk.still {w w' : World} {B : Nat} {x : Mk} (h : IsMk w B x) (u : Upd (fun _ => False) w w') : IsMk w' B x := h.upd u (fun _ _ x => x)
theorem IsMk.lt {w : World} {B : Nat} {x : Mk} (h : IsMk w B x) : B + 5 < w.heap.size := h.1.lt
theorem IsMk.cells {w : World} {B : Nat} {x : Mk} (h : IsMk w B x) : w.cell? ⟨B + 5, 0, none⟩ = some (.pointer (some ⟨B + 1, 0, none⟩)) ∧ w.cell? ⟨B + 5, 1, none⟩ = some (.pointer (some ⟨B + 3, 0, none⟩)) ∧ w.cell? ⟨B + 5, 2, none⟩ = some (.pointer (some ⟨B + 4, 0, none⟩)) :=
  ⟨h.1.cell 0 rfl, h.1.cell 1 rfl, h.1.cell 2 rfl⟩

def NewPost (w : World) (n room : Int) (e : Ending) (w' : World) : Prop :=
  e = .returned (.pointer (some ⟨w.heap.size + 5, 0, none⟩)) ∧ IsMk w' w.heap.size ⟨(max 0 (min n 1048576)).toNat, fun _ => false, fun _ => false, [], roomOf room, false⟩ ∧ Upd (fun _ => False) w w' ∧ w'.heap.size = w.heap.size + 6

set_option maxRecDepth 100000 in
set_option maxHeartbeats 1000000 in
theorem mark_New (n room : Int) (w : World) : Calls Try.prog 58 #[.int .i64 n, .int .i64 room] w (NewPost w n room) := by
  unfold NewPost
  obtain ⟨k, hk⟩ : ∃ k, (max 0 (min n 1048576)).toNat = k := ⟨_, rfl⟩
  have h1 := map_New n w
  rw [hk] at h1 ⊢
  have Hk := Lib.hid hk
  clear hk
  go_enter Try.func58, Try.ntmps58
  go_wp2_with fail
  refine h1.mono ?_
  rintro e w1 ⟨rfl, hM1, hu1, hz1⟩
  have h2 := map_New n w1
  rw [Hk.out, hz1] at h2
  clear h1
  have Hhz1 := Lib.hid hz1; clear hz1
  go_wp2_with fail
  refine h2.mono ?_
  rintro e w2 ⟨rfl, hM2, hu2, hz2⟩
  have h3 := grey_new room w2
  unfold GreyNew at h3
  rw [hz2] at h3
  clear h2
  have Hhz2 := Lib.hid hz2; clear hz2
  go_wp2_with fail
  refine h3.mono ?_
  rintro e w3 ⟨rfl, hS, hu3, hz3⟩
  generalize hB : w.heap.size = B at *
  have hlit : ∀ (x : Nat), x = B + 5 → IsMk (w3.alloc (.cells #[.pointer (some ⟨B + 1, 0, none⟩), .pointer (some ⟨B + 3, 0, none⟩), .pointer (some ⟨B + 4, 0, none⟩)] 118)) B ⟨k, fun _ => false, fun _ => false, [], roomOf room, false⟩ := by
    intro x hx
    have hn := Blk.new w3 [.pointer (some ⟨B + 1, 0, none⟩), .pointer (some ⟨B + 3, 0, none⟩), .pointer (some ⟨B + 4, 0, none⟩)] 118
    rw [show w3.heap.size = B + 5 from by omega] at hn
    have ua : Upd (fun _ => False) w3 (w3.alloc (.cells #[.pointer (some ⟨B + 1, 0, none⟩), .pointer (some ⟨B + 3, 0, none⟩), .pointer (some ⟨B + 4, 0, none⟩)] 118)) := (Upd.refl _ _).alloc _
    exact ⟨hn, ((hM1.upd hu2 (fun x => x) (fun x => x)).upd hu3 (fun x => x) (fun x => x)).upd ua (fun x => x) (fun x => x), (hM2.upd hu3 (fun x => x) (fun x => x)).upd ua (fun x => x) (fun x => x), hS.upd ua (fun x => x)⟩
  have hfin := hlit _ rfl
  have hu := (hu1.trans hu2).trans hu3
  have hz : w3.heap.size = B + 5 := by omega
  clear hlit hM1 hM2 hS h3
  have Hhfin := Lib.hid hfin; clear hfin
  have Hhu := Lib.hid hu; clear hu
  have Hhz := Lib.hid hz; clear hz
  have HhB := Lib.hid hB; clear hB
  have Hhu1 := Lib.hid hu1; clear hu1
  have Hhu2 := Lib.hid hu2; clear hu2
  have Hhu3 := Lib.hid hu3; clear hu3
  have Hhz3 := Lib.hid hz3; clear hz3
  go_wp2_with fail
  go_ret
  rw [HhB.out, Hhz.out]
  exact ⟨rfl, Hhfin.out, Hhu.out.alloc _, by have := Hhz.out; simp; omega⟩

/-- What a call leaves that touches the marker alone. -/
def MkPost (w : World) (B : Nat) (y : Mk) (v : Value) (e : Ending) (w' : World) : Prop := e = .returned v ∧ IsMk w' B y ∧ Upd (InMk B) w w' ∧ w'.heap.size = w.heap.size

set_option maxRecDepth 100000 in
set_option maxHeartbeats 1000000 in
theorem mark_Shade (B : Nat) (b : Int) (x : Mk) (w : World) (h : IsMk w B x) :
    Calls Try.prog 60 #[.pointer (some ⟨B + 5, 0, none⟩), .int .i64 b] w (MkPost w B (x.shade b) (.bool (offB x.n x.m b))) := by
  obtain ⟨c0, c1, c2⟩ := h.cells
  cases hb : offB x.n x.m b
  · have hS := Lib.hid (map_Set_no (B + 1) B x.n x.m b true w h.2.1 hb)
    have hfin : MkPost w B (x.shade b) (.bool false) (.returned (.bool false)) w := by
      unfold Mk.shade
      rw [hb]
      exact ⟨rfl, h, Upd.refl _ _, rfl⟩
    have Hhfin := Lib.hid hfin; clear hfin
    clear h hb
    go_enter Try.func60, Try.ntmps60
    go_wp2_with (go_at_call 81; (with_reducible refine hS.out.mono ?_); rintro e w1 ⟨rfl, rfl⟩)
    go_ret
    exact Hhfin.out
  · have hS := map_SetF (B + 1) B x.n x.m b true w h.2.1
    unfold SetPost at hS
    rw [show (decide (0 ≤ b ∧ b < x.n) && (x.m b.toNat != true)) = true from hb] at hS
    have hshade : x.shade b = ({ x with m := setF x.m b true } : Mk).push b := by unfold Mk.shade; rw [hb]; rfl
    rw [hshade]
    have Hh := Lib.hid h; clear h
    have HhS := Lib.hid hS; clear hS
    clear hb hshade
    go_enter Try.func60, Try.ntmps60
    go_wp2_with fail
    refine HhS.out.mono ?_
    rintro e w1 ⟨rfl, hM1, hu1, hz1, -⟩
    have hk1 : Blk w1 (B + 5) _ _ := Hh.out.1.upd hu1 (by omega)
    have c2' := hk1.cell 2 rfl
    have hS1 := Hh.out.2.2.1.upd hu1 (by omega) (by omega)
    have hT1 := Hh.out.2.2.2.upd hu1 (by omega)
    have hP := grey_push (B + 4) b x.l x.room x.over w1 hT1
    unfold GreyPush at hP
    have Hhk1 := Lib.hid hk1; clear hk1
    have HhS1 := Lib.hid hS1; clear hS1
    have HhP := Lib.hid hP; clear hP
    have HhM1 := Lib.hid hM1; clear hM1
    have Hhu1 := Lib.hid hu1; clear hu1
    have Hhz1 := Lib.hid hz1; clear hz1
    clear hT1 HhS
    go_wp2_with fail
    refine HhP.out.mono ?_
    rintro e w2 ⟨rfl, hT2, hu2, hz2⟩
    have hfin : MkPost w B (({ x with m := setF x.m b true } : Mk).push b) (.bool true) (.returned (.bool true)) w2 := by
      refine ⟨rfl, ⟨Hhk1.out.upd hu2 (by omega), HhM1.out.upd hu2 (by omega) (by omega), HhS1.out.upd hu2 (by omega) (by omega), hT2⟩, ?_, hz2.trans Hhz1.out⟩
      exact Hhu1.out.comp hu2 (fun i _ e => ⟨by omega, by omega⟩) (fun i _ e => ⟨by omega, by omega⟩)
    have Hhfin := Lib.hid hfin; clear hfin
    clear hT2 hu2 hz2
    go_wp2
    go_ret
    exact Hhfin.out

set_option maxRecDepth 100000 in
set_option maxHeartbeats 1000000 in
theorem mark_Black (B : Nat) (b : Int) (x : Mk) (w : World) (h : IsMk w B x) :
    Calls Try.prog 59 #[.pointer (some ⟨B + 5, 0, none⟩), .int .i64 b] w (MkPost w B (x.black b) (.bool (offB x.n x.m b))) := by
  obtain ⟨c0, c1, c2⟩ := h.cells
  cases hb : offB x.n x.m b
  · have hS := Lib.hid (map_Set_no (B + 1) B x.n x.m b true w h.2.1 hb)
    have hfin : MkPost w B (x.black b) (.bool false) (.returned (.bool false)) w := by
      unfold Mk.black
      rw [hb]
      exact ⟨rfl, h, Upd.refl _ _, rfl⟩
    have Hhfin := Lib.hid hfin; clear hfin
    clear h hb
    go_enter Try.func59, Try.ntmps59
    go_wp2_with (go_at_call 81; (with_reducible refine hS.out.mono ?_); rintro e w1 ⟨rfl, rfl⟩)
    go_ret
    exact Hhfin.out
  · have hS := map_SetF (B + 1) B x.n x.m b true w h.2.1
    unfold SetPost at hS
    rw [show (decide (0 ≤ b ∧ b < x.n) && (x.m b.toNat != true)) = true from hb] at hS
    have hblack : x.black b = { x with m := setF x.m b true, s := setF x.s b true } := by unfold Mk.black; rw [hb]; rfl
    rw [hblack]
    have Hh := Lib.hid h; clear h
    have HhS := Lib.hid hS; clear hS
    clear hb hblack
    go_enter Try.func59, Try.ntmps59
    go_wp2_with fail
    refine HhS.out.mono ?_
    rintro e w1 ⟨rfl, hM1, hu1, hz1, -⟩
    have hk1 : Blk w1 (B + 5) _ _ := Hh.out.1.upd hu1 (by omega)
    have c1' := hk1.cell 1 rfl
    have hS1 := Hh.out.2.2.1.upd hu1 (by omega) (by omega)
    have hT1 := Hh.out.2.2.2.upd hu1 (by omega)
    have hP := map_SetF (B + 3) (B + 2) x.n x.s b true w1 hS1
    unfold SetPost at hP
    have Hhk1 := Lib.hid hk1; clear hk1
    have HhT1 := Lib.hid hT1; clear hT1
    have HhP := Lib.hid hP; clear hP
    have HhM1 := Lib.hid hM1; clear hM1
    have Hhu1 := Lib.hid hu1; clear hu1
    have Hhz1 := Lib.hid hz1; clear hz1
    clear hS1 HhS
    go_wp2_with fail
    refine HhP.out.mono ?_
    rintro e w2 ⟨rfl, hS2, hu2, hz2, -⟩
    have hfin : MkPost w B { x with m := setF x.m b true, s := setF x.s b true } (.bool true) (.returned (.bool true)) w2 := by
      refine ⟨rfl, ⟨Hhk1.out.upd hu2 (by omega), HhM1.out.upd hu2 (by omega) (by omega), hS2, HhT1.out.upd hu2 (by omega)⟩, ?_, hz2.trans Hhz1.out⟩
      exact Hhu1.out.comp hu2 (fun i _ e => ⟨by omega, by omega⟩) (fun i _ e => ⟨by omega, by omega⟩)
    have Hhfin := Lib.hid hfin; clear hfin
    clear hS2 hu2 hz2
    go_wp2
    go_ret
    exact Hhfin.out

set_option maxHeartbeats 400000 in
theorem mark_Marked (B : Nat) (b : Int) (x : Mk) (w : World) (h : IsMk w B x) :
    Calls Try.prog 69 #[.pointer (some ⟨B + 5, 0, none⟩), .int .i64 b] w (Same w (.bool (decide (0 ≤ b ∧ b < x.n) && x.m b.toNat))) := by
  obtain ⟨c0, c1, c2⟩ := h.cells
  have hG := Lib.hid (map_GetF (B + 1) B x.n x.m b w h.2.1)
  clear h
  generalize (decide (0 ≤ b ∧ b < x.n) && x.m b.toNat) = r at *
  go_enter Try.func69, Try.ntmps69
  go_wp2_with (go_at_call 24; (with_reducible refine hG.out.mono ?_); rintro e w1 ⟨rfl, rfl⟩)
  go_ret
  exact ⟨rfl, rfl⟩

set_option maxHeartbeats 400000 in
theorem mark_Done (B : Nat) (x : Mk) (w : World) (h : IsMk w B x) :
    Calls Try.prog 83 #[.pointer (some ⟨B + 5, 0, none⟩)] w (Same w (.bool x.done)) := by
  obtain ⟨c0, c1, c2⟩ := h.cells
  have hL := grey_len (B + 4) x.l x.room x.over w h.2.2.2
  have hO := Lib.hid (grey_over (B + 4) x.l x.room x.over w h.2.2.2)
  unfold Mk.done
  generalize x.over = o at *
  clear h
  cases hl : x.l with
  | nil =>
    rw [hl] at hL
    have hL : Calls Try.prog 91 #[.pointer (some ⟨B + 4, 0, none⟩)] w (Same w (.int .i64 0)) := hL
    have HhL := Lib.hid hL; clear hL
    clear hl
    go_enter Try.func83, Try.ntmps83
    go_wp2_with (first | (go_at_call 91; (with_reducible refine HhL.out.mono ?_); rintro e w1 ⟨rfl, rfl⟩) | (go_at_call 92; (with_reducible refine hO.out.mono ?_); rintro e w1 ⟨rfl, rfl⟩))
    go_ret
    exact ⟨by simp, rfl⟩
  | cons y l =>
    rw [hl, List.length_cons] at hL
    have hne : (((l.length + 1 : Nat) : Int) == 0) = false := by simp; omega
    generalize ((l.length + 1 : Nat) : Int) = q at *
    have HhL := Lib.hid hL; clear hL
    clear hl
    go_enter Try.func83, Try.ntmps83
    go_wp2_with (first | (go_at_call 91; (with_reducible refine HhL.out.mono ?_); rintro e w1 ⟨rfl, rfl⟩) | (go_at_call 92; (with_reducible refine hO.out.mono ?_); rintro e w1 ⟨rfl, rfl⟩))
    go_ret
    exact ⟨by simp, rfl⟩

theorem mark_Marks (B : Nat) (x : Mk) (w : World) (h : IsMk w B x) :
    Calls Try.prog 63 #[.pointer (some ⟨B + 5, 0, none⟩)] w (CopyPost w x.n x.m) := by
  obtain ⟨c0, c1, c2⟩ := h.cells
  have hC := Lib.hid (map_CopyF (B + 1) B x.n x.m w h.2.1)
  clear h
  go_enter Try.func63, Try.ntmps63
  go_wp2_with (go_at_call 86; (with_reducible refine hC.out.mono ?_); rintro e w1 ⟨b, g, rfl, h1, h2, h3, h4⟩)
  go_ret
  exact ⟨b, g, rfl, h1, h2, h3, h4⟩

/-- No marker. -/
theorem mark_nil (b : Int) (w : World) :
    Calls Try.prog 60 #[.pointer none, .int .i64 b] w (Same w (.bool false)) ∧
    Calls Try.prog 59 #[.pointer none, .int .i64 b] w (Same w (.bool false)) ∧
    Calls Try.prog 83 #[.pointer none] w (Same w (.bool true)) ∧
    Calls Try.prog 69 #[.pointer none, .int .i64 b] w (Same w (.bool false)) ∧
    Calls Try.prog 63 #[.pointer none] w (Same w (.pointer none)) := by
  refine ⟨?_, ?_, ?_, ?_, ?_⟩
  · go_enter Try.func60, Try.ntmps60
    go_wp2
    go_ret
    exact ⟨rfl, rfl⟩
  · go_enter Try.func59, Try.ntmps59
    go_wp2
    go_ret
    exact ⟨rfl, rfl⟩
  · go_enter Try.func83, Try.ntmps83
    go_wp2
    go_ret
    exact ⟨rfl, rfl⟩
  · go_enter Try.func69, Try.ntmps69
    go_wp2
    go_ret
    exact ⟨rfl, rfl⟩
  · go_enter Try.func63, Try.ntmps63
    go_wp2
    go_ret
    exact ⟨rfl, rfl⟩
end Go.Proofs.Ythaicpjgmplgcaa
