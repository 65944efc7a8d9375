/- Package sweep: its functions' contracts. -/
import Derived.Test.YthaicpjgmplgcaaLay4
namespace Go.Proofs.Ythaicpjgmplgcaa
open Go.RowKit Go.ChangeShapes Go.WideShapes
set_option linter.unusedVariables false

/-- p tells bits as f does, now and whatever is made besides. -/
def GetsAs (w : World) (p : Value) (f : Int → Bool) : Prop := ∀ w', Upd (fun _ => False) w w' → ∀ b : Int, Calls Try.prog 24 #[p, .int .i64 b] w' (Same w' (.bool (f b)))
def bitI (n : Nat) (m : Nat → Bool) (b : Int) : Bool := decide (0 ≤ b ∧ b < n) && m b.toNat
theorem GetsAs.later {w w' : World} {p : Value} {f : Int → Bool} (h : GetsAs w p f) (u : Upd (fun _ => False) w w') : GetsAs w' p f := fun w2 u2 b => h w2 (u.trans u2) b
theorem gets_map {w : World} {b g n : Nat} {m : Nat → Bool} (h : MapF w b g n m) : GetsAs w (.pointer (some ⟨b, 0, none⟩)) (bitI n m) := fun w' u i =>
  map_GetF b g n m i w' (h.upd u (fun x => x) (fun x => x))
theorem gets_nil (w : World) : GetsAs w (.pointer none) (fun _ => false) := fun w' u i => map_Get_nil i w'

def takeB (N : Nat) (u m : Int → Bool) (b : Nat) : Bool := decide (b < N) && (u b && !m b)
/-- The first i of a page. -/
def pageTo (N : Nat) (u m : Int → Bool) (p : Nat) : Nat → List Int
  | 0 => []
  | i + 1 => pageTo N u m p i ++ (if takeB N u m (p * 8 + i) then [((p * 8 + i : Nat) : Int)] else [])
def pageL (N : Nat) (u m : Int → Bool) (p : Int) : List Int := if p < 0 ∨ (((N + 7) / 8 : Nat) : Int) ≤ p then [] else pageTo N u m p.toNat 8
theorem pageTo_len (N : Nat) (u m : Int → Bool) (p i : Nat) : (pageTo N u m p i).length ≤ i := by
  induction i with
  | zero => exact Nat.le_refl _
  | succ i ih =>
    simp only [pageTo, List.length_append]
    split <;> simp <;> omega
theorem pageL_len (N : Nat) (u m : Int → Bool) (p : Int) : (pageL N u m p).length ≤ 8 := by
  unfold pageL
  split
  · simp
  · exact pageTo_len N u m _ 8

def weakTo (ws : List Int) (m : Int → Bool) : Nat → List Int
  | 0 => []
  | i + 1 => weakTo ws m i ++ (if decide (0 ≤ ws.getD i 0) && !m (ws.getD i 0) then [(i : Int)] else [])
def weakL (ws : List Int) (m : Int → Bool) : List Int := weakTo ws m ws.length
theorem weakTo_len (ws : List Int) (m : Int → Bool) (i : Nat) : (weakTo ws m i).length ≤ i := by
  induction i with
  | zero => exact Nat.le_refl _
  | succ i ih =>
    simp only [weakTo, List.length_append]
    split <;> simp <;> omega

/-- The result is a slice of ints of the call's own. -/
def RetInts (w : World) (xs : List Int) (e : Ending) (w' : World) : Prop :=
  ∃ a c, e = .returned (.slice a xs.length c) ∧ w'.ownsRow w.heap.size 3 1 (.slice a xs.length c) xs.length (ints xs) ∧ Upd (fun _ => False) w w'
/-- A row of ints that grows. -/
def RowAt (w wr : World) (xs : List Int) (v : Value) : Prop := ∃ a c, v = .slice a xs.length c ∧ wr.ownsRow w.heap.size 3 1 (.slice a xs.length c) xs.length (ints xs) ∧ Upd (fun _ => False) w wr ∧ w.heap.size ≤ wr.heap.size
theorem RowAt.still {w wr w2 : World} {xs : List Int} {v : Value} (h : RowAt w wr xs v) (u : Upd (fun _ => False) wr w2) : RowAt w w2 xs v := by
  obtain ⟨a, c, h1, h2, h3, h4⟩ := h
  exact ⟨a, c, h1, ownsRow_upd h2 u (fun _ _ x => x), h3.trans u, Nat.le_trans h4 u.size⟩
theorem RowAt.push {w w2 w3 w4 : World} {xs : List Int} {v : Value} {a' : Option Addr} {c' : Nat} {b : Int} {o : Obj} (h : RowAt w w2 xs v) (h3 : w3 = w2.alloc o)
    (ho : w4.ownsRow w.heap.size 3 1 (.slice a' (xs.length + 1) c') (xs.length + 1) (ints xs ++ [.int .i64 b])) (hg : w3.grownBy w4 v.ownBlock) : RowAt w w4 (xs ++ [b]) (.slice a' (xs.length + 1) c') := by
  subst h3
  obtain ⟨a, c, rfl, k2, k3, k4⟩ := h
  have u4 : Upd (fun _ => False) w w4 := (k3.alloc o).grown hg (fun j e hj => absurd ((k2.lt j e).1) (by omega))
  refine ⟨a', c', by rw [List.length_append]; rfl, ?_, u4, u4.size⟩
  have : ints (xs ++ [b]) = ints xs ++ [.int .i64 b] := by simp [ints]
  rw [this, List.length_append]
  exact ho
theorem RowAt.nil (w wr : World) (u : Upd (fun _ => False) w wr) : RowAt w wr [] (.slice none 0 0) := ⟨none, 0, rfl, World.ownsRow_nil _ _ _ _, u, u.size⟩
theorem RowAt.ret {w wr : World} {xs : List Int} {v : Value} (h : RowAt w wr xs v) : RetInts w xs (.returned v) wr := by
  obtain ⟨a, c, rfl, h2, h3, h4⟩ := h
  exact ⟨a, c, rfl, h2, h3⟩

set_option maxRecDepth 100000 in
set_option maxHeartbeats 1000000 in
/-- A page, told by what the callees tell. -/
theorem sweep_page_go (pl pu pm : Value) (N : Nat) (u m : Int → Bool) (p : Int) (hN : N ≤ 200) (w : World) (hB : ∀ w', Upd (fun _ => False) w w' → Calls Try.prog 22 #[pl] w' (RetK w' (.int .i64 N)))
    (hP : ∀ w', Upd (fun _ => False) w w' → Calls Try.prog 23 #[pl] w' (RetK w' (.int .i64 (((N + 7) / 8 : Nat) : Int)))) (hu : GetsAs w pu u) (hm : GetsAs w pm m) :
    Calls Try.prog 18 #[pl, pu, pm, .int .i64 p] w (RetInts w (pageL N u m p)) := by
  have hP0 := hP w (Upd.refl _ _)
  unfold RetK at hP0 hB
  unfold pageL
  by_cases h0 : p < 0
  · rw [if_pos (Or.inl h0)]
    have hnil := (RowAt.nil w w (Upd.refl _ _)).ret
    have Hhnil := Lib.hid hnil; clear hnil
    have HhB := Lib.hid hB; clear hB
    have Hhu := Lib.hid hu; clear hu
    have Hhm := Lib.hid hm; clear hm
    have HhP0 := Lib.hid hP0; clear hP0
    clear hP
    go_enter Try.func18, Try.ntmps18
    go_wp2_with fail
    go_ret
    exact Hhnil.out
  · by_cases h1 : (((N + 7) / 8 : Nat) : Int) ≤ p
    · rw [if_pos (Or.inr h1)]
      have hnil := fun w' u => (RowAt.nil w w' u).ret
      obtain ⟨P, hPe⟩ : ∃ P, (N + 7) / 8 = P := ⟨_, rfl⟩
      rw [hPe] at hP0 h1
      have Hhnil := Lib.hid hnil; clear hnil
      have HhB := Lib.hid hB; clear hB
      have Hhu := Lib.hid hu; clear hu
      have Hhm := Lib.hid hm; clear hm
      have HhP0 := Lib.hid hP0; clear hP0
      clear hP hPe
      go_enter Try.func18, Try.ntmps18
      go_wp2_with (go_at_call 23; (with_reducible refine HhP0.out.mono ?_); rintro e w2 ⟨rfl, hu2⟩)
      go_ret
      exact Hhnil.out _ hu2
    · rw [if_neg (by omega)]
      obtain ⟨q, rfl⟩ : ∃ q : Nat, p = q := ⟨p.toNat, by omega⟩
      rw [Int.toNat_natCast]
      have hq : q ≤ 30 := by omega
      have hqI : (q : Int) ≤ 30 := by omega
      obtain ⟨P, hPe⟩ : ∃ P, (N + 7) / 8 = P := ⟨_, rfl⟩
      rw [hPe] at hP0 h1
      have h1n : ¬ (P ≤ q) := by omega
      have HhB := Lib.hid hB; clear hB
      have Hhu := Lib.hid hu; clear hu
      have Hhm := Lib.hid hm; clear hm
      have HhP0 := Lib.hid hP0; clear hP0
      clear hP hPe
      go_enter Try.func18, Try.ntmps18
      go_wp2_with (go_at_call 23; (with_reducible refine HhP0.out.mono ?_); rintro e w2 ⟨rfl, hu2⟩)
      have hst := RowAt.nil w w2 hu2
      have Hhst := Lib.hid hst; clear hst
      clear hu2 HhP0
      go_loopw [20, 9] (fun i v wr => ∃ z : Nat, i = .int .i64 z ∧ z ≤ 8 ∧ RowAt w wr (pageTo N u m q z) v) (fun i _ _ => (8 - intOf i).toNat)
      case atStart => exact ⟨0, rfl, by omega, Hhst.out⟩
      case round =>
        obtain ⟨z, rfl, hz, hr⟩ := hrel
        clear Hhst
        by_cases hz8 : z = 8
        · subst hz8
          have e1 : ¬ (((8 : Nat) : Int) < 8) := by omega
          have hfin := hr.ret
          obtain ⟨a, c, rfl, ho, hu3, hsz⟩ := hr
          have Hhfin := Lib.hid hfin; clear hfin
          clear ho hu3
          go_wp2_with fail
          go_ret
          exact Hhfin.out
        · have e1 : (z : Int) < 8 := by omega
          have hb := HhB.out wr hr.choose_spec.choose_spec.2.2.1
          have hst : pageTo N u m q (z + 1) = pageTo N u m q z ++ (if takeB N u m (q * 8 + z) then [((q * 8 + z : Nat) : Int)] else []) := rfl
          unfold takeB at hst
          have hlen := pageTo_len N u m q z
          have hcast : ((q * 8 + z : Nat) : Int) = (q : Int) * 8 + z := by simp
          rw [hcast] at hst
          have hgu := Hhu.out
          have hgm := Hhm.out
          by_cases t1 : q * 8 + z < N
          · have t1' : (q : Int) * 8 + z < N := by omega
            rw [decide_eq_true t1, Bool.true_and] at hst
            cases t2 : u ((q : Int) * 8 + z)
            · rw [t2, Bool.false_and, if_neg (by simp), List.append_nil] at hst
              rw [← hst] at hr
              obtain ⟨va, vc, rfl, ho, hu3, hsz⟩ := id hr
              have Hhr := Lib.hid hr; clear hr
              have Hhb := Lib.hid hb; clear hb
              have Hhst := Lib.hid hst; clear hst
              have Hhgu := Lib.hid hgu; clear hgu
              have Hhgm := Lib.hid hgm; clear hgm
              have Hho := Lib.hid ho; clear ho
              have Hhu3 := Lib.hid hu3; clear hu3
              clear hz8
              go_wp2_with (first
                | (go_at_call 22; (with_reducible refine Hhb.out.mono ?_); rintro e w3 ⟨rfl, hu4⟩; have Hr3 := Lib.hid (Hhr.out.still hu4); have hc3 := Hhgu.out w3 (Hhu3.out.trans hu4) ((q : Int) * 8 + z); rw [t2] at hc3; clear hu4)
                | (go_at_call 24; (with_reducible refine hc3.mono ?_); rintro e w4 ⟨rfl, rfl⟩))
              go_roundw
              case rel => exact ⟨z + 1, by go_num, by omega, Hr3.out⟩
              case measure => simp [intOf]; omega
            · rw [t2, Bool.true_and] at hst
              cases t3 : m ((q : Int) * 8 + z)
              · rw [t3, if_pos (by simp)] at hst
                obtain ⟨va, vc, rfl, ho, hu3, hsz⟩ := id hr
                have hl3 : (pageTo N u m q z).length ≤ 1099511627776 := by omega
                have Hhr := Lib.hid hr; clear hr
                have Hhb := Lib.hid hb; clear hb
                have Hhst := Lib.hid hst; clear hst
                have Hhgu := Lib.hid hgu; clear hgu
                have Hhgm := Lib.hid hgm; clear hgm
                have Hho := Lib.hid ho; clear ho
                have Hhu3 := Lib.hid hu3; clear hu3
                clear hz8
                go_wp2_with (first
                  | (go_at_call 22; (with_reducible refine Hhb.out.mono ?_); rintro e w3 ⟨rfl, hu4⟩; have Hr3 := Lib.hid (Hhr.out.still hu4); have Ho3 := Lib.hid (ownsRow_upd Hho.out hu4 (fun _ _ x => x)); have hs3 := Nat.le_trans hsz hu4.size; have hc3 := Hhgu.out w3 (Hhu3.out.trans hu4) ((q : Int) * 8 + z); have hc4 := Hhgm.out w3 (Hhu3.out.trans hu4) ((q : Int) * 8 + z); rw [t2] at hc3; rw [t3] at hc4; clear hu4)
                  | (go_at_call 24; first | ((with_reducible refine hc3.mono ?_); rintro e w4 ⟨rfl, rfl⟩) | ((with_reducible refine hc4.mono ?_); rintro e w4 ⟨rfl, rfl⟩))
                  | (at_builtin; refine wpList_push rfl _ _ 37 3 rfl (.int .i64 0) 8 Try.underlying37 infoIntM rfl w.heap.size _ _ _ rfl (Ho3.out.alloc _) _ 1 (.int .i64 ((q : Int) * 8 + z)) rfl (World.cell?_alloc_new _ #[.int .i64 ((q : Int) * 8 + z)] _ 0) rfl hl3 (by decide) hs3 ?_; intro a5 c5 w5 ho5 hg5; have Hr5 := Lib.hid (Hr3.out.push rfl ho5 hg5); clear ho5 hg5))
                go_roundw
                case rel => exact ⟨z + 1, by go_num, by omega, by rw [Hhst.out]; exact Hr5.out⟩
                case measure => simp [intOf]; omega
              · rw [t3, if_neg (by simp), List.append_nil] at hst
                rw [← hst] at hr
                obtain ⟨va, vc, rfl, ho, hu3, hsz⟩ := id hr
                have Hhr := Lib.hid hr; clear hr
                have Hhb := Lib.hid hb; clear hb
                have Hhst := Lib.hid hst; clear hst
                have Hhgu := Lib.hid hgu; clear hgu
                have Hhgm := Lib.hid hgm; clear hgm
                have Hho := Lib.hid ho; clear ho
                have Hhu3 := Lib.hid hu3; clear hu3
                clear hz8
                go_wp2_with (first
                  | (go_at_call 22; (with_reducible refine Hhb.out.mono ?_); rintro e w3 ⟨rfl, hu4⟩; have Hr3 := Lib.hid (Hhr.out.still hu4); have hc3 := Hhgu.out w3 (Hhu3.out.trans hu4) ((q : Int) * 8 + z); have hc4 := Hhgm.out w3 (Hhu3.out.trans hu4) ((q : Int) * 8 + z); rw [t2] at hc3; rw [t3] at hc4; clear hu4)
                  | (go_at_call 24; first | ((with_reducible refine hc3.mono ?_); rintro e w4 ⟨rfl, rfl⟩) | ((with_reducible refine hc4.mono ?_); rintro e w4 ⟨rfl, rfl⟩)))
                go_roundw
                case rel => exact ⟨z + 1, by go_num, by omega, Hr3.out⟩
                case measure => simp [intOf]; omega
          · have t1' : ¬ ((q : Int) * 8 + z < N) := by omega
            rw [decide_eq_false t1, Bool.false_and, if_neg (by simp), List.append_nil] at hst
            rw [← hst] at hr
            obtain ⟨va, vc, rfl, ho, hu3, hsz⟩ := id hr
            have Hhr := Lib.hid hr; clear hr
            have Hhb := Lib.hid hb; clear hb
            have Hhst := Lib.hid hst; clear hst
            have Hhgu := Lib.hid hgu; clear hgu
            have Hhgm := Lib.hid hgm; clear hgm
            have Hho := Lib.hid ho; clear ho
            have Hhu3 := Lib.hid hu3; clear hu3
            clear hz8
            go_wp2_with (go_at_call 22; (with_reducible refine Hhb.out.mono ?_); rintro e w3 ⟨rfl, hu4⟩; have Hr3 := Lib.hid (Hhr.out.still hu4); clear hu4)
            go_roundw
            case rel => exact ⟨z + 1, by go_num, by omega, Hr3.out⟩
            case measure => simp [intOf]; omega
end Go.Proofs.Ythaicpjgmplgcaa
