/- The law's own search: put. -/
import Derived.Test.YthcimfblmpapeaaMarkCom
import Derived.Deep.AppendLies
namespace Go.Proofs.Ythcimfblmpapeaa
open Go.RowKit
set_option linter.unusedVariables false

theorem wpList_pushL {P : Program} {w : World} {ops : Array Oper} {rest : List Oper} {o : Oper} {a : Act} {Q : Exit → Act → World → Prop} (hgd : o.guard = none) (s x : Operand) (t e : TypeId)
    (ho : o.op = .call { callee := .builtin .append, args := #[s, x], argTypes := #[t, t] }) (z : Value) (bytes : Nat) (ht : P.underlying t = some (.slice e)) (hinfo : (P.info? e).map (fun i => (i.zero, i.size, i.bytes)) = some (some z, 1, bytes)) (hzs : z.cells.size = 1)
    (B : Nat) (v : Value) (n : Nat) (xs : List Value) (hs : a.eval s = v) (hown : w.ownsRow B e 1 v n xs) (g c : Nat) (y : Value) (hx : a.eval x = .slice (some ⟨g, 0, none⟩) 1 c) (hcell : w.cell? ⟨g, 0, none⟩ = some y) (hy : y.oneCell' = true)
    (hn : n ≤ 1099511627776) (hb : bytes ≤ 64) (hbase : B ≤ w.heap.size)
    (h : ∀ g' c' w', w'.ownsRow B e 1 (.slice (some ⟨g', 0, none⟩) (n + 1) c') (n + 1) (xs ++ [y]) → w.grownBy w' v.ownBlock → (v.ownBlock = some g' ∨ g' = w.heap.size) → wpList P ops Q rest (a.put o.dst (.slice (some ⟨g', 0, none⟩) (n + 1) c')) w') : wpList P ops Q (o :: rest) a w := by
  obtain ⟨i0, hi, hz0, hz1, hz2⟩ := info_parts hinfo
  refine wpList_append_lies w hgd s x t ho B e i0 z 1 bytes ht hi hz0 hz1 hz2 hzs (by decide) v n xs hs hown ⟨g, 0, none⟩ 1 c [y] hx rfl ?_ ?_ (by decide) ?_ ?_ hbase w.heap.size rfl (fun g' c' w' h1 h2 h3 _ => h g' c' w' h1 h2 h3)
  · intro j u hj
    match j, hj with
    | 0, hj => simp at hj; subst hj; exact hcell
    | j + 1, hj => simp at hj
  · intro u hu; simp at hu; subst hu; exact hy
  · unfold maxLen; omega
  · have h1 : n + 1 ≤ 1099511627777 := by omega
    have := Nat.mul_le_mul h1 hb
    omega

/-- What the law's search holds: n, in and row lie in cells of their own. -/
structure PutSt (k bn bi br gi ci : Nat) (In : Nat → Bool) (row : List Int) (w : World) : Prop where
  cn : Blk w bn [.int .i64 k] 3
  cin : Blk w bi [.slice (some ⟨gi, 0, none⟩) k ci] 36
  inB : BoolsAt gi w gi ci k In
  rw_ : ∃ a c, Blk w br [.slice a row.length c] 50 ∧ w.ownsRow (br + 1) 3 1 (.slice a row.length c) row.length (ints row)
  d1 : bn < br ∧ bi < br ∧ gi < br
  d2 : bn ≠ gi ∧ bi ≠ gi

theorem PutSt.upd {k bn bi br gi ci : Nat} {In : Nat → Bool} {row : List Int} {w w' : World} (h : PutSt k bn bi br gi ci In row w) {S : Nat → Prop} (u : Upd S w w') (h1 : ¬ S bn) (h2 : ¬ S bi) (h3 : ¬ S gi) (h4 : ∀ j, br ≤ j → ¬ S j) : PutSt k bn bi br gi ci In row w' := by
  obtain ⟨c1, c2, c3, ⟨a, c, c4, c5⟩, c6, c7⟩ := h
  exact ⟨c1.upd u h1, c2.upd u h2, c3.upd u h3, ⟨a, c, c4.upd u (h4 _ (Nat.le_refl _)), ownsRow_upd c5 u (fun j hj => h4 j (by omega))⟩, c6, c7⟩

def putOk (k : Nat) (In : Nat → Bool) (b : Int) : Bool := decide (0 ≤ b ∧ b < k) && !In b.toNat
def putF (k : Nat) (In : Nat → Bool) (b : Int) : Nat → Bool := if putOk k In b then setF In b true else In
def putL (k : Nat) (In : Nat → Bool) (row : List Int) (b : Int) : List Int := if putOk k In b then row ++ [b] else row

/-- The block of the row's own elements. -/
def RowB (w : World) (br j : Nat) : Prop := ∃ s : Value, w.cell? ⟨br, 0, none⟩ = some s ∧ s.ownBlock = some j

def PutPost (k bn bi br gi ci : Nat) (In : Nat → Bool) (row : List Int) (w : World) (b : Int) (e : Ending) (w' : World) : Prop :=
  e = .returned (.tuple #[]) ∧ PutSt k bn bi br gi ci (putF k In b) (putL k In row b) w' ∧ Upd (fun j => j = gi ∨ j = br ∨ RowB w br j) w w' ∧ ∀ j, RowB w' br j → RowB w br j ∨ w.heap.size ≤ j

theorem put_fin {k bn bi br gi ci : Nat} {In : Nat → Bool} {row : List Int} {w w3 w4 : World} {a : Option Addr} {c : Nat} {q : Nat} {g' : Nat} {c' : Nat} {o : Obj} (h : PutSt k bn bi br gi ci In row w) (hr : Blk w br [.slice a row.length c] 50) (ho0 : w.ownsRow (br + 1) 3 1 (.slice a row.length c) row.length (ints row))
    (hq : q < k) (hIn : In q = false) (h3 : w3 = (w.setCell ⟨gi, q, none⟩ (.bool true)).alloc o)
    (ho : w4.ownsRow (br + 1) 3 1 (.slice (some ⟨g', 0, none⟩) (row.length + 1) c') (row.length + 1) (ints row ++ [.int .i64 (q : Int)])) (hg : w3.grownBy w4 (Value.slice a row.length c).ownBlock) (hlie : (Value.slice a row.length c).ownBlock = some g' ∨ g' = w3.heap.size) :
    PutPost k bn bi br gi ci In row w (q : Int) (.returned (.tuple #[])) (w4.setCell ⟨br, 0, none⟩ (.slice (some ⟨g', 0, none⟩) (row.length + 1) c')) := by
  subst h3
  have hok : putOk k In (q : Int) = true := by unfold putOk; rw [decide_eq_true (by omega), Int.toNat_natCast, hIn]; rfl
  unfold PutPost putF putL
  rw [hok, if_pos rfl, if_pos rfl]
  obtain ⟨c1, c2, c3, -, c6, c7⟩ := h
  have u1 : Upd (fun j => j = gi) w (w.setCell ⟨gi, q, none⟩ (.bool true)) := (Upd.refl _ _).at _ _
  have u2 : Upd (fun _ => False) (w.setCell ⟨gi, q, none⟩ (.bool true)) ((w.setCell ⟨gi, q, none⟩ (.bool true)).alloc o) := (Upd.refl _ _).alloc _
  have u3 : Upd (fun j => br + 1 ≤ j) ((w.setCell ⟨gi, q, none⟩ (.bool true)).alloc o) w4 := (Upd.refl _ _).grown hg (fun j e _ => (ho0.lt j e).1)
  have u4 : Upd (fun j => j = br) w4 (w4.setCell ⟨br, 0, none⟩ (.slice (some ⟨g', 0, none⟩) (row.length + 1) c')) := (Upd.refl _ _).at _ _
  have b1 := c3.set q true
  have hrow : ints (row ++ [(q : Int)]) = ints row ++ [.int .i64 (q : Int)] := by simp [ints]
  refine ⟨rfl, ⟨?_, ?_, ?_, ⟨some ⟨g', 0, none⟩, c', ?_, ?_⟩, c6, c7⟩, ?_, ?_⟩
  · exact (((c1.upd u1 c7.1).upd u2 (fun x => x)).upd u3 (by omega)).upd u4 (by omega)
  · exact (((c2.upd u1 c7.2).upd u2 (fun x => x)).upd u3 (by omega)).upd u4 (by omega)
  · exact ((b1.upd u2 (fun x => x)).upd u3 (by omega)).upd u4 (by omega)
  · have hb := ((hr.upd u1 (by omega)).upd u2 (fun x => x)).upd u3 (by omega)
    have := hb.set 0 (.slice (some ⟨g', 0, none⟩) (row.length + 1) c')
    simpa using this
  · rw [hrow, List.length_append]
    exact ownsRow_upd ho u4 (fun j hj e => by omega)
  · have hRB : ∀ j, (Value.slice a row.length c).ownBlock = some j → RowB w br j := fun j e => ⟨_, hr.cell 0 rfl, e⟩
    have u3' : Upd (fun j => (Value.slice a row.length c).ownBlock = some j) ((w.setCell ⟨gi, q, none⟩ (.bool true)).alloc o) w4 := (Upd.refl _ _).grown hg (fun j e _ => e)
    exact ((u1.comp u2 (U := fun j => j = gi ∨ j = br ∨ RowB w br j) (fun i _ e => Or.inl e) (fun i _ e => e.elim)).comp u3' (fun i _ e => e) (fun i _ e => Or.inr (Or.inr (hRB i e)))).comp u4 (fun i _ e => e) (fun i _ e => Or.inr (Or.inl e))
  · rintro j ⟨s, hs, he⟩
    have hb := ((hr.upd u1 (by omega)).upd u2 (fun x => x)).upd u3 (by omega)
    have hb2 := (hb.set 0 (.slice (some ⟨g', 0, none⟩) (row.length + 1) c')).cell 0 rfl
    have hs2 : s = .slice (some ⟨g', 0, none⟩) (row.length + 1) c' := by
      rw [hb2] at hs
      exact (Option.some.inj hs).symm
    subst hs2
    have he : g' = j := by simpa [Value.ownBlock] using he
    subst he
    rcases hlie with e | e
    · exact Or.inl ⟨_, hr.cell 0 rfl, e⟩
    · exact Or.inr (by rw [e]; simp [World.setCell])

theorem put_row {gi br q : Nat} {w w4 : World} {s : Value} {o : Obj} (hr : Blk w br [s] 50) (hgbr : gi ≠ br) (v : Value) {n : Nat} {vs : List Value} {esz : Nat}
    (ho0 : w.ownsRow (br + 1) 3 esz s n vs) (hg : ((w.setCell ⟨gi, q, none⟩ v).alloc o).grownBy w4 s.ownBlock) : Blk w4 br [s] 50 := by
  have u1 : Upd (fun j => j = gi) w (w.setCell ⟨gi, q, none⟩ v) := (Upd.refl _ _).at _ _
  have u2 : Upd (fun _ => False) (w.setCell ⟨gi, q, none⟩ v) ((w.setCell ⟨gi, q, none⟩ v).alloc o) := (Upd.refl _ _).alloc _
  have u3 : Upd (fun j => br + 1 ≤ j) ((w.setCell ⟨gi, q, none⟩ v).alloc o) w4 := (Upd.refl _ _).grown hg (fun j e _ => (ho0.lt j e).1)
  exact ((hr.upd u1 (fun e => hgbr e.symm)).upd u2 (fun x => x)).upd u3 (by omega)

set_option maxRecDepth 100000 in
set_option maxHeartbeats 1000000 in
theorem law_put (k bn bi br gi ci : Nat) (In : Nat → Bool) (row : List Int) (b : Int) (w : World) (h : PutSt k bn bi br gi ci In row w) (hl : row.length ≤ 100000) :
    Calls Try.prog 35 #[.int .i64 b, .pointer (some ⟨bn, 0, none⟩), .pointer (some ⟨bi, 0, none⟩), .pointer (some ⟨br, 0, none⟩)] w (PutPost k bn bi br gi ci In row w b) := by
  have cn := h.cn.cell 0 rfl
  have ci' := h.cin.cell 0 rfl
  obtain ⟨ra, rc, hr, ho⟩ := h.rw_
  have cr := hr.cell 0 rfl
  have hno : putOk k In b = false → PutPost k bn bi br gi ci In row w b (.returned (.tuple #[])) w := fun hk => by
    unfold PutPost putF putL
    rw [hk]
    exact ⟨rfl, h, Upd.refl _ _, fun j hj => Or.inl hj⟩
  by_cases h0 : b < 0
  · have hfin := hno (by unfold putOk; rw [decide_eq_false (by omega)]; rfl)
    have Hhfin := Lib.hid hfin; clear hfin
    have Hh := Lib.hid h; clear h
    have Hhr := Lib.hid hr; clear hr
    have Hho := Lib.hid ho; clear ho
    clear hno
    go_enter Try.func35, Try.ntmps35
    go_wp2
    go_end0
    exact Hhfin.out
  · by_cases h1 : (k : Int) ≤ b
    · have hfin := hno (by unfold putOk; rw [decide_eq_false (by omega)]; rfl)
      have Hhfin := Lib.hid hfin; clear hfin
      have Hh := Lib.hid h; clear h
      have Hhr := Lib.hid hr; clear hr
      have Hho := Lib.hid ho; clear ho
      clear hno
      go_enter Try.func35, Try.ntmps35
      go_wp2
      go_end0
      exact Hhfin.out
    · obtain ⟨q, rfl⟩ : ∃ q : Nat, b = q := ⟨b.toNat, by omega⟩
      have hq : q < k := by omega
      have hq1 : (q : Int) < k := by omega
      have hcell := h.inB.cell q hq
      cases hin : In q
      · rw [hin] at hcell
        have hfr := World.ownsRow.frozenAt h.inB q
        have hfb := hr.free 0
        have hl3 : row.length ≤ 1099511627776 := by omega
        have hgbr : gi ≠ br := by have := h.d1.2.2; omega
        have hbr : (w.setCell ⟨gi, q, none⟩ (.bool true)).cell? ⟨br, 0, none⟩ = some (.slice ra row.length rc) := (hr.setOther (p := ⟨gi, q, none⟩) hgbr (.bool true)).cell 0 rfl
        have hoS : (w.setCell ⟨gi, q, none⟩ (.bool true)).ownsRow (br + 1) 3 1 (.slice ra row.length rc) row.length (ints row) := ownsRow_upd ho ((Upd.refl (fun j => j = gi) w).at q (.bool true)) (fun j hj e => by have := h.d1.2.2; omega)
        have hbs : ∀ o : Obj, br + 1 ≤ ((w.setCell ⟨gi, q, none⟩ (.bool true)).alloc o).heap.size := fun o => by have := hr.lt; simp [World.setCell]; omega
        have hsz : (w.setCell ⟨gi, q, none⟩ (.bool true)).heap.size = w.heap.size := by simp [World.setCell]
        have hcn : ((w.setCell ⟨gi, q, none⟩ (.bool true)).alloc (.cells #[.int .i64 (q : Int)] 3)).cell? ⟨w.heap.size, 0, none⟩ = some (.int .i64 (q : Int)) := by
          have h1z := World.cell?_alloc_new (w.setCell ⟨gi, q, none⟩ (.bool true)) #[.int .i64 (q : Int)] 3 0
          rw [hsz] at h1z
          exact h1z
        have Hhcn := Lib.hid hcn
        clear hcn
        clear hsz
        have Hhno := Lib.hid hno; clear hno
        have Hh := Lib.hid h; clear h
        have Hhr := Lib.hid hr; clear hr
        have Hho := Lib.hid ho; clear ho
        have HhoS := Lib.hid hoS; clear hoS
        have Hhin := Lib.hid hin; clear hin
        have Hhbs := Lib.hid hbs; clear hbs
        go_enter Try.func35, Try.ntmps35
        go_wp2_with (at_builtin; refine wpList_pushL rfl _ _ 50 3 rfl (.int .i64 0) 8 Try.underlying50 infoIntM rfl (br + 1) _ _ _ rfl (HhoS.out.alloc _) w.heap.size 1 (.int .i64 q) rfl Hhcn.out rfl hl3 (by decide) (Hhbs.out _) ?_; intro g4 c4 w4 ho4 hg4 hl4; have hr4 := put_row Hhr.out hgbr _ Hho.out hg4; have hr4c := hr4.cell 0 rfl; have hr4f := hr4.free 0; clear hr4; have hfin := put_fin Hh.out Hhr.out Hho.out hq Hhin.out rfl ho4 hg4 hl4; have Hhfin := Lib.hid hfin; clear hfin ho4 hg4 hl4)
        go_end0
        exact Hhfin.out
      · have hfin := hno (by unfold putOk; rw [Int.toNat_natCast, hin]; simp)
        rw [hin] at hcell
        have Hhfin := Lib.hid hfin; clear hfin
        have Hh := Lib.hid h; clear h
        have Hhr := Lib.hid hr; clear hr
        have Hho := Lib.hid ho; clear ho
        have Hhin := Lib.hid hin; clear hin
        clear hno
        go_enter Try.func35, Try.ntmps35
        go_wp2
        go_end0
        exact Hhfin.out
end Go.Proofs.Ythcimfblmpapeaa
