/- All, Len, Refs, Kind, Get of a heap of volatile objects. -/
import Derived.Test.YtcnbcidbbeadcaaVhP
namespace Go.Proofs.Ytcnbcidbbeadcaa
open Go.RowKit Go.Deep
set_option linter.unusedVariables false

def allTo (o : Nat → VOb) : Nat → List Int
  | 0 => []
  | k + 1 => allTo o k ++ (if (o k).used then [-1 - (k : Int)] else [])
def allV (o : Nat → VOb) : List Int := allTo o 64
theorem allTo_len (o : Nat → VOb) (k : Nat) : (allTo o k).length ≤ k := by
  induction k with
  | zero => exact Nat.le_refl _
  | succ k ih =>
    simp only [allTo, List.length_append]
    split <;> simp <;> omega
def RetNums (w : World) (xs : List Int) (e : Ending) (w' : World) : Prop :=
  ∃ a c, e = .returned (.slice a xs.length c) ∧ w'.ownsRow w.heap.size 3 1 (.slice a xs.length c) xs.length (ints xs) ∧ Upd (fun _ => False) w w'

theorem run_isAgg {P : Program} {ty : TypeId} {d : TypeDesc} (hu : P.underlying ty = some d) (hd : (match d with | .struct _ | .array _ _ => true | _ => false) = true) (w : World) : (isAgg ty).run P w = .ok true w := by
  unfold isAgg
  rw [Sem.run_bind, run_underlying hu w]
  cases d <;> simp_all
/-- The load of a struct or an array from anywhere in a block. -/
theorem wp_load_at {P : Program} {Q : Exit → Act → World → Prop} {K : Act → World → Prop} {o : Oper} {a : Act} {w : World} (ty : TypeId) (x : Operand) (ho : o.op = .load ty x) (g off : Nat) (hx : a.eval x = .pointer (some ⟨g, off, none⟩)) (cs : List Value)
    (hc : ∀ j v, cs[j]? = some v → w.cell? ⟨g, off + j, none⟩ = some v) (d : TypeDesc) (hu : P.underlying ty = some d) (hd : (match d with | .struct _ | .array _ _ => true | _ => false) = true) (hi : (P.info? ty).map (·.size) = some cs.length)
    (h : K (a.put o.dst (.agg cs.toArray)) w) : o.wp P a w K Q := by
  have hl : (loadCells ⟨g, off, none⟩ cs.length).run P w = .ok cs.toArray w :=
    run_loadCells_list (P := P) w ⟨g, off, none⟩ cs (fun j v hv => by
      have hadd : (⟨g, off, none⟩ : Addr).add j = ⟨g, off + j, none⟩ := by unfold Addr.add; split <;> simp_all
      rw [hadd]
      exact hc j v hv)
  have hrun : (loadVar ty ⟨g, off, none⟩).run P w = .ok (.agg cs.toArray) w := by
    cases hq : P.info? ty with
    | none => simp [hq] at hi
    | some i =>
      have hs : i.size = cs.length := by simpa [hq] using hi
      simp [loadVar, Sem.run_bind, run_isAgg hu hd w, sizeOf, typeInfo, hq, hs, hl]
  unfold Oper.wp execOp
  simp only [ho, hx, Instr.loadAt, Instr.sureAddr, Sem.run_bind, Sem.run_pure, Result.andThen_ok, hrun]
  exact h
set_option maxRecDepth 100000 in
theorem run_index_obj (L : List Value) (x y z : Value) (i : Nat) (hi : i < 64) (hl : L.length = 192) (h0 : L[i * 3 + 0]? = some x) (h1 : L[i * 3 + 1]? = some y) (h2 : L[i * 3 + 2]? = some z) (w : World) :
    (Instr.index 94 (.agg L.toArray) (.int .i64 i)).run Try.prog w = .ok (.agg #[x, y, z]) w := by
  have hsz : (Try.prog.info? 93).map (·.size) = some 3 := by kernel_rfl
  have hex : L.toArray.extract (i * 3) (i * 3 + 3) = #[x, y, z] := by
    apply Array.ext
    · simp
      omega
    · intro j g1 g2
      have g2 : j < 3 := g2
      rw [Array.getElem_extract]
      have hl' : i * 3 + j < L.length := by omega
      simp only [List.getElem_toArray]
      match j, g2 with
      | 0, _ => rw [List.getElem?_eq_getElem hl'] at h0; simpa using h0
      | 1, _ => rw [List.getElem?_eq_getElem hl'] at h1; simpa using h1
      | 2, _ => rw [List.getElem?_eq_getElem hl'] at h2; simpa using h2
  obtain ⟨inf, hinf, hs⟩ := Option.map_eq_some_iff.1 hsz
  have hpart : (part 93 L.toArray (i * 3)).run Try.prog w = .ok (.agg #[x, y, z]) w := by
    unfold part
    simp [Sem.run_bind, run_isAgg Try.underlying93 rfl w, sizeOf, typeInfo, hinf, hs]
    simpa using hex
  have hpos : (0 : Int) ≤ (i : Int) ∧ (i : Int) < (64 : Nat) := by omega
  have hpos2 : (i : Int) < 64 := by omega
  unfold Instr.index
  simp [Sem.run_bind, asIntOf, run_underlying Try.underlying94 w, sizeOf, typeInfo, hinf, hs, hpart, hi, hpos2]

set_option maxRecDepth 100000 in
set_option maxHeartbeats 2000000 in
theorem vh_All {w : World} {b base : Nat} {ks : List (List Int)} {o : Nat → VOb} {kv : Value} {F : Nat → Value} (h : IsVh w b base ks o kv F) :
    Calls Try.prog 33 #[.pointer (some ⟨b, 0, none⟩)] w (RetNums w (allV o)) := by
  obtain ⟨L, hL⟩ : ∃ L, obRows o F 64 = L := ⟨_, rfl⟩
  have hll : L.length = 192 := by rw [← hL, obRows_len]
  have hg : ∀ i j, i < 64 → j < 3 → L[i * 3 + j]? = (obCells o F i)[j]? := fun i j hi hj => by rw [← hL]; exact obRows_get o F 64 i j hi hj
  have hblk : Blk w b (kv :: L) 96 := by rw [← hL]; exact h.blk
  have hcl : ∀ j v, L[j]? = some v → w.cell? ⟨b, 1 + j, none⟩ = some v := fun j v hj => hblk.cell (1 + j) (by rw [Nat.add_comm 1 j, List.getElem?_cons_succ]; exact hj)
  have hidx := Lib.hid (fun i (hi : i < 64) => run_index_obj L _ _ _ i hi hll (hg i 0 hi (by decide)) (hg i 1 hi (by decide)) (hg i 2 hi (by decide)))
  have hsz : (Try.prog.info? 94).map (·.size) = some L.length := by rw [hll]; kernel_rfl
  have hpl := Lib.hid (fun (k : Nat) (hk : k < 64) w => vh_place (k : Int) w (by omega) (by omega))
  have hlen := Lib.hid (allTo_len o)
  have hsh := Lib.hid (fun i (hi : i < 64) => show ∃ a n c, F i = .slice a n c from by
    rcases (h.row i hi).2 with ⟨hv, -⟩ | ⟨g, cap, cur, hv, -⟩
    · exact ⟨_, _, _, hv⟩
    · exact ⟨_, _, _, hv⟩)
  clear hL hg hblk hll h
  go_enter Try.func33, Try.ntmps33
  go_wp2_with fail
  refine wp_load_at 94 (.tmp 10) rfl b 1 rfl L hcl _ Try.underlying94 rfl hsz ?_
  clear hcl hsz
  generalize L.toArray = A at *
  go_wp2_with fail
  go_loopw [3, 12] (fun s i wr => ∃ (k : Nat) (oa : Option Addr) (oc : Nat), i = .int .i64 k ∧ k ≤ 64 ∧ s = .slice oa (allTo o k).length oc ∧ wr.ownsRow w.heap.size 3 1 (.slice oa (allTo o k).length oc) (allTo o k).length (ints (allTo o k)) ∧ Upd (fun _ => False) w wr) (fun _ i _ => (64 - intOf i).toNat)
  case atStart => exact ⟨0, none, 0, rfl, by omega, rfl, World.ownsRow_nil _ _ _ _, Upd.refl _ _⟩
  case round =>
    obtain ⟨k, oa, oc, rfl, hk, rfl, ho, hu⟩ := hrel
    by_cases hk2 : k = 64
    · subst hk2
      have fin : RetNums w (allV o) (.returned (.slice oa (allTo o 64).length oc)) wr := ⟨oa, oc, rfl, ho, hu⟩
      have Hfin := Lib.hid fin; clear fin
      clear ho hu
      generalize (allTo o 64).length = n64 at *
      rw [show ((64 : Nat) : Int) = 64 from rfl]
      go_wp2_with fail
      go_ret
      exact Hfin.out
    · have hk3 : k < 64 := by omega
      have d1 : (k : Int) < 64 := by omega
      have hix := hidx.out k hk3
      have hp := hpl.out k hk3
      have hst : allTo o (k + 1) = allTo o k ++ (if (o k).used then [-1 - (k : Int)] else []) := rfl
      have hn64 := hlen.out k
      generalize allTo o k = xs at *
      obtain ⟨fa, fn, fc, hfe⟩ := hsh.out k hk3
      rw [hfe] at hix
      clear hfe
      generalize (o k).k = kk at *
      have hz0 := hu.size
      have hrow : ∀ j, (Value.slice oa xs.length oc).ownBlock = some j → w.heap.size ≤ j := by
        intro j e
        rcases ho.2 with ⟨hz, -⟩ | ⟨g, cap, cur, hv, hg, -⟩
        · rw [hz] at e
          cases e
        · rw [hv] at e
          have : g = j := by simpa [Value.ownBlock] using e
          omega
      cases hus : (o k).used with
      | false =>
        rw [hus] at hix hst
        simp only [Bool.false_eq_true, if_false, List.append_nil] at hst
        have Hho := Lib.hid ho; clear ho
        have Hhst := Lib.hid hst; clear hst
        have Hhu := Lib.hid hu; clear hu
        clear hp hk2 hrow
        go_wp2_with fail
        go_roundw
        case rel => exact ⟨k + 1, oa, oc, by go_num, by omega, by rw [Hhst.out], by rw [Hhst.out]; exact Hho.out.alloc _, Hhu.out.alloc _⟩
        case measure => simp [intOf]; omega
      | true =>
        rw [hus] at hix hst
        simp only [if_true] at hst
        obtain ⟨y, hy⟩ : ∃ y, -1 - (k : Int) = y := ⟨_, rfl⟩
        rw [hy] at hp hst
        have hl2 : (xs ++ [y]).length = xs.length + 1 := by simp
        have hl3 : xs.length ≤ 1099511627776 := by omega
        have hcl : ((wr.alloc (.cells #[.bool true, .int .i64 kk, .slice fa fn fc] 93)).alloc (.cells #[.int .i64 y] 3)).cell? ⟨wr.heap.size + 1, 0, none⟩ = some (.int .i64 y) := by
          have := (Blk.new (wr.alloc (.cells #[.bool true, .int .i64 kk, .slice fa fn fc] 93)) [.int .i64 y] 3).cell 0 rfl
          rwa [alloc_size] at this
        have hp := Lib.hid hp
        have hua : Upd (fun _ => False) w ((wr.alloc (.cells #[.bool true, .int .i64 kk, .slice fa fn fc] 93)).alloc (.cells #[.int .i64 y] 3)) := (hu.alloc _).alloc _
        have hgz : w.heap.size ≤ wr.heap.size + 1 := by omega
        have hown2 := (ho.alloc (.cells #[.bool true, .int .i64 kk, .slice fa fn fc] 93)).alloc (.cells #[.int .i64 y] 3)
        have Hho := Lib.hid ho; clear ho
        have Hhst := Lib.hid hst; clear hst
        have Hhu := Lib.hid hu; clear hu
        have Hhcl := Lib.hid hcl; clear hcl
        have Hhua := Lib.hid hua; clear hua
        have Hhown2 := Lib.hid hown2; clear hown2
        have Hhl2 := Lib.hid hl2; clear hl2
        clear hk2 hy
        go_wp2_with (first
          | (go_at_call 60; (with_reducible refine (hp.out _).mono ?_); rintro e w4 ⟨rfl, rfl⟩)
          | (at_builtin; refine wpList_push rfl _ _ 52 3 rfl (.int .i64 0) 8 Try.underlying52 infoInt rfl w.heap.size _ _ _ rfl Hhown2.out (wr.heap.size + 1) 1 (.int .i64 y) rfl Hhcl.out rfl hl3 (by decide) hgz ?_; intro oa' oc' w5 ho5 hg5; have HE := Lib.hid (And.intro ho5 hg5); clear ho5 hg5))
        go_roundw
        case rel => exact ⟨k + 1, oa', oc', by go_num, by omega, by rw [Hhst.out, Hhl2.out], by rw [Hhst.out, Hhl2.out]; have := HE.out.1; rw [show ints (xs ++ [y]) = ints xs ++ [.int .i64 y] from by simp [ints]]; exact this, Hhua.out.grown HE.out.2 (fun j e hj => absurd hj (by have := hrow j e; omega))⟩
        case measure => simp [intOf]; omega

theorem vh_Len {w : World} {b base : Nat} {ks : List (List Int)} {o : Nat → VOb} {kv : Value} {F : Nat → Value} (h : IsVh w b base ks o kv F) :
    Calls Try.prog 27 #[.pointer (some ⟨b, 0, none⟩)] w (RetU w (.int .i64 ((allV o).length : Int))) := by
  have ha := Lib.hid (vh_All h)
  generalize allV o = xs at *
  clear h
  go_enter Try.func27, Try.ntmps27
  go_wp2_with (go_at_call 33; (with_reducible refine ha.out.mono ?_); rintro e w2 ⟨a, c, rfl, ho2, hu2⟩; clear ho2)
  go_ret
  exact ⟨rfl, by assumption⟩
end Go.Proofs.Ytcnbcidbbeadcaa
