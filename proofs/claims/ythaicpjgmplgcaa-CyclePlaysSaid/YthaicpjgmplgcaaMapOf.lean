/- Of of package bitmap. -/
import Derived.Test.YthaicpjgmplgcaaMapCount
import Derived.Laws.CopyOwn
namespace Go.Proofs.Ythaicpjgmplgcaa
open Go.RowKit
set_option linter.unusedVariables false

/-- copy onto a row of the call's own. -/
theorem wpList_copy_row {P : Program} {w : World} {ops : Array Oper} {rest : List Oper} {o : Oper} {a : Act} {Q : Exit → Act → World → Prop} (hgd : o.guard = none) (d s : Operand) (dT sT : TypeId)
    (ho : o.op = .call { callee := .builtin .copy, args := #[d, s], argTypes := #[dT, sT] }) (elem : TypeId) (hu : P.underlying dT = some (.slice elem)) (hsz : (P.info? elem).map (·.size) = some 1)
    (B g n cap : Nat) (xs : List Value) (hown : w.ownsRow B elem 1 (.slice (some ⟨g, 0, none⟩) n cap) n xs) (sp : Option Addr) (sLen sCap : Nat) (hd : a.eval d = .slice (some ⟨g, 0, none⟩) n cap) (hs : a.eval s = .slice sp sLen sCap)
    (cs : List Value) (hn : cs.length = Nat.min sLen n) (hsrc : 0 < cs.length → ∃ ad, sp = some ad ∧ ∀ j v, cs[j]? = some v → w.cell? (ad.add j) = some v) (h1 : ∀ v ∈ cs, v.oneCell' = true)
    (h : ∀ w', w'.ownsRow B elem 1 (.slice (some ⟨g, 0, none⟩) n cap) n (cs ++ xs.drop cs.length) → Upd (fun k => k = g) w w' → w'.heap.size = w.heap.size → wpList P ops Q rest (a.put o.dst (goInt cs.length)) w') :
    wpList P ops Q (o :: rest) a w := by
  have hle : cs.length ≤ n := by rw [hn]; exact Nat.min_le_right _ _
  by_cases h0 : cs.length = 0
  · obtain rfl : cs = [] := List.eq_nil_of_length_eq_zero h0
    refine wpList_copy_nothing hgd d s dT sT ho elem hu hsz _ sp n cap sLen sCap hd hs (by simpa using hn.symm) ?_
    exact h w (by simpa using hown) (Upd.refl _ _) rfl
  · obtain ⟨ad, rfl, hsrc2⟩ := hsrc (by omega)
    obtain ⟨hlen, hz | ⟨g', cap', cur, hv, hB, hg, hnc, hcm, hcs, htake⟩⟩ := hown
    · cases hz.1
    · cases hv
      refine wpList_copy_own hgd d s dT sT ho elem hu hsz g 0 n cap ad sLen sCap hd hs cur elem hg cs hn hsrc2 (by omega) h1 ?_
      refine h _ ⟨by rw [List.length_append, List.length_drop]; omega, Or.inr ⟨g, cap, _, rfl, hB, setRow_heap w g cur _ elem _ hg, hnc, hcm, ?_, ?_⟩⟩ ⟨rfl, rfl, rfl, by simp [World.setRow], fun k _ hk => setRow_other w g k _ hk⟩ (by simp [World.setRow])
      · simp
        omega
      · have hc : cs.length + (cur.toList.drop cs.length).length = cur.toList.length := by simp; omega
        simp only [List.take_zero, List.nil_append, Nat.zero_add]
        rw [← htake, List.take_append, List.take_of_length_le (by omega), List.drop_take]

theorem same_still {P : Program} {f : FuncId} {a : Array Value} {w : World} {v : Value} (h : Calls P f a w (Same w v)) : Calls P f a w (fun e w'' => e = .returned v ∧ w'' = w) :=
  h.mono fun e w' ⟨h1, h2⟩ => ⟨h1, h2.symm⟩

/-- A slice of words. -/
def WordsR (w : World) (v : Value) (ws : List Nat) : Prop := RowsIn w v 1 ws.length (fun i _ => .int .u64 ((ws.getD i 0 : Nat) : Int)) ∧ ∀ x ∈ ws, x < 2 ^ 64
theorem WordsR.upd {w w' : World} {v : Value} {ws : List Nat} (h : WordsR w v ws) (u : Below w.heap.size w w') : WordsR w' v ws := ⟨h.1.upd u, h.2⟩
/-- The bits of words. -/
def bitW (ws : List Nat) (i : Nat) : Bool := (ws.getD (i / 64) 0).testBit (i % 64)

/-- The first L words of ws, and noughts. -/
def padW (ws : List Nat) (L : Nat) : List Nat := ws.take L ++ (List.replicate L 0).drop (ws.take L).length
theorem padW_length (ws : List Nat) (L : Nat) : (padW ws L).length = L := by
  unfold padW
  simp
  omega
theorem padW_get (ws : List Nat) (L j : Nat) (h : j < L) : (padW ws L).getD j 0 = ws.getD j 0 := by
  unfold padW
  by_cases h1 : j < (ws.take L).length
  · have h2 : j < ws.length := by simp at h1; omega
    rw [List.getD_eq_getElem?_getD, List.getElem?_append_left h1]
    simp [List.getD, h2, h]
  · rw [List.getD_eq_getElem?_getD, List.getElem?_append_right (by omega)]
    have h2 : ws.length ≤ j := by simp at h1; omega
    have h3 : min L ws.length = ws.length := by omega
    simp [List.getD, h2, h3, List.getElem?_replicate]
    split <;> rfl
theorem padW_lt (ws : List Nat) (L : Nat) (h : ∀ x ∈ ws, x < 2 ^ 64) : ∀ x ∈ padW ws L, x < 2 ^ 64 := by
  intro x hx
  unfold padW at hx
  rcases List.mem_append.1 hx with h1 | h1
  · exact h x (List.mem_of_mem_take h1)
  · have := List.mem_of_mem_drop h1
    rw [List.eq_of_mem_replicate this]
    decide
theorem of_pack0 (n : Nat) (ws : List Nat) (h : ∀ x ∈ ws, x < 2 ^ 64) (h0 : n % 64 = 0) : padW ws ((n + 63) / 64) = packN n (bitW ws) := by
  refine packN_ext (padW_length _ _) (padW_lt _ _ h) (fun j hj i hi => ?_)
  rw [padW_get _ _ _ hj]
  have h1 : 64 * j + i < n := by omega
  have h2 : (64 * j + i) / 64 = j := by omega
  have h3 : (64 * j + i) % 64 = i := by omega
  unfold bitW
  rw [h2, h3]
  simp [h1]
theorem of_pack1 (n : Nat) (ws : List Nat) (h : ∀ x ∈ ws, x < 2 ^ 64) (h0 : 0 < n % 64) :
    (padW ws ((n + 63) / 64)).set ((n + 63) / 64 - 1) (getN ((padW ws ((n + 63) / 64)).getD ((n + 63) / 64 - 1) 0) 0 (n % 64)) = packN n (bitW ws) := by
  have hL : (n + 63) / 64 - 1 < (n + 63) / 64 := by omega
  refine packN_ext (by rw [List.length_set, padW_length]) (fun x hx => ?_) (fun j hj i hi => ?_)
  · rcases List.mem_or_eq_of_mem_set hx with h1 | h1
    · exact padW_lt _ _ h _ h1
    · rw [h1]
      refine Nat.lt_of_lt_of_le (get_lt _ _ _) (Nat.pow_le_pow_right (by decide) (by omega))
  · have h2 : (64 * j + i) / 64 = j := by omega
    have h3 : (64 * j + i) % 64 = i := by omega
    have hjl : j < (padW ws ((n + 63) / 64)).length := by rw [padW_length]; exact hj
    by_cases e : (n + 63) / 64 - 1 = j
    · have : ((padW ws ((n + 63) / 64)).set ((n + 63) / 64 - 1) (getN ((padW ws ((n + 63) / 64)).getD ((n + 63) / 64 - 1) 0) 0 (n % 64))).getD j 0 = getN ((padW ws ((n + 63) / 64)).getD ((n + 63) / 64 - 1) 0) 0 (n % 64) := by
        rw [e]
        simp [List.getD, hjl]
      rw [this, tb_get, e, padW_get _ _ _ hj, Nat.zero_add]
      unfold bitW
      rw [h2, h3]
      congr 1
      rw [decide_eq_decide]
      omega
    · have : ((padW ws ((n + 63) / 64)).set ((n + 63) / 64 - 1) (getN ((padW ws ((n + 63) / 64)).getD ((n + 63) / 64 - 1) 0) 0 (n % 64))).getD j 0 = (padW ws ((n + 63) / 64)).getD j 0 := by
        simp [List.getD, e]
      rw [this, padW_get _ _ _ hj]
      have h1 : 64 * j + i < n := by omega
      unfold bitW
      rw [h2, h3]
      simp [h1]
theorem words_pad (ws : List Nat) (L : Nat) : words (ws.take L) ++ (words (List.replicate L 0)).drop (words (ws.take L)).length = words (padW ws L) := by
  unfold words padW
  rw [List.map_append, List.map_drop, List.length_map]

def OfPost (w : World) (n : Int) (ws : List Nat) (e : Ending) (w' : World) : Prop :=
  ∃ b g, e = .returned (.pointer (some ⟨b, 0, none⟩)) ∧ MapF w' b g (max 0 (min n 1048576)).toNat (bitW ws) ∧ w.heap.size ≤ b ∧ w.heap.size ≤ g ∧ Upd (fun _ => False) w w'

/-- What stands behind the copy. -/
theorem of_row {w1 w2 : World} {b g n : Nat} {cap : Nat} {xs : List Nat} (hn : n ≤ 1048576) (hbg : b ≠ g) (hB : Blk w1 b [.int .i64 n, .slice (some ⟨g, 0, none⟩) ((n + 63) / 64) cap] 89) (u : Upd (fun k => k = g) w1 w2) :
    w2.cell? ⟨b, 0, none⟩ = some (.int .i64 n) ∧ w2.cell? ⟨b, 1, none⟩ = some (.slice (some ⟨g, 0, none⟩) ((n + 63) / 64) cap) ∧ Blk w2 b [.int .i64 n, .slice (some ⟨g, 0, none⟩) ((n + 63) / 64) cap] 89 :=
  have h := hB.upd u hbg
  ⟨h.cell 0 rfl, h.cell 1 rfl, h⟩

theorem of_src {w w1 : World} {a : Option Addr} {ws : List Nat} {L : Nat} (hc : 0 < ws.length → ∃ b off, a = some ⟨b, off, none⟩ ∧ b < w.heap.size ∧ ∀ i, i < ws.length → ∀ j, j < 1 → w.cell? ⟨b, off + i * 1 + j, none⟩ = some (.int .u64 ((ws.getD i 0 : Nat) : Int))) (u1 : Upd (fun _ => False) w w1) :
    0 < (words (ws.take L)).length → ∃ ad, a = some ad ∧ ∀ j v, (words (ws.take L))[j]? = some v → w1.cell? (ad.add j) = some v := by
  intro hpos
  have hws : 0 < ws.length := by simp [words] at hpos; omega
  obtain ⟨b0, off, rfl, h2, h3⟩ := hc hws
  refine ⟨_, rfl, fun j v hj => ?_⟩
  have hjl : j < ws.length := by
    have := (List.getElem?_eq_some_iff.1 hj).1
    simp [words] at this
    omega
  have e : (⟨b0, off, none⟩ : Addr).add j = ⟨b0, off + j, none⟩ := by unfold Addr.add; split <;> simp_all
  have h4 := h3 j hjl 0 (by decide)
  simp only [Nat.mul_one, Nat.add_zero] at h4
  rw [e]
  refine ((u1.none).cell (p := ⟨b0, off + j, none⟩) h2).trans (h4.trans ?_)
  rw [← hj]
  have hjt : j < (ws.take L).length := by
    have := (List.getElem?_eq_some_iff.1 hj).1
    simpa [words] using this
  simp only [words, List.getElem?_map, List.getElem?_take]
  have hjm : j < L := by simp at hjt; omega
  simp [List.getD, hjl, hjm]

theorem of_fin0 {w w1 w2 : World} {b g m cap : Nat} {ws : List Nat} (hm : m ≤ 1048576) (hbg : b ≠ g) (hlt : ∀ x ∈ ws, x < 2 ^ 64) (hr : m % 64 = 0) (hb : w.heap.size + 1 = b) (hg : w.heap.size = g)
    (hB : Blk w2 b [.int .i64 m, .slice (some ⟨g, 0, none⟩) ((m + 63) / 64) cap] 89) (ho : w2.ownsRow 0 82 1 (.slice (some ⟨g, 0, none⟩) ((m + 63) / 64) cap) ((m + 63) / 64) (words (padW ws ((m + 63) / 64))))
    (u1 : Upd (fun _ => False) w w1) (u2 : Upd (fun k => k = g) w1 w2) :
    ∃ b' g', Ending.returned (Value.pointer (some ⟨b, 0, none⟩)) = .returned (.pointer (some ⟨b', 0, none⟩)) ∧ MapF w2 b' g' m (bitW ws) ∧ w.heap.size ≤ b' ∧ w.heap.size ≤ g' ∧ Upd (fun _ => False) w w2 := by
  rw [of_pack0 m ws hlt hr] at ho
  exact ⟨b, g, rfl, ⟨hm, hbg, cap, hB, ho⟩, by omega, by omega, u1.own u2 (fun i e => by omega)⟩
theorem of_fin1 {w w1 w2 : World} {b g m cap : Nat} {ws : List Nat} (hm : m ≤ 1048576) (hbg : b ≠ g) (hlt : ∀ x ∈ ws, x < 2 ^ 64) (hr : 0 < m % 64) (hb : w.heap.size + 1 = b) (hg : w.heap.size = g)
    (hB : Blk w2 b [.int .i64 m, .slice (some ⟨g, 0, none⟩) ((m + 63) / 64) cap] 89) (ho : w2.ownsRow 0 82 1 (.slice (some ⟨g, 0, none⟩) ((m + 63) / 64) cap) ((m + 63) / 64) (words (padW ws ((m + 63) / 64))))
    (u1 : Upd (fun _ => False) w w1) (u2 : Upd (fun k => k = g) w1 w2) (y : Int) (hy : y = ((getN ((padW ws ((m + 63) / 64)).getD ((m + 63) / 64 - 1) 0) 0 (m % 64) : Nat) : Int)) :
    ∃ b' g', Ending.returned (Value.pointer (some ⟨b, 0, none⟩)) = .returned (.pointer (some ⟨b', 0, none⟩)) ∧ MapF (w2.drew.setCell ⟨g, (m + 63) / 64 - 1, none⟩ (.int .u64 y)) b' g' m (bitW ws) ∧ w.heap.size ≤ b' ∧ w.heap.size ≤ g' ∧ Upd (fun _ => False) w (w2.drew.setCell ⟨g, (m + 63) / 64 - 1, none⟩ (.int .u64 y)) := by
  subst hy
  have hs := (World.ownsRow.stored (w := w2.drew) (base := 0) (e := 82) (size := 1) ho ((m + 63) / 64 - 1) (.int .u64 ((getN ((padW ws ((m + 63) / 64)).getD ((m + 63) / 64 - 1) 0) 0 (m % 64) : Nat) : Int))).1
  rw [words_set, of_pack1 m ws hlt hr] at hs
  refine ⟨b, g, rfl, ⟨hm, hbg, cap, (hB.drew).setOther (by simpa using fun e => hbg e.symm) _, hs⟩, by omega, by omega, u1.own (u2.trans (((Upd.refl _ _).drew).at _ _)) (fun i e => by omega)⟩

set_option maxRecDepth 100000 in
set_option maxHeartbeats 1000000 in
theorem map_OfF (n : Int) (v : Value) (ws : List Nat) (w : World) (h : WordsR w v ws) : Calls Try.prog 19 #[.int .i64 n, v] w (OfPost w n ws) := by
  have hnew := Lib.hid (map_New n w)
  obtain ⟨m, hm⟩ : ∃ m, m = (max 0 (min n 1048576)).toNat := ⟨_, rfl⟩
  rw [← hm] at hnew
  unfold OfPost
  rw [← hm]
  clear hm
  obtain ⟨⟨a, cap, rfl, hcap, hmax, hc⟩, hlt⟩ := h
  have Hhlt := Lib.hid hlt; clear hlt
  have Hhc := Lib.hid hc; clear hc
  generalize hb : w.heap.size + 1 = b at hnew
  generalize hg : w.heap.size = g at hnew
  rw [← hg]
  have Hhb := Lib.hid hb; clear hb
  have Hhg := Lib.hid hg; clear hg
  by_cases hr : m % 64 = 0
  · have hr0 : (m : Int) % 64 = 0 := by omega
    have Hhr := Lib.hid hr; clear hr
    go_enter Try.func19, Try.ntmps19
    go_wp2_with fail
    refine hnew.out.mono ?_
    rintro e w1 ⟨rfl, hM, u1, z1⟩
    obtain ⟨hm, hbg, cap1, hB, ho⟩ := hM
    have hv := hB.cell 1 rfl
    have hcs := of_src (L := (m + 63) / 64) Hhc.out u1
    have hlen : (words (ws.take ((m + 63) / 64))).length = Nat.min ws.length ((m + 63) / 64) := by simp [words, Nat.min_comm]
    have h1c := words_one (ws.take ((m + 63) / 64))
    rw [packN_false m] at ho
    have hpw := words_pad ws ((m + 63) / 64)
    have hk1 : (m : Int) ≤ 1048576 := by omega
    have Hhcs := Lib.hid hcs; clear hcs
    have Hhlen := Lib.hid hlen; clear hlen
    have Hh1c := Lib.hid h1c; clear h1c
    have HhB := Lib.hid hB; clear hB
    have Hho := Lib.hid ho; clear ho
    have Hu1 := Lib.hid u1; clear u1
    have Hz1 := Lib.hid z1; clear z1
    have Hhbg := Lib.hid hbg; clear hbg
    have Hhm := Lib.hid hm; clear hm
    have Hhpw := Lib.hid hpw; clear hpw
    go_wp2_with (refine wpList_copy_row rfl _ _ 23 23 rfl 82 Try.underlying23 (by kernel_rfl) 0 g _ cap1 _ Hho.out a _ cap rfl rfl _ Hhlen.out Hhcs.out Hh1c.out ?_; intro w2 ho2 u2 z2; rw [Hhpw.out] at ho2; obtain ⟨hc0, hc1, hB2⟩ := of_row (xs := []) Hhm.out Hhbg.out HhB.out u2; have Hho2 := Lib.hid ho2; have Hu2 := Lib.hid u2; have Hz2 := Lib.hid z2; have HhB2 := Lib.hid hB2; clear ho2 u2 z2 hB2)
    go_ret
    exact of_fin0 Hhm.out Hhbg.out Hhlt.out Hhr.out Hhb.out Hhg.out HhB2.out Hho2.out Hu1.out Hu2.out
  · obtain ⟨r, hre⟩ : ∃ r, r = m % 64 := ⟨_, rfl⟩
    have hr0 : (m : Int) % 64 = (r : Int) := by omega
    have hr1 : (0 : Int) < r := by omega
    have hr2 : (r : Int) < 64 := by omega
    obtain ⟨L, hL⟩ : ∃ L, L + 1 = (m + 63) / 64 := ⟨(m + 63) / 64 - 1, by omega⟩
    have hLm := Lib.hid (show L < (m + 63) / 64 from by omega)
    have hL1 : (m + 63) / 64 - 1 = L := by omega
    have hpr := Lib.hid (show 0 < m % 64 from by omega)
    have Hhr := Lib.hid hr; clear hr
    have Hhre := Lib.hid hre; clear hre
    have HhL1 := Lib.hid hL1; clear hL1
    go_enter Try.func19, Try.ntmps19
    go_wp2_with fail
    refine hnew.out.mono ?_
    rintro e w1 ⟨rfl, hM, u1, z1⟩
    obtain ⟨hm, hbg, cap1, hB, ho⟩ := hM
    have hv := hB.cell 1 rfl
    have hcs := of_src (L := (m + 63) / 64) Hhc.out u1
    have hlen : (words (ws.take ((m + 63) / 64))).length = Nat.min ws.length ((m + 63) / 64) := by simp [words, Nat.min_comm]
    have h1c := words_one (ws.take ((m + 63) / 64))
    rw [packN_false m] at ho
    have hpw := words_pad ws ((m + 63) / 64)
    have hk1 : (m : Int) ≤ 1048576 := by omega
    have hk2 : (L : Int) ≤ 20000 := by omega
    have hLI : (((m + 63) / 64 : Nat) : Int) - 1 = (L : Int) := by omega
    have hw1 : IntKind.i64.wrap (L : Int) = L := IntWalk.i64_in _ (by omega)
    have Hhcs := Lib.hid hcs; clear hcs
    have Hhlen := Lib.hid hlen; clear hlen
    have Hh1c := Lib.hid h1c; clear h1c
    have HhB := Lib.hid hB; clear hB
    have Hho := Lib.hid ho; clear ho
    have Hu1 := Lib.hid u1; clear u1
    have Hz1 := Lib.hid z1; clear z1
    have Hhbg := Lib.hid hbg; clear hbg
    have Hhm := Lib.hid hm; clear hm
    have Hhpw := Lib.hid hpw; clear hpw
    have HhL := Lib.hid hL; clear hL
    go_wp2_with (refine wpList_copy_row rfl _ _ 23 23 rfl 82 Try.underlying23 (by kernel_rfl) 0 g _ cap1 _ Hho.out a _ cap rfl rfl _ Hhlen.out Hhcs.out Hh1c.out ?_; intro w2 ho2 u2 z2; rw [Hhpw.out] at ho2; obtain ⟨hc0, hc1, hB2⟩ := of_row (xs := []) Hhm.out Hhbg.out HhB.out u2; have Hho2 := Lib.hid ho2; have Hu2 := Lib.hid u2; have Hz2 := Lib.hid z2; have HhB2 := Lib.hid hB2; clear ho2 u2 z2 hB2)
    obtain ⟨g', hix, -, -, hcell0, hfr, hgg⟩ := ownsRow_index Hho2.out (P := Try.prog) Try.underlying23 (by kernel_rfl) (by kernel_rfl) hLm.out
    obtain rfl : g' = g := by simpa [Value.ownBlock] using hgg.symm
    obtain ⟨x, hxe⟩ : ∃ x, x = (padW ws ((m + 63) / 64)).getD L 0 := ⟨_, rfl⟩
    have hx : x < 2 ^ 64 := by
      rw [hxe]
      refine padW_lt ws ((m + 63) / 64) Hhlt.out _ ?_
      have hl : L < (padW ws ((m + 63) / 64)).length := by rw [padW_length]; exact hLm.out
      simp [List.getD, hl]
    have hcell : w2.cell? ⟨g', L, none⟩ = some (.int .u64 (x : Int)) := by
      rw [hcell0, hxe]
      have hl : L < (padW ws ((m + 63) / 64)).length := by rw [padW_length]; exact hLm.out
      simp [words, List.getD, hl]
    have hget := Lib.hid (same_still (word_get x 0 r w2.drew hx (by omega)))
    have hfin := Lib.hid (of_fin1 Hhm.out Hhbg.out Hhlt.out hpr.out Hhb.out Hhg.out HhB2.out Hho2.out Hu1.out Hu2.out _ rfl)
    have hge := Lib.hid (show getN x 0 r = getN ((padW ws ((m + 63) / 64)).getD ((m + 63) / 64 - 1) 0) 0 (m % 64) from by rw [hxe, HhL1.out, Hhre.out])
    clear hx hxe hcell0 hgg
    rw [show ((m : Int) + 63) / 64 - 1 = L from by omega, hr0]
    clear hr0 hLI
    refine wp_region_st 15 (by kernel_rfl) (by kernel_rfl) ?_
    simp only [List.take_succ_cons, List.take_zero, List.drop_succ_cons, List.drop_zero]
    repeat (first | still_step | still_call hget.out | fail)
    refine wpStill_nil ?_
    go_wp2
    go_ret
    have := hfin.out
    rw [← hge.out, HhL1.out] at this
    exact this
end Go.Proofs.Ythaicpjgmplgcaa
