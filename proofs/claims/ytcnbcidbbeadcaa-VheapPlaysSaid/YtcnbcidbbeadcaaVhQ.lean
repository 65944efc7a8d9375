/- A heap of volatile objects: Keep. -/
import Derived.Test.YtcnbcidbbeadcaaVhAd
import Derived.Deep.RegionLaw
import Derived.Test.YtcnbcidbbeadcaaPushL
import Derived.Test.YtcnbcidbbeadcaaVhX
import Derived.WalkSpells
import Derived.Deep.RegionWith
import Derived.Laws.Tables
-- merged



namespace Go.Proofs.Ytcnbcidbbeadcaa
open Go.RowKit Go.Deep
set_option linter.unusedVariables false

def remS (K : List Int) (s : (Nat → VOb) × Nat) (x : Int) : (Nat → VOb) × Nat := if x ∈ K then s else (removeV s.1 x, s.2 + (if (findV s.1 x).isSome = true then 1 else 0))
def remL (K : List Int) (o : Nat → VOb) (xs : List Int) : (Nat → VOb) × Nat := xs.foldl (remS K) (o, 0)
theorem remL_snoc (K : List Int) (o : Nat → VOb) (xs : List Int) (x : Int) : remL K o (xs ++ [x]) = remS K (remL K o xs) x := by
  unfold remL
  rw [List.foldl_append]
  rfl
theorem findV_place (o : Nat → VOb) (i : Nat) (hi : i < 64) : findV o (-1 - (i : Int)) = if (o i).used = true then some i else none := by
  unfold findV
  have e : (-1 - (-1 - (i : Int))).toNat = i := by omega
  rw [e]
  by_cases hu : (o i).used = true
  · rw [if_pos ⟨by omega, by omega, hu⟩, if_pos hu]
  · rw [if_neg (fun h => hu h.2.2), if_neg hu]
theorem remL_all (K : List Int) (o : Nat → VOb) (n : Nat) (hn : n ≤ 64) : remL K o (allTo o n) = (dropV o K n, goneTo o K n) := by
  induction n with
  | zero =>
    have : dropV o K 0 = o := by
      funext i
      exact dropV_behind o K 0 i (Nat.zero_le _)
    rw [this]
    rfl
  | succ n ih =>
    have ih := ih (by omega)
    rw [dropV_succ, goneTo]
    unfold allTo
    by_cases hu : (o n).used = true
    · rw [if_pos hu, remL_snoc, ih]
      unfold remS
      by_cases hm : (-1 - (n : Int)) ∈ K
      · rw [if_pos hm, if_neg (fun h => h.2 hm), if_neg (fun h => h.2 hm)]
        simp
      · have hc : (o n).used = true ∧ (-1 - (n : Int)) ∉ K := ⟨hu, hm⟩
        rw [if_neg hm, if_pos hc, if_pos hc]
        have hf : findV (dropV o K n) (-1 - (n : Int)) = some n := by rw [findV_place _ n (by omega), dropV_behind o K n n (Nat.le_refl _), if_pos hu]
        unfold removeV
        simp only [hf]
        simp
    · rw [if_neg hu, List.append_nil, ih, if_neg (fun h => hu h.1), if_neg (fun h => hu h.1)]
      simp
def RetKp (w : World) (b base : Nat) (ks : List (List Int)) (kv : Value) (F : Nat → Value) (o : Nat → VOb) (n : Nat) (e : Ending) (w' : World) : Prop :=
  e = .returned (.int .i64 (n : Int)) ∧ (∃ F', IsVh w' b base ks o kv F' ∧ Fr w F F') ∧ Upd (fun j => j = b) w w'
/-- While objects are removed. -/
structure RmSt (w : World) (F : Nat → Value) (b base ch ck : Nat) (ks : List (List Int)) (kv : Value) (K : List Int) (kl al : Value) (xs : List Int) (o : Nat → VOb) (wr : World) : Prop where
  hp : ∃ F', IsVh wr b base ks o kv F' ∧ Fr w F F'
  kp : ∀ w', Upd (fun j => j = b) wr w' → w'.cell? ⟨ch, 0, none⟩ = some (.pointer (some ⟨b, 0, none⟩)) ∧ w'.cell? ⟨ck, 0, none⟩ = some kl ∧ IntsR w' kl .i64 K ∧ IntsR w' al .i64 xs
  up : Upd (fun j => j = b) w wr
theorem RmSt.still {w : World} {F : Nat → Value} {b base ch ck : Nat} {ks : List (List Int)} {kv : Value} {K : List Int} {kl al : Value} {xs : List Int} {o : Nat → VOb} {wr w' : World} (h : RmSt w F b base ch ck ks kv K kl al xs o wr) (u : Upd (fun _ => False) wr w') : RmSt w F b base ch ck ks kv K kl al xs o w' := by
  obtain ⟨F', hp, hfr⟩ := h.hp
  have u2 : Upd (fun j => j = b) wr w' := u.mono (fun _ _ x => x.elim)
  exact ⟨⟨F', hp.still u, hfr⟩, fun w2 uu => h.kp w2 (u2.trans uu), h.up.trans u2⟩
theorem RmSt.next {w : World} {F : Nat → Value} {b base ch ck : Nat} {ks : List (List Int)} {kv : Value} {K : List Int} {kl al : Value} {xs : List Int} {o o' : Nat → VOb} {wr w' : World} (h : RmSt w F b base ch ck ks kv K kl al xs o wr) (hp : ∃ F', IsVh w' b base ks o' kv F' ∧ Fr w F F') (u : Upd (fun j => j = b) wr w') : RmSt w F b base ch ck ks kv K kl al xs o' w' :=
  ⟨hp, fun w2 uu => h.kp w2 (u.trans uu), h.up.trans u⟩
theorem addK_len (o : Nat → VOb) (K l : List Int) : K.length ≤ (addK o K l).length := by
  induction l generalizing K with
  | nil => exact Nat.le_refl _
  | cons x l ih =>
    refine Nat.le_trans ?_ (ih (stepK o K x))
    unfold stepK
    split <;> simp
theorem ints_apart {w w' : World} {v : Value} {xs : List Int} {b : Nat} (h : w.ownsRow (b + 1) 3 1 v xs.length (ints xs)) (u : Upd (fun j => j = b) w w') : IntsR w' v .i64 xs := ownsRow_intsR (ownsRow_upd h u (fun j hj e => by omega))
set_option maxRecDepth 100000 in
set_option maxHeartbeats 4000000 in
theorem vh_Keep {w : World} {b base : Nat} {ks : List (List Int)} {o : Nat → VOb} {kv : Value} {F : Nat → Value} (h : IsVh w b base ks o kv F) (v : Value) (l : List Int) (hl : IntsR w v .i64 l) :
    Calls Try.prog 44 #[.pointer (some ⟨b, 0, none⟩), v] w (RetKp w b base ks kv F (dropV o (keepV o l) 64) (goneTo o (keepV o l) 64)) := by
  have hbw := h.blk.lt
  have hwa : Upd (fun _ => False) w ((w.alloc (.cells #[.pointer (some ⟨b, 0, none⟩)] 39)).alloc (.cells #[.slice none 0 0] 52)) := ((Upd.refl _ _).alloc _).alloc _
  have hB2 := (Blk.new (w.alloc (.cells #[.pointer (some ⟨b, 0, none⟩)] 39)) [.slice none 0 0] 52)
  rw [alloc_size] at hB2
  have hst0 : KpSt w b w.heap.size (w.heap.size + 1) [] ((w.alloc (.cells #[.pointer (some ⟨b, 0, none⟩)] 39)).alloc (.cells #[.slice none 0 0] 52)) :=
    ⟨(Blk.new w [.pointer (some ⟨b, 0, none⟩)] 39).alloc _, ⟨none, 0, hB2, World.ownsRow_nil _ _ _ _⟩, ⟨Nat.le_refl _, by omega⟩, hwa⟩
  have hadd0 := vh_add h hst0 (KeepOk.nil o) v l (fun w' u => IntsR.upd hl (by
    have : Upd (fun _ => False) w w' := hwa.own u (fun j e => by
      rcases e with e | ⟨s, hs, e⟩
      · omega
      · rw [hB2.cell 0 rfl] at hs
        cases hs
        cases e)
    exact this.none))
  have hok0 := (KeepOk.nil o).add l
  obtain ⟨va, vc, rfl⟩ : ∃ va vc, v = .slice va l.length vc := by
    obtain ⟨va, vc, h1, -⟩ := hl
    exact ⟨va, vc, h1⟩
  have hH := Lib.hid h
  have hadd0 := Lib.hid hadd0
  have hkv : keepGo o 65 0 (addK o [] l) = keepV o l := rfl
  generalize keepV o l = KV at *
  clear hl hB2 hst0 hwa h
  go_enter Try.func44, Try.ntmps44
  go_wp2_with (go_at_call 78; (with_reducible refine hadd0.out.mono ?_); rintro e w3 ⟨rfl, hs3⟩)
  go_loopw [7] (fun i wr => ∃ (k : Nat) (K : List Int), i = .int .i64 k ∧ KeepOk o K ∧ k ≤ K.length ∧ keepGo o (65 - k) k K = KV ∧ KpSt w b w.heap.size (w.heap.size + 1) K wr) (fun i _ => (65 - intOf i).toNat)
  case atStart => exact ⟨0, _, rfl, hok0, Nat.zero_le _, hkv, hs3⟩
  case round =>
    obtain ⟨k, K, rfl, hok, hk, hgo, hst⟩ := hrel
    clear hs3 hok0 hkv hadd0
    have h64 := hok.len
    obtain ⟨ka, kc, hkB, hkO⟩ := hst.bk
    have hc0 := hst.bh.cell 0 rfl
    have hc1 := hkB.cell 0 rfl
    by_cases hk2 : k = K.length
    · have d1 : ¬ (k : Int) < K.length := by omega
      have e64 : 65 - k = (64 - k) + 1 := by omega
      rw [e64] at hgo
      unfold keepGo at hgo
      rw [if_neg (by omega)] at hgo
      subst hgo
      have hall := Lib.hid (vh_All (hH.out.still hst.up))
      have hrm := Lib.hid (fun w5 (u : Upd (fun _ => False) wr w5) aa ac (ho5 : w5.ownsRow wr.heap.size 3 1 (.slice aa (allV o).length ac) (allV o).length (ints (allV o))) => show RmSt w F b base w.heap.size (w.heap.size + 1) ks kv K (.slice ka K.length kc) (.slice aa (allV o).length ac) (allV o) o w5 from by
        have hs := hst.still u
        have hsz := hst.up.size
        refine ⟨⟨F, hH.out.still hs.up, Fr.refl _ _⟩, fun w' uu => ⟨(hs.bh.upd uu (by omega)).cell 0 rfl, ((hkB.upd u (fun x => x)).upd uu (by omega)).cell 0 rfl, ints_apart ((ownsRow_upd hkO u (fun _ _ x => x)).mono (by omega)) uu, ints_apart (ho5.mono (by omega)) uu⟩, hs.up.mono (fun _ _ x => x.elim)⟩)
      have hra := remL_all K o 64 (Nat.le_refl _)
      have hra : remL K o (allV o) = (dropV o K 64, goneTo o K 64) := hra
      have hal := allTo_len o 64
      have hal : (allV o).length ≤ 64 := hal
      have fin := Lib.hid (fun wr al kl (n : Nat) (hn : n = (remL K o (allV o)).2) (hh : RmSt w F b base w.heap.size (w.heap.size + 1) ks kv K kl al (allV o) (remL K o (allV o)).1 wr) => show RetKp w b base ks kv F (dropV o K 64) (goneTo o K 64) (.returned (.int .i64 (n : Int))) wr from by
        rw [hra] at hn hh
        subst hn
        exact ⟨rfl, hh.hp, hh.up⟩)
      clear hst hkB hkO hra hH hok
      generalize allV o = al at *
      obtain ⟨wm, hwm⟩ : ∃ wm : World, wm = wr := ⟨_, rfl⟩
      subst hwm
      go_wp2_with (go_at_call 33; (with_reducible refine hall.out.mono ?_); rintro e w5 ⟨aa, ac, rfl, ho5, hu5⟩)
      have hR5 := hrm.out w5 hu5 aa ac ho5
      clear ho5 hu5 hall hrm hc0 hc1
      go_loopw [8, 32] (fun n i wr => ∃ (m q : Nat), i = .int .i64 m ∧ m ≤ al.length ∧ n = .int .i64 q ∧ q ≤ m ∧ q = (remL K o (al.take m)).2 ∧ RmSt w F b base w.heap.size (w.heap.size + 1) ks kv K (.slice ka K.length kc) (.slice aa al.length ac) al (remL K o (al.take m)).1 wr) (fun _ i _ => (64 - intOf i).toNat)
      case atStart => exact ⟨0, 0, rfl, Nat.zero_le _, rfl, Nat.le_refl _, rfl, hR5⟩
      case round =>
        obtain ⟨m, q, rfl, hm, rfl, hq, hqe, hst⟩ := hrel
        clear hR5
        by_cases hm2 : m = al.length
        · have d2 : ¬ (m : Int) < al.length := by omega
          rw [hm2, List.take_length] at hqe hst
          have fin := Lib.hid (fin.out wr _ _ q hqe hst)
          clear hst hqe
          go_wp2_with fail
          go_ret
          exact fin.out
        · have hm3 : m < al.length := by omega
          have d2 : (m : Int) < al.length := by omega
          obtain ⟨k1, k2, k3, k4⟩ := hst.kp wr (Upd.refl _ _)
          obtain ⟨b1, o1, hix, hb1, hy⟩ := RowsIn.index (P := Try.prog) k4 Try.underlying52 (by kernel_rfl) (by kernel_rfl) hm3
          simp only [Nat.mul_one] at hix hy
          have hy0 := hy 0 (by decide)
          simp only [Nat.add_zero] at hy0
          have htk : remL K o (al.take (m + 1)) = remS K (remL K o (al.take m)) (al.getD m 0) := by
            rw [List.take_succ_eq_append_getElem hm3, remL_snoc]
            simp [List.getD, hm3]
          change wr.cell? _ = some (.int .i64 (al.getD m 0)) at hy0
          generalize al.getD m 0 = x at *
          generalize remL K o (al.take m) = s at *
          have hcon := slices_Contains _ K x wr k3
          have hS := Lib.hid hst
          unfold remS at htk
          clear hy hm2 hst k3 k4
          by_cases hmem : x ∈ K
          · rw [if_pos hmem] at htk
            rw [decide_eq_true hmem] at hcon
            have Hhtk := Lib.hid htk; clear htk
            have Hhcon := Lib.hid hcon; clear hcon
            have Hhqe := Lib.hid hqe; clear hqe
            clear hmem
            generalize K.length = kl at *
            go_wp2_with (go_at_call 79; (with_reducible refine Hhcon.out.mono ?_); rintro e w6 ⟨rfl, hu6⟩; have Hu6 := Lib.hid hu6; clear hu6)
            go_roundw
            case rel => exact ⟨m + 1, q, by go_num, by omega, rfl, by omega, by rw [Hhtk.out]; exact Hhqe.out, by rw [Hhtk.out]; exact hS.out.still Hu6.out⟩
            case measure => simp [intOf]; omega
          · rw [if_neg hmem] at htk
            rw [decide_eq_false hmem] at hcon
            obtain ⟨F', hp, hfr⟩ := hS.out.hp
            have hws := hS.out.up.size
            have hfrT := Lib.hid (fun w' (u : Upd (fun _ => False) wr w') F'' (k : Fr w' F' F'') => hfr.trans k (Nat.le_trans hws u.size))
            have hrv := Lib.hid (fun w' (u : Upd (fun _ => False) wr w') => vh_Remove (hp.still u) x)
            have hk1 := Lib.hid (fun w' (u : Upd (fun _ => False) wr w') => (hS.out.kp w' (u.mono (fun _ _ x => x.elim))).1)
            have w1 : IntKind.i64.wrap ((q : Int) + 1) = ((q + 1 : Nat) : Int) := by rw [IntKind.wrap_i64]; omega
            clear hmem hp hfr hws
            generalize K.length = kl at *
            generalize hfs : (findV s.1 x).isSome = d at *
            have Hhtk := Lib.hid htk; clear htk
            have Hhcon := Lib.hid hcon; clear hcon
            have Hhqe := Lib.hid hqe; clear hqe
            clear hfs
            cases d with
            | true =>
              go_wp2_with (first
                | (go_at_call 79; (with_reducible refine Hhcon.out.mono ?_); rintro e w6 ⟨rfl, hu6⟩; have k6 := hk1.out w6 hu6; have Hu6 := Lib.hid hu6; clear hu6)
                | (go_at_call 26; (with_reducible refine (hrv.out _ Hu6.out).mono ?_); rintro e w7 ⟨rfl, hp7, hu7⟩; have Hn := Lib.hid (hS.out.next (by obtain ⟨F'', a1, a2⟩ := hp7; exact ⟨F'', a1, hfrT.out _ Hu6.out F'' a2⟩) ((Hu6.out.mono (fun _ _ x => x.elim)).trans hu7)); clear hp7 hu7))
              go_roundw
              case rel => exact ⟨m + 1, q + 1, by go_num, by omega, by first | rfl | (rw [w1]) | go_num, by omega, by rw [Hhtk.out, Hhqe.out]; rfl, by rw [Hhtk.out]; exact Hn.out⟩
              case measure => simp [intOf]; omega
            | false =>
              go_wp2_with (first
                | (go_at_call 79; (with_reducible refine Hhcon.out.mono ?_); rintro e w6 ⟨rfl, hu6⟩; have k6 := hk1.out w6 hu6; have Hu6 := Lib.hid hu6; clear hu6)
                | (go_at_call 26; (with_reducible refine (hrv.out _ Hu6.out).mono ?_); rintro e w7 ⟨rfl, hp7, hu7⟩; have Hn := Lib.hid (hS.out.next (by obtain ⟨F'', a1, a2⟩ := hp7; exact ⟨F'', a1, hfrT.out _ Hu6.out F'' a2⟩) ((Hu6.out.mono (fun _ _ x => x.elim)).trans hu7)); clear hp7 hu7))
              go_roundw
              case rel => exact ⟨m + 1, q, by go_num, by omega, rfl, by omega, by rw [Hhtk.out, Hhqe.out]; rfl, by rw [Hhtk.out]; exact Hn.out⟩
              case measure => simp [intOf]; omega
    · have hk3 : k < K.length := by omega
      have d1 : (k : Int) < K.length := by omega
      have e64 : 65 - k = (64 - k) + 1 := by omega
      have hkI := ownsRow_intsR hkO
      obtain ⟨b1, o1, hix, hb1, hy⟩ := RowsIn.index (P := Try.prog) hkI Try.underlying52 (by kernel_rfl) (by kernel_rfl) hk3
      simp only [Nat.mul_one] at hix hy
      have hy0 := hy 0 (by decide)
      simp only [Nat.add_zero] at hy0
      change wr.cell? _ = some (.int .i64 (K.getD k 0)) at hy0
      rw [e64] at hgo
      unfold keepGo at hgo
      rw [if_pos hk3] at hgo
      have hln := addK_len o K (refsV o (K.getD k 0))
      have hokn := hok.add (refsV o (K.getD k 0))
      generalize K.getD k 0 = x at *
      have href := Lib.hid (fun w' (u : Upd (fun _ => False) wr w') => vh_Refs (hH.out.still (hst.up.trans u)) x)
      have hadd := Lib.hid (fun w' w2 ra rc (u : Upd (fun _ => False) wr w') (ho2 : w2.ownsRow w'.heap.size 3 1 (.slice ra (refsV o x).length rc) (refsV o x).length (ints (refsV o x))) (u2 : Upd (fun _ => False) w' w2) =>
        vh_add hH.out (hst.still (u.trans u2)) hok (.slice ra (refsV o x).length rc) (refsV o x) (fun w4 u4 => ownsRow_intsR (ownsRow_upd ho2 u4 (fun j hj e => by
          have hz := u.size
          have hcl := hkB.lt
          rcases e with e | ⟨s, hs, e⟩
          · omega
          · rw [(hkB.upd (u.trans u2) (fun x => x)).cell 0 rfl] at hs
            cases hs
            have := hkO.lt j e
            omega))))
      clear hy hkI hok hkB hkO hst hk2
      have Hhgo := Lib.hid hgo; clear hgo
      have Hhln := Lib.hid hln; clear hln
      have Hhokn := Lib.hid hokn; clear hokn
      go_wp2_with fail
      go_region_law (first
        | (go_simp; go_at_call 37; (with_reducible refine (href.out _ ((Upd.refl _ _).drew)).mono ?_); rintro e w2 ⟨ra, rc, rfl, ho2, hu2⟩; have Ha := Lib.hid (hadd.out _ w2 ra rc ((Upd.refl _ _).drew) ho2 hu2); clear ho2 hu2)
        | (go_simp; go_at_call 78; (with_reducible refine Ha.out.mono ?_); rintro e w4 ⟨rfl, hs4⟩; have Hs4 := Lib.hid hs4; clear hs4))
      all_goals
        go_wp2
        go_roundw
        case rel => exact ⟨k + 1, _, by go_num, Hhokn.out, by have := Hhln.out; omega, by rw [show 65 - (k + 1) = 64 - k from by omega]; exact Hhgo.out, Hs4.out⟩
        case measure => simp [intOf]; omega
end Go.Proofs.Ytcnbcidbbeadcaa

/- slices.Clone of ints (seat of chapter 14). -/



namespace Go.Proofs.Ytcnbcidbbeadcaa
open Go.RowKit
set_option linter.unusedVariables false

def CloneIPost (w : World) (xs : List Int) (e : Ending) (w' : World) : Prop :=
  ∃ a c, e = .returned (.slice a xs.length c) ∧ w'.ownsRow w.heap.size 3 1 (.slice a xs.length c) xs.length (ints xs) ∧ Upd (fun _ => False) w w'

set_option maxHeartbeats 400000 in
theorem clone_ints (v : Value) (xs : List Int) (w : World) (h : IntsR w v .i64 xs) (hn : xs.length ≤ 1099511627776) :
    Calls Try.prog 57 #[v] w (CloneIPost w xs) := by
  have h0 := h
  obtain ⟨ao, cap, rfl, h1, h2, h3⟩ := (show RowsIn w v 1 xs.length _ from h0)
  cases ao with
  | none =>
    have hz : xs.length = 0 := by
      rcases Nat.eq_zero_or_pos xs.length with h4 | h4
      · exact h4
      · obtain ⟨b, off, k1, -⟩ := h3 h4
        cases k1
    have hx : xs = [] := List.eq_nil_of_length_eq_zero hz
    subst hx
    have heq := fun w' => Lib.run_eql_slice_nil (P := Try.prog) w' 52 3 none 0 cap 0 0 Try.underlying52
    clear h h0 h1 h2 h3 hz hn
    go_enter Try.func57, Try.ntmps57
    go_wp2
    go_ret
    exact ⟨none, 0, rfl, World.ownsRow_nil _ _ _ _, Upd.refl _ _⟩
  | some ad =>
    have heq := fun w' => Lib.run_eql_slice_nil (P := Try.prog) w' 52 3 (some ad) xs.length cap 0 0 Try.underlying52
    have hO := World.ownsRow_lit (base := w.heap.size) (e := 3) (size := 1) w #[] 0 (Nat.le_refl _) (by decide) rfl
    obtain ⟨hm, hc⟩ := ints_cells h
    have hlt : xs.length ≠ 0 → ad.block < w.heap.size := fun hne => by
      obtain ⟨b, off, k1, k2, -⟩ := h3 (by omega)
      cases k1
      exact k2
    obtain ⟨i0, hi, hz0, hz1, hz2⟩ := info_parts infoIntM
    have hca : ∀ j u, (ints xs)[j]? = some u → (w.alloc (.cells #[] 3)).cell? (ad.add j) = some u := by
      intro j u hu
      have h4 := hc j u hu
      have hb : (ad.add j).block = ad.block := by unfold Addr.add; split <;> rfl
      have hjl : j < xs.length := by
        rcases Nat.lt_or_ge j xs.length with h5 | h5
        · exact h5
        · rw [List.getElem?_eq_none (by simpa [ints] using h5)] at hu
          cases hu
      exact (World.cell?_of_block (a := ad.add j) (Below.heap_alloc _ _ _ (by rw [hb]; exact hlt (by omega)))).trans h4
    have hlen : (ints xs).length = xs.length * 1 := by simp [ints]
    have hw1 : ∀ u ∈ ints xs, u.oneCell' = true := by
      intro u hu
      obtain ⟨y, -, rfl⟩ := List.mem_map.1 hu
      rfl
    have h63 : 0 + xs.length ≤ maxLen := by unfold maxLen; omega
    have hby : (0 + xs.length) * 8 ≤ 140737488355328 := by omega
    have hbs : w.heap.size ≤ (w.alloc (.cells #[] 3)).heap.size := by simp
    have Hhca := Lib.hid hca; clear hca
    have Hhi := Lib.hid hi; clear hi
    have Hhz0 := Lib.hid hz0; clear hz0
    have Hhz1 := Lib.hid hz1; clear hz1
    have Hhz2 := Lib.hid hz2; clear hz2
    have Hhw1 := Lib.hid hw1; clear hw1
    have Hhlen := Lib.hid hlen; clear hlen
    have HhO := Lib.hid hO; clear hO
    have Hhc := Lib.hid hc; clear hc
    clear h h0 h1 h2 h3 hm hlt
    go_enter Try.func57, Try.ntmps57
    go_wp2_with (at_builtin; refine wpList_append_own _ rfl _ _ 52 rfl w.heap.size 3 i0 (.int .i64 0) 1 8 Try.underlying52 Hhi.out Hhz0.out Hhz1.out Hhz2.out rfl (by decide) _ _ _ rfl HhO.out ad xs.length cap (ints xs) rfl Hhlen.out Hhca.out Hhw1.out h63 hby hbs ?_; intro v' w1 hown1 hgrow hnil)
    go_ret
    rw [Nat.zero_add] at hown1
    obtain ⟨a', c', rfl⟩ := ownsRow_shape hown1
    refine ⟨a', c', rfl, hown1, ((Upd.refl _ _).alloc _).grown hgrow (fun k hk hlt => ?_)⟩
    have := (HhO.out.lt k hk).1
    omega

end Go.Proofs.Ytcnbcidbbeadcaa

/- A new heap of volatile objects. -/



namespace Go.Proofs.Ytcnbcidbbeadcaa
open Go.RowKit Go.Deep
set_option linter.unusedVariables false

theorem ownsRow_rows {w : World} {B : Nat} {e : TypeId} {v : Value} {xs : List Value} {n : Nat} (h : w.ownsRow B e 1 v n xs) : RowsIn w v 1 n (fun i _ => xs.getD i undef) := by
  obtain ⟨hl, h2⟩ := h
  rcases h2 with ⟨rfl, h0⟩ | ⟨g, cap, cur, rfl, hg, hh, hn, hcap, hsz, htake⟩
  · refine ⟨none, 0, by rw [h0], by omega, by decide, fun hn => by omega⟩
  · refine ⟨some ⟨g, 0, none⟩, cap, rfl, hn, hcap, fun _ => ⟨g, 0, rfl, (Array.getElem?_eq_some_iff.1 hh).1, fun i hi j hj => ?_⟩⟩
    obtain rfl : j = 0 := by omega
    have hx : i < xs.length := by rw [hl]; omega
    have h1 : (cur.toList.take (n * 1))[i]? = xs[i]? := by rw [htake]
    rw [List.getElem?_take, if_pos (by omega)] at h1
    have h2 : cur[i]? = some (xs.getD i undef) := by rw [← Array.getElem?_toList, h1]; simp [List.getD, hx]
    rw [show 0 + i * 1 + 0 = i from by omega]
    simp [World.cell?, hh, h2]
/-- append of one element inside a region that draws its order; told where the row lies then. -/
theorem step_pushL {P : Program} {w : World} {ops : Array Oper} {o : Oper} {a : Act} {K : Act → World → Prop} {Q : Exit → Act → World → Prop} {E' : Prop} (hgd : o.guard = none) (s x : Operand) (t e : TypeId)
    (ho : o.op = .call { callee := .builtin .append, args := #[s, x], argTypes := #[t, t] }) (z : Value) (bytes : Nat) (ht : P.underlying t = some (.slice e)) (hinfo : (P.info? e).map (fun i => (i.zero, i.size, i.bytes)) = some (some z, 1, bytes)) (hzs : z.cells.size = 1)
    (B : Nat) (v : Value) (n : Nat) (xs : List Value) (hs : a.eval s = v) (hown : w.ownsRow B e 1 v n xs) (g c : Nat) (y : Value) (hx : a.eval x = .slice (some ⟨g, 0, none⟩) 1 c) (hcell : w.cell? ⟨g, 0, none⟩ = some y) (hy : y.oneCell' = true)
    (hn : n ≤ 1099511627776) (hb : bytes ≤ 64) (hbase : B ≤ g)
    (h : ∀ g' c' w', w'.ownsRow B e 1 (.slice (some ⟨g', 0, none⟩) (n + 1) c') (n + 1) (xs ++ [y]) → w.grownBy w' v.ownBlock → (v.ownBlock = some g' ∨ g' = w.heap.size) → K (a.put o.dst (.slice (some ⟨g', 0, none⟩) (n + 1) c')) w') :
    if Region.wanted o (yielded ops a.tmps) = true then Oper.wp P o a w K Q else E' := by
  obtain ⟨i0, hi, hz0, hz1, hz2⟩ := info_parts hinfo
  refine step_append_lies _ hgd s x t ho B e i0 z 1 bytes ht hi hz0 hz1 hz2 hzs (by decide) v n xs hs hown ⟨g, 0, none⟩ 1 c [y] hx rfl ?_ ?_ (by decide) ?_ ?_ (by have := World.block_lt_of_cell? w _ hcell; simp only at this; omega) w.heap.size rfl ?_
  · intro j u hj
    match j, hj with
    | 0, hj => simp at hj; subst hj; exact hcell
    | j + 1, hj => simp at hj
  · intro u hu; simp at hu; subst hu; exact hy
  · unfold maxLen; omega
  · have h1 : n + 1 ≤ 1099511627777 := by omega
    have := Nat.mul_le_mul h1 hb
    omega
  · intro g' c' w' h1 h2 h3 _
    exact h g' c' w' h1 h2 h3
/-- The kinds of a new heap, as many as are there. -/
structure NewSt (w : World) (b : Nat) (L : List Value) (tt : List (List Int)) (k : Nat) (rows : List Value) (kv : Value) (wr : World) : Prop where
  blk : Blk wr b (kv :: L) 96
  own : wr.ownsRow (b + 1) 68 1 kv k rows
  rws : ∀ i, i < k → ∀ w', Upd (fun j => kv.ownBlock = some j ∨ j = b) wr w' → IntsR w' (rows.getD i undef) .i64 (tt.getD i [])
  up : Upd (fun _ => False) w wr
  lo : w.heap.size ≤ b
theorem NewSt.still {w : World} {b : Nat} {L : List Value} {tt : List (List Int)} {k : Nat} {rows : List Value} {kv : Value} {wr w' : World} (h : NewSt w b L tt k rows kv wr) (u : Upd (fun _ => False) wr w') : NewSt w b L tt k rows kv w' :=
  ⟨h.blk.upd u (fun x => x), ownsRow_upd h.own u (fun _ _ x => x), fun i hi w2 u2 => h.rws i hi w2 ((u.mono (fun _ _ x => x.elim)).trans u2), h.up.trans u, h.lo⟩
theorem NewSt.len {w : World} {b : Nat} {L : List Value} {tt : List (List Int)} {k : Nat} {rows : List Value} {kv : Value} {wr : World} (h : NewSt w b L tt k rows kv wr) : rows.length = k := by
  have := h.own.1
  simpa using this
/-- One kind more. -/
theorem NewSt.next {w : World} {b : Nat} {L : List Value} {tt : List (List Int)} {k : Nat} {rows : List Value} {kv : Value} {wr w3 w4 w5 : World} (h : NewSt w b L tt k rows kv wr) {a : Option Addr} {c : Nat} (hk : k < tt.length)
    (ho3 : w3.ownsRow wr.heap.size 3 1 (.slice a (tt.getD k []).length c) (tt.getD k []).length (ints (tt.getD k []))) (u3 : Upd (fun _ => False) wr w3) (u4 : Upd (fun _ => False) w3 w4) {g' c' : Nat}
    (ho5 : w5.ownsRow (b + 1) 68 1 (.slice (some ⟨g', 0, none⟩) (k + 1) c') (k + 1) (rows ++ [.slice a (tt.getD k []).length c])) (hg5 : w4.grownBy w5 kv.ownBlock) (hl5 : kv.ownBlock = some g' ∨ g' = w4.heap.size) :
    NewSt w b L tt (k + 1) (rows ++ [.slice a (tt.getD k []).length c]) (.slice (some ⟨g', 0, none⟩) (k + 1) c') (w5.setCell ⟨b, 0, none⟩ (.slice (some ⟨g', 0, none⟩) (k + 1) c')) := by
  have hlen := h.len
  have hbl := h.blk.lt
  have h4 := (h.still u3).still u4
  have hkb : ∀ j, kv.ownBlock = some j → b < j ∧ j < wr.heap.size := fun j e => by
    have := h.own.lt j e
    omega
  have u5 : Upd (fun j => kv.ownBlock = some j) w4 w5 := (Upd.refl _ _).grown hg5 (fun j e _ => e)
  have u6 : Upd (fun j => j = b) w5 (w5.setCell ⟨b, 0, none⟩ (.slice (some ⟨g', 0, none⟩) (k + 1) c')) := (Upd.refl _ _).at _ _
  have hg1 : b < g' := by
    rcases hl5 with e | e
    · exact (hkb g' e).1
    · have := u3.size; have := u4.size; omega
  refine ⟨?_, ?_, ?_, ?_, h.lo⟩
  · have h1 := h4.blk.upd u5 (fun e => by have := hkb b e; omega)
    have := h1.set 0 (.slice (some ⟨g', 0, none⟩) (k + 1) c')
    simpa using this
  · exact ownsRow_upd ho5 u6 (fun j hj e => by omega)
  · intro i hi w' u
    have uu : Upd (fun j => kv.ownBlock = some j ∨ j = b ∨ j = g') w4 w' := ((u5.mono (fun _ _ e => Or.inl e)).trans (u6.mono (fun _ _ e => Or.inr (Or.inl e)))).trans (u.mono (fun j _ e => by
      rcases e with e | e
      · have e : g' = j := by simpa [Value.ownBlock] using e
        exact Or.inr (Or.inr e.symm)
      · exact Or.inr (Or.inl e)))
    have uu : Upd (fun j => kv.ownBlock = some j ∨ j = b) w4 w' := uu.mono (fun j hj e => by
      rcases e with e | e | e
      · exact Or.inl e
      · exact Or.inr e
      · rcases hl5 with e2 | e2
        · rw [e]; exact Or.inl e2
        · omega)
    by_cases e : i = k
    · subst e
      have hgd : (rows ++ [Value.slice a (tt.getD i []).length c]).getD i undef = .slice a (tt.getD i []).length c := by
        simp [List.getD, List.getElem?_append_right, hlen]
      rw [hgd]
      have ho4 := ownsRow_upd ho3 u4 (fun _ _ x => x)
      exact ownsRow_intsR (ownsRow_upd ho4 uu (fun j hj e => by
        rcases e with e | e
        · have := hkb j e; omega
        · omega))
    · have hgd : (rows ++ [Value.slice a (tt.getD k []).length c]).getD i undef = rows.getD i undef := by
        simp only [List.getD]
        rw [List.getElem?_append_left (by omega)]
      rw [hgd]
      exact h4.rws i (by omega) w' uu
  · exact (h4.up.own u5 (fun i e => by have := hkb i e; have := h.lo; omega)).own u6 (fun i e => by have := h.lo; omega)
def NewPost (w : World) (tt : List (List Int)) (e : Ending) (w' : World) : Prop :=
  ∃ b base kv, e = .returned (.pointer (some ⟨b, 0, none⟩)) ∧ w.heap.size ≤ b ∧ IsVh w' b base tt (fun _ => noOb) kv (fun _ => .slice none 0 0) ∧ Upd (fun _ => False) w w'
theorem new_fin {w : World} {b : Nat} {tt : List (List Int)} {rows : List Value} {kv : Value} {wr : World} (h : NewSt w b (obRows (fun _ => noOb) (fun _ => .slice none 0 0) 64) tt tt.length rows kv wr) : NewPost w tt (.returned (.pointer (some ⟨b, 0, none⟩))) wr := by
  have hkb : ∀ j, kv.ownBlock = some j → b < j ∧ j < wr.heap.size := fun j e => by
    have := h.own.lt j e
    omega
  have hbl := h.blk.lt
  refine ⟨b, wr.heap.size, kv, rfl, h.lo, ⟨h.blk, hbl, Nat.le_refl _, fun w' u => ?_, fun i hi => World.ownsRow_nil _ _ _ _, fun i j _ _ _ g e => (by cases e), fun _ _ _ => rfl, fun i hi x hx => (by simp [noOb] at hx), fun i hi => (by simp [noOb]), fun i hi h => (by cases h)⟩, h.up⟩
  have u2 : Upd (fun j => j = b) wr w' := u.mono (fun j hj e => by omega)
  exact ⟨fun i => rows.getD i undef, ownsRow_rows (ownsRow_upd h.own u2 (fun j hj e => by omega)), fun i hi => h.rws i hi w' (u2.mono (fun j hj e => Or.inr e))⟩
def nilObs : List Value := obRows (fun _ => noOb) (fun _ => .slice none 0 0) 64
set_option maxRecDepth 100000 in
theorem zero_heap : Try.zeroCells96 = (Value.slice none 0 0 :: nilObs).toArray := by kernel_rfl
set_option maxRecDepth 100000 in
set_option maxHeartbeats 1000000 in
theorem vh_New (v : Value) (tt : List (List Int)) (w : World) (hv : MatIn w v tt) (h0 : tt.length ≤ 1000) (h30 : ∀ l ∈ tt, l.length ≤ 1000) : Calls Try.prog 23 #[v] w (NewPost w tt) := by
  have hnil : nilObs = obRows (fun _ => noOb) (fun _ => .slice none 0 0) 64 := rfl
  have hbd := zero_heap
  have hfin := Lib.hid (fun rows kv wr (h : NewSt w w.heap.size nilObs tt tt.length rows kv wr) => new_fin h)
  have hB := Blk.new w (Value.slice none 0 0 :: nilObs) 96
  clear hnil
  generalize nilObs = L at *
  rw [← hbd] at hB
  clear hbd
  obtain ⟨H, hR, hrows⟩ := hv
  have hX := Lib.hid hR
  obtain ⟨va, vc, rfl, hcap1, hcap, -⟩ := hR
  have l1 : (tt.length : Int) ≤ 9223372036854775807 := by unfold maxLen at hcap; omega
  clear hcap hcap1
  go_enter Try.func23, Try.ntmps23
  go_wp2_with fail
  go_loopw [10] (fun i wr => ∃ (k : Nat) (rows : List Value) (oa : Option Addr) (oc : Nat), i = .int .i64 k ∧ k ≤ tt.length ∧ NewSt w w.heap.size L tt k rows (.slice oa k oc) wr) (fun i _ => (tt.length - intOf i).toNat)
  case atStart => exact ⟨0, [], none, 0, rfl, Nat.zero_le _, ⟨by first | exact hB | (simpa using hB), World.ownsRow_nil _ _ _ _, fun i hi => absurd hi (by omega), (Upd.refl _ _).alloc _, Nat.le_refl _⟩⟩
  case round =>
    obtain ⟨k, rows, oa, oc, rfl, hk, hst⟩ := hrel
    by_cases hk2 : k = tt.length
    · subst hk2
      have fin := hfin.out _ _ _ hst
      have d1 : ¬ (tt.length : Int) < tt.length := by omega
      have Hfin := Lib.hid fin; clear fin
      clear hst
      go_wp2_with fail
      go_ret
      exact Hfin.out
    · have hk3 : k < tt.length := by omega
      have d1 : (k : Int) < tt.length := by omega
      obtain ⟨b0, off, hix, hb0, hc⟩ := hX.out.index (P := Try.prog) Try.underlying22 (by kernel_rfl) (by kernel_rfl) hk3
      simp only [Nat.mul_one] at hix hc
      have hc0 : wr.cell? ⟨b0, off + k, none⟩ = some (H k) := (hst.up.none.cell (p := ⟨b0, off + k, none⟩) hb0).trans (hc 0 (by decide))
      have hf := hrows k hk3
      have hfl : (tt.getD k []).length ≤ 1000 := by
        refine h30 _ ?_
        simp [List.getD, hk3]
      have hns := Lib.hid (fun w3 w4 w5 a c g' c' ho3 u3 u4 ho5 hg5 hl5 => hst.next (w3 := w3) (w4 := w4) (w5 := w5) (a := a) (c := c) (g' := g') (c' := c') hk3 ho3 u3 u4 ho5 hg5 hl5)
      generalize tt.getD k [] = f at *
      obtain ⟨fa, fc, hfe⟩ : ∃ fa fc, H k = .slice fa f.length fc := by
        obtain ⟨fa, fc, h1, -⟩ := hf
        exact ⟨fa, fc, h1⟩
      rw [hfe] at hf hc0
      have hclo := Lib.hid (fun w' (u : Upd (fun _ => False) wr w') => clone_ints _ f w' (ints_upd hf (hst.up.trans u)) (by omega))
      have hS := Lib.hid hst
      have cb := hst.blk.cell 0 rfl
      clear hc hfe hf hst hk2
      go_wp2_with fail
      obtain ⟨wa, hwa⟩ : ∃ wa : World, wr.alloc (.cells #[.slice fa f.length fc] 68) = wa := ⟨_, rfl⟩
      have u1 : Upd (fun _ => False) wr wa := hwa ▸ (Upd.refl _ _).alloc _
      have hB1 := Lib.hid (show Blk wa wr.heap.size [.slice fa f.length fc] 68 from hwa ▸ Blk.new wr [.slice fa f.length fc] 68)
      rw [hwa]
      clear hwa
      have hcl1 := Lib.hid (fun w' (u : Upd (fun _ => False) wa.drew w') => hclo.out w' (u1.drew.trans u))
      have hC := Lib.hid (fun w' (u : Upd (fun _ => False) wa.drew w') => hS.out.still (u1.drew.trans u))
      have hBB := Lib.hid (fun w' (u : Upd (fun _ => False) wa.drew w') => (hB1.out.upd (((Upd.refl (fun _ => False) _).drew).trans u) (fun h => h)).cell 0 rfl)
      have Hu1 := Lib.hid u1
      have c1 := hB1.out.cell 0 rfl
      have c2 := (hS.out.still u1).blk.cell 0 rfl
      have hf1 := Lib.hid (fun w3 w4 w5 (u3 : Upd (fun _ => False) wa.drew w3) (u4 : Upd (fun _ => False) w3 w4) (v : Value) (hg5 : w4.grownBy w5 (Value.slice oa k oc).ownBlock) => show w5.frozen? ⟨w.heap.size, 0, none⟩ = false ∧ w5.cell? ⟨w.heap.size, 0, none⟩ = some (.slice oa k oc) from by
        have h5 := ((hS.out.still (u1.drew.trans u3)).still u4)
        have u5 : Upd (fun j => (Value.slice oa k oc).ownBlock = some j) w4 w5 := (Upd.refl _ _).grown hg5 (fun j e _ => e)
        have hb5 := h5.blk.upd u5 (fun e => by have := (h5.own.lt _ e).1; omega)
        exact ⟨hb5.free 0, hb5.cell 0 rfl⟩)
      have hk0 : k ≤ 1099511627776 := by omega
      clear u1 cb hclo hc0 hix
      have infoKind : (Try.prog.info? 68).map (fun i => (i.zero, i.size, i.bytes)) = some (some (.agg #[.slice none 0 0]), 1, 24) := by kernel_rfl
      have hsz := Lib.hid (show w.heap.size + 1 ≤ wa.heap.size from by have := hB1.out.lt; have := hS.out.blk.lt; omega)
      go_region_law (first
        | (go_simp; go_at_call 57; (with_reducible refine (hcl1.out _ (Upd.refl _ _)).mono ?_); rintro e w3 ⟨a, c, rfl, ho3, hu3⟩; have cb3 := (hC.out w3 hu3).blk.cell 0 rfl; have cB3 := hBB.out w3 hu3; have hown3 := Lib.hid ((hC.out w3 hu3).own.alloc (.cells #[.slice a f.length c] 68)); have cb4 := ((hC.out w3 hu3).blk.alloc (.cells #[.slice a f.length c] 68)).cell 0 rfl; have cB4 := ((hB1.out.upd (((Upd.refl (fun _ => False) _).drew).trans hu3) (fun h => h)).alloc (.cells #[.slice a f.length c] 68)).cell 0 rfl; have cN3 := (Blk.new w3 [.slice a f.length c] 68).cell 0 rfl; have hz3 := hu3.size; have Ho3 := Lib.hid (ho3.mono Hu1.out.size); have Hu3 := Lib.hid hu3; clear ho3 hu3)
        | (refine step_pushL rfl _ _ 22 68 rfl (.agg #[.slice none 0 0]) 24 Try.underlying22 infoKind rfl (w.heap.size + 1) _ _ _ rfl hown3.out w3.heap.size 1 (.slice a f.length c) rfl cN3 rfl hk0 (by decide) (by have := hsz.out; have : wa.drew.heap.size = wa.heap.size := rfl; omega) ?_; intro g5 c5 w5 ho5 hg5 hl5; obtain ⟨f5, c5b⟩ := hf1.out w3 _ w5 Hu3.out ((Upd.refl _ _).alloc _) (.slice a f.length c) hg5; have fin5 := Lib.hid (hns.out _ _ _ a c g5 c5 Ho3.out (Hu1.out.drew.trans Hu3.out) ((Upd.refl _ _).alloc _) ho5 hg5 hl5); clear ho5 hg5 hl5))
      all_goals
        go_wp2
        go_roundw
        case rel => exact ⟨k + 1, _, _, _, by go_num, by omega, fin5.out⟩
        case measure => simp [intOf]; omega
end Go.Proofs.Ytcnbcidbbeadcaa

