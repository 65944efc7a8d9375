/- A heap of volatile objects: Keep. -/
import Derived.Test.YtcnbcidbbeadcaaVhAd
import Derived.Deep.RegionLaw
namespace Go.Proofs.Ytcnbcidbbeadcaa
open Go.RowKit Go.Deep
set_option linter.unusedVariables false

def remS (K : List Int) (s : (Nat → VOb) × Nat) (x : Int) : (Nat → VOb) × Nat := if x ∈ K then s else (removeV s.1 x, s.2 + (if (findV s.1 x).isSome = true then 1 else 0))
def remL (K : List Int) (o : Nat → VOb) (xs : List Int) : (Nat → VOb) × Nat := xs.foldl (remS K) (o, 0)
theorem remL_snoc (K : List Int) (o : Nat → VOb) (xs : List Int) (x : Int) : remL K o (xs ++ [x]) = remS K (remL K o xs) x := by
  unfold remL
  rw [List.foldl_append]
  rfl
theorem findV_place (o : Nat → VOb) (i : Nat) (hi : i < 64) : findV o (-1 - (i : Int)) = if (o i).used = true then some i else none := by
  unfold findV
  have e : (-1 - (-1 - (i : Int))).toNat = i := by omega
  rw [e]
  by_cases hu : (o i).used = true
  · rw [if_pos ⟨by omega, by omega, hu⟩, if_pos hu]
  · rw [if_neg (fun h => hu h.2.2), if_neg hu]
theorem remL_all (K : List Int) (o : Nat → VOb) (n : Nat) (hn : n ≤ 64) : remL K o (allTo o n) = (dropV o K n, goneTo o K n) := by
  induction n with
  | zero =>
    have : dropV o K 0 = o := by
      funext i
      exact dropV_behind o K 0 i (Nat.zero_le _)
    rw [this]
    rfl
  | succ n ih =>
    have ih := ih (by omega)
    rw [dropV_succ, goneTo]
    unfold allTo
    by_cases hu : (o n).used = true
    · rw [if_pos hu, remL_snoc, ih]
      unfold remS
      by_cases hm : (-1 - (n : Int)) ∈ K
      · rw [if_pos hm, if_neg (fun h => h.2 hm), if_neg (fun h => h.2 hm)]
        simp
      · have hc : (o n).used = true ∧ (-1 - (n : Int)) ∉ K := ⟨hu, hm⟩
        rw [if_neg hm, if_pos hc, if_pos hc]
        have hf : findV (dropV o K n) (-1 - (n : Int)) = some n := by rw [findV_place _ n (by omega), dropV_behind o K n n (Nat.le_refl _), if_pos hu]
        unfold removeV
        simp only [hf]
        simp
    · rw [if_neg hu, List.append_nil, ih, if_neg (fun h => hu h.1), if_neg (fun h => hu h.1)]
      simp
def RetKp (w : World) (b base : Nat) (ks : List (List Int)) (kv : Value) (o : Nat → VOb) (n : Nat) (e : Ending) (w' : World) : Prop :=
  e = .returned (.int .i64 (n : Int)) ∧ (∃ F, IsVh w' b base ks o kv F) ∧ Upd (fun j => j = b) w w'
/-- While objects are removed. -/
structure RmSt (w : World) (b base ch ck : Nat) (ks : List (List Int)) (kv : Value) (K : List Int) (kl al : Value) (xs : List Int) (o : Nat → VOb) (wr : World) : Prop where
  hp : ∃ F, IsVh wr b base ks o kv F
  kp : ∀ w', Upd (fun j => j = b) wr w' → w'.cell? ⟨ch, 0, none⟩ = some (.pointer (some ⟨b, 0, none⟩)) ∧ w'.cell? ⟨ck, 0, none⟩ = some kl ∧ IntsR w' kl .i64 K ∧ IntsR w' al .i64 xs
  up : Upd (fun j => j = b) w wr
theorem RmSt.still {w : World} {b base ch ck : Nat} {ks : List (List Int)} {kv : Value} {K : List Int} {kl al : Value} {xs : List Int} {o : Nat → VOb} {wr w' : World} (h : RmSt w b base ch ck ks kv K kl al xs o wr) (u : Upd (fun _ => False) wr w') : RmSt w b base ch ck ks kv K kl al xs o w' := by
  obtain ⟨F, hp⟩ := h.hp
  have u2 : Upd (fun j => j = b) wr w' := u.mono (fun _ _ x => x.elim)
  exact ⟨⟨F, hp.still u⟩, fun w2 uu => h.kp w2 (u2.trans uu), h.up.trans u2⟩
theorem RmSt.next {w : World} {b base ch ck : Nat} {ks : List (List Int)} {kv : Value} {K : List Int} {kl al : Value} {xs : List Int} {o o' : Nat → VOb} {wr w' : World} (h : RmSt w b base ch ck ks kv K kl al xs o wr) (hp : ∃ F, IsVh w' b base ks o' kv F) (u : Upd (fun j => j = b) wr w') : RmSt w b base ch ck ks kv K kl al xs o' w' :=
  ⟨hp, fun w2 uu => h.kp w2 (u.trans uu), h.up.trans u⟩
theorem addK_len (o : Nat → VOb) (K l : List Int) : K.length ≤ (addK o K l).length := by
  induction l generalizing K with
  | nil => exact Nat.le_refl _
  | cons x l ih =>
    refine Nat.le_trans ?_ (ih (stepK o K x))
    unfold stepK
    split <;> simp
theorem ints_apart {w w' : World} {v : Value} {xs : List Int} {b : Nat} (h : w.ownsRow (b + 1) 3 1 v xs.length (ints xs)) (u : Upd (fun j => j = b) w w') : IntsR w' v .i64 xs := ownsRow_intsR (ownsRow_upd h u (fun j hj e => by omega))
set_option maxRecDepth 100000 in
set_option maxHeartbeats 4000000 in
theorem vh_Keep {w : World} {b base : Nat} {ks : List (List Int)} {o : Nat → VOb} {kv : Value} {F : Nat → Value} (h : IsVh w b base ks o kv F) (v : Value) (l : List Int) (hl : IntsR w v .i64 l) :
    Calls Try.prog 44 #[.pointer (some ⟨b, 0, none⟩), v] w (RetKp w b base ks kv (dropV o (keepV o l) 64) (goneTo o (keepV o l) 64)) := by
  have hbw := h.blk.lt
  have hwa : Upd (fun _ => False) w ((w.alloc (.cells #[.pointer (some ⟨b, 0, none⟩)] 39)).alloc (.cells #[.slice none 0 0] 52)) := ((Upd.refl _ _).alloc _).alloc _
  have hB2 := (Blk.new (w.alloc (.cells #[.pointer (some ⟨b, 0, none⟩)] 39)) [.slice none 0 0] 52)
  rw [alloc_size] at hB2
  have hst0 : KpSt w b w.heap.size (w.heap.size + 1) [] ((w.alloc (.cells #[.pointer (some ⟨b, 0, none⟩)] 39)).alloc (.cells #[.slice none 0 0] 52)) :=
    ⟨(Blk.new w [.pointer (some ⟨b, 0, none⟩)] 39).alloc _, ⟨none, 0, hB2, World.ownsRow_nil _ _ _ _⟩, ⟨Nat.le_refl _, by omega⟩, hwa⟩
  have hadd0 := vh_add h hst0 (KeepOk.nil o) v l (fun w' u => IntsR.upd hl (by
    have : Upd (fun _ => False) w w' := hwa.own u (fun j e => by
      rcases e with e | ⟨s, hs, e⟩
      · omega
      · rw [hB2.cell 0 rfl] at hs
        cases hs
        cases e)
    exact this.none))
  have hok0 := (KeepOk.nil o).add l
  obtain ⟨va, vc, rfl⟩ : ∃ va vc, v = .slice va l.length vc := by
    obtain ⟨va, vc, h1, -⟩ := hl
    exact ⟨va, vc, h1⟩
  have hH := Lib.hid h
  have hadd0 := Lib.hid hadd0
  have hkv : keepGo o 65 0 (addK o [] l) = keepV o l := rfl
  generalize keepV o l = KV at *
  clear hl hB2 hst0 hwa h
  go_enter Try.func44, Try.ntmps44
  go_wp2_with (go_at_call 78; (with_reducible refine hadd0.out.mono ?_); rintro e w3 ⟨rfl, hs3⟩)
  go_loopw [7] (fun i wr => ∃ (k : Nat) (K : List Int), i = .int .i64 k ∧ KeepOk o K ∧ k ≤ K.length ∧ keepGo o (65 - k) k K = KV ∧ KpSt w b w.heap.size (w.heap.size + 1) K wr) (fun i _ => (65 - intOf i).toNat)
  case atStart => exact ⟨0, _, rfl, hok0, Nat.zero_le _, hkv, hs3⟩
  case round =>
    obtain ⟨k, K, rfl, hok, hk, hgo, hst⟩ := hrel
    clear hs3 hok0 hkv hadd0
    have h64 := hok.len
    obtain ⟨ka, kc, hkB, hkO⟩ := hst.bk
    have hc0 := hst.bh.cell 0 rfl
    have hc1 := hkB.cell 0 rfl
    by_cases hk2 : k = K.length
    · have d1 : ¬ (k : Int) < K.length := by omega
      have e64 : 65 - k = (64 - k) + 1 := by omega
      rw [e64] at hgo
      unfold keepGo at hgo
      rw [if_neg (by omega)] at hgo
      subst hgo
      have hall := Lib.hid (vh_All (hH.out.still hst.up))
      have hrm := Lib.hid (fun w5 (u : Upd (fun _ => False) wr w5) aa ac (ho5 : w5.ownsRow wr.heap.size 3 1 (.slice aa (allV o).length ac) (allV o).length (ints (allV o))) => show RmSt w b base w.heap.size (w.heap.size + 1) ks kv K (.slice ka K.length kc) (.slice aa (allV o).length ac) (allV o) o w5 from by
        have hs := hst.still u
        have hsz := hst.up.size
        refine ⟨⟨F, hH.out.still hs.up⟩, fun w' uu => ⟨(hs.bh.upd uu (by omega)).cell 0 rfl, ((hkB.upd u (fun x => x)).upd uu (by omega)).cell 0 rfl, ints_apart ((ownsRow_upd hkO u (fun _ _ x => x)).mono (by omega)) uu, ints_apart (ho5.mono (by omega)) uu⟩, hs.up.mono (fun _ _ x => x.elim)⟩)
      have hra := remL_all K o 64 (Nat.le_refl _)
      have hra : remL K o (allV o) = (dropV o K 64, goneTo o K 64) := hra
      have hal := allTo_len o 64
      have hal : (allV o).length ≤ 64 := hal
      have fin := Lib.hid (fun wr al kl (n : Nat) (hn : n = (remL K o (allV o)).2) (hh : RmSt w b base w.heap.size (w.heap.size + 1) ks kv K kl al (allV o) (remL K o (allV o)).1 wr) => show RetKp w b base ks kv (dropV o K 64) (goneTo o K 64) (.returned (.int .i64 (n : Int))) wr from by
        rw [hra] at hn hh
        subst hn
        exact ⟨rfl, hh.hp, hh.up⟩)
      clear hst hkB hkO hra hH hok
      generalize allV o = al at *
      obtain ⟨wm, hwm⟩ : ∃ wm : World, wm = wr := ⟨_, rfl⟩
      subst hwm
      go_wp2_with (go_at_call 33; (with_reducible refine hall.out.mono ?_); rintro e w5 ⟨aa, ac, rfl, ho5, hu5⟩)
      have hR5 := hrm.out w5 hu5 aa ac ho5
      clear ho5 hu5 hall hrm hc0 hc1
      go_loopw [8, 32] (fun n i wr => ∃ (m q : Nat), i = .int .i64 m ∧ m ≤ al.length ∧ n = .int .i64 q ∧ q ≤ m ∧ q = (remL K o (al.take m)).2 ∧ RmSt w b base w.heap.size (w.heap.size + 1) ks kv K (.slice ka K.length kc) (.slice aa al.length ac) al (remL K o (al.take m)).1 wr) (fun _ i _ => (64 - intOf i).toNat)
      case atStart => exact ⟨0, 0, rfl, Nat.zero_le _, rfl, Nat.le_refl _, rfl, hR5⟩
      case round =>
        obtain ⟨m, q, rfl, hm, rfl, hq, hqe, hst⟩ := hrel
        clear hR5
        by_cases hm2 : m = al.length
        · have d2 : ¬ (m : Int) < al.length := by omega
          rw [hm2, List.take_length] at hqe hst
          have fin := Lib.hid (fin.out wr _ _ q hqe hst)
          clear hst hqe
          go_wp2_with fail
          go_ret
          exact fin.out
        · have hm3 : m < al.length := by omega
          have d2 : (m : Int) < al.length := by omega
          obtain ⟨k1, k2, k3, k4⟩ := hst.kp wr (Upd.refl _ _)
          obtain ⟨b1, o1, hix, hb1, hy⟩ := RowsIn.index (P := Try.prog) k4 Try.underlying52 (by kernel_rfl) (by kernel_rfl) hm3
          simp only [Nat.mul_one] at hix hy
          have hy0 := hy 0 (by decide)
          simp only [Nat.add_zero] at hy0
          have htk : remL K o (al.take (m + 1)) = remS K (remL K o (al.take m)) (al.getD m 0) := by
            rw [List.take_succ_eq_append_getElem hm3, remL_snoc]
            simp [List.getD, hm3]
          change wr.cell? _ = some (.int .i64 (al.getD m 0)) at hy0
          generalize al.getD m 0 = x at *
          generalize remL K o (al.take m) = s at *
          have hcon := slices_Contains _ K x wr k3
          have hS := Lib.hid hst
          unfold remS at htk
          clear hy hm2 hst k3 k4
          by_cases hmem : x ∈ K
          · rw [if_pos hmem] at htk
            rw [decide_eq_true hmem] at hcon
            have Hhtk := Lib.hid htk; clear htk
            have Hhcon := Lib.hid hcon; clear hcon
            have Hhqe := Lib.hid hqe; clear hqe
            clear hmem
            generalize K.length = kl at *
            go_wp2_with (go_at_call 79; (with_reducible refine Hhcon.out.mono ?_); rintro e w6 ⟨rfl, hu6⟩; have Hu6 := Lib.hid hu6; clear hu6)
            go_roundw
            case rel => exact ⟨m + 1, q, by go_num, by omega, rfl, by omega, by rw [Hhtk.out]; exact Hhqe.out, by rw [Hhtk.out]; exact hS.out.still Hu6.out⟩
            case measure => simp [intOf]; omega
          · rw [if_neg hmem] at htk
            rw [decide_eq_false hmem] at hcon
            obtain ⟨F', hp⟩ := hS.out.hp
            have hrv := Lib.hid (fun w' (u : Upd (fun _ => False) wr w') => vh_Remove (hp.still u) x)
            have hk1 := Lib.hid (fun w' (u : Upd (fun _ => False) wr w') => (hS.out.kp w' (u.mono (fun _ _ x => x.elim))).1)
            have w1 : IntKind.i64.wrap ((q : Int) + 1) = ((q + 1 : Nat) : Int) := by rw [IntKind.wrap_i64]; omega
            clear hmem hp
            generalize K.length = kl at *
            generalize hfs : (findV s.1 x).isSome = d at *
            have Hhtk := Lib.hid htk; clear htk
            have Hhcon := Lib.hid hcon; clear hcon
            have Hhqe := Lib.hid hqe; clear hqe
            clear hfs
            cases d with
            | true =>
              go_wp2_with (first
                | (go_at_call 79; (with_reducible refine Hhcon.out.mono ?_); rintro e w6 ⟨rfl, hu6⟩; have k6 := hk1.out w6 hu6; have Hu6 := Lib.hid hu6; clear hu6)
                | (go_at_call 26; (with_reducible refine (hrv.out _ Hu6.out).mono ?_); rintro e w7 ⟨rfl, hp7, hu7⟩; have Hn := Lib.hid (hS.out.next hp7 ((Hu6.out.mono (fun _ _ x => x.elim)).trans hu7)); clear hp7 hu7))
              go_roundw
              case rel => exact ⟨m + 1, q + 1, by go_num, by omega, by first | rfl | (rw [w1]) | go_num, by omega, by rw [Hhtk.out, Hhqe.out]; rfl, by rw [Hhtk.out]; exact Hn.out⟩
              case measure => simp [intOf]; omega
            | false =>
              go_wp2_with (first
                | (go_at_call 79; (with_reducible refine Hhcon.out.mono ?_); rintro e w6 ⟨rfl, hu6⟩; have k6 := hk1.out w6 hu6; have Hu6 := Lib.hid hu6; clear hu6)
                | (go_at_call 26; (with_reducible refine (hrv.out _ Hu6.out).mono ?_); rintro e w7 ⟨rfl, hp7, hu7⟩; have Hn := Lib.hid (hS.out.next hp7 ((Hu6.out.mono (fun _ _ x => x.elim)).trans hu7)); clear hp7 hu7))
              go_roundw
              case rel => exact ⟨m + 1, q, by go_num, by omega, rfl, by omega, by rw [Hhtk.out, Hhqe.out]; rfl, by rw [Hhtk.out]; exact Hn.out⟩
              case measure => simp [intOf]; omega
    · have hk3 : k < K.length := by omega
      have d1 : (k : Int) < K.length := by omega
      have e64 : 65 - k = (64 - k) + 1 := by omega
      have hkI := ownsRow_intsR hkO
      obtain ⟨b1, o1, hix, hb1, hy⟩ := RowsIn.index (P := Try.prog) hkI Try.underlying52 (by kernel_rfl) (by kernel_rfl) hk3
      simp only [Nat.mul_one] at hix hy
      have hy0 := hy 0 (by decide)
      simp only [Nat.add_zero] at hy0
      change wr.cell? _ = some (.int .i64 (K.getD k 0)) at hy0
      rw [e64] at hgo
      unfold keepGo at hgo
      rw [if_pos hk3] at hgo
      have hln := addK_len o K (refsV o (K.getD k 0))
      have hokn := hok.add (refsV o (K.getD k 0))
      generalize K.getD k 0 = x at *
      have href := Lib.hid (fun w' (u : Upd (fun _ => False) wr w') => vh_Refs (hH.out.still (hst.up.trans u)) x)
      have hadd := Lib.hid (fun w' w2 ra rc (u : Upd (fun _ => False) wr w') (ho2 : w2.ownsRow w'.heap.size 3 1 (.slice ra (refsV o x).length rc) (refsV o x).length (ints (refsV o x))) (u2 : Upd (fun _ => False) w' w2) =>
        vh_add hH.out (hst.still (u.trans u2)) hok (.slice ra (refsV o x).length rc) (refsV o x) (fun w4 u4 => ownsRow_intsR (ownsRow_upd ho2 u4 (fun j hj e => by
          have hz := u.size
          have hcl := hkB.lt
          rcases e with e | ⟨s, hs, e⟩
          · omega
          · rw [(hkB.upd (u.trans u2) (fun x => x)).cell 0 rfl] at hs
            cases hs
            have := hkO.lt j e
            omega))))
      clear hy hkI hok hkB hkO hst hk2
      have Hhgo := Lib.hid hgo; clear hgo
      have Hhln := Lib.hid hln; clear hln
      have Hhokn := Lib.hid hokn; clear hokn
      go_wp2_with fail
      go_region_law (first
        | (go_simp; go_at_call 37; (with_reducible refine (href.out _ ((Upd.refl _ _).drew)).mono ?_); rintro e w2 ⟨ra, rc, rfl, ho2, hu2⟩; have Ha := Lib.hid (hadd.out _ w2 ra rc ((Upd.refl _ _).drew) ho2 hu2); clear ho2 hu2)
        | (go_simp; go_at_call 78; (with_reducible refine Ha.out.mono ?_); rintro e w4 ⟨rfl, hs4⟩; have Hs4 := Lib.hid hs4; clear hs4))
      all_goals
        go_wp2
        go_roundw
        case rel => exact ⟨k + 1, _, by go_num, Hhokn.out, by have := Hhln.out; omega, by rw [show 65 - (k + 1) = 64 - k from by omega]; exact Hhgo.out, Hs4.out⟩
        case measure => simp [intOf]; omega
end Go.Proofs.Ytcnbcidbbeadcaa
