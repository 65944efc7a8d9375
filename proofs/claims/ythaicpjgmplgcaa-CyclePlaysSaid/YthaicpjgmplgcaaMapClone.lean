/- Words and Copy of package bitmap; maps that there are not. -/
import Derived.Test.YthaicpjgmplgcaaMapNew
import Derived.Test.YthaicpjgmplgcaaStep
import Derived.WalkSpells
namespace Go.Proofs.Ythaicpjgmplgcaa
open Go.RowKit
set_option linter.unusedVariables false

/-- A row of words of one's own. -/
def WordRow (B : Nat) (w : World) (v : Value) (ws : List Nat) : Prop := w.ownsRow B 82 1 v ws.length (words ws)

def ClonePost (w : World) (ws : List Nat) (m : Nat) (e : Ending) (w' : World) : Prop :=
  ∃ g c, e = .returned (.slice (some ⟨g, 0, none⟩) m c) ∧ w'.ownsRow w.heap.size 82 1 (.slice (some ⟨g, 0, none⟩) m c) m (words ws) ∧ Upd (fun _ => False) w w'

theorem own_ad {w : World} {B m : Nat} {v : Value} {xs : List Value} (h : w.ownsRow B 82 1 v m xs) (hv : v ≠ .slice none 0 0) : ∃ g c, v = .slice (some ⟨g, 0, none⟩) m c := by
  rcases h.2 with ⟨h0, _⟩ | ⟨g, c, cur, h0, _⟩
  · exact absurd h0 hv
  · exact ⟨g, c, h0⟩
theorem words_one (ws : List Nat) : ∀ u ∈ words ws, u.oneCell' = true := by
  intro u hu
  obtain ⟨y, -, rfl⟩ := List.mem_map.1 hu
  rfl

set_option maxHeartbeats 400000 in
theorem clone_words (ad : Addr) (m c : Nat) (ws : List Nat) (w : World) (hl : ws.length = m) (hm : m ≤ 1099511627776) (hc : ∀ j u, (words ws)[j]? = some u → w.cell? (ad.add j) = some u) (hlt : ad.block < w.heap.size) :
    Calls Try.prog 79 #[.slice (some ad) m c] w (ClonePost w ws m) := by
  obtain ⟨i0, hi, hz0, hz1, hz2⟩ := info_parts infoU64
  have h63 : 0 + m ≤ maxLen := by unfold maxLen; omega
  have hby : (0 + m) * 8 ≤ 140737488355328 := by omega
  have hw1 := words_one ws
  have hlen : (words ws).length = m * 1 := by simp [words, hl]
  have hO := World.ownsRow_lit (base := w.heap.size) (e := 82) (size := 1) w #[] 0 (Nat.le_refl _) (by decide) rfl
  have hca : ∀ j u, (words ws)[j]? = some u → (w.alloc (.cells #[] 82)).cell? (ad.add j) = some u := by
    intro j u hu
    have h1 := hc j u hu
    have hb : (ad.add j).block = ad.block := by unfold Addr.add; split <;> rfl
    exact (World.cell?_of_block (a := ad.add j) (Below.heap_alloc _ _ _ (by rw [hb]; exact hlt))).trans h1
  have hbs : w.heap.size ≤ (w.alloc (.cells #[] 82)).heap.size := by simp
  have heq := fun w' => Lib.run_eql_slice_nil (P := Try.prog) w' 23 82 (some ad) m c 0 0 Try.underlying23
  have Hhca := Lib.hid hca; clear hca
  have Hhi := Lib.hid hi; clear hi
  have Hhz0 := Lib.hid hz0; clear hz0
  have Hhz1 := Lib.hid hz1; clear hz1
  have Hhz2 := Lib.hid hz2; clear hz2
  have Hhw1 := Lib.hid hw1; clear hw1
  have Hhlen := Lib.hid hlen; clear hlen
  have HhO := Lib.hid hO; clear hO
  have Hhl := Lib.hid hl; clear hl
  have Hhc := Lib.hid hc; clear hc
  go_enter Try.func79, Try.ntmps79
  go_wp2_with (at_builtin; refine wpList_append_own _ rfl _ _ 23 rfl w.heap.size 82 i0 (.int .u64 0) 1 8 Try.underlying23 Hhi.out Hhz0.out Hhz1.out Hhz2.out rfl (by decide) _ _ _ rfl HhO.out ad m c (words ws) rfl Hhlen.out Hhca.out Hhw1.out h63 hby hbs ?_; intro v' w1 hown1 hgrow hnil)
  go_ret
  have hv' : v' ≠ .slice none 0 0 := fun e => by
    have := (hnil.1 e).1
    cases this
  rw [Nat.zero_add] at hown1
  obtain ⟨g, c', rfl⟩ := own_ad hown1 hv'
  refine ⟨g, c', rfl, hown1, ((Upd.refl _ _).alloc _).grown hgrow (fun k hk hlt => ?_)⟩
  have := (HhO.out.lt k hk).1
  omega

theorem ownsRow_base' {w : World} {B B' m : Nat} {e : TypeId} {s : Nat} {v : Value} {xs : List Value} (h : w.ownsRow B e s v m xs) (hb : B' ≤ B) : w.ownsRow B' e s v m xs := by
  refine ⟨h.1, ?_⟩
  rcases h.2 with h0 | ⟨g, c, cur, h0, h1, r⟩
  · exact Or.inl h0
  · exact Or.inr ⟨g, c, cur, h0, by omega, r⟩
theorem map_cells {w : World} {b g n : Nat} {f : Nat → Bool} (h : MapF w b g n f) : ∃ c, Blk w b [.int .i64 n, .slice (some ⟨g, 0, none⟩) ((n + 63) / 64) c] 89 ∧ g < w.heap.size ∧ (∀ j u, (words (packN n f))[j]? = some u → w.cell? ((⟨g, 0, none⟩ : Addr).add j) = some u) := by
  obtain ⟨h1, h2, c, h3, h4⟩ := h
  exact ⟨c, h3, (h4.lt g rfl).2, h4.cells rfl⟩

theorem clone_map (w w' : World) (b g n c : Nat) (f : Nat → Bool) (h : MapF w b g n f) (hB : Blk w b [.int .i64 n, .slice (some ⟨g, 0, none⟩) ((n + 63) / 64) c] 89) (u : Upd (fun _ => False) w w') :
    Calls Try.prog 79 #[.slice (some ⟨g, 0, none⟩) ((n + 63) / 64) c] w' (ClonePost w (packN n f) ((n + 63) / 64)) := by
  have h' := h.upd u (fun x => x) (fun x => x)
  obtain ⟨c', h3, h4, h5⟩ := map_cells h'
  have := h.le
  refine (clone_words ⟨g, 0, none⟩ _ c _ w' (packN_length _ _) (by omega) h5 h4).mono ?_
  rintro e w2 ⟨g', c', rfl, ho, u2⟩
  exact ⟨g', c', rfl, ownsRow_base' ho u.size, u.trans u2⟩

theorem map_Words_nil (w : World) : Calls Try.prog 56 #[.pointer none] w (Same w (.slice none 0 0)) := by
  go_enter Try.func56, Try.ntmps56
  go_wp2
  go_ret
  exact ⟨rfl, rfl⟩

set_option maxHeartbeats 400000 in
theorem map_WordsF (b g n : Nat) (f : Nat → Bool) (w : World) (h : MapF w b g n f) :
    Calls Try.prog 56 #[.pointer (some ⟨b, 0, none⟩)] w (ClonePost w (packN n f) ((n + 63) / 64)) := by
  obtain ⟨c, hB, -, -⟩ := map_cells h
  have hcl := Lib.hid (clone_map w w b g n c f h hB (Upd.refl _ _))
  have hv := hB.cell 1 rfl
  clear hB h
  go_enter Try.func56, Try.ntmps56
  go_wp2_with (go_at_call 79; (with_reducible refine hcl.out.mono ?_); rintro e w' ⟨g', c', rfl, ho, u⟩)
  go_ret
  exact ⟨g', c', rfl, ho, u⟩

theorem map_Copy_nil (w : World) : Calls Try.prog 86 #[.pointer none] w (Same w (.pointer none)) := by
  go_enter Try.func86, Try.ntmps86
  go_wp2
  go_ret
  exact ⟨rfl, rfl⟩

def CopyPost (w : World) (n : Nat) (f : Nat → Bool) (e : Ending) (w' : World) : Prop :=
  ∃ b g, e = .returned (.pointer (some ⟨b, 0, none⟩)) ∧ MapF w' b g n f ∧ w.heap.size ≤ b ∧ w.heap.size ≤ g ∧ Upd (fun _ => False) w w'

theorem copy_fin {w w' : World} {g c n : Nat} {f : Nat → Bool} (hn : n ≤ 1048576) (h0 : w.heap.size ≤ g) (h1 : w'.ownsRow w.heap.size 82 1 (.slice (some ⟨g, 0, none⟩) ((n + 63) / 64) c) ((n + 63) / 64) (words (packN n f))) (u : Upd (fun _ => False) w w') :
    CopyPost w n f (.returned (.pointer (some ⟨w'.heap.size, 0, none⟩))) (w'.alloc (.cells #[.int .i64 n, .slice (some ⟨g, 0, none⟩) ((n + 63) / 64) c] 89)) := by
  have hg := h1.lt g rfl
  refine ⟨_, g, rfl, ⟨hn, by omega, c, Blk.new _ _ _, ?_⟩, u.size, h0, u.alloc _⟩
  exact ownsRow_base' (h1.alloc (.cells #[.int .i64 n, .slice (some ⟨g, 0, none⟩) ((n + 63) / 64) c] 89)) (Nat.zero_le _)

set_option maxHeartbeats 1000000 in
theorem map_CopyF (b g n : Nat) (f : Nat → Bool) (w : World) (h : MapF w b g n f) :
    Calls Try.prog 86 #[.pointer (some ⟨b, 0, none⟩)] w (CopyPost w n f) := by
  obtain ⟨c, hB, -, -⟩ := map_cells h
  have hcl := Lib.hid (fun w' u => clone_map w w' b g n c f h hB u)
  have hv := hB.cell 1 rfl
  have hv0 := hB.cell 0 rfl
  have hk := Lib.hid (fun w' (u : Upd (fun _ => False) w w') => (show w'.cell? ⟨b, 0, none⟩ = _ from (hB.upd u (fun x => x)).cell 0 rfl))
  have hk1 := Lib.hid (fun w' (u : Upd (fun _ => False) w w') => (show w'.cell? ⟨b, 1, none⟩ = _ from (hB.upd u (fun x => x)).cell 1 rfl))
  have hn := Lib.hid h.le
  have hu0 := Upd.refl (fun _ => False) w
  clear hB h
  go_enter Try.func86, Try.ntmps86
  go_wp2
  refine wp_hide (fun Q' hQ' => ?_)
  go_region_held3 (fun w' => Upd (fun _ => False) w w' ∧ w'.cell? ⟨b, 0, none⟩ = some (.int .i64 n) ∧ w'.cell? ⟨b, 1, none⟩ = some (.slice (some ⟨g, 0, none⟩) ((n + 63) / 64) c))
    (((try go_split_ands); exact ⟨by first | assumption | exact Upd.drew (by assumption) | exact (Upd.alloc (by assumption) _) , by first | assumption | exact hk.out _ (by first | assumption | exact Upd.drew (by assumption) | exact (Upd.alloc (by assumption) _)), by first | assumption | exact hk1.out _ (by first | assumption | exact Upd.drew (by assumption) | exact (Upd.alloc (by assumption) _))⟩))
    (((try go_split_ands); (go_at_call 79; (with_reducible refine (hcl.out _ (by assumption)).mono ?_); rintro e w2 ⟨g', c', rfl, ho, u⟩)))
  rw [hQ'.out]
  have hgl := (ho.lt g' rfl).1
  go_wp2
  go_ret
  exact copy_fin hn.out hgl ho u
end Go.Proofs.Ythaicpjgmplgcaa
