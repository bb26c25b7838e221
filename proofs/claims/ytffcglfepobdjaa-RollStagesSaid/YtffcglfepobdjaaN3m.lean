/- package roll, plain: rolls on a device that is not armed. -/
import Derived.Test.YtffcglfepobdjaaN2m
set_option linter.unusedVariables false
set_option linter.unusedSimpArgs false
set_option maxRecDepth 10000
set_option maxHeartbeats 1500000
namespace Go.Proofs.Ytffcglfepobdjaa
open Go.RowKit

theorem getN_putB (n : Nat) : ∀ many, getN (putB many n) = n % 256 ^ many
  | 0 => by simp [putB, getN, Nat.mod_one]
  | k + 1 => by
    rw [putB_succ, getN_snoc, getN_putB n k, putB_length, UInt8.toNat_ofNat', show n % 256 ^ (k + 1) = n % 256 ^ k + 256 ^ k * (n / 256 ^ k % 256) from Nat.mod_pow_succ, show (2 : Nat) ^ (8 * k) = 256 ^ k by rw [Nat.pow_mul]]
theorem headB_t8 (seq area used count : Nat) : (headB seq area used count).take 8 = putB 8 seq := by rfl
theorem headB_d32 (seq area used count : Nat) : ((headB seq area used count).drop 32).take 8 = putB 8 seq := by rfl
theorem hdOf_headB {seq area used count : Nat} (h1 : seq < 18446744073709551616) (h2 : area < 256) (h3 : used < 4294967296) (h4 : count < 4294967296) : hdOf (headB seq area used count) = ⟨seq, area, used, count⟩ := by
  have e1 : getN ((headB seq area used count).take 8) = seq := by rw [headB_t8, getN_putB]; exact Nat.mod_eq_of_lt (by simpa using h1)
  have e3 : getN (((headB seq area used count).drop 9).take 4) = used := by
    rw [show ((headB seq area used count).drop 9).take 4 = putB 4 used by rfl, getN_putB]; exact Nat.mod_eq_of_lt (by simpa using h3)
  have e4 : getN (((headB seq area used count).drop 13).take 4) = count := by
    rw [show ((headB seq area used count).drop 13).take 4 = putB 4 count by rfl, getN_putB]; exact Nat.mod_eq_of_lt (by simpa using h4)
  have e2 : ((headB seq area used count).getD 8 0).toNat = area := by
    rw [show (headB seq area used count).getD 8 0 = UInt8.ofNat area by rfl, UInt8.toNat_ofNat']; exact Nat.mod_eq_of_lt h2
  unfold hdOf
  rw [e1, e2, e3, e4]
theorem nextF_congr {D E : DS} (h : ∀ j, j < 2 → E.at j = D.at j) : nextF E = nextF D := by
  unfold nextF seqsOf
  rw [h 0 (by decide), h 1 (by decide)]
theorem maxF_ge (l : List Nat) : ∀ (n : Nat), n ≤ maxF n l := by
  induction l with
  | nil => intro n; exact Nat.le_refl _
  | cons x l ih =>
    intro n
    show n ≤ maxF (if x < 1099511627776 then max n x else n) l
    refine Nat.le_trans ?_ (ih _)
    split
    · exact Nat.le_max_left _ _
    · exact Nat.le_refl _
theorem maxF_mem {l : List Nat} {x : Nat} (hx : x ∈ l) (h : x < 1099511627776) : ∀ n, x ≤ maxF n l := by
  induction l with
  | nil => cases hx
  | cons y l ih =>
    intro n
    show x ≤ maxF (if y < 1099511627776 then max n y else n) l
    rcases List.mem_cons.1 hx with e | e
    · subst e
      refine Nat.le_trans ?_ (maxF_ge l _)
      rw [if_pos h]; exact Nat.le_max_right _ _
    · exact ih e _
theorem maxF_le {l : List Nat} {m : Nat} (h : ∀ x ∈ l, x < 1099511627776 → x ≤ m) : ∀ n, n ≤ m → maxF n l ≤ m := by
  induction l with
  | nil => intro n hn; exact hn
  | cons y l ih =>
    intro n hn
    show maxF (if y < 1099511627776 then max n y else n) l ≤ m
    refine ih (fun x hx => h x (List.mem_cons_of_mem _ hx)) _ ?_
    split
    · rename_i hy
      have := h y (by simp) hy
      exact Nat.max_le.2 ⟨hn, this⟩
    · exact hn
theorem nextF_maxF (D : DS) : nextF D = maxF 0 (seqsOf D) + 1 := rfl
/-- A number that stands at a head is no number of the next one. -/
theorem nextF_gt {D : DS} {x : Nat} (hx : x ∈ seqsOf D) (h : x < 1099511627776) : x < nextF D := by
  rw [nextF_maxF]; have := maxF_mem hx h 0; omega
theorem seqs_mem (D : DS) {j : Nat} (hj : j < 2) : getN ((D.at j).take 8) ∈ seqsOf D ∧ getN (((D.at j).drop 32).take 8) ∈ seqsOf D := by
  rcases (show j = 0 ∨ j = 1 by omega) with e | e <;> subst e <;> simp [seqsOf]
theorem seqs_cases {D : DS} {x : Nat} (hx : x ∈ seqsOf D) : ∃ j, j < 2 ∧ (x = getN ((D.at j).take 8) ∨ x = getN (((D.at j).drop 32).take 8)) := by
  simp only [seqsOf, List.mem_cons, List.not_mem_nil, or_false] at hx
  rcases hx with e | e | e | e
  · exact ⟨0, by decide, .inl e⟩
  · exact ⟨0, by decide, .inr e⟩
  · exact ⟨1, by decide, .inl e⟩
  · exact ⟨1, by decide, .inr e⟩
/-- Behind a head that bears the next number. -/
theorem nextF_turned {D E : DS} {s area used count : Nat} (hs : s < 2) (hn : nextF D < 1099511627776) (h1 : E.at s = headB (nextF D) area used count) (h2 : ∀ j, j < 2 → j ≠ s → E.at j = D.at j) : nextF E ≤ nextF D + 1 := by
  rw [nextF_maxF E]
  have : maxF 0 (seqsOf E) ≤ nextF D := by
    refine maxF_le (fun x hx hlt => ?_) 0 (Nat.zero_le _)
    obtain ⟨j, hj, e⟩ := seqs_cases hx
    by_cases hjs : j = s
    · subst hjs
      rw [h1] at e
      rw [headB_t8, headB_d32] at e
      have e' : x = getN (putB 8 (nextF D)) := e.elim id id
      rw [getN_putB, Nat.mod_eq_of_lt (by have := nextF_le D; omega)] at e'
      omega
    · rw [h2 j hj hjs] at e
      have hm := seqs_mem D hj
      have : x ∈ seqsOf D := e.elim (fun e => e ▸ hm.1) (fun e => e ▸ hm.2)
      exact Nat.le_of_lt (nextF_gt this hlt)
  omega

/-! ### Rolls on a calm device -/
structure RS.quiet (S : RS) (n : Nat) : Prop where
  good : S.good
  calm : Calm S.D
  num : nextF S.D ≤ n
theorem RS.good.first {S : RS} (h : S.good) : 2 + S.own.area * S.D.half + S.D.half ≤ S.D.l.length :=
  area_fits (by have := h.four; omega) h.area (Nat.le_refl _)
theorem RS.good.other {S : RS} (h : S.good) : 2 + (1 - S.own.area) * S.D.half + S.D.half ≤ S.D.l.length :=
  area_fits (by have := h.four; omega) (by omega) (Nat.le_refl _)
theorem stage_quiet {S : RS} {n : Nat} (h : S.quiet n) {b : List UInt8} (h4 : b.length ≤ 4000) (hr : (blocksN b : Int) ≤ S.room) :
    ∃ D', S.stage b = ({ S with D := D', st := S.st ++ [b], more := S.more + blocksN b }, 0) ∧ ({ S with D := D', st := S.st ++ [b], more := S.more + blocksN b } : RS).quiet n ∧ D'.half = S.D.half := by
  have hf := h.good.first
  have hro : S.own.used + S.more + blocksN b ≤ S.D.half := by unfold RS.room at hr; omega
  have hk : 2 + S.own.area * S.D.half + S.own.used + S.more + (packs b).length ≤ S.D.l.length := by rw [packs_length]; omega
  obtain ⟨c1, c2⟩ := calm_writes (packs b) S.D (2 + S.own.area * S.D.half + S.own.used + S.more) h.calm (packs_64 b) hk
  have hs : S.stage b = ({ S with D := (S.D.writes ((2 + S.own.area * S.D.half + S.own.used + S.more : Nat) : Int) (packs b)).1, st := S.st ++ [b], more := S.more + blocksN b }, 0) := by
    unfold RS.stage
    rw [if_neg (by omega), if_neg (by omega)]
    simp only []
    rw [if_pos c1]
  have hg := stage_good h.good b
  have hgr := stage_grow (S := S) b
  rw [hs] at hg hgr
  refine ⟨_, hs, ⟨hg, c2, ?_⟩, half_eq hgr.2.2⟩
  have : nextF (S.D.writes ((2 + S.own.area * S.D.half + S.own.used + S.more : Nat) : Int) (packs b)).1 = nextF S.D := nextF_congr (fun j hj => by
    rw [writes_at (packs b) S.D _ h.calm.down (packs_64 b) hk c1 j (by have := h.good.four; omega), if_neg (by omega)])
  show nextF (S.D.writes ((2 + S.own.area * S.D.half + S.own.used + S.more : Nat) : Int) (packs b)).1 ≤ n
  rw [this]; exact h.num
theorem stage_no {S : RS} {b : List UInt8} (h : ¬ (b.length ≤ 4000 ∧ (blocksN b : Int) ≤ S.room)) : (S.stage b).2 ≠ 0 ∧ (S.stage b).1 = S := by
  unfold RS.stage
  by_cases h4 : 4000 < b.length
  · rw [if_pos h4]; exact ⟨by show (110 : Int) ≠ 0; decide, rfl⟩
  · rw [if_neg h4, if_pos (by omega)]; exact ⟨by show (111 : Int) ≠ 0; decide, rfl⟩
theorem nslot_nat (S : RS) : ∃ s : Nat, s < 2 ∧ S.nslot = (s : Int) := by
  unfold RS.nslot
  split
  · exact ⟨1, by decide, rfl⟩
  · exact ⟨0, by decide, rfl⟩
theorem turns_quiet {S : RS} {n : Nat} (h : S.quiet n) (hn : n < 1099511627776) {hd : Hd} {l : List (List UInt8)} (hs : hd.seq = nextF S.D) (hg : (S.turns hd l).1.good) :
    ∃ D', S.turns hd l = (⟨D', hd, S.nslot, l, [], 0⟩, 0) ∧ (⟨D', hd, S.nslot, l, [], 0⟩ : RS).quiet (n + 1) ∧ D'.half = S.D.half := by
  obtain ⟨s, hs2, hse⟩ := nslot_nat S
  have h4 := h.good.four
  have hc := calm_turn h.calm (k := s) (by omega) (hd_bytes_length hd)
  have hat := fun j hj => calm_turn_at h.calm (k := s) (by omega) (hd_bytes_length hd) j hj
  rw [← hse] at hc hat
  have ht : S.turns hd l = (⟨(S.D.turn S.nslot hd.bytes).1, hd, S.nslot, l, [], 0⟩, 0) := by
    unfold RS.turns
    simp only []
    rw [if_pos (by rw [hc.1])]
  have hgr := turns_grow S hd l
  rw [ht] at hg hgr
  refine ⟨_, ht, ⟨hg, hc.2, ?_⟩, half_eq hgr.2.2⟩
  show nextF (S.D.turn S.nslot hd.bytes).1 ≤ n + 1
  have hnum := h.num
  have := nextF_turned (D := S.D) (E := (S.D.turn S.nslot hd.bytes).1) (s := s) (area := hd.area) (used := hd.used) (count := hd.count) hs2 (by omega) (by rw [hat s (by omega), if_pos rfl, ← hs]; rfl) (fun j hj hne => by rw [hat j (by omega), if_neg (fun e => hne e.symm)])
  omega
theorem seal_quiet {S : RS} {n : Nat} (h : S.quiet n) (hn : n < 1099511627776) (hst : S.st ≠ []) :
    ∃ D', S.sealz = (⟨D', S.sealHd, S.nslot, S.l ++ S.st, [], 0⟩, 0) ∧ (⟨D', S.sealHd, S.nslot, S.l ++ S.st, [], 0⟩ : RS).quiet (n + 1) ∧ D'.half = S.D.half := by
  have he : S.sealz = S.turns S.sealHd (S.l ++ S.st) := by
    unfold RS.sealz
    rw [if_neg hst, if_neg (by rw [h.calm.down]; decide), if_neg (by have := h.num; omega)]
  have hg := seal_good h.good
  rw [he] at hg ⊢
  exact turns_quiet h hn rfl hg
theorem append_quiet {S : RS} {n : Nat} (h : S.quiet n) (hn : n < 1099511627776) {b : List UInt8} (h4 : b.length ≤ 4000) (hr : (blocksN b : Int) ≤ S.room) :
    ∃ D' hd, S.append b = (⟨D', hd, S.nslot, S.l ++ (S.st ++ [b]), [], 0⟩, 0) ∧ (⟨D', hd, S.nslot, S.l ++ (S.st ++ [b]), [], 0⟩ : RS).quiet (n + 1) ∧ D'.half = S.D.half ∧ hd.used = S.own.used + (S.more + blocksN b) := by
  obtain ⟨D1, e1, q1, h1⟩ := stage_quiet h h4 hr
  obtain ⟨D2, e2, q2, h2⟩ := seal_quiet q1 hn (by simp)
  refine ⟨D2, _, ?_, q2, h2.trans h1, rfl⟩
  unfold RS.append
  rw [e1]
  simp only [if_pos]
  rw [e2]
  rfl
theorem append_no {S : RS} {b : List UInt8} (h : ¬ (b.length ≤ 4000 ∧ (blocksN b : Int) ≤ S.room)) : (S.append b).2 ≠ 0 ∧ (S.append b).1 = S := by
  have := stage_no h
  unfold RS.append
  rw [if_neg this.1]
  exact this
theorem calm_writesL : ∀ (l : List (List UInt8)) (D : DS) (k : Nat), Calm D → 2 ≤ k → k + moreL l ≤ D.l.length → (D.writesL (k : Int) l).2 = 0 ∧ Calm (D.writesL (k : Int) l).1 ∧ ∀ j, j < 2 → (D.writesL (k : Int) l).1.at j = D.at j
  | [], D, k, h, _, _ => ⟨rfl, h, fun j _ => rfl⟩
  | b :: l, D, k, h, h2, hk => by
    have hm : moreL (b :: l) = blocksN b + moreL l := by simp [moreL]
    obtain ⟨c1, c2⟩ := calm_writes (packs b) D k h (packs_64 b) (by rw [packs_length]; omega)
    have hgr := writes_grow (packs b) D (k : Int)
    have he : D.writesL (k : Int) (b :: l) = (D.writes (k : Int) (packs b)).1.writesL ((k + blocksN b : Nat) : Int) l := by
      simp only [DS.writesL]
      rw [if_pos c1, Int.natCast_add]
    rw [he]
    obtain ⟨d1, d2, d3⟩ := calm_writesL l (D.writes (k : Int) (packs b)).1 (k + blocksN b) c2 (by omega) (by rw [hgr.2.2]; omega)
    refine ⟨d1, d2, fun j hj => ?_⟩
    rw [d3 j hj, writes_at (packs b) D k h.down (packs_64 b) (by rw [packs_length]; omega) c1 j (by omega), if_neg (by omega)]
theorem reset_quiet {S : RS} {n : Nat} (h : S.quiet n) (hn : n < 1099511627776) {l : List (List UInt8)} (h4 : ∀ b ∈ l, b.length ≤ 4000) (hm : moreL l ≤ S.D.half) :
    ∃ D' hd, S.reset l = (⟨D', hd, S.nslot, l, [], 0⟩, 0) ∧ (⟨D', hd, S.nslot, l, [], 0⟩ : RS).quiet (n + 1) ∧ D'.half = S.D.half ∧ hd.used = moreL l := by
  have hnum := h.num
  have hoth := h.good.other
  have hal : l.any longB = false := by
    rw [List.any_eq_false]
    intro b hb
    have := h4 b hb
    simp [longB]
    omega
  obtain ⟨c1, c2, c3⟩ := calm_writesL l S.D (2 + (1 - S.own.area) * S.D.half) h.calm (by omega) (by omega)
  have hgr := writesL_grow l S.D ((2 + (1 - S.own.area) * S.D.half : Nat) : Int)
  have hk := writesL_ok l h.good.dok ((2 + (1 - S.own.area) * S.D.half : Nat) : Int)
  have hw := h.good.withD hk hgr.2.2
  have he : S.reset l = ({ S with D := (S.D.writesL ((2 + (1 - S.own.area) * S.D.half : Nat) : Int) l).1 } : RS).turns (S.resetHd l) l := by
    unfold RS.reset
    rw [if_neg (by rw [hal]; decide), if_neg (by rw [h.calm.down]; decide), if_neg (by omega), if_pos c1]
  have hnx : nextF (S.D.writesL ((2 + (1 - S.own.area) * S.D.half : Nat) : Int) l).1 = nextF S.D := nextF_congr c3
  have hg := reset_good h.good l
  rw [he] at hg ⊢
  obtain ⟨D', e, q, hh⟩ := turns_quiet (S := { S with D := (S.D.writesL ((2 + (1 - S.own.area) * S.D.half : Nat) : Int) l).1 }) (n := n) ⟨hw, c2, by rw [hnx]; exact hnum⟩ hn (hd := S.resetHd l) (l := l) (by rw [hnx]; rfl) hg
  exact ⟨D', S.resetHd l, e, q, hh.trans (half_eq hgr.2.2), rfl⟩
/-- A roll of a device of zeros. -/
theorem pad_zero (N : Nat) : padI [] N = List.replicate N 0 := by
  unfold padI
  rw [List.take_nil, splice_nil]
theorem of_zero_at {N : Nat} {j : Nat} (hj : j < ofN (padI [] N)) : (DS.of (padI [] N)).at j = zb := by
  show (DS.of (padI [] N)).all.getD j [] = zb
  rw [of_all, of_l, List.getD_eq_getElem?_getD, List.getElem?_map, List.getElem?_range hj]
  show chunk (padI [] N) (64 * j) = zb
  rw [pad_zero]
  unfold chunk fillz
  rw [List.drop_replicate, List.take_replicate]
  unfold zb splice
  have hle : min 64 (N - 64 * j) ≤ 64 := Nat.min_le_left _ _
  rw [List.take_zero, List.nil_append, List.length_replicate, Nat.zero_add, List.drop_replicate]
  rw [List.replicate_append_replicate]
  congr 1
  omega
theorem openS_zero {N : Nat} (h4 : 4 ≤ ofN (padI [] N)) : openS (DS.of (padI [] N)) = ⟨DS.of (padI [] N), ⟨0, 0, 0, 0⟩, -1, [], [], 0⟩ ∧ (openS (DS.of (padI [] N))).quiet 1 := by
  obtain ⟨D, hD⟩ : ∃ D, D = DS.of (padI [] N) := ⟨_, rfl⟩
  have hz : ∀ j, j < 2 → D.at j = zb := fun j hj => by rw [hD]; exact of_zero_at (by omega)
  have hno : ∀ j, j < 2 → hdOk D (D.at j) = false := fun j hj => by
    rw [hz j hj, hdOk_eq, decide_eq_false, Bool.false_and]
    intro e
    exact absurd e.1 (by decide)
  have e1 : openP D 1 = openP D 0 := openP_skip (.inl (hno 0 (by decide)))
  have e2 : openP D 2 = openP D 1 := openP_skip (.inl (hno 1 (by decide)))
  have he : openS D = ⟨D, ⟨0, 0, 0, 0⟩, -1, [], [], 0⟩ := by
    unfold openS
    rw [e2, e1]; rfl
  rw [← hD]
  refine ⟨he, openS_good (by rw [hD]; exact of_ok _) (by rw [hD, of_len]; exact h4), by rw [openS_D, hD]; exact ⟨rfl, rfl⟩, ?_⟩
  rw [openS_D]
  unfold nextF seqsOf
  rw [hz 0 (by decide), hz 1 (by decide)]
  decide
end Go.Proofs.Ytffcglfepobdjaa
