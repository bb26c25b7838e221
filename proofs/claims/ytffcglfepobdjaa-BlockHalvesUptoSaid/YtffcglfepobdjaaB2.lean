/- slices.Clone at blocks and at writes; all blocks of a device. -/
import Derived.Test.YtffcglfepobdjaaA2
import Derived.Test.YtffcglfepobdjaaA3
set_option linter.unusedVariables false
set_option linter.unusedSimpArgs false
namespace Go.Proofs.Ytffcglfepobdjaa
open Go.RowKit

/-- What is new in w'. -/
def Fresh (w w' : World) : Nat → Prop := fun k => w.heap.size ≤ k ∧ k < w'.heap.size

theorem Fresh.grow {w w1 w2 : World} (h : w1.heap.size ≤ w2.heap.size) : ∀ k, Fresh w w1 k → Fresh w w2 k := fun k hk => ⟨hk.1, Nat.lt_of_lt_of_le hk.2 h⟩
/-- A row of the call's own, gathered since w1. -/
structure Acc (w1 wr : World) (e : TypeId) (size : Nat) (v : Value) (xs : List (List Value)) : Prop where
  rows : Rows wr (Fresh w1 wr) e size v xs
  kept : Keep Noth w1 wr
theorem Acc.nil (w : World) (e : TypeId) (size : Nat) : Acc w w e size (.slice none 0 0) [] := ⟨Rows.nil _ _ _ _, Keep.refl _ _⟩
theorem Acc.append {w1 wr w2 w3 : World} {e : TypeId} {size : Nat} {u v : Value} {xs ys : List (List Value)} (h : Acc w1 wr e size u xs) (K2 : Keep Noth wr w2)
    (H : Rows w3 (fun k => u.ownBlock = some k ∨ (w2.heap.size ≤ k ∧ k < w3.heap.size)) e size v ys) (K3 : Keep (fun k => u.ownBlock = some k) w2 w3) : Acc w1 w3 e size v ys := by
  have h1 := h.kept.size
  have h2 := K2.size
  have h3 := K3.size
  refine ⟨H.mono (fun k hk => ?_), (h.kept.trans K2 (fun _ _ h => h)).trans K3 (fun i hi e => ?_)⟩
  · rcases hk with hk | hk
    · have := h.rows.foot k hk
      exact ⟨this.1, by have := this.2; omega⟩
    · exact ⟨by omega, hk.2⟩
  · have := (h.rows.foot i e).1
    omega

theorem bvs_one {l : List Bk} : ∀ u ∈ (l.map bv).flatten, u.oneCell' = true := by
  intro u hu
  simp only [List.mem_flatten, List.mem_map] at hu
  obtain ⟨_, ⟨b, _, rfl⟩, hu⟩ := hu
  exact bv_one b u hu
theorem wvs_one {l : List (Nat × Bk)} : ∀ u ∈ (l.map wv).flatten, u.oneCell' = true := by
  intro u hu
  simp only [List.mem_flatten, List.mem_map] at hu
  obtain ⟨_, ⟨b, _, rfl⟩, hu⟩ := hu
  exact wv_one b u hu

theorem clone61_calls {w : World} {F : Nat → Prop} {v : Value} {xs : List Bk} (H : Rows w F 103 64 v (xs.map bv)) (hl : xs.length ≤ 1099511627776) :
    Calls Try.prog 61 #[v] w (fun e w' => ∃ v', e = .returned v' ∧ Rows w' (Fresh w w') 103 64 v' (xs.map bv) ∧ Keep Noth w w') := by
  rcases H.own.2 with ⟨rfl, h0⟩ | ⟨g, cap, cur, rfl, _⟩
  · obtain rfl : xs = [] := List.eq_nil_of_length_eq_zero (by simpa using h0)
    have hq := fun (W : World) => Lib.run_eql_slice_nil (P := Try.prog) W 93 103 none 0 0 0 0 sl93
    go_enter Try.func61, Try.ntmps61
    go_wp2_with fail
    go_ret
    exact ⟨_, rfl, Rows.nil _ _ _ _, Keep.refl _ _⟩
  · have hq := fun (W : World) (n : Nat) => Lib.run_eql_slice_nil (P := Try.prog) W 93 103 (some ⟨g, 0, none⟩) n cap 0 0 sl93
    have HR : Reads (w.alloc (.cells #[] 103)) (some ⟨g, 0, none⟩) (xs.map bv).flatten := (rd_of_own H).keep ((Keep.refl Noth w).alloc _) (fun _ _ => id)
    have hE := Rows.empty w 103 64
    go_enter Try.func61, Try.ntmps61
    go_wp2_with (at_builtin; refine wpList_append_rows rfl _ _ 93 rfl 103 zv 64 64 sl93 info103 ?_ (by decide) (by decide) _ _ [] (xs.map bv) rfl hE (some ⟨g, 0, none⟩) (xs.map bv).length cap rfl rfl ?_ H.each HR bvs_one ?_ ?_)
    · rfl
    · intro h; cases h
    · simp only [List.length_nil, List.length_map]; omega
    · intro v' w' H' K'
      have hfin : Rows w' (Fresh w w') 103 64 v' (xs.map bv) ∧ Keep Noth w w' := by
        refine ⟨Rows.mono (by simpa using H') (fun k hk => ?_), ((Keep.refl Noth w).alloc _).trans K' (fun i hi h => ?_)⟩
        · have hs := K'.size
          simp only [World.size_alloc] at hs hk
          rcases hk with hk | hk
          · simp only [Value.ownBlock, Option.some.injEq] at hk
            exact ⟨by omega, by omega⟩
          · exact ⟨by omega, hk.2⟩
        · simp only [Value.ownBlock, Option.some.injEq] at h
          omega
      clear H' K' HR hE H
      go_wp2_with fail
      go_ret
      exact ⟨v', rfl, hfin.1, hfin.2⟩
theorem clone62_calls {w : World} {F : Nat → Prop} {v : Value} {xs : List (Nat × Bk)} (H : Rows w F 105 65 v (xs.map wv)) (hl : xs.length ≤ 1099511627776) :
    Calls Try.prog 62 #[v] w (fun e w' => ∃ v', e = .returned v' ∧ Rows w' (Fresh w w') 105 65 v' (xs.map wv) ∧ Keep Noth w w') := by
  rcases H.own.2 with ⟨rfl, h0⟩ | ⟨g, cap, cur, rfl, _⟩
  · obtain rfl : xs = [] := List.eq_nil_of_length_eq_zero (by simpa using h0)
    have hq := fun (W : World) => Lib.run_eql_slice_nil (P := Try.prog) W 94 105 none 0 0 0 0 sl94
    go_enter Try.func62, Try.ntmps62
    go_wp2_with fail
    go_ret
    exact ⟨_, rfl, Rows.nil _ _ _ _, Keep.refl _ _⟩
  · have hq := fun (W : World) (n : Nat) => Lib.run_eql_slice_nil (P := Try.prog) W 94 105 (some ⟨g, 0, none⟩) n cap 0 0 sl94
    have HR : Reads (w.alloc (.cells #[] 105)) (some ⟨g, 0, none⟩) (xs.map wv).flatten := (rd_of_own H).keep ((Keep.refl Noth w).alloc _) (fun _ _ => id)
    have hE := Rows.empty w 105 65
    go_enter Try.func62, Try.ntmps62
    go_wp2_with (at_builtin; refine wpList_append_rows rfl _ _ 94 rfl 105 zw 65 72 sl94 info105 ?_ (by decide) (by decide) _ _ [] (xs.map wv) rfl hE (some ⟨g, 0, none⟩) (xs.map wv).length cap rfl rfl ?_ H.each HR wvs_one ?_ ?_)
    · rfl
    · intro h; cases h
    · simp only [List.length_nil, List.length_map]; omega
    · intro v' w' H' K'
      have hfin : Rows w' (Fresh w w') 105 65 v' (xs.map wv) ∧ Keep Noth w w' := by
        refine ⟨Rows.mono (by simpa using H') (fun k hk => ?_), ((Keep.refl Noth w).alloc _).trans K' (fun i hi h => ?_)⟩
        · have hs := K'.size
          simp only [World.size_alloc] at hs hk
          rcases hk with hk | hk
          · simp only [Value.ownBlock, Option.some.injEq] at hk
            exact ⟨by omega, by omega⟩
          · exact ⟨by omega, hk.2⟩
        · simp only [Value.ownBlock, Option.some.injEq] at h
          omega
      clear H' K' HR hE H
      go_wp2_with fail
      go_ret
      exact ⟨v', rfl, hfin.1, hfin.2⟩
end Go.Proofs.Ytffcglfepobdjaa
