/- A write. -/
import Derived.Test.YtffcglfepobdjaaB5
import Derived.Test.YtffcglfepobdjaaA5
set_option linter.unusedVariables false
set_option linter.unusedSimpArgs false
set_option maxRecDepth 10000
namespace Go.Proofs.Ytffcglfepobdjaa
open Go.RowKit

/-- Bytes, and zeros behind. -/
def fillz (b : List UInt8) : Bk := splice zb 0 b
theorem fillz_length (b : List UInt8) (h : b.length ≤ 64) : (fillz b).length = 64 := by unfold fillz; rw [length_splice _ _ _ (by rw [zb_length]; omega), zb_length]
def DS.put (D : DS) (k : Nat) (b : List UInt8) : DS := { D with row := D.row ++ [(k, fillz b)] }
theorem build105 (k : Int) (W : World) : (Instr.build 105 #[(0, .int .i64 k)]).run Try.prog W = .ok (.agg (.int .i64 k :: bv zb).toArray) W := by kernel_rfl
theorem bv_fillz (b : List UInt8) (k : Nat) : wv (k, fillz b) = splice (wv (k, zb)) 1 (bv b) := by
  unfold wv fillz splice bv
  simp [List.map_take, List.map_drop, Nat.add_comm]

theorem write_down {w : World} {F : Nat → Prop} {g : Nat} {vl vr : Value} {D : DS} (hD : DevAt w F g vl vr D) (hd : D.down = true) (k : Int) (v : Value) :
    Calls Try.prog 36 #[.pointer (some ⟨g, 0, none⟩), .int .i64 k, v] w (fun e w' => e = .returned (.int .i64 100) ∧ w = w') := by
  obtain ⟨⟨-, -, -, -, h4⟩, -⟩ := hD.cells
  rw [hd] at h4
  clear hd hD
  go_enter Try.func36, Try.ntmps36
  go_wp2_with fail
  go_ret
  exact ⟨rfl, rfl⟩
theorem write_at {w : World} {F : Nat → Prop} {g : Nat} {vl vr : Value} {D : DS} (hD : DevAt w F g vl vr D) (hd : D.down = false) (k : Int) (A : Option Addr) (n c : Nat) (hn : n ≤ 140737488351232) (hk : k < 0 ∨ (D.l.length : Int) ≤ k ∨ 64 < n) :
    Calls Try.prog 36 #[.pointer (some ⟨g, 0, none⟩), .int .i64 k, .slice A n c] w (fun e w' => e = .returned (.int .i64 101) ∧ w = w') := by
  obtain ⟨⟨h0, -, -, -, h4⟩, -⟩ := hD.cells
  obtain ⟨Al, cl, rfl⟩ := hD.l.valm
  rw [hd] at h4
  clear hd hD
  by_cases h1 : k < 0
  · go_enter Try.func36, Try.ntmps36
    go_wp2_with fail
    go_ret
    exact ⟨rfl, rfl⟩
  · by_cases h2 : (D.l.length : Int) ≤ k
    · go_enter Try.func36, Try.ntmps36
      go_wp2_with fail
      go_ret
      exact ⟨rfl, rfl⟩
    · have h3 : (64 : Int) < n := by omega
      have h1' : 0 ≤ k := by omega
      have h2' : k < (D.l.length : Int) := by omega
      clear hk h1 h2
      go_enter Try.func36, Try.ntmps36
      go_wp2_with fail
      go_ret
      exact ⟨rfl, rfl⟩

theorem DevAt.rowed {w w4 : World} {F : Nat → Prop} {g : Nat} {vl vr v' : Value} {D : DS} {row' : List (Nat × Bk)} (hD : DevAt w F g vl vr D) (K : Keep (fun q => vr.ownBlock = some q) w w4) (B4 : BlockIs w4 g [vl, vr, .int .i64 (D.ops : Int), .int .i64 D.fuse, .bool D.down] 96)
    (H4 : Rows w4 (fun q => vr.ownBlock = some q ∨ (w.heap.size ≤ q ∧ q < w4.heap.size)) 105 65 v' (row'.map wv)) :
    DevAt (w4.setCell ⟨g, 1, none⟩ v') (grow F w (w4.setCell ⟨g, 1, none⟩ v')) g vl v' { D with row := row' } ∧ Keep F w (w4.setCell ⟨g, 1, none⟩ v') := by
  have hrow : ∀ q, vr.ownBlock = some q → F q ∧ q ≠ g := fun q hq => ⟨hD.row.foot q hq, fun e => hD.row.ne hD.blk (by decide) (by rw [hq, e])⟩
  have hg := hD.lt g hD.here
  have hK5 : Keep (Only g) w4 (w4.setCell ⟨g, 1, none⟩ v') := (Keep.refl _ _).cell 1 v'
  have hs := K.size
  have hs5 := hK5.size
  refine ⟨⟨grow_lt hD.lt (Nat.le_trans hs hs5), .inl hD.here, B4.set 1 v', ?_, ?_⟩, (K.mono (fun i _ h => (hrow i h).1)).trans hK5 (fun i _ e => by unfold Only at e; subst e; exact hD.here)⟩
  · have h1 := hD.l.stay K (fun q hq hq' => hD.l.ne2 hD.row (by decide) q hq hq')
    have h2 := h1.stay hK5 (fun q hq e => hD.l.ne hD.blk (by decide) (by rw [hq, e]))
    exact h2.mono (fun q hq => .inl hq)
  · have h2 := H4.stay hK5 (fun q hq e => by
      rcases H4.foot q hq with h | h
      · exact (hrow q h).2 e
      · unfold Only at e; omega)
    refine h2.mono (fun q hq => ?_)
    rcases hq with h | h
    · exact .inl (hrow q h).1
    · exact .inr ⟨h.1, Nat.lt_of_lt_of_le h.2 hs5⟩
theorem grow_more {F : Nat → Prop} {w w1 w2 : World} (h : w1.heap.size ≤ w2.heap.size) : ∀ k, grow F w w1 k → grow F w w2 k := fun k hk => hk.imp id (fun h' => ⟨h'.1, Nat.lt_of_lt_of_le h'.2 h⟩)
theorem Rows.one_val {w : World} {F : Nat → Prop} {e : TypeId} {size : Nat} {v : Value} {xs : List (List Value)} (h : Rows w F e size v xs) : v.oneCell' = true ∧ v.cells = #[v] := by
  obtain ⟨A, c, rfl⟩ := h.val
  exact ⟨rfl, rfl⟩

set_option maxHeartbeats 1000000 in
theorem write_ok {w : World} {F : Nat → Prop} {g : Nat} {vl vr : Value} {D : DS} (hD : DevAt w F g vl vr D) (hd : D.down = false) (hok : D.ok) (ho : D.ops ≤ 1099511627776) (hr : D.row.length ≤ 1099511627776) (k : Nat) (hk : k < D.l.length)
    (A : Option Addr) (c : Nat) (b : List UInt8) (hb : b.length ≤ 64) (hA : Reads w A (bv b)) :
    Calls Try.prog 36 #[.pointer (some ⟨g, 0, none⟩), .int .i64 (k : Int), .slice A b.length c] w (fun e w' => e = .returned (.int .i64 (if D.fuse == 0 then 100 else 0)) ∧ DevIs w' (grow F w w') g (D.put k b).tick ∧ Keep F w w') := by
  obtain ⟨⟨h0, h1, -, -, h4⟩, -⟩ := hD.cells
  have Hdev := hid hD
  obtain ⟨Al, cl, rfl⟩ := hD.l.valm
  obtain ⟨Ar, cr, rfl⟩ := hD.row.valm
  rw [hd] at h4
  have hk0 : (0 : Int) ≤ k := by omega
  have hk1 : (k : Int) < D.l.length := by omega
  have hb1 : (b.length : Int) ≤ 64 := by omega
  have HA := hid hA
  clear hd hA
  go_enter Try.func36, Try.ntmps36
  have hmin : (bv b).length = Nat.min b.length 64 := by rw [bv_length]; exact (Nat.min_eq_left hb).symm
  have Hmin := hid hmin
  clear hmin
  go_wp2_with (first | (refine wpList_run rfl _ _ (build105 _ _) ?_) | (refine wpList_alloc_store rfl 105 rfl 7 _ rfl (by rfl) rfl rfl (by decide) zw (wv (k, zb)) (by rw [show (wv (k, zb)).length = 65 from wv0_length]; exact info105) (wv (0, zb)) zw_cells rfl (by rfl) (wv_one _) ?_; intro bw w1 hbw B1 K1) | (refine wpList_copy_blk rfl _ _ 33 33 rfl 5 sl33 size5 bw 1 A 64 _ _ c (by rfl) (by rfl) (bv b) (wv (k, zb)) 105 B1 Hmin.out (HA.out.keep K1 (fun _ _ => id)) (by rw [bv_length, show (wv (k, zb)).length = 65 from wv0_length]; omega) (bv_one b) ?_; intro w2 B2 K2))
  rw [← bv_fillz] at B2
  have hBg : BlockIs w2 g [.slice Al D.l.length cl, .slice Ar D.row.length cr, .int .i64 (D.ops : Int), .int .i64 D.fuse, .bool D.down] 96 :=
    (Hdev.out.blk.keep K1 id).keep K2 (fun e => by have := Hdev.out.lt g Hdev.out.here; unfold Only at e; omega)
  have Hw65 : Hid ((wv (k, fillz b)).length = 65) := by show _ = _; simp [wv, fillz_length b hb]
  refine wp_region_ordL [(0, true), (1, true), (2, true), (3, true), (4, true), (5, true), (6, false), (7, false), (8, true), (9, true), (10, false)] (fun w' => BlockIs w' g [.slice Al D.l.length cl, .slice Ar D.row.length cr, .int .i64 (D.ops : Int), .int .i64 D.fuse, .bool D.down] 96 ∧ BlockIs w' bw (wv (k, fillz b)) 105) follows_mixed (by kernel_rfl) ⟨hBg, B2⟩ ?_
  simp only [List.map_cons, List.map_nil, List.getElem?_cons_succ, List.getElem?_cons_zero, Option.getD_some]
  go_frame
  refine wpO_pure (v := .pointer (some ⟨g, 0, none⟩)) (by rfl) (fun w' hw' => by rfl) ?_
  go_frame
  refine wpO_pure (v := .pointer (some ⟨g, 0, none⟩)) (by rfl) (fun w' hw' => by rfl) ?_
  go_frame
  refine wpO_pure (v := .pointer (some ⟨g, 0, none⟩)) (by rfl) (fun w' hw' => by rfl) ?_
  go_frame
  refine wpO_pure (v := .pointer (some ⟨g, 1, none⟩)) (by rfl) (fun w' hw' => by go_simp) ?_
  go_frame
  refine wpO_pure (v := .slice Ar D.row.length cr) (by rfl) (fun w' hw' => by have hc := hw'.1.cell 1; simp only [List.getElem?_cons_succ, List.getElem?_cons_zero] at hc; go_simp) ?_
  go_frame
  refine wpO_pure (v := .agg (wv (k, fillz b)).toArray) (by rfl) (fun w' hw' => exec_load_blk 105 _ rfl bw 0 _ (wv (k, fillz b)) 105 _ (by simp [Act.eval]) hw'.2 (part0 _) Try.underlying105 rfl (by rw [Hw65.out]; exact info105)) ?_
  go_frame
  refine wpO_run (by rfl) (exec_buildSlice1 94 105 _ rfl sl94 (wv (k, fillz b)) zw info105 (by rw [zw_cells, List.size_toArray]; exact wv0_length) (by decide) (by decide) (by simp [Act.eval, Value.cells]) Hw65.out) (.inr ⟨hBg.drew.alloc _, B2.drew.alloc _⟩) ?_
  have K3 : Keep Noth w (w2.drew.alloc (.cells (wv (k, fillz b)).toArray 105)) := ((K1.trans K2 (fun i hi e => by unfold Only at e; omega)).drew).alloc _
  have B3 : BlockIs (w2.drew.alloc (.cells (wv (k, fillz b)).toArray 105)) w2.heap.size (wv (k, fillz b)) 105 := BlockIs.new w2.drew _ _
  have hBg3 := hBg.drew.alloc (.cells (wv (k, fillz b)).toArray 105)
  have hbw3 := B2.drew.alloc (.cells (wv (k, fillz b)).toArray 105)
  obtain ⟨v', w4, hr4, H4, K4⟩ := run_append_rows (P := Try.prog) 94 94 105 zw 65 72 sl94 info105 (by rw [zw_cells, List.size_toArray]; exact wv0_length) (by decide) (by decide) F (.slice Ar D.row.length cr) (D.row.map wv) [wv (k, fillz b)] (Hdev.out.row.keep K3 (Dj.noth _)) (some ⟨w2.heap.size, 0, none⟩) 1 1 rfl (fun h => by cases h)
    (fun y hy => by rw [List.mem_singleton.1 hy]; exact Hw65.out) (by rw [List.flatten_singleton]; exact Reads.of_range B3.rangeAll) (by rw [List.flatten_singleton]; exact wv_one _) (by rw [List.length_map]; omega)
  have hrow : ∀ q, (Value.slice Ar D.row.length cr).ownBlock = some q → F q ∧ q < w.heap.size ∧ q ≠ g := fun q hq =>
    ⟨Hdev.out.row.foot q hq, Hdev.out.lt q (Hdev.out.row.foot q hq), fun e => Hdev.out.row.ne Hdev.out.blk (by decide) (by rw [hq, e])⟩
  have hBg4 := hBg3.keep K4 (fun e => (hrow g e).2.2 rfl)
  have hbw4 := hbw3.keep K4 (fun e => by have := (hrow bw e).2.1; omega)
  go_frame
  refine wpO_run (by rfl) (exec_append _ _ 94 rfl (by simp [Act.eval]) (by simp [Act.eval]) hr4) (.inr ⟨hBg4, hbw4⟩) ?_
  go_frame
  refine wpO_pure (v := .pointer (some ⟨g, 0, none⟩)) (by rfl) (fun w' hw' => by rfl) ?_
  go_frame
  refine wpO_pure (v := .pointer (some ⟨g, 1, none⟩)) (by rfl) (fun w' hw' => by go_simp) ?_
  go_frame
  refine wpO_store (by rfl) (exec_store_cell 94 _ _ rfl g 1 v' _ 96 (by simp [Act.eval]) (by simp [Act.eval]) hBg4 (by simp) ?_ ?_ info94) (.inl rfl) ?_
  · exact H4.one_val.1
  · exact H4.one_val.2
  refine wpO_nil ?_
  go_frame
  have hKK : Keep (fun q => (Value.slice Ar D.row.length cr).ownBlock = some q) w w4 := (K3.mono (fun _ _ h => h.elim)).trans K4 (fun _ _ h => h)
  have hs3 := K3.size
  obtain ⟨hD5, K5⟩ := Hdev.out.rowed hKK hBg4 (row' := D.row ++ [(k, fillz b)]) ((show Rows w4 _ 105 65 v' ((D.row ++ [(k, fillz b)]).map wv) from by rw [List.map_append]; exact H4).mono (fun q hq => by
    rcases hq with h | h
    · exact .inl h
    · exact .inr ⟨Nat.le_trans hs3 h.1, h.2⟩))
  generalize hw5 : w4.setCell ⟨g, 1, none⟩ v' = w5 at *
  clear hw5 hBg4 hbw4 hrow hr4 H4 K4 hBg3 hbw3 B3 K3 hBg B2 K2 B1 K1 h0 h1 h4
  have hop := op_calls hD5 (show D.ops ≤ 1152921504606846976 by omega) hok.fuse hok.fuse'
  cases hf : (D.fuse == 0) with
  | true =>
    go_wp2_with (go_at_call 60; refine hop.mono ?_; rintro e w6 ⟨rfl, H6, K6⟩; dsimp only; rw [hf])
    go_ret
    exact ⟨rfl, DevIs.mono ⟨_, _, H6⟩ (grow_more K6.size) (grow_lt Hdev.out.lt (Nat.le_trans K5.size K6.size)), K5.trans K6 (fun i _ e => by unfold Only at e; subst e; exact Hdev.out.here)⟩
  | false =>
    go_wp2_with (go_at_call 60; refine hop.mono ?_; rintro e w6 ⟨rfl, H6, K6⟩; dsimp only; rw [hf])
    go_ret
    exact ⟨rfl, DevIs.mono ⟨_, _, H6⟩ (grow_more K6.size) (grow_lt Hdev.out.lt (Nat.le_trans K5.size K6.size)), K5.trans K6 (fun i _ e => by unfold Only at e; subst e; exact Hdev.out.here)⟩
end Go.Proofs.Ytffcglfepobdjaa
