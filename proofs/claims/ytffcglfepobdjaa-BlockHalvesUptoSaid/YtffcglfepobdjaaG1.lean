/- The reference's small functions: count. -/
import Derived.Test.YtffcglfepobdjaaG0
set_option linter.unusedVariables false
set_option linter.unusedSimpArgs false
set_option maxRecDepth 10000
set_option maxHeartbeats 4000000
namespace Go.Proofs.Ytffcglfepobdjaa
open Go.RowKit

theorem stv_length (vl vr : Value) (D : DS) : (stv vl vr D).length = 5 := rfl
theorem stv_one {vl vr : Value} (D : DS) (h1 : vl.oneCell' = true) (h2 : vr.oneCell' = true) : ∀ u ∈ stv vl vr D, u.oneCell' = true := by
  intro u hu
  simp only [stv, List.mem_cons, List.not_mem_nil, or_false] at hu
  rcases hu with rfl | rfl | rfl | rfl | rfl
  · exact h1
  · exact h2
  · rfl
  · rfl
  · rfl
def stz : List Value := stv (.slice none 0 0) (.slice none 0 0) ⟨[], [], 0, 0, false⟩
theorem zst_cells : zst.cells = stz.toArray := by rfl

theorem st5_one {vl vr : Value} (h1 : vl.oneCell' = true) (h2 : vr.oneCell' = true) (n m : Int) (b : Bool) : ∀ u ∈ [vl, vr, .int .i64 n, .int .i64 m, .bool b], u.oneCell' = true := by
  intro u hu
  simp only [List.mem_cons, List.not_mem_nil, or_false] at hu
  rcases hu with rfl | rfl | rfl | rfl | rfl
  · exact h1
  · exact h2
  · rfl
  · rfl
  · rfl
theorem info4 : (Try.prog.info? 4).map (fun i => (i.zero, i.size, i.bytes)) = some (some (.bool false), 1, 1) := by kernel_rfl
theorem info3' : (Try.prog.info? 3).map (fun i => (i.zero, i.size, i.bytes)) = some (some (.int .i64 0), 1, 8) := by kernel_rfl
theorem st_count {w : World} {vl vr : Value} {D : DS} (hd : D.down = false) (h1 : vl.oneCell' = true) (h2 : vr.oneCell' = true) (ho : D.ops ≤ 1152921504606846976) (hf : -1 ≤ D.fuse) (hf' : D.fuse ≤ 9223372036854775807) :
    Calls Try.prog 57 #[.agg (stv vl vr D).toArray] w (fun e w' => e = .returned (.agg (stv vl vr D.tick).toArray) ∧ Keep Noth w w') := by
  have ho' : (D.ops : Int) ≤ 1152921504606846976 := by omega
  obtain ⟨n, hn⟩ : ∃ n : Int, n = (D.ops : Int) := ⟨_, rfl⟩
  obtain ⟨fu, hfu⟩ : ∃ fu, fu = D.fuse := ⟨_, rfl⟩
  have hs : stv vl vr D = [vl, vr, .int .i64 n, .int .i64 fu, .bool false] := by rw [hn, hfu, ← hd]; rfl
  rw [← hn] at ho'
  rw [← hfu] at hf hf'
  have hn0 : 0 ≤ n := by omega
  rw [hs]
  rcases (show fu = 0 ∨ 0 < fu ∨ fu = -1 by omega) with hf0 | hf0 | hf0
  · have htick : stv vl vr D.tick = [vl, vr, .int .i64 (n + 1), .int .i64 (-1), .bool true] := by
      simp [stv, DS.tick, ← hfu, hf0, hn]
    rw [htick]
    clear htick hs hn hfu hd ho
    subst hf0
    go_enter Try.func57, Try.ntmps57
    go_wp2_with (first
      | (refine wpList_load_cell rfl 3 _ rfl b _ _ 30 _ _ (by rfl) (by assumption) (by rfl) Try.underlying3 rfl ?_)
      | (refine wpList_store_blk rfl 3 _ _ rfl b 2 _ 30 _ (by rfl) (by rfl) A2 (by simp) rfl rfl info3' ?_; intro w3 A3 K3; have hne : b2 ≠ b := (by have := B1.lt; omega); have B3 := B2.keep K3 hne; simp only [List.set_cons_zero, List.set_cons_succ] at A3)
      | (refine wpList_store_blk rfl 4 _ _ rfl b 4 _ 30 _ (by rfl) (by rfl) A3 (by simp) rfl rfl info4 ?_; intro w4 A4 K4; have B4 := B3.keep K4 hne; simp only [List.set_cons_zero, List.set_cons_succ] at A4)
      | (refine wpList_store_blk rfl 3 _ _ rfl b 3 _ 30 _ (by rfl) (by rfl) A4 (by simp) rfl rfl info3' ?_; intro w5 A5 K5; have B5 := B4.keep K5 hne; simp only [List.set_cons_zero, List.set_cons_succ] at A5)
      | (refine wpList_load_blk rfl 30 _ rfl b 0 [vl, vr, .int .i64 (n + 1), .int .i64 (-1), .bool true] _ 30 _ (by rfl) A5 (fun j v h => by simpa using h) Try.underlying30 rfl info30 ?_)
      | (refine wpList_store_whole rfl 30 _ _ rfl b2 stz [vl, vr, .int .i64 (n + 1), .int .i64 (-1), .bool true] 30 (by rfl) (by rfl) B5 (by rfl) info30 (st5_one h1 h2 _ _ _) ?_; intro w6 B6 K6)
      | (refine wpList_box_v rfl 30 _ rfl [vl, vr, .int .i64 n, .int .i64 0, .bool false] (by rfl) ?_; intro b w1 hb B1 K1)
      | (refine wpList_alloc_v rfl 30 rfl zst info30 stz zst_cells ?_; intro b2 w2 hb2 B2 K2; have A2 := B1.keep K2 id))
    refine ret_cell rfl b2 _ 30 _ (by rfl) B6 Try.underlying30 rfl info30 rfl ?_
    exact ⟨rfl, ((((K1.trans K2 (fun _ _ h => h)).own K3 (fun q e => by unfold Only at e; subst e; exact hb)).own K4 (fun q e => by unfold Only at e; subst e; exact hb)).own K5 (fun q e => by unfold Only at e; subst e; exact hb)).own K6 (fun q e => by unfold Only at e; subst e; exact Nat.le_trans K1.size hb2)⟩
  · have htick : stv vl vr D.tick = [vl, vr, .int .i64 (n + 1), .int .i64 (fu - 1), .bool false] := by
      have e1 : (fu == 0) = false := by simp; omega
      have e2 : max (fu - 1) (-1) = fu - 1 := by omega
      simp only [stv, DS.tick, ← hfu, e1, e2, hn]; rfl
    rw [htick]
    clear htick hs hn hfu hd ho
    go_enter Try.func57, Try.ntmps57
    go_wp2_with (first
      | (refine wpList_load_cell rfl 3 _ rfl b _ _ 30 _ _ (by rfl) (by assumption) (by rfl) Try.underlying3 rfl ?_)
      | (refine wpList_store_blk rfl 3 _ _ rfl b 2 _ 30 _ (by rfl) (by rfl) A2 (by simp) rfl rfl info3' ?_; intro w3 A3 K3; have hne : b2 ≠ b := (by have := B1.lt; omega); have B3 := B2.keep K3 hne; simp only [List.set_cons_zero, List.set_cons_succ] at A3)
      | (refine wpList_store_blk rfl 3 _ _ rfl b 3 _ 30 _ (by rfl) (by rfl) A3 (by simp) rfl rfl info3' ?_; intro w5 A5 K5; have B5 := B3.keep K5 hne; simp only [List.set_cons_zero, List.set_cons_succ] at A5)
      | (refine wpList_load_blk rfl 30 _ rfl b 0 [vl, vr, .int .i64 (n + 1), .int .i64 (fu - 1), .bool false] _ 30 _ (by rfl) A5 (fun j v h => by simpa using h) Try.underlying30 rfl info30 ?_)
      | (refine wpList_store_whole rfl 30 _ _ rfl b2 stz [vl, vr, .int .i64 (n + 1), .int .i64 (fu - 1), .bool false] 30 (by rfl) (by rfl) B5 (by rfl) info30 (st5_one h1 h2 _ _ _) ?_; intro w6 B6 K6)
      | (refine wpList_box_v rfl 30 _ rfl [vl, vr, .int .i64 n, .int .i64 fu, .bool false] (by rfl) ?_; intro b w1 hb B1 K1)
      | (refine wpList_alloc_v rfl 30 rfl zst info30 stz zst_cells ?_; intro b2 w2 hb2 B2 K2; have A2 := B1.keep K2 id))
    refine ret_cell rfl b2 _ 30 _ (by rfl) B6 Try.underlying30 rfl info30 rfl ?_
    exact ⟨rfl, (((K1.trans K2 (fun _ _ h => h)).own K3 (fun q e => by unfold Only at e; subst e; exact hb)).own K5 (fun q e => by unfold Only at e; subst e; exact hb)).own K6 (fun q e => by unfold Only at e; subst e; exact Nat.le_trans K1.size hb2)⟩
  · have htick : stv vl vr D.tick = [vl, vr, .int .i64 (n + 1), .int .i64 (-1), .bool false] := by
      simp only [stv, DS.tick, ← hfu, hf0, hn]; rfl
    rw [htick]
    clear htick hs hn hfu hd ho
    subst hf0
    go_enter Try.func57, Try.ntmps57
    go_wp2_with (first
      | (refine wpList_load_cell rfl 3 _ rfl b _ _ 30 _ _ (by rfl) (by assumption) (by rfl) Try.underlying3 rfl ?_)
      | (refine wpList_store_blk rfl 3 _ _ rfl b 2 _ 30 _ (by rfl) (by rfl) A2 (by simp) rfl rfl info3' ?_; intro w3 A3 K3; have hne : b2 ≠ b := (by have := B1.lt; omega); have B3 := B2.keep K3 hne; simp only [List.set_cons_zero, List.set_cons_succ] at A3)
      | (refine wpList_load_blk rfl 30 _ rfl b 0 [vl, vr, .int .i64 (n + 1), .int .i64 (-1), .bool false] _ 30 _ (by rfl) A3 (fun j v h => by simpa using h) Try.underlying30 rfl info30 ?_)
      | (refine wpList_store_whole rfl 30 _ _ rfl b2 stz [vl, vr, .int .i64 (n + 1), .int .i64 (-1), .bool false] 30 (by rfl) (by rfl) B3 (by rfl) info30 (st5_one h1 h2 _ _ _) ?_; intro w6 B6 K6)
      | (refine wpList_box_v rfl 30 _ rfl [vl, vr, .int .i64 n, .int .i64 (-1), .bool false] (by rfl) ?_; intro b w1 hb B1 K1)
      | (refine wpList_alloc_v rfl 30 rfl zst info30 stz zst_cells ?_; intro b2 w2 hb2 B2 K2; have A2 := B1.keep K2 id))
    refine ret_cell rfl b2 _ 30 _ (by rfl) B6 Try.underlying30 rfl info30 rfl ?_
    exact ⟨rfl, ((K1.trans K2 (fun _ _ h => h)).own K3 (fun q e => by unfold Only at e; subst e; exact hb)).own K6 (fun q e => by unfold Only at e; subst e; exact Nat.le_trans K1.size hb2)⟩
end Go.Proofs.Ytffcglfepobdjaa
