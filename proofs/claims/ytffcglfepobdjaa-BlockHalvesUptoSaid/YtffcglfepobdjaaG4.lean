/- The reference's Of. -/
import Derived.Test.YtffcglfepobdjaaG3
set_option linter.unusedVariables false
set_option linter.unusedSimpArgs false
set_option maxRecDepth 10000
set_option maxHeartbeats 1500000
namespace Go.Proofs.Ytffcglfepobdjaa
open Go.RowKit

/-- The first k blocks of an image. -/
def chunks (im : List UInt8) (k : Nat) : List (List Value) := (List.range k).map fun j => bv (chunk im (64 * j))
theorem chunks_length (im : List UInt8) (k : Nat) : (chunks im k).length = k := by simp [chunks]
theorem chunks_succ (im : List UInt8) (k : Nat) : chunks im (k + 1) = chunks im k ++ [bv (chunk im (64 * k))] := by simp [chunks, List.range_succ]
theorem chunks_ofL (im : List UInt8) (n : Nat) : chunks im n = (ofL im n n).map bv := by
  unfold chunks ofL
  rw [List.map_map]
  refine List.map_congr_left fun j hj => ?_
  have : j < n := List.mem_range.1 hj
  simp [this]
theorem of_st {w w2 wr w6 : World} {b2 b3 k c : Nat} {A : Option Addr} {im : List UInt8} (hn : k = ofN im) (HH : Heap0 w2 wr b3 b2 (.slice A k c) [.slice none 0 0, .int .i64 0, .int .i64 (-1), .bool false] (chunks im k)) (K02 : Keep Noth w w2) (hb2 : w.heap.size ≤ b2) (h22 : b2 < w2.heap.size) (hb3 : w.heap.size ≤ b3) (K6 : Keep (Only b2) wr w6) :
    ∃ vl, Ending.returned (.agg [.slice A k c, .slice none 0 0, .int .i64 0, .int .i64 (-1), .bool false].toArray) = .returned (.agg (stv vl (.slice none 0 0) (DS.of im)).toArray) ∧ StAt w6 (Fresh w w6) vl (.slice none 0 0) (DS.of im) ∧ Keep Noth w w6 := by
  have hs := K02.size
  have hs6 := K6.size
  refine ⟨.slice A k c, rfl, ⟨?_, Rows.nil _ _ _ _⟩, (K02.own HH.kept (fun q e => by unfold Only at e; subst e; exact hb3)).own K6 (fun q e => by unfold Only at e; subst e; exact hb2)⟩
  have h := (HH.rows.keep K6 (fun q h1 h2 => by unfold Only at h2; subst h2; omega)).mono (G := Fresh w w6) (fun q hq => ⟨by have := hq.1; omega, by have := hq.2; omega⟩)
  rw [chunks_ofL, hn] at h
  rw [hn]
  exact h

theorem st_of (w : World) (AA : Option Addr) (cc : Nat) (im : List UInt8) (hA : Reads w AA (bv im)) (hl : im.length ≤ 262144) :
    Calls Try.prog 34 #[.slice AA im.length cc] w (fun e w' => ∃ vl, e = .returned (.agg (stv vl (.slice none 0 0) (DS.of im)).toArray) ∧ StAt w' (Fresh w w') vl (.slice none 0 0) (DS.of im) ∧ Keep Noth w w') := by
  have hb30 := build30
  have HA := hid hA
  clear hA
  go_enter Try.func34, Try.ntmps34
  go_wp2_with (first | (guard_target = wpList _ _ _ (Oper.mk _ (Op.alloc _) _ _ _ _ :: _) _ _; first | (refine wpList_alloc_store rfl 30 rfl 3 _ rfl (by rfl) rfl rfl (by decide) zst stn info30 stz zst_cells (by rfl) (by rfl) (by decide) ?_; intro b3 w2 hb3 B2 K2; have B12 := B1.keep K2 id) | (refine wpList_alloc_v rfl 30 rfl zst info30 stz zst_cells ?_; intro b2 w1 hb2 B1 K1)))
  obtain ⟨n, hn⟩ : ∃ n, n = ofN im := ⟨_, rfl⟩
  have hnc : (n : Int) = min (max (((im.length + 63) / 64 : Nat) : Int) 1) 4096 := by rw [hn]; unfold ofN clampN; omega
  have hn1 : 1 ≤ n := by omega
  have hn2 : n ≤ 4096 := by omega
  have hb23 : b2 ≠ b3 := by have := B1.lt; omega
  have h32 : b3 < w2.heap.size := B2.lt
  have h22 : b2 < w2.heap.size := B12.lt
  have K02 : Keep Noth w w2 := K1.trans K2 (fun _ _ h => h)
  have hw2 := K02.size
  have hw3 : w.heap.size ≤ b3 := Nat.le_trans K1.size hb3
  have Hn := hid hn
  clear hn
  have hlI : (im.length : Int) ≤ 262144 := by omega
  go_frame
  go_loopw [] (fun wr => ∃ (k : Nat) (v : Value), k ≤ n ∧ Heap0 w2 wr b3 b2 v [.slice none 0 0, .int .i64 0, .int .i64 (-1), .bool false] (chunks im k)) (fun wr => 4096 - lenOf (wr.cell? ⟨b3, 0, none⟩))
  case atStart => exact ⟨0, .slice none 0 0, Nat.zero_le _, ⟨Rows.nil _ _ _ _, B2, B12, Keep.refl _ _⟩⟩
  case round =>
    obtain ⟨k, v, hkn, HH⟩ := hrel
    obtain ⟨A, c, hv⟩ := HH.rows.val
    rw [chunks_length] at hv
    have hl0 := HH.lenOf
    rw [chunks_length] at hl0
    have hkk : (k : Int) ≤ 4096 := by omega
    by_cases hlt : k < n
    · have hone := HH.rows.one_val
      subst hv
      have hkk : (k : Int) < 4096 := by omega
      have hor : k = 0 ∨ (1 ≤ k ∧ 64 * (k : Int) < im.length) := by omega
      have hno : ∀ q, (Value.slice A k c).ownBlock = some q → w2.heap.size ≤ q ∧ q < wr.heap.size := HH.rows.foot
      have hs := HH.kept.size
      have c0 := HH.var.cell 0
      simp only [List.getElem?_cons_zero] at c0
      rcases hor with h0 | ⟨h1, h2⟩
      · have hk1 : (k : Int) < 1 := by omega
        clear h0
        go_wp2_with fail
        clear c0
        refine wp_region_ordL [(0, true), (1, true), (2, true), (3, true), (4, true), (5, true), (6, true), (7, false), (8, false), (9, false), (10, true), (11, false)] (fun w' => BlockIs w' b3 [.slice A k c, .slice none 0 0, .int .i64 0, .int .i64 (-1), .bool false] 30) follows_mixed (by kernel_rfl) HH.var.drew ?_
        simp only [List.map_cons, List.map_nil, List.getElem?_cons_succ, List.getElem?_cons_zero, Option.getD_some]
        refine wpO_pure (v := .pointer (some ⟨b3, 0, none⟩)) (by rfl) (fun w' hw' => by go_simp) ?_
        go_frame
        refine wpO_pure (v := .slice A k c) (by rfl) (fun w' hw' => by have hc := hw'.cell 0; simp only [List.getElem?_cons_zero] at hc; go_simp) ?_
        go_frame
        refine wpO_pure (v := .slice AA im.length cc) (by rfl) (fun w' hw' => by rfl) ?_
        go_frame
        refine wpO_pure (v := .pointer (some ⟨b3, 0, none⟩)) (by rfl) (fun w' hw' => by go_simp) ?_
        go_frame
        refine wpO_pure (v := .slice A k c) (by rfl) (fun w' hw' => by have hc := hw'.cell 0; simp only [List.getElem?_cons_zero] at hc; go_simp) ?_
        go_frame
        refine wpO_pure (v := .int .i64 (k : Int)) (by rfl) (fun w' hw' => by go_simp) ?_
        go_frame
        refine wpO_pure (v := .int .i64 (64 * (k : Int))) (by rfl) (fun w' hw' => by go_simp; exact IntWalk.i64_in _ (by omega)) ?_
        go_frame
        refine wpO_call (by rfl) (exec_call' 56 _ _ rfl Try.func56 (by kernel_rfl) (by rfl) #[.slice AA im.length cc, .int .i64 ((64 * k : Nat) : Int)] (by simp [Act.eval])) ((st_fill _ AA cc im (64 * k) (HA.out.keep ((K02.own HH.kept (fun q e => by unfold Only at e; subst e; exact hw3)).drew) (fun _ _ => id)) (by omega) (by omega)).mono ?_)
        rintro e wA ⟨rfl, KA'⟩
        have KA : Keep Noth wr wA := ((Keep.refl Noth wr).drew).trans KA' (fun _ _ h => h)
        have HB := HH.var.keep KA id
        refine ⟨_, rfl, .inr HB, ?_⟩
        go_frame
        refine wpO_run (by rfl) (exec_buildSlice1 27 52 _ rfl sl27 (bv (chunk im (64 * k))) zv info52 zv_size (by decide) (by decide) (by rfl) (by rw [bv_length]; exact chunk_length _ _)) (.inr (HB.alloc _)) ?_
        have KB : Keep Noth wr (wA.alloc (.cells (bv (chunk im (64 * k))).toArray 52)) := KA.alloc _
        have BA : BlockIs (wA.alloc (.cells (bv (chunk im (64 * k))).toArray 52)) wA.heap.size (bv (chunk im (64 * k))) 52 := BlockIs.new wA _ _
        generalize wA.alloc (.cells (bv (chunk im (64 * k))).toArray 52) = wB at *
        go_frame
        have hc64 : (bv (chunk im (64 * k))).length = 64 := by rw [bv_length]; exact chunk_length _ _
        obtain ⟨v3, w3, hr3, HR3, K3⟩ := run_append_rows (P := Try.prog) (w := wB) 27 27 52 zv 64 64 sl27 info52 zv_size (by decide) (by decide) _ (.slice A k c) (chunks im k) [bv (chunk im (64 * k))] (HH.rows.keep KB (Dj.noth _)) (some ⟨wA.heap.size, 0, none⟩) 1 1 rfl (fun h => by cases h) (by intro x hx; rw [List.mem_singleton.1 hx]; exact hc64) (by rw [List.flatten_singleton]; exact Reads.of_range BA.rangeAll) (by rw [List.flatten_singleton]; exact bv_one _) (by rw [chunks_length]; omega)
        have HB3 := (HH.var.keep KB id).keep K3 (fun e => by have h3 := (hno b3 e).1; omega)
        refine wpO_run (by rfl) (exec_append _ _ 27 rfl (by simp [Act.eval]) (by simp [Act.eval]) hr3) (.inr HB3) ?_
        go_frame
        refine wpO_pure (v := .pointer (some ⟨b3, 0, none⟩)) (by rfl) (fun w' hw' => by go_simp) ?_
        go_frame
        refine wpO_store (by rfl) (exec_store_cell 27 _ _ rfl b3 0 v3 _ 30 (by simp [Act.eval]) (by simp [Act.eval]) HB3 (by simp) HR3.one_val.1 HR3.one_val.2 info27) (.inl rfl) ?_
        refine wpO_nil ?_
        have B4 := HB3.set 0 v3
        have K4 := (Keep.refl (Only b3) w3).cell 0 v3
        generalize w3.setCell ⟨b3, 0, none⟩ v3 = w4 at *
        simp only [List.set_cons_zero] at B4
        have HN := HH.next h22 h32 hb23 KB HR3 K3 B4 K4
        rw [← chunks_succ] at HN
        have hl1 := HN.lenOf
        rw [chunks_length] at hl1
        clear HH HR3 K3 B4 K4 KB BA HB HB3 KA KA' hr3
        go_frame
        go_wp2_with fail
        go_roundw
        case rel => exact ⟨k + 1, v3, hlt, HN⟩
        case measure => rw [hl0, hl1]; omega
      · have h1' : ¬ (k : Int) < 1 := by omega
        go_wp2_with fail
        clear c0
        refine wp_region_ordL [(0, true), (1, true), (2, true), (3, true), (4, true), (5, true), (6, true), (7, false), (8, false), (9, false), (10, true), (11, false)] (fun w' => BlockIs w' b3 [.slice A k c, .slice none 0 0, .int .i64 0, .int .i64 (-1), .bool false] 30) follows_mixed (by kernel_rfl) HH.var.drew ?_
        simp only [List.map_cons, List.map_nil, List.getElem?_cons_succ, List.getElem?_cons_zero, Option.getD_some]
        refine wpO_pure (v := .pointer (some ⟨b3, 0, none⟩)) (by rfl) (fun w' hw' => by go_simp) ?_
        go_frame
        refine wpO_pure (v := .slice A k c) (by rfl) (fun w' hw' => by have hc := hw'.cell 0; simp only [List.getElem?_cons_zero] at hc; go_simp) ?_
        go_frame
        refine wpO_pure (v := .slice AA im.length cc) (by rfl) (fun w' hw' => by rfl) ?_
        go_frame
        refine wpO_pure (v := .pointer (some ⟨b3, 0, none⟩)) (by rfl) (fun w' hw' => by go_simp) ?_
        go_frame
        refine wpO_pure (v := .slice A k c) (by rfl) (fun w' hw' => by have hc := hw'.cell 0; simp only [List.getElem?_cons_zero] at hc; go_simp) ?_
        go_frame
        refine wpO_pure (v := .int .i64 (k : Int)) (by rfl) (fun w' hw' => by go_simp) ?_
        go_frame
        refine wpO_pure (v := .int .i64 (64 * (k : Int))) (by rfl) (fun w' hw' => by go_simp; exact IntWalk.i64_in _ (by omega)) ?_
        go_frame
        refine wpO_call (by rfl) (exec_call' 56 _ _ rfl Try.func56 (by kernel_rfl) (by rfl) #[.slice AA im.length cc, .int .i64 ((64 * k : Nat) : Int)] (by simp [Act.eval])) ((st_fill _ AA cc im (64 * k) (HA.out.keep ((K02.own HH.kept (fun q e => by unfold Only at e; subst e; exact hw3)).drew) (fun _ _ => id)) (by omega) (by omega)).mono ?_)
        rintro e wA ⟨rfl, KA'⟩
        have KA : Keep Noth wr wA := ((Keep.refl Noth wr).drew).trans KA' (fun _ _ h => h)
        have HB := HH.var.keep KA id
        refine ⟨_, rfl, .inr HB, ?_⟩
        go_frame
        refine wpO_run (by rfl) (exec_buildSlice1 27 52 _ rfl sl27 (bv (chunk im (64 * k))) zv info52 zv_size (by decide) (by decide) (by rfl) (by rw [bv_length]; exact chunk_length _ _)) (.inr (HB.alloc _)) ?_
        have KB : Keep Noth wr (wA.alloc (.cells (bv (chunk im (64 * k))).toArray 52)) := KA.alloc _
        have BA : BlockIs (wA.alloc (.cells (bv (chunk im (64 * k))).toArray 52)) wA.heap.size (bv (chunk im (64 * k))) 52 := BlockIs.new wA _ _
        generalize wA.alloc (.cells (bv (chunk im (64 * k))).toArray 52) = wB at *
        go_frame
        have hc64 : (bv (chunk im (64 * k))).length = 64 := by rw [bv_length]; exact chunk_length _ _
        obtain ⟨v3, w3, hr3, HR3, K3⟩ := run_append_rows (P := Try.prog) (w := wB) 27 27 52 zv 64 64 sl27 info52 zv_size (by decide) (by decide) _ (.slice A k c) (chunks im k) [bv (chunk im (64 * k))] (HH.rows.keep KB (Dj.noth _)) (some ⟨wA.heap.size, 0, none⟩) 1 1 rfl (fun h => by cases h) (by intro x hx; rw [List.mem_singleton.1 hx]; exact hc64) (by rw [List.flatten_singleton]; exact Reads.of_range BA.rangeAll) (by rw [List.flatten_singleton]; exact bv_one _) (by rw [chunks_length]; omega)
        have HB3 := (HH.var.keep KB id).keep K3 (fun e => by have h3 := (hno b3 e).1; omega)
        refine wpO_run (by rfl) (exec_append _ _ 27 rfl (by simp [Act.eval]) (by simp [Act.eval]) hr3) (.inr HB3) ?_
        go_frame
        refine wpO_pure (v := .pointer (some ⟨b3, 0, none⟩)) (by rfl) (fun w' hw' => by go_simp) ?_
        go_frame
        refine wpO_store (by rfl) (exec_store_cell 27 _ _ rfl b3 0 v3 _ 30 (by simp [Act.eval]) (by simp [Act.eval]) HB3 (by simp) HR3.one_val.1 HR3.one_val.2 info27) (.inl rfl) ?_
        refine wpO_nil ?_
        have B4 := HB3.set 0 v3
        have K4 := (Keep.refl (Only b3) w3).cell 0 v3
        generalize w3.setCell ⟨b3, 0, none⟩ v3 = w4 at *
        simp only [List.set_cons_zero] at B4
        have HN := HH.next h22 h32 hb23 KB HR3 K3 B4 K4
        rw [← chunks_succ] at HN
        have hl1 := HN.lenOf
        rw [chunks_length] at hl1
        clear HH HR3 K3 B4 K4 KB BA HB HB3 KA KA' hr3
        go_frame
        go_wp2_with fail
        go_roundw
        case rel => exact ⟨k + 1, v3, hlt, HN⟩
        case measure => rw [hl0, hl1]; omega
    · have hge : k = n := by omega
      have hnk : ¬ (k : Int) < 1 := by omega
      have h1 : ¬ (64 * (k : Int) < im.length) := by omega
      subst hv
      subst hge
      have c0 := HH.var.cell 0
      simp only [List.getElem?_cons_zero] at c0
      clear hn2 hnc hl0
      go_wp2_with (first
      | (guard_target = wpList _ _ _ (Oper.mk _ (Op.load _ _) _ _ _ _ :: _) _ _; refine wpList_load_blk rfl 30 _ rfl b3 0 [.slice A k c, .slice none 0 0, .int .i64 0, .int .i64 (-1), .bool false] _ 30 _ (by rfl) HH.var (fun j v h => by simpa using h) Try.underlying30 rfl info30 ?_)
      | (guard_target = wpList _ _ _ (Oper.mk _ (Op.store _ _ _) _ _ _ _ :: _) _ _; refine wpList_store_whole rfl 30 _ _ rfl b2 stz [.slice A k c, .slice none 0 0, .int .i64 0, .int .i64 (-1), .bool false] 30 (by rfl) (by rfl) HH.out (by rfl) info30 (st5_one rfl rfl _ _ _) ?_; intro w6 B6 K6))
      refine ret_cell rfl b2 _ 30 _ (by rfl) B6 Try.underlying30 rfl info30 rfl ?_
      exact of_st Hn.out HH K02 hb2 h22 hw3 K6
end Go.Proofs.Ytffcglfepobdjaa
