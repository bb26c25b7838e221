/- Texts of the blocks and of the roll, merged: G4 G5 G6 D2 D1 D3 D4 G7 D5 H1 H2 I1 I2 I3 I4 I5 I6 I7 I8 J1. -/
import Derived.Test.YtffcglfepobdjaaZ1
import Derived.Maps.OwnOps
import Derived.Maps.OwnSet
import Derived.Maps.Views
import Derived.Laws.ResultCell
import Derived.Laws.Tables
import Derived.Lib.SlBytesConst
/- The reference's Of. -/
set_option linter.unusedVariables false
set_option linter.unusedSimpArgs false
set_option maxRecDepth 10000
set_option maxHeartbeats 1500000
namespace Go.Proofs.Ytffcglfepobdjaa
open Go.RowKit

/-- The first k blocks of an image. -/
def chunks (im : List UInt8) (k : Nat) : List (List Value) := (List.range k).map fun j => bv (chunk im (64 * j))
theorem chunks_length (im : List UInt8) (k : Nat) : (chunks im k).length = k := by simp [chunks]
theorem chunks_succ (im : List UInt8) (k : Nat) : chunks im (k + 1) = chunks im k ++ [bv (chunk im (64 * k))] := by simp [chunks, List.range_succ]
theorem chunks_ofL (im : List UInt8) (n : Nat) : chunks im n = (ofL im n n).map bv := by
  unfold chunks ofL
  rw [List.map_map]
  refine List.map_congr_left fun j hj => ?_
  have : j < n := List.mem_range.1 hj
  simp [this]
theorem of_st {w w2 wr w6 : World} {b2 b3 k c : Nat} {A : Option Addr} {im : List UInt8} (hn : k = ofN im) (HH : Heap0 w2 wr b3 b2 (.slice A k c) [.slice none 0 0, .int .i64 0, .int .i64 (-1), .bool false] (chunks im k)) (K02 : Keep Noth w w2) (hb2 : w.heap.size ≤ b2) (h22 : b2 < w2.heap.size) (hb3 : w.heap.size ≤ b3) (K6 : Keep (Only b2) wr w6) :
    ∃ vl, Ending.returned (.agg [.slice A k c, .slice none 0 0, .int .i64 0, .int .i64 (-1), .bool false].toArray) = .returned (.agg (stv vl (.slice none 0 0) (DS.of im)).toArray) ∧ StAt w6 (Fresh w w6) vl (.slice none 0 0) (DS.of im) ∧ Keep Noth w w6 := by
  have hs := K02.size
  have hs6 := K6.size
  refine ⟨.slice A k c, rfl, ⟨?_, Rows.nil _ _ _ _⟩, (K02.own HH.kept (fun q e => by unfold Only at e; subst e; exact hb3)).own K6 (fun q e => by unfold Only at e; subst e; exact hb2)⟩
  have h := (HH.rows.keep K6 (fun q h1 h2 => by unfold Only at h2; subst h2; omega)).mono (G := Fresh w w6) (fun q hq => ⟨by have := hq.1; omega, by have := hq.2; omega⟩)
  rw [chunks_ofL, hn] at h
  rw [hn]
  exact h

theorem st_of (w : World) (AA : Option Addr) (cc : Nat) (im : List UInt8) (hA : Reads w AA (bv im)) (hl : im.length ≤ 262144) :
    Calls Try.prog 34 #[.slice AA im.length cc] w (fun e w' => ∃ vl, e = .returned (.agg (stv vl (.slice none 0 0) (DS.of im)).toArray) ∧ StAt w' (Fresh w w') vl (.slice none 0 0) (DS.of im) ∧ Keep Noth w w') := by
  have hb30 := build30
  have HA := hid hA
  clear hA
  go_enter Try.func34, Try.ntmps34
  go_wp2_with (first | (guard_target = wpList _ _ _ (Oper.mk _ (Op.alloc _) _ _ _ _ :: _) _ _; first | (refine wpList_alloc_store rfl 30 rfl 3 _ rfl (by rfl) rfl rfl (by decide) zst stn info30 stz zst_cells (by rfl) (by rfl) (by decide) ?_; intro b3 w2 hb3 B2 K2; have B12 := B1.keep K2 id) | (refine wpList_alloc_v rfl 30 rfl zst info30 stz zst_cells ?_; intro b2 w1 hb2 B1 K1)))
  obtain ⟨n, hn⟩ : ∃ n, n = ofN im := ⟨_, rfl⟩
  have hnc : (n : Int) = min (max (((im.length + 63) / 64 : Nat) : Int) 1) 4096 := by rw [hn]; unfold ofN clampN; omega
  have hn1 : 1 ≤ n := by omega
  have hn2 : n ≤ 4096 := by omega
  have hb23 : b2 ≠ b3 := by have := B1.lt; omega
  have h32 : b3 < w2.heap.size := B2.lt
  have h22 : b2 < w2.heap.size := B12.lt
  have K02 : Keep Noth w w2 := K1.trans K2 (fun _ _ h => h)
  have hw2 := K02.size
  have hw3 : w.heap.size ≤ b3 := Nat.le_trans K1.size hb3
  have Hn := hid hn
  clear hn
  have hlI : (im.length : Int) ≤ 262144 := by omega
  go_frame
  go_loopw [] (fun wr => ∃ (k : Nat) (v : Value), k ≤ n ∧ Heap0 w2 wr b3 b2 v [.slice none 0 0, .int .i64 0, .int .i64 (-1), .bool false] (chunks im k)) (fun wr => 4096 - lenOf (wr.cell? ⟨b3, 0, none⟩))
  case atStart => exact ⟨0, .slice none 0 0, Nat.zero_le _, ⟨Rows.nil _ _ _ _, B2, B12, Keep.refl _ _⟩⟩
  case round =>
    obtain ⟨k, v, hkn, HH⟩ := hrel
    obtain ⟨A, c, hv⟩ := HH.rows.val
    rw [chunks_length] at hv
    have hl0 := HH.lenOf
    rw [chunks_length] at hl0
    have hkk : (k : Int) ≤ 4096 := by omega
    by_cases hlt : k < n
    · have hone := HH.rows.one_val
      subst hv
      have hkk : (k : Int) < 4096 := by omega
      have hor : k = 0 ∨ (1 ≤ k ∧ 64 * (k : Int) < im.length) := by omega
      have hno : ∀ q, (Value.slice A k c).ownBlock = some q → w2.heap.size ≤ q ∧ q < wr.heap.size := HH.rows.foot
      have hs := HH.kept.size
      have c0 := HH.var.cell 0
      simp only [List.getElem?_cons_zero] at c0
      rcases hor with h0 | ⟨h1, h2⟩
      · have hk1 : (k : Int) < 1 := by omega
        clear h0
        go_wp2_with fail
        clear c0
        refine wp_region_ordL [(0, true), (1, true), (2, true), (3, true), (4, true), (5, true), (6, true), (7, false), (8, false), (9, false), (10, true), (11, false)] (fun w' => BlockIs w' b3 [.slice A k c, .slice none 0 0, .int .i64 0, .int .i64 (-1), .bool false] 30) follows_mixed (by kernel_rfl) HH.var.drew ?_
        simp only [List.map_cons, List.map_nil, List.getElem?_cons_succ, List.getElem?_cons_zero, Option.getD_some]
        refine wpO_pure (v := .pointer (some ⟨b3, 0, none⟩)) (by rfl) (fun w' hw' => by go_simp) ?_
        go_frame
        refine wpO_pure (v := .slice A k c) (by rfl) (fun w' hw' => by have hc := hw'.cell 0; simp only [List.getElem?_cons_zero] at hc; go_simp) ?_
        go_frame
        refine wpO_pure (v := .slice AA im.length cc) (by rfl) (fun w' hw' => by rfl) ?_
        go_frame
        refine wpO_pure (v := .pointer (some ⟨b3, 0, none⟩)) (by rfl) (fun w' hw' => by go_simp) ?_
        go_frame
        refine wpO_pure (v := .slice A k c) (by rfl) (fun w' hw' => by have hc := hw'.cell 0; simp only [List.getElem?_cons_zero] at hc; go_simp) ?_
        go_frame
        refine wpO_pure (v := .int .i64 (k : Int)) (by rfl) (fun w' hw' => by go_simp) ?_
        go_frame
        refine wpO_pure (v := .int .i64 (64 * (k : Int))) (by rfl) (fun w' hw' => by go_simp; exact IntWalk.i64_in _ (by omega)) ?_
        go_frame
        refine wpO_call (by rfl) (exec_call' 56 _ _ rfl Try.func56 (by kernel_rfl) (by rfl) #[.slice AA im.length cc, .int .i64 ((64 * k : Nat) : Int)] (by simp [Act.eval])) ((st_fill _ AA cc im (64 * k) (HA.out.keep ((K02.own HH.kept (fun q e => by unfold Only at e; subst e; exact hw3)).drew) (fun _ _ => id)) (by omega) (by omega)).mono ?_)
        rintro e wA ⟨rfl, KA'⟩
        have KA : Keep Noth wr wA := ((Keep.refl Noth wr).drew).trans KA' (fun _ _ h => h)
        have HB := HH.var.keep KA id
        refine ⟨_, rfl, .inr HB, ?_⟩
        go_frame
        refine wpO_run (by rfl) (exec_buildSlice1 27 52 _ rfl sl27 (bv (chunk im (64 * k))) zv info52 zv_size (by decide) (by decide) (by rfl) (by rw [bv_length]; exact chunk_length _ _)) (.inr (HB.alloc _)) ?_
        have KB : Keep Noth wr (wA.alloc (.cells (bv (chunk im (64 * k))).toArray 52)) := KA.alloc _
        have BA : BlockIs (wA.alloc (.cells (bv (chunk im (64 * k))).toArray 52)) wA.heap.size (bv (chunk im (64 * k))) 52 := BlockIs.new wA _ _
        generalize wA.alloc (.cells (bv (chunk im (64 * k))).toArray 52) = wB at *
        go_frame
        have hc64 : (bv (chunk im (64 * k))).length = 64 := by rw [bv_length]; exact chunk_length _ _
        obtain ⟨v3, w3, hr3, HR3, K3⟩ := run_append_rows (P := Try.prog) (w := wB) 27 27 52 zv 64 64 sl27 info52 zv_size (by decide) (by decide) _ (.slice A k c) (chunks im k) [bv (chunk im (64 * k))] (HH.rows.keep KB (Dj.noth _)) (some ⟨wA.heap.size, 0, none⟩) 1 1 rfl (fun h => by cases h) (by intro x hx; rw [List.mem_singleton.1 hx]; exact hc64) (by rw [List.flatten_singleton]; exact Reads.of_range BA.rangeAll) (by rw [List.flatten_singleton]; exact bv_one _) (by rw [chunks_length]; omega)
        have HB3 := (HH.var.keep KB id).keep K3 (fun e => by have h3 := (hno b3 e).1; omega)
        refine wpO_run (by rfl) (exec_append _ _ 27 rfl (by simp [Act.eval]) (by simp [Act.eval]) hr3) (.inr HB3) ?_
        go_frame
        refine wpO_pure (v := .pointer (some ⟨b3, 0, none⟩)) (by rfl) (fun w' hw' => by go_simp) ?_
        go_frame
        refine wpO_store (by rfl) (exec_store_cell 27 _ _ rfl b3 0 v3 _ 30 (by simp [Act.eval]) (by simp [Act.eval]) HB3 (by simp) HR3.one_val.1 HR3.one_val.2 info27) (.inl rfl) ?_
        refine wpO_nil ?_
        have B4 := HB3.set 0 v3
        have K4 := (Keep.refl (Only b3) w3).cell 0 v3
        generalize w3.setCell ⟨b3, 0, none⟩ v3 = w4 at *
        simp only [List.set_cons_zero] at B4
        have HN := HH.next h22 h32 hb23 KB HR3 K3 B4 K4
        rw [← chunks_succ] at HN
        have hl1 := HN.lenOf
        rw [chunks_length] at hl1
        clear HH HR3 K3 B4 K4 KB BA HB HB3 KA KA' hr3
        go_frame
        go_wp2_with fail
        go_roundw
        case rel => exact ⟨k + 1, v3, hlt, HN⟩
        case measure => rw [hl0, hl1]; omega
      · have h1' : ¬ (k : Int) < 1 := by omega
        go_wp2_with fail
        clear c0
        refine wp_region_ordL [(0, true), (1, true), (2, true), (3, true), (4, true), (5, true), (6, true), (7, false), (8, false), (9, false), (10, true), (11, false)] (fun w' => BlockIs w' b3 [.slice A k c, .slice none 0 0, .int .i64 0, .int .i64 (-1), .bool false] 30) follows_mixed (by kernel_rfl) HH.var.drew ?_
        simp only [List.map_cons, List.map_nil, List.getElem?_cons_succ, List.getElem?_cons_zero, Option.getD_some]
        refine wpO_pure (v := .pointer (some ⟨b3, 0, none⟩)) (by rfl) (fun w' hw' => by go_simp) ?_
        go_frame
        refine wpO_pure (v := .slice A k c) (by rfl) (fun w' hw' => by have hc := hw'.cell 0; simp only [List.getElem?_cons_zero] at hc; go_simp) ?_
        go_frame
        refine wpO_pure (v := .slice AA im.length cc) (by rfl) (fun w' hw' => by rfl) ?_
        go_frame
        refine wpO_pure (v := .pointer (some ⟨b3, 0, none⟩)) (by rfl) (fun w' hw' => by go_simp) ?_
        go_frame
        refine wpO_pure (v := .slice A k c) (by rfl) (fun w' hw' => by have hc := hw'.cell 0; simp only [List.getElem?_cons_zero] at hc; go_simp) ?_
        go_frame
        refine wpO_pure (v := .int .i64 (k : Int)) (by rfl) (fun w' hw' => by go_simp) ?_
        go_frame
        refine wpO_pure (v := .int .i64 (64 * (k : Int))) (by rfl) (fun w' hw' => by go_simp; exact IntWalk.i64_in _ (by omega)) ?_
        go_frame
        refine wpO_call (by rfl) (exec_call' 56 _ _ rfl Try.func56 (by kernel_rfl) (by rfl) #[.slice AA im.length cc, .int .i64 ((64 * k : Nat) : Int)] (by simp [Act.eval])) ((st_fill _ AA cc im (64 * k) (HA.out.keep ((K02.own HH.kept (fun q e => by unfold Only at e; subst e; exact hw3)).drew) (fun _ _ => id)) (by omega) (by omega)).mono ?_)
        rintro e wA ⟨rfl, KA'⟩
        have KA : Keep Noth wr wA := ((Keep.refl Noth wr).drew).trans KA' (fun _ _ h => h)
        have HB := HH.var.keep KA id
        refine ⟨_, rfl, .inr HB, ?_⟩
        go_frame
        refine wpO_run (by rfl) (exec_buildSlice1 27 52 _ rfl sl27 (bv (chunk im (64 * k))) zv info52 zv_size (by decide) (by decide) (by rfl) (by rw [bv_length]; exact chunk_length _ _)) (.inr (HB.alloc _)) ?_
        have KB : Keep Noth wr (wA.alloc (.cells (bv (chunk im (64 * k))).toArray 52)) := KA.alloc _
        have BA : BlockIs (wA.alloc (.cells (bv (chunk im (64 * k))).toArray 52)) wA.heap.size (bv (chunk im (64 * k))) 52 := BlockIs.new wA _ _
        generalize wA.alloc (.cells (bv (chunk im (64 * k))).toArray 52) = wB at *
        go_frame
        have hc64 : (bv (chunk im (64 * k))).length = 64 := by rw [bv_length]; exact chunk_length _ _
        obtain ⟨v3, w3, hr3, HR3, K3⟩ := run_append_rows (P := Try.prog) (w := wB) 27 27 52 zv 64 64 sl27 info52 zv_size (by decide) (by decide) _ (.slice A k c) (chunks im k) [bv (chunk im (64 * k))] (HH.rows.keep KB (Dj.noth _)) (some ⟨wA.heap.size, 0, none⟩) 1 1 rfl (fun h => by cases h) (by intro x hx; rw [List.mem_singleton.1 hx]; exact hc64) (by rw [List.flatten_singleton]; exact Reads.of_range BA.rangeAll) (by rw [List.flatten_singleton]; exact bv_one _) (by rw [chunks_length]; omega)
        have HB3 := (HH.var.keep KB id).keep K3 (fun e => by have h3 := (hno b3 e).1; omega)
        refine wpO_run (by rfl) (exec_append _ _ 27 rfl (by simp [Act.eval]) (by simp [Act.eval]) hr3) (.inr HB3) ?_
        go_frame
        refine wpO_pure (v := .pointer (some ⟨b3, 0, none⟩)) (by rfl) (fun w' hw' => by go_simp) ?_
        go_frame
        refine wpO_store (by rfl) (exec_store_cell 27 _ _ rfl b3 0 v3 _ 30 (by simp [Act.eval]) (by simp [Act.eval]) HB3 (by simp) HR3.one_val.1 HR3.one_val.2 info27) (.inl rfl) ?_
        refine wpO_nil ?_
        have B4 := HB3.set 0 v3
        have K4 := (Keep.refl (Only b3) w3).cell 0 v3
        generalize w3.setCell ⟨b3, 0, none⟩ v3 = w4 at *
        simp only [List.set_cons_zero] at B4
        have HN := HH.next h22 h32 hb23 KB HR3 K3 B4 K4
        rw [← chunks_succ] at HN
        have hl1 := HN.lenOf
        rw [chunks_length] at hl1
        clear HH HR3 K3 B4 K4 KB BA HB HB3 KA KA' hr3
        go_frame
        go_wp2_with fail
        go_roundw
        case rel => exact ⟨k + 1, v3, hlt, HN⟩
        case measure => rw [hl0, hl1]; omega
    · have hge : k = n := by omega
      have hnk : ¬ (k : Int) < 1 := by omega
      have h1 : ¬ (64 * (k : Int) < im.length) := by omega
      subst hv
      subst hge
      have c0 := HH.var.cell 0
      simp only [List.getElem?_cons_zero] at c0
      clear hn2 hnc hl0
      go_wp2_with (first
      | (guard_target = wpList _ _ _ (Oper.mk _ (Op.load _ _) _ _ _ _ :: _) _ _; refine wpList_load_blk rfl 30 _ rfl b3 0 [.slice A k c, .slice none 0 0, .int .i64 0, .int .i64 (-1), .bool false] _ 30 _ (by rfl) HH.var (fun j v h => by simpa using h) Try.underlying30 rfl info30 ?_)
      | (guard_target = wpList _ _ _ (Oper.mk _ (Op.store _ _ _) _ _ _ _ :: _) _ _; refine wpList_store_whole rfl 30 _ _ rfl b2 stz [.slice A k c, .slice none 0 0, .int .i64 0, .int .i64 (-1), .bool false] 30 (by rfl) (by rfl) HH.out (by rfl) info30 (st5_one rfl rfl _ _ _) ?_; intro w6 B6 K6))
      refine ret_cell rfl b2 _ 30 _ (by rfl) B6 Try.underlying30 rfl info30 rfl ?_
      exact of_st Hn.out HH K02 hb2 h22 hw3 K6
end Go.Proofs.Ytffcglfepobdjaa
/- The reference's At. -/
set_option linter.unusedVariables false
set_option linter.unusedSimpArgs false
set_option maxRecDepth 10000
set_option maxHeartbeats 1500000
namespace Go.Proofs.Ytffcglfepobdjaa
open Go.RowKit

theorem st_at {w : World} {F : Nat → Prop} {vl vr : Value} {D : DS} (H : StAt w F vl vr D) (hok : D.ok) (hr : D.row.length ≤ 1099511627776) (k : Nat) (hk : k < D.l.length) :
    Calls Try.prog 55 #[.agg (stv vl vr D).toArray, .int .i64 (k : Int)] w (fun e w' => e = .returned (.agg (bv (D.at k)).toArray) ∧ Keep Noth w w') := by
  obtain ⟨Al, cl, rfl⟩ := H.l.valm
  obtain ⟨Ar, cr, rfl⟩ := H.row.valm
  obtain ⟨gl, rfl⟩ := H.l.some_at (by rw [List.length_map]; omega)
  obtain ⟨n, hn⟩ : ∃ n, n = D.l.length := ⟨_, rfl⟩
  obtain ⟨m0, hm0⟩ : ∃ n, n = D.row.length := ⟨_, rfl⟩
  have hst : (stv (.slice (some ⟨gl, 0, none⟩) D.l.length cl) (.slice Ar D.row.length cr) D) = [.slice (some ⟨gl, 0, none⟩) n cl, .slice Ar m0 cr, .int .i64 (D.ops : Int), .int .i64 D.fuse, .bool D.down] := by rw [hn, hm0]; rfl
  rw [hst]
  have hk1 : (k : Int) < n := by omega
  have hm1 : (m0 : Int) ≤ 1099511627776 := by omega
  have h64 := hok.l64 D.l[k] (List.getElem_mem hk)
  have H64 := hid h64
  have HR := hid H
  have Hm0 := hid hm0
  have Hn := hid hn
  clear hst h64 hn hm0 H
  go_enter Try.func55, Try.ntmps55
  go_wp2_with (first
    | (guard_target = wpList _ _ _ (Oper.mk _ (Op.box _ _) _ _ _ _ :: _) _ _; refine wpList_box_v rfl 30 _ rfl [.slice (some ⟨gl, 0, none⟩) n cl, .slice Ar m0 cr, .int .i64 (D.ops : Int), .int .i64 D.fuse, .bool D.down] (by rfl) ?_; intro b2 w1 hb2 B1 K1)
    | (guard_target = wpList _ _ _ (Oper.mk _ (Op.alloc _) _ _ _ _ :: _) _ _; refine wpList_alloc_v rfl 52 rfl zv info52 (bv zb) zv_cells ?_; intro b4 w2 hb4 B4 K2; have B2 := B1.keep K2 id; have c0 := B2.cell 0; have c1 := B2.cell 1; simp only [List.getElem?_cons_zero, List.getElem?_cons_succ] at c0 c1))
  have K02 : Keep Noth w w2 := K1.trans K2 (fun _ _ h => h)
  have hb4w : w.heap.size ≤ b4 := Nat.le_trans K1.size hb4
  have HR2 := hid (HR.out.keep K02 (Dj.noth _))
  clear B1 K1 K2
  go_loopw [5] (fun i wr => ∃ m : Nat, i = .int .i64 ((m : Int) - 1) ∧ m ≤ m0 ∧ (putAll D.l (D.row.take m)).getD k [] = D.at k ∧ wr = w2) (fun i _ => (intOf i + 1).toNat)
  case atStart => exact ⟨m0, rfl, Nat.le_refl _, by rw [Hm0.out, List.take_length]; rfl, rfl⟩
  case round =>
    obtain ⟨m, hi, hm, hat, rfl⟩ := hrel
    rcases m with _ | j
    · obtain rfl : u5 = .int .i64 (-1) := hi
      have hD : D.at k = D.l[k] := by rw [← hat]; simp [putAll, List.getD_eq_getElem?_getD, hk]
      have HD := hid hD
      clear hat hD
      go_wp2_with (first
        | (guard_target = wpList _ _ _ (Oper.mk _ (Op.load 52 _) _ _ _ _ :: _) _ _; refine wpList_load_row' rfl 52 _ rfl F 52 64 gl n cl (D.l.map bv) k _ (bv D.l[k]) _ (by rw [Hn.out]; exact HR2.out.l) (by rw [List.length_map]; exact hk) (List.getElem_map ..) rfl (by rfl) Try.underlying52 rfl info52 ?_)
        | (guard_target = wpList _ _ _ (Oper.mk _ (Op.store _ _ _) _ _ _ _ :: _) _ _; refine wpList_store_whole rfl 52 _ _ rfl b4 (bv zb) (bv D.l[k]) 52 (by rfl) (by rfl) B4 (by rw [bv_length, bv_length, H64.out, zb_length]) (by rw [bv_length, H64.out]; exact info52) (bv_one _) ?_; intro w6 B6 K6))
      refine ret_cell rfl b4 _ 52 _ (by rfl) B6 Try.underlying52 rfl (by rw [bv_length, H64.out]; exact info52) rfl ?_
      exact ⟨by rw [HD.out], K02.own K6 (fun q e => by unfold Only at e; subst e; exact hb4w)⟩
    · have hij : u5 = .int .i64 (j : Int) := by rw [hi]; congr 1; omega
      subst hij
      clear hi
      have hj : j < D.row.length := by rw [← Hm0.out]; omega
      have hj' : (j : Int) < m0 := by omega
      obtain ⟨gr, rfl⟩ := HR2.out.row.some_at (by rw [List.length_map]; omega)
      obtain ⟨g', cap', hv, _, hrg⟩ := HR2.out.row.at (by rw [List.length_map]; omega)
      simp only [Value.slice.injEq, Option.some.injEq, Addr.mk.injEq, and_true, true_and] at hv
      obtain ⟨rfl, _, rfl⟩ := hv
      have hrj := hrg j (by rw [List.length_map]; exact hj)
      rw [List.getElem_map] at hrj
      have hcj : wr.cell? ⟨gr, j * 65, none⟩ = some (.int .i64 (D.row[j].1 : Int)) := by have := hrj 0 (.int .i64 (D.row[j].1 : Int)) (by simp [wv]); simpa using this
      have hp := hok.row64 D.row[j] (List.getElem_mem hj)
      have hrb : wr.rangeAt gr (j * 65 + 1) (bv D.row[j].2) := fun q u hu => by
        have := hrj (q + 1) u (by simpa [wv] using hu)
        rw [show j * 65 + 1 + q = j * 65 + (q + 1) by omega]
        exact this
      have hnx : (putAll D.l (D.row.take (j + 1))).getD k [] = if D.row[j].1 = k then D.row[j].2 else (putAll D.l (D.row.take j)).getD k [] := by rw [take_snoc' _ _ hj]; exact putAll_at_snoc _ _ _ _ hk
      rw [hat] at hnx
      have Hnx := hid hnx
      have Hrb := hid hrb
      have Hp := hid hp
      clear hrg hrj hp hrb hnx hat
      by_cases hkk : D.row[j].1 = k
      · have hkk' : (((D.row[j].1 : Nat) : Int) == (k : Int)) = true := by simp [hkk]
        have hD : D.at k = D.row[j].2 := by rw [Hnx.out, if_pos hkk]
        have HD := hid hD
        clear hkk hD
        go_wp2_with (first
          | (guard_target = wpList _ _ _ (Oper.mk _ (Op.load 52 _) _ _ _ _ :: _) _ _; refine wpList_load_mid rfl 52 _ rfl gr (j * 65 + 1) (by rfl) (bv D.row[j].2) _ Hrb.out Try.underlying52 rfl (by rw [bv_length, Hp.out.2]; exact info_size info52) ?_)
          | (guard_target = wpList _ _ _ (Oper.mk _ (Op.store _ _ _) _ _ _ _ :: _) _ _; refine wpList_store_whole rfl 52 _ _ rfl b4 (bv zb) (bv D.row[j].2) 52 (by rfl) (by rfl) B4 (by rw [bv_length, bv_length, Hp.out.2, zb_length]) (by rw [bv_length, Hp.out.2]; exact info52) (bv_one _) ?_; intro w6 B6 K6))
        refine ret_cell rfl b4 _ 52 _ (by rfl) B6 Try.underlying52 rfl (by rw [bv_length, Hp.out.2]; exact info52) rfl ?_
        exact ⟨by rw [HD.out], K02.own K6 (fun q e => by unfold Only at e; subst e; exact hb4w)⟩
      · have hkk' : (((D.row[j].1 : Nat) : Int) == (k : Int)) = false := by simp; omega
        have hD : (putAll D.l (D.row.take j)).getD k [] = D.at k := by rw [Hnx.out, if_neg hkk]
        have HD := hid hD
        clear hkk hD
        go_wp2_with fail
        go_roundw
        case rel => exact ⟨j, by go_num, by omega, HD.out, trivial⟩
        case measure => simp [intOf] <;> omega
end Go.Proofs.Ytffcglfepobdjaa
/- The reference's Image. -/
set_option linter.unusedVariables false
set_option linter.unusedSimpArgs false
set_option maxRecDepth 10000
set_option maxHeartbeats 1500000
namespace Go.Proofs.Ytffcglfepobdjaa
open Go.RowKit

theorem all_length (D : DS) : D.all.length = D.l.length := putAll_length _ _
theorem all_64 {D : DS} (hok : D.ok) : ∀ b ∈ D.all, b.length = 64 := putAll_64 D.row D.l hok.l64 (fun p hp => (hok.row64 p hp).2)
theorem flatten_64 : ∀ (l : List Bk), (∀ b ∈ l, b.length = 64) → l.flatten.length = l.length * 64
  | [], _ => rfl
  | b :: l, h => by rw [List.flatten_cons, List.length_append, flatten_64 l (fun c hc => h c (by simp [hc])), h b (by simp), List.length_cons]; omega
theorem at_all {D : DS} (k : Nat) (hk : k < D.l.length) : D.at k = D.all[k]'(by rw [all_length]; exact hk) := by
  unfold DS.at; rw [List.getD_eq_getElem?_getD, List.getElem?_eq_getElem (by rw [all_length]; exact hk)]; rfl

theorem st_image {w : World} {F : Nat → Prop} {vl vr : Value} {D : DS} (H : StAt w F vl vr D) (hok : D.ok) (hr : D.row.length ≤ 1099511627776) :
    Calls Try.prog 54 #[.agg (stv vl vr D).toArray] w (fun e w' => ∃ v, e = .returned v ∧ Bytes w' (Fresh w w') v D.image ∧ Keep Noth w w') := by
  obtain ⟨Al, cl, rfl⟩ := H.l.valm
  obtain ⟨n, hn⟩ : ∃ n, n = D.l.length := ⟨_, rfl⟩
  have hst : (stv (.slice Al D.l.length cl) vr D) = [.slice Al n cl, vr, .int .i64 (D.ops : Int), .int .i64 D.fuse, .bool D.down] := by rw [hn]; rfl
  have hvr := H.row.one_val.1
  obtain ⟨sv, hsv⟩ : ∃ sv, sv = stv (.slice Al D.l.length cl) vr D := ⟨_, rfl⟩
  have hsl : sv.length = 5 := by rw [hsv]; rfl
  have hn4 : (n : Int) ≤ 4096 := by have := hok.most; omega
  have HR := hid H
  have Hn := hid hn
  have Hsv := hid hsv
  have Hst := hid (hsv.trans hst)
  have Hc0 : Hid (sv[0]? = some (.slice Al n cl)) := by show _ = _; rw [hsv, hst]; rfl
  have Hsl := hid hsl
  rw [← hsv]
  clear hst hn H hvr hsv hsl
  go_enter Try.func54, Try.ntmps54
  go_wp2_with (guard_target = wpList _ _ _ (Oper.mk _ (Op.box _ _) _ _ _ _ :: _) _ _; refine wpList_box_v rfl 30 _ rfl sv (by rfl) ?_; intro b1 w1 hb1 B1 K1)
  have HR1 := hid (HR.out.keep K1 (Dj.noth _))
  go_loopw [3, 4] (fun v i wr => ∃ k : Nat, i = .int .i64 k ∧ k ≤ n ∧ Acc w1 wr 5 1 v (u1 (D.all.take k).flatten)) (fun _ i _ => n - (intOf i).toNat)
  case atStart => exact ⟨0, rfl, Nat.zero_le _, Acc.nil _ _ _⟩
  case round =>
    obtain ⟨k, rfl, hkl, HA⟩ := hrel
    have c0 : wr.cell? ⟨b1, 0, none⟩ = some (.slice Al n cl) := by rw [(B1.keep HA.kept id).cell 0]; exact Hc0.out
    by_cases hlt : k < n
    · have hlt' : (k : Int) < n := by omega
      have hkl' : k < D.l.length := by rw [← Hn.out]; exact hlt
      have h64 : (D.at k).length = 64 := by have := at_length hok k hkl' D.row.length; rw [List.take_length] at this; exact this
      have H64 := hid h64
      have hfl : (D.all.take k).flatten.length ≤ 262144 := by
        rw [flatten_64 _ (fun b hb => all_64 hok b (List.mem_of_mem_take hb)), List.length_take]; omega
      have HFl := hid hfl
      have htk : (D.all.take (k + 1)).flatten = (D.all.take k).flatten ++ D.at k := by
        rw [take_snoc' _ _ (by rw [all_length]; exact hkl'), List.flatten_append, List.flatten_singleton, at_all k hkl']
      have Htk := hid htk
      clear h64 hfl htk
      go_wp2_with (first
        | (guard_target = wpList _ _ _ (Oper.mk _ (Op.load 30 _) _ _ _ _ :: _) _ _; refine wpList_load_blk rfl 30 _ rfl b1 0 sv sv 30 _ (by rfl) (B1.keep HA.kept id) (fun j v h => by simpa using h) Try.underlying30 rfl (by rw [Hsl.out]; exact info30) ?_; clear c0)
        | (go_at_call 55; have HAT := st_at (HR1.out.keep HA.kept (Dj.noth _)) hok hr k hkl'; rw [← Hsv.out] at HAT; refine HAT.mono ?_; clear HAT; rintro e wA ⟨rfl, KA⟩)
        | (guard_target = wpList _ _ _ (Oper.mk _ (Op.alloc _) _ _ _ _ :: _) _ _; refine wpList_alloc_store rfl 52 rfl 5 _ rfl (by rfl) rfl rfl (by decide) zv (bv (D.at k)) (by rw [bv_length, H64.out]; exact info52) (bv zb) zv_cells (by rw [bv_length, H64.out, bvz_length]) (by rfl) (bv_one _) ?_; intro b5 wB hb5 B5 KB))
      have HB : Acc w1 wB 5 1 u3 (u1 ((D.all.take k).flatten ++ (D.at k).take 0)) := by
        rw [List.take_zero, List.append_nil]
        exact ⟨((HA.rows.keep KA (Dj.noth _)).keep KB (Dj.noth _)).mono (fun q hq => ⟨hq.1, by have := KA.size; have := KB.size; have := hq.2; omega⟩), (HA.kept.trans KA (fun _ _ h => h)).trans KB (fun _ _ h => h)⟩
      clear HA KA KB
      go_loopw [3, 6] (fun v i wr => ∃ j : Nat, i = .int .i64 j ∧ j ≤ 64 ∧ BlockIs wr b5 (bv (D.at k)) 52 ∧ Acc w1 wr 5 1 v (u1 ((D.all.take k).flatten ++ (D.at k).take j))) (fun _ i _ => 64 - (intOf i).toNat)
      case atStart => exact ⟨0, rfl, Nat.zero_le _, B5, HB⟩
      case round =>
        obtain ⟨j, rfl, hj, B5', HC⟩ := hrel
        clear B5 HB
        by_cases hj64 : j < 64
        · have hj' : (j : Int) < 64 := by omega
          obtain ⟨x, hx⟩ : ∃ x, (D.at k)[j]? = some x := ⟨_, List.getElem?_eq_getElem (by rw [H64.out]; exact hj64)⟩
          have c5 : wr.cell? ⟨b5, j, none⟩ = some (.int .u8 (x.toNat : Int)) := by rw [B5'.cell j]; simp [bv, hx, Go.Proofs.Ytffcglfepobdjaa.u8]
          have htk1 : (D.at k).take (j + 1) = (D.at k).take j ++ [x] := by rw [List.take_add_one, hx]; rfl
          have Htk1 := hid htk1
          clear htk1 hx
          go_wp2_with (first
            | (guard_target = wpList _ _ _ (Oper.mk _ (Op.buildSlice _ _ _) _ _ _ _ :: _) _ _; refine wpList_slice1_v rfl 33 5 _ rfl sl33 [Go.Proofs.Ytffcglfepobdjaa.u8 x] (.int .u8 0) info5 rfl (by decide) (by decide) (by rfl) rfl ?_; intro bA wC hbA BA KC; clear c5)
            | (at_builtin; refine wpList_append_rows rfl _ _ 33 rfl 5 (.int .u8 0) 1 1 sl33 info5 rfl (by decide) (by decide) _ _ _ (u1 [x]) (by rfl) (HC.rows.keep KC (Dj.noth _)) (some ⟨bA, 0, none⟩) 1 1 (by rfl) rfl (fun h => by cases h) (u1_each _) (by rw [u1_flatten]; exact Reads.of_range BA.rangeAll) (u1_one _) (by rw [u1_length, List.length_append, List.length_take]; have := HFl.out; omega) ?_; intro v3 w3 HR3 K3))
          rw [← u1_append, List.append_assoc, ← Htk1.out] at HR3
          have HC' := HC.append KC HR3 K3
          have B5'' := (B5'.keep KC id).keep K3 (fun e => HC.rows.ne B5' (by decide) e)
          clear HC HR3 K3 KC BA B5'
          go_roundw
          case rel => exact ⟨j + 1, by go_num, hj64, B5'', HC'⟩
          case measure => simp [intOf]; omega
        · have hge : j = 64 := by omega
          subst hge
          have h64t : (D.at k).take 64 = D.at k := List.take_of_length_le (by rw [H64.out]; omega)
          rw [h64t, ← Htk.out] at HC
          clear h64t
          clear B5'
          go_wp2_with fail
          go_roundw
          case rel => exact ⟨k + 1, by go_num, hlt, HC⟩
          case measure => simp [intOf]; omega
    · have hge : k = n := by omega
      subst hge
      rw [Hn.out, ← all_length, List.take_length] at HA
      go_wp2_with fail
      go_ret
      exact ⟨_, rfl, HA.rows.mono (fun q hq => ⟨Nat.le_trans K1.size hq.1, hq.2⟩), K1.trans HA.kept (fun _ _ h => h)⟩
end Go.Proofs.Ytffcglfepobdjaa
/- What BlockDown asks, of the device's states: plain law. -/
set_option linter.unusedVariables false
set_option linter.unusedSimpArgs false
namespace Go.Proofs.Ytffcglfepobdjaa

/-- What an armed device is, at any op. -/
structure Armed (N : Int) (D : DS) : Prop where
  down : D.down = true ↔ 0 ≤ N ∧ N < D.ops
  fuse : D.fuse = if N < 0 then -1 else max (N - D.ops) (-1)

theorem armed_new (n : Nat) (N : Int) : Armed N ((DS.new n).arm N) := by
  refine ⟨?_, ?_⟩
  · simp [DS.new, DS.arm]
  · simp only [DS.new, DS.arm]
    split <;> omega
theorem armed_tick {N : Int} {D : DS} (h : Armed N D) (hd : D.down = false) : Armed N D.tick := by
  have h1 := h.down
  have h2 := h.fuse
  rw [hd] at h1
  simp only [Bool.false_eq_true, false_iff, not_and, Int.not_lt] at h1
  refine ⟨?_, ?_⟩
  · simp only [DS.tick, beq_iff_eq]
    split at h2 <;> omega
  · simp only [DS.tick]
    split at h2 <;> split <;> omega

/-- What one write, or flush, tells. -/
structure Told (N : Int) (D : DS) (R : DS × Int) : Prop where
  armed : Armed N R.1
  was : D.down = true → R = (D, 100)
  told : D.down = false → (R.2 = 100 ↔ R.1.down = true)

theorem armed_congr {N : Int} {D E : DS} (h : Armed N D) (hd : E.down = D.down) (ho : E.ops = D.ops) (hf : E.fuse = D.fuse) : Armed N E := ⟨by rw [hd, ho]; exact h.down, by rw [hf, ho]; exact h.fuse⟩
theorem told_write {N : Int} {D : DS} (h : Armed N D) (k : Int) (b : List UInt8) : Told N D (D.write k b) := by
  unfold DS.write
  split
  · rename_i hd
    exact ⟨h, fun _ => rfl, fun hd' => by rw [hd] at hd'; cases hd'⟩
  · rename_i hd
    have hd : D.down = false := by simpa using hd
    split
    · exact ⟨h, fun hd' => (by rw [hd] at hd'; cases hd'), fun _ => by rw [hd]; simp⟩
    · refine ⟨armed_congr (armed_tick h hd) rfl rfl rfl, fun hd' => (by rw [hd] at hd'; cases hd'), fun _ => ?_⟩
      simp only [DS.tick, DS.put]
      split <;> simp_all
theorem told_flush {N : Int} {D : DS} (h : Armed N D) : Told N D D.flush := by
  unfold DS.flush
  split
  · rename_i hd
    exact ⟨h, fun _ => rfl, fun hd' => by rw [hd] at hd'; cases hd'⟩
  · rename_i hd
    have hd : D.down = false := by simpa using hd
    split
    · rename_i hf
      exact ⟨armed_tick h hd, fun hd' => (by rw [hd] at hd'; cases hd'), fun _ => by simp [DS.tick, hf]⟩
    · rename_i hf
      exact ⟨armed_congr (armed_tick h hd) rfl rfl rfl, fun hd' => (by rw [hd] at hd'; cases hd'), fun _ => by simp [DS.tick, DS.flushed, hf]⟩
theorem told_op {N : Int} {D : DS} (h : Armed N D) (o : OpV) (hk : o.kind = 0 ∨ o.kind = 1) : Told N D (D.doOp o) := by
  unfold DS.doOp
  rcases hk with hk | hk
  · rw [if_pos hk]; exact told_write h _ _
  · rw [if_neg (by omega), if_pos hk]; exact told_flush h

theorem few_pos (xs : List OpC) : 0 ≤ few xs ∧ (few xs = 0 ↔ xs.length ≤ 80 ∧ scriptSize xs ≤ 8000) := by
  unfold few
  split
  · rename_i h
    exact ⟨by omega, by simp [h]⟩
  · rename_i h
    exact ⟨by omega, ⟨fun e => by omega, fun e => absurd e h⟩⟩
end Go.Proofs.Ytffcglfepobdjaa
/- BlockOwn: what is handed in and what is handed out is the caller's own. -/
set_option linter.unusedVariables false
set_option linter.unusedSimpArgs false
set_option maxRecDepth 10000
set_option maxHeartbeats 4000000
namespace Go.Proofs.Ytffcglfepobdjaa
open Go.RowKit

theorem clamp_one : clampN 1 = 1 := by rfl
def oD0 : DS := DS.new 1
def oD1 (b : List UInt8) : DS := (oD0.put 0 b).tick
theorem o_at (b : List UInt8) : (oD1 b).at 0 = fillz b := by rfl
theorem o_flat (b : List UInt8) : (oD1 b).flushed.at 0 = fillz b := by rfl
theorem o_ok0 : oD0.ok := new_ok 1 (by decide) (by decide)
theorem o_ok1 (b : List UInt8) (hb : b.length ≤ 64) : (oD1 b).ok := tick_ok (put_ok o_ok0 0 (by decide) b hb)
theorem fillz_take (b : List UInt8) (hb : b.length ≤ 64) : (fillz b).take b.length = b := by
  unfold fillz splice
  simp
theorem fillz_head (b : List UInt8) (hb : b.length ≤ 64) (h0 : 1 ≤ b.length) : ∃ x m, fillz b = x :: m := by
  have := fillz_length b hb
  cases h : fillz b with
  | nil => rw [h] at this; simp at this
  | cons x m => exact ⟨x, m, rfl⟩
theorem o_image (b : List UInt8) (hb : b.length ≤ 64) (h0 : 1 ≤ b.length) : (oD1 b).image = fillz b := by
  show (List.flatten [fillz b]) = _
  simp
/-- The first cell of bytes of one's own. -/
theorem Rows.first {w : World} {F : Nat → Prop} {v : Value} {x : UInt8} {m : List UInt8} (h : Rows w F 5 1 v (u1 (x :: m))) :
    ∃ q cap, v = .slice (some ⟨q, 0, none⟩) (m.length + 1) cap ∧ F q ∧ w.cell? ⟨q, 0, none⟩ = some (u8 x) ∧ w.frozen? ⟨q, 0, none⟩ = false := by
  obtain ⟨q, cap, hv, hF, hr⟩ := h.at (by simp [u1])
  subst hv
  refine ⟨q, cap, by simp [u1], hF, ?_, h.own.frozenAt _⟩
  have := hr 0 (by simp [u1]) 0 (u8 x) (by simp [u1])
  simpa using this

theorem Keep.cellAt {F : Nat → Prop} {w w' : World} {q j : Nat} {u : Value} (h : Keep F w w') (hF : ¬ F q) (hc : w.cell? ⟨q, j, none⟩ = some u) : w'.cell? ⟨q, j, none⟩ = some u := by
  rw [World.cell?_of_block (h.block q (World.block_lt_of_cell? w _ hc) hF)]; exact hc
theorem Keep.frozenAt {F : Nat → Prop} {w w' : World} {q j : Nat} {u : Value} (h : Keep F w w') (hF : ¬ F q) (hc : w.cell? ⟨q, j, none⟩ = some u) (hf : w.frozen? ⟨q, j, none⟩ = false) : w'.frozen? ⟨q, j, none⟩ = false := by
  rw [World.frozen?_of_block (h.block q (World.block_lt_of_cell? w _ hc) hF)]; exact hf
theorem own_calls (w : World) (A : Option Addr) (c : Nat) (b : List UInt8) (hA : Reads w A (bv b)) (hAc : A = none → c = 0) :
    Calls Try.prog 9 #[.slice A b.length c] w (fun e w' => e = .returned (.bool true) ∧ Keep Noth w w') := by
  by_cases hin : 1 ≤ b.length ∧ b.length ≤ 64
  · obtain ⟨h1, h64⟩ := hin
    have hbi : (b.length : Int) ≤ 64 := by omega
    have hbi1 : (1 : Int) ≤ b.length := by omega
    go_enter Try.func9, Try.ntmps9
    go_wp2_with fail
    refine (new_calls w 1).mono ?_
    rintro e w1 ⟨g, rfl, H1, K1⟩
    rw [clamp_one] at H1
    have RA := (hA.keep K1 (fun _ _ => id)).keep ((Keep.refl Noth w1).alloc (.cells #[] 5)) (fun _ _ => id)
    have O1 : Own w.heap.size w1 (Fresh w w1) g oD0 := Own.fresh (Nat.le_refl _) H1
    have hE := Rows.empty w1 5 1
    have KA1 : Keep Noth w (w1.alloc (.cells #[] 5)) := K1.alloc _
    go_wp2_with (at_builtin; refine wpList_append_rows rfl _ _ 33 rfl 5 (.int .u8 0) 1 1 sl33 info5 rfl (by decide) (by decide) _ _ [] (u1 b) rfl hE A b.length c rfl (u1_length b) hAc (u1_each _) (by rw [u1_flatten]; exact RA) (u1_one _) (by simp only [List.length_nil]; omega) ?_; intro v2 w2 HR2 K2)
    have K02 : Keep Noth w w2 := KA1.trans K2 (fun i hi h => by injection h with h; have h : w1.heap.size = i := h; have := K1.size; omega)
    have hs12 : w1.heap.size ≤ w2.heap.size := by have := K2.size; simp only [World.size_alloc] at this; omega
    have R2 : Rows w2 (fun k => w1.heap.size ≤ k ∧ k < w2.heap.size) 5 1 v2 (u1 b) := Rows.mono (by simpa using HR2) (fun k hk => by
      have hs := K2.size
      simp only [World.size_alloc] at hs hk
      rcases hk with hk | hk
      · injection hk with hk; have hk : w1.heap.size = k := hk; omega
      · omega)
    have O2 : Own w.heap.size w2 (Fresh w w1) g oD0 := (O1.keep ((Keep.refl Noth w1).alloc (.cells #[] 5)) (Dj.noth _)).keep K2 (fun q h1 h2 => by
      injection h2 with h2; have h2 : w1.heap.size = q := h2; have := h1.2; omega)
    obtain ⟨A2, c2, hv2⟩ := R2.val
    rw [u1_length] at hv2
    subst hv2
    have RD := rd_of_own R2
    rw [u1_flatten] at RD
    obtain ⟨x0, m0, hb0⟩ : ∃ x m, b = x :: m := by
      cases b with
      | nil => simp at h1
      | cons x m => exact ⟨x, m, rfl⟩
    have R2' := R2
    rw [hb0] at R2'
    obtain ⟨q, cap, hq, hqF, hqc, hqf⟩ := R2'.first
    simp only [Value.slice.injEq] at hq
    obtain ⟨rfl, -, rfl⟩ := hq
    have hs01 := hid K1.size
    clear hb0 HR2 K2 R2 R2' hE RA O1 H1 KA1 K1
    obtain ⟨vl2, vr2, A2'⟩ := O2.dev
    have hw := write_ok A2' rfl o_ok0 (by show (0 : Nat) ≤ _; omega) (by show (0 : Nat) ≤ _; omega) 0 (by decide) (some ⟨q, 0, none⟩) c2 b h64 RD
    rw [show (if oD0.fuse == 0 then (100 : Int) else 0) = 0 by rfl, show ((0 : Nat) : Int) = 0 from rfl] at hw
    go_wp2_with fail
    refine hw.mono ?_
    rintro e w3 ⟨rfl, H3, K3⟩
    have nq : ¬ (Fresh w w1) q := fun h => by have := h.2; have := hqF.1; omega
    have hqc3 : w3.cell? ⟨q, 0, none⟩ = some (.int .u8 (x0.toNat : Int)) := K3.cellAt nq hqc
    have hqf3 := K3.frozenAt nq hqc hqf
    clear hw
    go_wp2_with fail
    generalize hw4 : w3.setCell ⟨q, 0, none⟩ _ = w4
    have K34 : Keep (Only q) w3 w4 := hw4 ▸ (Keep.refl (Only q) w3).cell 0 _
    clear hw4 hqc hqf hqc3 hqf3 RD
    obtain ⟨F, hF⟩ : ∃ F, F = grow (Fresh w w1) w2 w3 := ⟨_, rfl⟩
    have hdq : Dj F (Only q) := fun k h e => by
      unfold Only at e; subst e; rw [hF] at h
      rcases h with h | h
      · exact nq h
      · have := h.1; have := hqF.2; omega
    have K03 : Keep Noth w w3 := K02.own K3 (fun k h => h.1)
    have O3 : Own w.heap.size w3 F g (oD1 b) := hF ▸ O2.next K02.size H3
    have O4 : Own w.heap.size w4 F g (oD1 b) := O3.keep K34 hdq
    have K04 : Keep Noth w w4 := K03.own K34 (fun k e => by unfold Only at e; subst e; have h1 := hqF.1; have h2 := hs01.out; omega)
    clear O3 O2 H3 K3 K34 K03 A2' hF hdq nq
    obtain ⟨vl4, vr4, A4⟩ := O4.dev
    have hrd := read_ok A4 rfl (o_ok1 b h64) (by show (1 : Nat) ≤ _; omega) 0 (by show (0 : Nat) < 1; omega)
    rw [show ((0 : Nat) : Int) = 0 from rfl, o_at] at hrd
    go_wp2_with fail
    refine hrd.mono ?_
    rintro e w5 ⟨bx, rfl, hbx, B5, K5⟩
    clear hrd
    obtain ⟨y0, ym, hy⟩ := fillz_head b h64 h1
    have hyl := fillz_length b h64
    have RX := Reads.of_range B5.rangeAll
    have hA5 := hA.keep (K04.trans K5 (fun _ _ h => h)) (fun _ _ => id)
    have hpf := hasPrefix_calls w5 (some ⟨bx, 0, none⟩) A 64 b.length 64 c (fillz b) b hyl.symm rfl RX hA5 (by omega) (by omega) (by omega)
    rw [fillz_take b h64, show (b == b) = true by simp] at hpf
    have hxc : w5.cell? ⟨bx, 0, none⟩ = some (.int .u8 (y0.toNat : Int)) := by rw [B5.cell, hy]; rfl
    have hxf := B5.frozen 0
    go_wp2_with fail
    refine hpf.mono ?_
    rintro e wx ⟨rfl, rfl⟩
    clear hpf RX
    go_wp2_with fail
    generalize hw6 : w5.setCell ⟨bx, 0, none⟩ _ = w6
    have K56 : Keep (Only bx) w5 w6 := hw6 ▸ (Keep.refl (Only bx) w5).cell 0 _
    have K46 : Keep Noth w4 w6 := K5.own K56 (fun k e => by unfold Only at e; subst e; exact hbx)
    have O6 := O4.keep K46 (Dj.noth _)
    have K06 : Keep Noth w w6 := K04.trans K46 (fun _ _ h => h)
    clear hw6 hxc hxf K56 K46 K5 O4 K04 hA5 B5 A4
    obtain ⟨vl6, vr6, A6⟩ := O6.dev
    have him := image_calls A6 (o_ok1 b h64) (by show (1 : Nat) ≤ _; omega)
    rw [o_image b h64 h1, hy] at him
    refine him.mono ?_
    rintro e w7 ⟨vi, rfl, I7, K7⟩
    obtain ⟨r, rcap, rfl, hrF, hrc, hrf⟩ := I7.first
    have hrc' : w7.cell? ⟨r, 0, none⟩ = some (.int .u8 (y0.toNat : Int)) := hrc
    clear him hrc
    go_wp2_with fail
    generalize hw8 : w7.setCell ⟨r, 0, none⟩ _ = w8
    have K78 : Keep (Only r) w7 w8 := hw8 ▸ (Keep.refl (Only r) w7).cell 0 _
    have K68 : Keep Noth w6 w8 := K7.own K78 (fun k e => by unfold Only at e; subst e; exact hrF.1)
    have O8 := O6.keep K68 (Dj.noth _)
    have K08 : Keep Noth w w8 := K06.trans K68 (fun _ _ h => h)
    clear hw8 hrc' hrf K78 K68 K7 O6 K06 A6 I7
    obtain ⟨vl8, vr8, A8⟩ := O8.dev
    have hrd := read_ok A8 rfl (o_ok1 b h64) (by show (1 : Nat) ≤ _; omega) 0 (by show (0 : Nat) < 1; omega)
    rw [show ((0 : Nat) : Int) = 0 from rfl, o_at] at hrd
    refine hrd.mono ?_
    rintro e w9 ⟨bz, rfl, hbz, B9, K9⟩
    clear hrd
    have O9 := O8.keep K9 (Dj.noth _)
    have K09 : Keep Noth w w9 := K08.trans K9 (fun _ _ h => h)
    have hbz0 : ¬ F bz := fun h => by have := O8.dev.lt bz h; omega
    obtain ⟨vl9, vr9, A9⟩ := O9.dev
    have hfl := flush_ok A9 rfl (o_ok1 b h64) (by show (1 : Nat) ≤ _; omega) (by show (1 : Nat) ≤ _; omega) (by show (-1 : Int) ≠ 0; omega)
    go_wp2_with fail
    refine hfl.mono ?_
    rintro e w10 ⟨rfl, H10, K10⟩
    have B10 := B9.keep K10 hbz0
    have O10 := O9.next K09.size H10
    have K010 : Keep Noth w w10 := K09.own K10 O9.low
    clear hfl B9 A9 K9 O8 K08 K09 A8
    obtain ⟨vl10, vr10, A10⟩ := O10.dev
    have hok2 := flushed_ok (o_ok1 b h64)
    have hrd := read_ok A10 rfl hok2 (by show (0 : Nat) ≤ _; omega) 0 (by show (0 : Nat) < 1; omega)
    rw [show ((0 : Nat) : Int) = 0 from rfl, o_flat] at hrd
    go_wp2_with fail
    refine hrd.mono ?_
    rintro e w11 ⟨by_, rfl, hby, B11, K11⟩
    have B11z := B10.keep K11 id
    have K011 : Keep Noth w w11 := K010.trans K11 (fun _ _ h => h)
    clear hrd B10 K10 K11 O9 H10 O10 A10 K010
    go_wp2_with fail
    refine (alive_calls w11).mono ?_
    rintro e w12 ⟨rfl, K12⟩
    have K012 : Keep Noth w w12 := K011.trans K12 (fun _ _ h => h)
    have B12 := B11.keep K12 id
    have B12z := B11z.keep K12 id
    have hpf := hasPrefix_calls w12 (some ⟨bz, 0, none⟩) A 64 b.length 64 c (fillz b) b hyl.symm rfl (Reads.of_range B12z.rangeAll) (hA.keep K012 (fun _ _ => id)) (by omega) (by omega) (by omega)
    rw [fillz_take b h64, show (b == b) = true by simp] at hpf
    have heq := equal_calls w12 (some ⟨bz, 0, none⟩) (some ⟨by_, 0, none⟩) 64 64 64 64 (fillz b) (fillz b) hyl.symm hyl.symm (Reads.of_range B12z.rangeAll) (Reads.of_range B12.rangeAll)
    rw [show (fillz b == fillz b) = true by simp] at heq
    go_wp2_with fail
    refine hpf.mono ?_
    rintro e wx ⟨rfl, rfl⟩
    go_wp2_with fail
    refine heq.mono ?_
    rintro e wx ⟨rfl, rfl⟩
    go_wp2_with fail
    go_ret
    exact ⟨rfl, K012⟩
  · go_enter Try.func9, Try.ntmps9
    have hor : b.length < 1 ∨ 64 < b.length := by omega
    rcases hor with hn | hn
    · have hn' : (b.length : Int) < 1 := by omega
      go_wp2_with fail
      refine (new_calls w 1).mono ?_
      rintro e w1 ⟨g, rfl, H1, K1⟩
      clear H1
      go_wp2_with fail
      refine (alive_calls w1).mono ?_
      rintro e w12 ⟨rfl, K12⟩
      have K012 : Keep Noth w w12 := K1.trans K12 (fun _ _ h => h)
      go_wp2_with fail
      go_ret
      exact ⟨rfl, K012⟩
    · have hn' : (64 : Int) < b.length := by omega
      go_wp2_with fail
      refine (new_calls w 1).mono ?_
      rintro e w1 ⟨g, rfl, H1, K1⟩
      clear H1
      go_wp2_with fail
      refine (alive_calls w1).mono ?_
      rintro e w12 ⟨rfl, K12⟩
      have K012 : Keep Noth w w12 := K1.trans K12 (fun _ _ h => h)
      go_wp2_with fail
      go_ret
      exact ⟨rfl, K012⟩
end Go.Proofs.Ytffcglfepobdjaa
/- BlockDown: its walk. -/
set_option linter.unusedVariables false
set_option linter.unusedSimpArgs false
set_option maxRecDepth 10000
set_option maxHeartbeats 4000000
namespace Go.Proofs.Ytffcglfepobdjaa
open Go.RowKit

structure Row0 (B : Nat) (w0 : World) (g : Nat) (k : Nat) (D : DS) (wr : World) : Prop where
  own : ∃ F, Own B wr F g D
  ok : D.ok
  ops : D.ops ≤ k
  row : D.row.length ≤ k
  kept : Keep Noth w0 wr

theorem clampN_le {c : Int} (h : c ≤ 20) : 1 ≤ clampN c ∧ clampN c ≤ 20 := by unfold clampN; omega

theorem down_law_calls (w : World) (count N : Int) (hN : -9223372036854775808 ≤ N) (A : Option Addr) (c : Nat) (xs : List OpC) (hS : Script w A xs) (hsz : scriptSize xs + xs.length ≤ 1048576) :
    Calls Try.prog 6 #[.int .i64 count, .int .i64 N, .slice A xs.length c] w (fun e w' => e = .returned (.bool true) ∧ Keep Noth w w') := by
  have hfp := few_pos xs
  have hfc := few_calls w A c xs hS hsz
  by_cases hin : few xs = 0 ∧ count ≤ 20 ∧ N ≤ 1000
  · obtain ⟨h0, h20, h1000⟩ := hin
    have hlen := (hfp.2.1 h0).1
    have hlen' : (xs.length : Int) ≤ 80 := by omega
    rw [h0] at hfc
    have hcl := clampN_le h20
    have HS := hid hS
    clear hS hfp hsz
    go_enter Try.func6, Try.ntmps6
    go_wp2_with fail
    refine hfc.mono ?_
    rintro e w1 ⟨rfl, K1⟩
    clear hfc
    go_wp2_with fail
    refine (new_calls w1 count).mono ?_
    rintro e w2 ⟨g, rfl, H2, K2⟩
    obtain ⟨n, hn⟩ : ∃ n, n = clampN count := ⟨_, rfl⟩
    rw [← hn] at H2 hcl
    have O2 : Own w.heap.size w2 (Fresh w1 w2) g (DS.new n) := ⟨H2, fun q hq => Nat.le_trans K1.size hq.1⟩
    have K02 : Keep Noth w w2 := K1.trans K2 (fun _ _ h => h)
    obtain ⟨vl, vr, A2⟩ := H2
    have harm := arm_calls A2 N
    clear hn
    go_wp2_with fail
    refine harm.mono ?_
    rintro e w3 ⟨rfl, A3, K3⟩
    clear harm
    have hR3 : Row0 w.heap.size w g 0 ((DS.new n).arm N) w3 := ⟨⟨_, ⟨⟨_, _, A3⟩, O2.low⟩⟩, arm_ok (new_ok n (by omega) (by omega)) N (by omega), Nat.le_refl _, Nat.le_refl _, K02.own K3 (fun q e => by unfold Only at e; subst e; exact O2.low _ A2.here)⟩
    have hA3 := armed_new n N
    clear A3 K3 A2 O2 K02 K2 K1
    go_wp2_with fail
    go_loopw [36] (fun i wr => ∃ (k : Nat) (D : DS), i = .int .i64 k ∧ k ≤ xs.length ∧ Row0 w.heap.size w g k D wr ∧ Armed N D) (fun i _ => xs.length - (intOf i).toNat)
    case atStart => exact ⟨0, _, rfl, Nat.zero_le _, hR3, hA3⟩
    case round =>
      obtain ⟨k, D, rfl, hkl, HR, HA⟩ := hrel
      by_cases hlt : k < xs.length
      · have hlt' : (k : Int) < xs.length := by omega
        obtain ⟨⟨F, O4⟩, hok, hops, hrow, K04⟩ := HR
        have HS4 := HS.out.old K04 (fun _ h => h.elim)
        obtain ⟨ga, oa, hAo, hrange, hga⟩ := HS4.cells.where (script_pos xs (by omega))
        subst hAo
        obtain ⟨x, hx⟩ : ∃ x, x = xs[k] := ⟨_, rfl⟩
        have hxm : x ∈ xs := by rw [hx]; exact List.getElem_mem hlt
        have hxc : (xs.map OpC.cells)[k]'(by rw [List.length_map]; exact hlt) = x.cells := by rw [List.getElem_map, ← hx]
        have hoo := HS4.ok x hxm
        have hat := HS.out.each x hxm
        have Hr := hid hrange
        have Hxc := hid hxc
        have Hat := hid hat
        have Hoo := hid hoo
        have HAF := hid (HS.out.below (F := F) O4.low hxm)
        clear hrange hxc hx HS4 hoo hat hR3 hA3
        by_cases hk : x.o.kind = 0 ∨ x.o.kind = 1
        · have htold := told_op HA x.o hk
          have hops' := (doOp_grow D x.o)
          have hdoes : ∀ wx, Keep Noth w wx → Own w.heap.size wx F g D → Calls Try.prog 21 #[.pointer (some ⟨g, 0, none⟩), .agg x.cells.toArray] wx (fun e w' => e = .returned (.tuple #[.pointer (some ⟨g, 0, none⟩), .int .i64 (D.doOp x.o).2]) ∧ DevIs w' (grow F wx w') g (D.doOp x.o).1 ∧ Keep F wx w') := fun wx Kx Ox =>
            does_calls Ox.dev hok (by omega) (by omega) x.o Hoo.out (by omega) x.Ab x.Af x.cb x.cf ⟨Hat.out.b.old Kx (fun _ h => h.elim), Hat.out.forms.old Kx (fun _ h => h.elim)⟩ HAF.out
          have hok' := doOp_ok hok x.o Hoo.out
          obtain ⟨D', e', hR⟩ : ∃ D' e', D.doOp x.o = (D', e') := ⟨_, _, rfl⟩
          rw [hR] at htold hops' hdoes hok'
          simp only at hops' hdoes hok'
          have Hdoes := hid hdoes
          obtain ⟨kd, hkd⟩ : ∃ kd, kd = x.o.kind := ⟨_, rfl⟩
          have hxcells : x.cells = [.int .i64 kd, .int .i64 x.o.k, .slice x.Ab x.o.b.length x.cb, .slice x.Af x.o.forms.length x.cf] := by rw [hkd]; rfl
          rw [← hkd] at hk
          have HRel : Hid (∀ wr' F', Own w.heap.size wr' F' g D' → Keep Noth w wr' → ∃ (k' : Nat) (D' : DS), Value.int .i64 ((k : Int) + 1) = .int .i64 k' ∧ k' ≤ xs.length ∧ Row0 w.heap.size w g k' D' wr' ∧ Armed N D') := hid (fun wr' F' HO HK => ⟨k + 1, D', by go_num, hlt, ⟨⟨F', HO⟩, hok', by omega, by omega, HK⟩, htold.armed⟩)
          have Hopsb := hid (show D'.ops ≤ 1099511627776 ∧ D'.row.length ≤ 1099511627776 ∧ D.row.length ≤ 1099511627776 by omega)
          have Hwas : Hid (D.down = true → D' = D ∧ e' = 100 ∧ 0 ≤ N ∧ N < D.ops) := hid (fun hd => by
            have h1 := htold.was hd
            injection h1 with h1 h2
            exact ⟨h1, h2, (HA.down.1 hd).1, (HA.down.1 hd).2⟩)
          have Htold : Hid (D.down = false → (e' = 100 ∧ D'.down = true ∧ 0 ≤ N ∧ N < D'.ops) ∨ (e' ≠ 100 ∧ D'.down = false ∧ N < 0) ∨ (e' ≠ 100 ∧ D'.down = false ∧ 0 ≤ N ∧ D'.ops ≤ N)) := hid (fun hd => by
            have h1 := htold.told hd
            have h2 := htold.armed.down
            simp only at h1 h2
            cases hdd : D'.down with
            | true =>
              rw [hdd] at h1 h2
              exact .inl ⟨h1.2 rfl, rfl, (h2.1 rfl).1, (h2.1 rfl).2⟩
            | false =>
              rw [hdd] at h1 h2
              have hne : e' ≠ 100 := fun h => by have := h1.1 h; cases this
              simp only [Bool.false_eq_true, false_iff] at h2
              rcases (show N < 0 ∨ 0 ≤ N by omega) with hn | hn
              · exact .inr (.inl ⟨hne, rfl, hn⟩)
              · exact .inr (.inr ⟨hne, rfl, hn, by omega⟩))
          have Hok := hid hok
          have Hok' := hid hok'
          have HK04 := hid K04
          clear hdoes hkd hR htold hops' hops hrow hok hok' HA K04 hkl
          rcases hk with rfl | rfl
          · go_wp2_with (first | (refine wpList_load_elem rfl 36 _ rfl 4 ga oa (xs.map OpC.cells) k _ x.cells _ Hr.out (opc_each xs) (by rw [List.length_map]; exact hlt) Hxc.out rfl (by rfl) Try.underlying36 rfl size36 ?_) | (refine wpList_alloc_store rfl 36 rfl 9 _ rfl (by rfl) rfl rfl (by decide) (.agg zop.toArray) x.cells (by rw [opc_length]; exact info36) zop zop_cells (by rfl) (by rfl) (opv_one _ _ _ _ _) ?_; intro b w5 hb5 B5 K5; have c0 := B5.cell 0; rw [hxcells] at c0; simp only [List.getElem?_cons_zero, List.getElem?_cons_succ] at c0))
            have K05 : Keep Noth w w5 := HK04.out.trans K5 (fun _ _ h => h)
            have O5 := O4.keep K5 (Dj.noth _)
            obtain ⟨vl5, vr5, A5⟩ := O5.dev
            have hdn := down_calls A5
            have hos := ops_calls A5
            have him := image_calls A5 Hok.out Hopsb.out.2.2
            clear K5 O4 hxcells
            refine hdn.mono ?_
            rintro e wx ⟨rfl, rfl⟩
            go_wp2_with fail
            refine hos.mono ?_
            rintro e wx ⟨rfl, rfl⟩
            go_wp2_with fail
            refine him.mono ?_
            rintro e w6 ⟨vi, rfl, I6, K6⟩
            obtain ⟨Ai, ci, hvi⟩ := I6.val
            rw [u1_length] at hvi
            subst hvi
            have B6 := B5.keep K6 id
            have O6 := O5.keep K6 (Dj.noth _)
            have K06 := K05.trans K6 (fun _ _ h => h)
            have HltF := hid O5.dev.lt
            clear hdn hos him A5 B5 O5 K05 K6
            go_wp2_with (refine wpList_load_blk rfl 36 _ rfl b 0 x.cells x.cells 36 _ (by rfl) B6 (fun j v h => by simpa using h) Try.underlying36 rfl (by rw [opc_length]; exact info36) ?_)
            refine (Hdoes.out w6 K06 O6).mono ?_
            rintro e w7 ⟨rfl, H7, K7⟩
            have O7 := O6.next K06.size H7
            have K07 := K06.own K7 O6.low
            have I7 := I6.keep K7 (fun q h1 h2 => by have h3 := HltF.out q h2; have h4 := h1.1; omega)
            clear I6 B6 O6 K06 H7 K7 Hdoes
            obtain ⟨vl7, vr7, A7⟩ := O7.dev
            have hdn := down_calls A7
            have hos := ops_calls A7
            have him := image_calls A7 Hok'.out Hopsb.out.2.1
            cases hdd : D.down with
            | true =>
              obtain ⟨e1, e2, n0, n1⟩ := Hwas.out hdd
              subst e1 e2
              rw [hdd] at hdn
              go_wp2_with fail
              refine hos.mono ?_
              rintro e wx ⟨rfl, rfl⟩
              go_wp2_with fail
              refine him.mono ?_
              rintro e w8 ⟨vj, rfl, I8, K8⟩
              obtain ⟨Aj, cj, hvj⟩ := I8.val
              rw [u1_length] at hvj
              subst hvj
              have heq := equal_calls w8 Ai Aj D'.image.length D'.image.length ci cj D'.image D'.image rfl rfl (by have := rd_of_own (I7.keep K8 (Dj.noth _)); rwa [u1_flatten] at this) (by have := rd_of_own I8; rwa [u1_flatten] at this)
              rw [show (D'.image == D'.image) = true by simp] at heq
              have A8 := A7.keep K8 (Dj.noth _)
              have O8 := O7.keep K8 (Dj.noth _)
              have K08 := K07.trans K8 (fun _ _ h => h)
              have hdn8 := down_calls A8
              rw [hdd] at hdn8
              have hos8 := ops_calls A8
              clear him hdn hos I7 I8 K8 A7 O7 K07
              go_wp2_with fail
              refine heq.mono ?_
              rintro e wx ⟨rfl, rfl⟩
              go_wp2_with fail
              refine hdn8.mono ?_
              rintro e wx ⟨rfl, rfl⟩
              go_wp2_with fail
              refine hos8.mono ?_
              rintro e wx ⟨rfl, rfl⟩
              go_wp2_with fail
              go_roundw
              case rel => exact HRel.out _ _ O8 K08
              case measure => simp [intOf]; omega
            | false =>
              clear him I7
              rcases Htold.out hdd with ⟨rfl, hd', n0, n1⟩ | ⟨ne, hd', n0⟩ | ⟨ne, hd', n0, n1⟩
              · rw [hd'] at hdn
                go_wp2_with fail
                refine hdn.mono ?_
                rintro e wx ⟨rfl, rfl⟩
                go_wp2_with fail
                refine hos.mono ?_
                rintro e wx ⟨rfl, rfl⟩
                go_wp2_with fail
                refine hdn.mono ?_
                rintro e wx ⟨rfl, rfl⟩
                go_wp2_with fail
                go_roundw
                case rel => exact HRel.out _ _ O7 K07
                case measure => simp [intOf]; omega
              · rw [hd'] at hdn
                have he1 : (e' == 100) = false := by simpa using ne
                have he2 : (e' != 100) = true := by simpa using ne
                go_wp2_with fail
                refine hdn.mono ?_
                rintro e wx ⟨rfl, rfl⟩
                go_wp2_with fail
                refine hdn.mono ?_
                rintro e wx ⟨rfl, rfl⟩
                go_wp2_with fail
                go_roundw
                case rel => exact HRel.out _ _ O7 K07
                case measure => simp [intOf]; omega
              · rw [hd'] at hdn
                have he1 : (e' == 100) = false := by simpa using ne
                have he2 : (e' != 100) = true := by simpa using ne
                have hnl : ¬ N < (D'.ops : Int) := by omega
                go_wp2_with fail
                refine hdn.mono ?_
                rintro e wx ⟨rfl, rfl⟩
                go_wp2_with fail
                refine hos.mono ?_
                rintro e wx ⟨rfl, rfl⟩
                go_wp2_with fail
                refine hdn.mono ?_
                rintro e wx ⟨rfl, rfl⟩
                go_wp2_with fail
                go_roundw
                case rel => exact HRel.out _ _ O7 K07
                case measure => simp [intOf]; omega
          · go_wp2_with (first | (refine wpList_load_elem rfl 36 _ rfl 4 ga oa (xs.map OpC.cells) k _ x.cells _ Hr.out (opc_each xs) (by rw [List.length_map]; exact hlt) Hxc.out rfl (by rfl) Try.underlying36 rfl size36 ?_) | (refine wpList_alloc_store rfl 36 rfl 9 _ rfl (by rfl) rfl rfl (by decide) (.agg zop.toArray) x.cells (by rw [opc_length]; exact info36) zop zop_cells (by rfl) (by rfl) (opv_one _ _ _ _ _) ?_; intro b w5 hb5 B5 K5; have c0 := B5.cell 0; rw [hxcells] at c0; simp only [List.getElem?_cons_zero, List.getElem?_cons_succ] at c0))
            have K05 : Keep Noth w w5 := HK04.out.trans K5 (fun _ _ h => h)
            have O5 := O4.keep K5 (Dj.noth _)
            obtain ⟨vl5, vr5, A5⟩ := O5.dev
            have hdn := down_calls A5
            have hos := ops_calls A5
            have him := image_calls A5 Hok.out Hopsb.out.2.2
            clear K5 O4 hxcells
            refine hdn.mono ?_
            rintro e wx ⟨rfl, rfl⟩
            go_wp2_with fail
            refine hos.mono ?_
            rintro e wx ⟨rfl, rfl⟩
            go_wp2_with fail
            refine him.mono ?_
            rintro e w6 ⟨vi, rfl, I6, K6⟩
            obtain ⟨Ai, ci, hvi⟩ := I6.val
            rw [u1_length] at hvi
            subst hvi
            have B6 := B5.keep K6 id
            have O6 := O5.keep K6 (Dj.noth _)
            have K06 := K05.trans K6 (fun _ _ h => h)
            have HltF := hid O5.dev.lt
            clear hdn hos him A5 B5 O5 K05 K6
            go_wp2_with (refine wpList_load_blk rfl 36 _ rfl b 0 x.cells x.cells 36 _ (by rfl) B6 (fun j v h => by simpa using h) Try.underlying36 rfl (by rw [opc_length]; exact info36) ?_)
            refine (Hdoes.out w6 K06 O6).mono ?_
            rintro e w7 ⟨rfl, H7, K7⟩
            have O7 := O6.next K06.size H7
            have K07 := K06.own K7 O6.low
            have I7 := I6.keep K7 (fun q h1 h2 => by have h3 := HltF.out q h2; have h4 := h1.1; omega)
            clear I6 B6 O6 K06 H7 K7 Hdoes
            obtain ⟨vl7, vr7, A7⟩ := O7.dev
            have hdn := down_calls A7
            have hos := ops_calls A7
            have him := image_calls A7 Hok'.out Hopsb.out.2.1
            cases hdd : D.down with
            | true =>
              obtain ⟨e1, e2, n0, n1⟩ := Hwas.out hdd
              subst e1 e2
              rw [hdd] at hdn
              go_wp2_with fail
              refine hos.mono ?_
              rintro e wx ⟨rfl, rfl⟩
              go_wp2_with fail
              refine him.mono ?_
              rintro e w8 ⟨vj, rfl, I8, K8⟩
              obtain ⟨Aj, cj, hvj⟩ := I8.val
              rw [u1_length] at hvj
              subst hvj
              have heq := equal_calls w8 Ai Aj D'.image.length D'.image.length ci cj D'.image D'.image rfl rfl (by have := rd_of_own (I7.keep K8 (Dj.noth _)); rwa [u1_flatten] at this) (by have := rd_of_own I8; rwa [u1_flatten] at this)
              rw [show (D'.image == D'.image) = true by simp] at heq
              have A8 := A7.keep K8 (Dj.noth _)
              have O8 := O7.keep K8 (Dj.noth _)
              have K08 := K07.trans K8 (fun _ _ h => h)
              have hdn8 := down_calls A8
              rw [hdd] at hdn8
              have hos8 := ops_calls A8
              clear him hdn hos I7 I8 K8 A7 O7 K07
              go_wp2_with fail
              refine heq.mono ?_
              rintro e wx ⟨rfl, rfl⟩
              go_wp2_with fail
              refine hdn8.mono ?_
              rintro e wx ⟨rfl, rfl⟩
              go_wp2_with fail
              refine hos8.mono ?_
              rintro e wx ⟨rfl, rfl⟩
              go_wp2_with fail
              go_roundw
              case rel => exact HRel.out _ _ O8 K08
              case measure => simp [intOf]; omega
            | false =>
              clear him I7
              rcases Htold.out hdd with ⟨rfl, hd', n0, n1⟩ | ⟨ne, hd', n0⟩ | ⟨ne, hd', n0, n1⟩
              · rw [hd'] at hdn
                go_wp2_with fail
                refine hdn.mono ?_
                rintro e wx ⟨rfl, rfl⟩
                go_wp2_with fail
                refine hos.mono ?_
                rintro e wx ⟨rfl, rfl⟩
                go_wp2_with fail
                refine hdn.mono ?_
                rintro e wx ⟨rfl, rfl⟩
                go_wp2_with fail
                go_roundw
                case rel => exact HRel.out _ _ O7 K07
                case measure => simp [intOf]; omega
              · rw [hd'] at hdn
                have he1 : (e' == 100) = false := by simpa using ne
                have he2 : (e' != 100) = true := by simpa using ne
                go_wp2_with fail
                refine hdn.mono ?_
                rintro e wx ⟨rfl, rfl⟩
                go_wp2_with fail
                refine hdn.mono ?_
                rintro e wx ⟨rfl, rfl⟩
                go_wp2_with fail
                go_roundw
                case rel => exact HRel.out _ _ O7 K07
                case measure => simp [intOf]; omega
              · rw [hd'] at hdn
                have he1 : (e' == 100) = false := by simpa using ne
                have he2 : (e' != 100) = true := by simpa using ne
                have hnl : ¬ N < (D'.ops : Int) := by omega
                go_wp2_with fail
                refine hdn.mono ?_
                rintro e wx ⟨rfl, rfl⟩
                go_wp2_with fail
                refine hos.mono ?_
                rintro e wx ⟨rfl, rfl⟩
                go_wp2_with fail
                refine hdn.mono ?_
                rintro e wx ⟨rfl, rfl⟩
                go_wp2_with fail
                go_roundw
                case rel => exact HRel.out _ _ O7 K07
                case measure => simp [intOf]; omega
        · have hn0 : x.o.kind ≠ 0 := fun e => hk (.inl e)
          have hn1 : x.o.kind ≠ 1 := fun e => hk (.inr e)
          have hk0 : (x.o.kind != 0) = true := by simpa using hn0
          have hk1 : (x.o.kind != 1) = true := by simpa using hn1
          have hk2 : (x.o.kind == 0) = false := by simpa using hn0
          have hk3 : (x.o.kind == 1) = false := by simpa using hn1
          go_wp2_with (first | (refine wpList_load_elem rfl 36 _ rfl 4 ga oa (xs.map OpC.cells) k _ x.cells _ Hr.out (opc_each xs) (by rw [List.length_map]; exact hlt) Hxc.out rfl (by rfl) Try.underlying36 rfl size36 ?_) | (refine wpList_alloc_store rfl 36 rfl 9 _ rfl (by rfl) rfl rfl (by decide) (.agg zop.toArray) x.cells (by rw [opc_length]; exact info36) zop zop_cells (by rfl) (by rfl) (opv_one _ _ _ _ _) ?_; intro b w5 hb5 B5 K5; have c0 := B5.cell 0; simp only [OpC.cells, opv, List.getElem?_cons_zero, List.getElem?_cons_succ] at c0))
          go_roundw
          case rel => exact ⟨k + 1, D, by go_num, hlt, ⟨⟨F, O4.keep K5 (Dj.noth _)⟩, hok, by omega, by omega, K04.trans K5 (fun _ _ h => h)⟩, HA⟩
          case measure => simp [intOf]; omega
      · have hge : k = xs.length := by omega
        subst hge
        obtain ⟨⟨F, O4⟩, hok, hops, hrow, K04⟩ := HR
        obtain ⟨vl4, vr4, A4⟩ := O4.dev
        have hcr := crash_calls A4 hok (by omega) none 0 [] (Reads.nil _ _) (fun ad h => by cases h) (by decide) (by intro x hx; cases hx)
        rw [show ([] : List Int).length = 0 from rfl] at hcr
        clear HA hR3 hA3
        go_wp2_with fail
        refine hcr.mono ?_
        rintro e w5 ⟨rfl, H5, K5⟩
        have O5 : Own w.heap.size w5 F g (D.crash []) := ⟨H5, O4.low⟩
        have K05 := K04.own K5 O4.low
        have hok5 : (D.crash []).ok := crash_ok hok _
        clear hcr H5 K5 O4 A4 K04
        go_wp2_with fail
        refine (alive_calls w5).mono ?_
        rintro e w6 ⟨rfl, K6⟩
        have O6 := O5.keep K6 (Dj.noth _)
        have K06 : Keep Noth w w6 := K05.trans K6 (fun _ _ h => h)
        obtain ⟨vl6, vr6, A6⟩ := O6.dev
        have hdn := down_calls A6
        rw [show (D.crash []).down = false from rfl] at hdn
        have hpd := pending_calls A6
        rw [show (D.crash []).row.length = 0 from rfl, show ((0 : Nat) : Int) = 0 from rfl] at hpd
        have hfl := flush_ok A6 rfl hok5 (by show D.ops ≤ _; omega) (by show (0 : Nat) ≤ _; omega) (by show (-1 : Int) ≠ 0; omega)
        clear O5 K05 K6
        go_wp2_with fail
        refine hdn.mono ?_
        rintro e wx ⟨rfl, rfl⟩
        clear hdn
        go_wp2_with fail
        refine hpd.mono ?_
        rintro e wx ⟨rfl, rfl⟩
        clear hpd
        go_wp2_with fail
        refine hfl.mono ?_
        rintro e w7 ⟨rfl, H7, K7⟩
        have K07 := K06.own K7 O6.low
        clear hfl H7 K7 A6 O6
        go_wp2_with fail
        go_ret
        exact ⟨rfl, K07⟩
  · have hf0 := hfp.1
    clear hfp
    have hor : 0 < few xs ∨ (few xs = 0 ∧ 20 < count) ∨ (few xs = 0 ∧ ¬ 20 < count ∧ 1000 < N) := by omega
    clear hin
    obtain ⟨fx, hfx⟩ : ∃ fx, fx = few xs := ⟨_, rfl⟩
    rw [← hfx] at hfc hor
    clear hfx hf0 hS hsz
    rcases hor with h | ⟨h, h'⟩ | ⟨h, h', h''⟩
    · go_enter Try.func6, Try.ntmps6
      go_wp2_with fail
      refine hfc.mono ?_
      rintro e w1 ⟨rfl, K1⟩
      clear hfc
      go_wp2_with fail
      refine (alive_calls w1).mono ?_
      rintro e w2 ⟨rfl, K2⟩
      go_wp2_with fail
      go_ret
      exact ⟨rfl, K1.trans K2 (fun _ _ h => h)⟩
    · subst h
      go_enter Try.func6, Try.ntmps6
      go_wp2_with fail
      refine hfc.mono ?_
      rintro e w1 ⟨rfl, K1⟩
      clear hfc
      go_wp2_with fail
      refine (alive_calls w1).mono ?_
      rintro e w2 ⟨rfl, K2⟩
      go_wp2_with fail
      go_ret
      exact ⟨rfl, K1.trans K2 (fun _ _ h => h)⟩
    · subst h
      go_enter Try.func6, Try.ntmps6
      go_wp2_with fail
      refine hfc.mono ?_
      rintro e w1 ⟨rfl, K1⟩
      clear hfc
      go_wp2_with fail
      refine (alive_calls w1).mono ?_
      rintro e w2 ⟨rfl, K2⟩
      go_wp2_with fail
      go_ret
      exact ⟨rfl, K1.trans K2 (fun _ _ h => h)⟩
end Go.Proofs.Ytffcglfepobdjaa
/- BlockLost: its law, and its walk. -/
set_option linter.unusedVariables false
set_option linter.unusedSimpArgs false
set_option maxRecDepth 10000
set_option maxHeartbeats 1500000
namespace Go.Proofs.Ytffcglfepobdjaa
open Go.RowKit

theorem crashK_lost {l : List Bk} {row : List (Nat × Bk)} (hl : ∀ b ∈ l, b.length = 64) (hr : ∀ p ∈ row, p.1 < l.length ∧ p.2.length = 64) : ∀ k, k ≤ row.length → crashK [0] l row k = l
  | 0, _ => rfl
  | k + 1, hk => by
    have e : row.getD k (0, []) = row[k] := by simp [List.getD_eq_getElem?_getD, show k < row.length by omega]
    rw [crashK, crashK_lost hl hr k (by omega), crash1, e]
    have hf : formOf [0] k = 0 := by unfold formOf; simp [List.getD_eq_getElem?_getD, Nat.mod_one]
    rw [hf]
    exact mix_none hl (hr _ (List.getElem_mem (by omega)))
theorem mix_all (a b : Bk) : mix 1 a b = b := by unfold mix; simp
theorem crashK_kept {l : List Bk} {row : List (Nat × Bk)} : ∀ k, k ≤ row.length → crashK [1] l row k = putAll l (row.take k)
  | 0, _ => rfl
  | k + 1, hk => by
    have e : row.getD k (0, []) = row[k] := by simp [List.getD_eq_getElem?_getD, show k < row.length by omega]
    have ht : row.take (k + 1) = row.take k ++ [row[k]] := by rw [List.take_add_one, List.getElem?_eq_getElem (show k < row.length by omega)]; rfl
    have hf : formOf [1] k = 1 := by unfold formOf; simp [List.getD_eq_getElem?_getD, Nat.mod_one]; rfl
    rw [crashK, crashK_kept k (by omega), crash1, e, ht, hf, mix_all, putAll_snoc]
theorem image_lost {D : DS} (h : D.ok) : (D.crash [0]).image = D.l.flatten := by
  show (crashK [0] D.l D.row D.row.length).flatten = _
  rw [crashK_lost h.l64 h.row64 _ (Nat.le_refl _)]
theorem image_kept (D : DS) : (D.crash [1]).image = D.image := by
  show (crashK [1] D.l D.row D.row.length).flatten = _
  rw [crashK_kept _ (Nat.le_refl _), List.take_length]
  rfl
theorem lost_write (D : DS) (k : Int) (b : List UInt8) : (D.write k b).1.l = D.l := by
  unfold DS.write
  (repeat' split) <;> rfl
theorem lost_flush (D : DS) : (D.flush.2 = 0 ∧ D.flush.1.image = D.flush.1.l.flatten) ∨ (D.flush.2 = 100 ∧ D.flush.1.l = D.l) := by
  unfold DS.flush
  split
  · exact .inr ⟨rfl, rfl⟩
  · split
    · exact .inr ⟨rfl, rfl⟩
    · exact .inl ⟨rfl, rfl⟩
theorem lost_op0 (D : DS) (o : OpV) (hk : o.kind = 0) : (D.doOp o).1.l = D.l := by
  unfold DS.doOp; rw [if_pos hk]; exact lost_write _ _ _
theorem lost_op1 (D : DS) (o : OpV) (hk : o.kind = 1) : ((D.doOp o).2 = 0 ∧ (D.doOp o).1.image = (D.doOp o).1.l.flatten) ∨ ((D.doOp o).2 = 100 ∧ (D.doOp o).1.l = D.l) := by
  unfold DS.doOp; rw [if_neg (by omega), if_pos hk]; exact lost_flush _

/-- The bytes that are told later, and the device, apart. -/
structure Row1 (B : Nat) (w0 : World) (g : Nat) (k : Nat) (D : DS) (v : Value) (bs : List UInt8) (wr : World) : Prop where
  own : ∃ F G, Own B wr F g D ∧ Bytes wr G v bs ∧ Dj F G ∧ Lt G wr
  ok : D.ok
  ops : D.ops ≤ k
  row : D.row.length ≤ k
  kept : Keep Noth w0 wr

theorem Bytes.same_as {w : World} {F : Nat → Prop} {A : Option Addr} {n c : Nat} {l : List UInt8} (h : Bytes w F (.slice A n c) l) : Reads w A (bv l) := by
  have := rd_of_own h
  rwa [u1_flatten] at this

theorem lost_calls (w : World) (count : Int) (A : Option Addr) (c : Nat) (xs : List OpC) (hS : Script w A xs) (hsz : scriptSize xs + xs.length ≤ 1048576) :
    Calls Try.prog 7 #[.int .i64 count, .slice A xs.length c] w (fun e w' => e = .returned (.bool true) ∧ Keep Noth w w') := by
  have hfp := few_pos xs
  have hfc := few_calls w A c xs hS hsz
  by_cases hin : few xs = 0 ∧ count ≤ 20
  · obtain ⟨h0, h20⟩ := hin
    have hlen := (hfp.2.1 h0).1
    have hlen' : (xs.length : Int) ≤ 80 := by omega
    rw [h0] at hfc
    have hcl := clampN_le h20
    have HS := hid hS
    clear hS hfp hsz
    go_enter Try.func7, Try.ntmps7
    go_wp2_with fail
    refine hfc.mono ?_
    rintro e w1 ⟨rfl, K1⟩
    clear hfc
    go_wp2_with fail
    refine (new_calls w1 count).mono ?_
    rintro e w2 ⟨g, rfl, H2, K2⟩
    obtain ⟨n, hn⟩ : ∃ n, n = clampN count := ⟨_, rfl⟩
    rw [← hn] at H2 hcl
    have O2 : Own w.heap.size w2 (Fresh w1 w2) g (DS.new n) := ⟨H2, fun q hq => Nat.le_trans K1.size hq.1⟩
    have K02 : Keep Noth w w2 := K1.trans K2 (fun _ _ h => h)
    obtain ⟨vl, vr, A2⟩ := H2
    have hok := new_ok n hcl.1 (by omega)
    have him := image_calls A2 hok (by show (0 : Nat) ≤ _; omega)
    rw [show (DS.new n).image = (DS.new n).l.flatten from rfl] at him
    clear hn
    go_wp2_with fail
    refine him.mono ?_
    rintro e w3 ⟨v3, rfl, I3, K3⟩
    clear him
    have hR3 : Row1 w.heap.size w g 0 (DS.new n) v3 (DS.new n).l.flatten w3 := ⟨⟨_, _, O2.keep K3 (Dj.noth _), I3, fun q h1 h2 => by have h3 := O2.dev.lt q h1; have h4 := h2.1; omega, fun q h => h.2⟩, hok, Nat.le_refl _, Nat.le_refl _, K02.trans K3 (fun _ _ h => h)⟩
    clear K3 I3 A2 O2 K02 K2 K1 hok
    go_wp2_with fail
    go_loopw [6, 30] (fun v i wr => ∃ (k : Nat) (D : DS), i = .int .i64 k ∧ k ≤ xs.length ∧ Row1 w.heap.size w g k D v D.l.flatten wr) (fun _ i _ => xs.length - (intOf i).toNat)
    case atStart => exact ⟨0, _, rfl, Nat.zero_le _, hR3⟩
    case round =>
      obtain ⟨k, D, rfl, hkl, HR⟩ := hrel
      by_cases hlt : k < xs.length
      · have hlt' : (k : Int) < xs.length := by omega
        obtain ⟨⟨F, G, O4, I4, hdj, hGl⟩, hok, hops, hrow, K04⟩ := HR
        have HS4 := HS.out.old K04 (fun _ h => h.elim)
        obtain ⟨ga, oa, hAo, hrange, hga⟩ := HS4.cells.where (script_pos xs (by omega))
        subst hAo
        obtain ⟨x, hx⟩ : ∃ x, x = xs[k] := ⟨_, rfl⟩
        have hxm : x ∈ xs := by rw [hx]; exact List.getElem_mem hlt
        have hxc : (xs.map OpC.cells)[k]'(by rw [List.length_map]; exact hlt) = x.cells := by rw [List.getElem_map, ← hx]
        have hoo := HS4.ok x hxm
        have hat := HS.out.each x hxm
        have Hr := hid hrange
        have Hxc := hid hxc
        have Hat := hid hat
        have Hoo := hid hoo
        have HAF := hid (HS.out.below (F := F) O4.low hxm)
        clear hrange hxc hx HS4 hoo hat hR3
        by_cases hk : x.o.kind = 0 ∨ x.o.kind = 1
        · have hops' := (doOp_grow D x.o)
          have hdoes : ∀ wx, Keep Noth w wx → Own w.heap.size wx F g D → Calls Try.prog 21 #[.pointer (some ⟨g, 0, none⟩), .agg x.cells.toArray] wx (fun e w' => e = .returned (.tuple #[.pointer (some ⟨g, 0, none⟩), .int .i64 (D.doOp x.o).2]) ∧ DevIs w' (grow F wx w') g (D.doOp x.o).1 ∧ Keep F wx w') := fun wx Kx Ox =>
            does_calls Ox.dev hok (by omega) (by omega) x.o Hoo.out (by omega) x.Ab x.Af x.cb x.cf ⟨Hat.out.b.old Kx (fun _ h => h.elim), Hat.out.forms.old Kx (fun _ h => h.elim)⟩ HAF.out
          have hok' := doOp_ok hok x.o Hoo.out
          have hl0 := lost_op0 D x.o
          have hl1 := lost_op1 D x.o
          obtain ⟨D', e', hR⟩ : ∃ D' e', D.doOp x.o = (D', e') := ⟨_, _, rfl⟩
          rw [hR] at hops' hdoes hok' hl0 hl1
          simp only at hops' hdoes hok' hl0 hl1
          have Hdoes := hid hdoes
          obtain ⟨kd, hkd⟩ : ∃ kd, kd = x.o.kind := ⟨_, rfl⟩
          have hxcells : x.cells = [.int .i64 kd, .int .i64 x.o.k, .slice x.Ab x.o.b.length x.cb, .slice x.Af x.o.forms.length x.cf] := by rw [hkd]; rfl
          rw [← hkd] at hk hl0 hl1
          have HRel : Hid (∀ wr' F' G' v', Own w.heap.size wr' F' g D' → Bytes wr' G' v' D'.l.flatten → Dj F' G' → Lt G' wr' → Keep Noth w wr' → ∃ (k' : Nat) (D' : DS), Value.int .i64 ((k : Int) + 1) = .int .i64 k' ∧ k' ≤ xs.length ∧ Row1 w.heap.size w g k' D' v' D'.l.flatten wr') := hid (fun wr' F' G' v' HO HB HD HL HK => ⟨k + 1, D', by go_num, hlt, ⟨⟨F', G', HO, HB, HD, HL⟩, hok', by omega, by omega, HK⟩⟩)
          have Hopsb := hid (show D'.row.length ≤ 1099511627776 by omega)
          have Hok' := hid hok'
          have HK04 := hid K04
          clear hdoes hkd hR hops' hops hrow hok hok' K04 hkl
          rcases hk with rfl | rfl
          · have hl := hl0 rfl
            clear hl0 hl1
            go_wp2_with (first | (refine wpList_load_elem rfl 36 _ rfl 4 ga oa (xs.map OpC.cells) k _ x.cells _ Hr.out (opc_each xs) (by rw [List.length_map]; exact hlt) Hxc.out rfl (by rfl) Try.underlying36 rfl size36 ?_) | (refine wpList_alloc_store rfl 36 rfl 8 _ rfl (by rfl) rfl rfl (by decide) (.agg zop.toArray) x.cells (by rw [opc_length]; exact info36) zop zop_cells (by rfl) (by rfl) (opv_one _ _ _ _ _) ?_; intro b w5 hb5 B5 K5; have c0 := B5.cell 0; rw [hxcells] at c0; clear hxcells; simp only [List.getElem?_cons_zero, List.getElem?_cons_succ] at c0) | (refine wpList_load_blk rfl 36 _ rfl b 0 x.cells x.cells 36 _ (by rfl) B5 (fun j v h => by simpa using h) Try.underlying36 rfl (by rw [opc_length]; exact info36) ?_))
            have K05 : Keep Noth w w5 := HK04.out.trans K5 (fun _ _ h => h)
            have O5 := O4.keep K5 (Dj.noth _)
            have hbF : ¬ F b := fun h => by have := O4.dev.lt b h; omega
            have I5 := I4.keep K5 (Dj.noth _)
            have hGl5 : Lt G w5 := fun q h => Nat.lt_of_lt_of_le (hGl q h) K5.size
            clear O4 I4 hGl
            refine (Hdoes.out w5 K05 O5).mono ?_
            rintro e w6 ⟨rfl, H6, K6⟩
            have O6 := O5.next K05.size H6
            have K06 := K05.own K6 O5.low
            have I6 := I5.keep K6 hdj.symm
            have hdj6 : Dj (grow F w5 w6) G := fun q h1 h2 => h1.elim (fun h => hdj q h h2) (fun h => by have h3 := hGl5 q h2; have h4 := h.1; omega)
            have hGl6 : Lt G w6 := fun q h => Nat.lt_of_lt_of_le (hGl5 q h) K6.size
            have c6 : w6.cell? ⟨b, 0, none⟩ = some (.int .i64 0) := K6.cellAt hbF c0
            have f6 := K6.frozenAt hbF c0 (B5.frozen 0)
            rw [← hl] at I6
            clear H6 K6 O5 I5 hGl5 hdj B5 c0 Hdoes
            go_wp2_with fail
            go_roundw
            case rel => exact HRel.out _ _ _ _ O6 I6 hdj6 hGl6 K06
            case measure => simp [intOf]; omega
          · have hl := hl1 rfl
            clear hl0 hl1
            go_wp2_with (first | (refine wpList_load_elem rfl 36 _ rfl 4 ga oa (xs.map OpC.cells) k _ x.cells _ Hr.out (opc_each xs) (by rw [List.length_map]; exact hlt) Hxc.out rfl (by rfl) Try.underlying36 rfl size36 ?_) | (refine wpList_alloc_store rfl 36 rfl 8 _ rfl (by rfl) rfl rfl (by decide) (.agg zop.toArray) x.cells (by rw [opc_length]; exact info36) zop zop_cells (by rfl) (by rfl) (opv_one _ _ _ _ _) ?_; intro b w5 hb5 B5 K5; have c0 := B5.cell 0; rw [hxcells] at c0; clear hxcells; simp only [List.getElem?_cons_zero, List.getElem?_cons_succ] at c0) | (refine wpList_load_blk rfl 36 _ rfl b 0 x.cells x.cells 36 _ (by rfl) B5 (fun j v h => by simpa using h) Try.underlying36 rfl (by rw [opc_length]; exact info36) ?_))
            have K05 : Keep Noth w w5 := HK04.out.trans K5 (fun _ _ h => h)
            have O5 := O4.keep K5 (Dj.noth _)
            have hbF : ¬ F b := fun h => by have := O4.dev.lt b h; omega
            have I5 := I4.keep K5 (Dj.noth _)
            have hGl5 : Lt G w5 := fun q h => Nat.lt_of_lt_of_le (hGl q h) K5.size
            clear O4 I4 hGl
            refine (Hdoes.out w5 K05 O5).mono ?_
            rintro e w6 ⟨rfl, H6, K6⟩
            have O6 := O5.next K05.size H6
            have K06 := K05.own K6 O5.low
            have I6 := I5.keep K6 hdj.symm
            have hdj6 : Dj (grow F w5 w6) G := fun q h1 h2 => h1.elim (fun h => hdj q h h2) (fun h => by have h3 := hGl5 q h2; have h4 := h.1; omega)
            have hGl6 : Lt G w6 := fun q h => Nat.lt_of_lt_of_le (hGl5 q h) K6.size
            have c6 : w6.cell? ⟨b, 0, none⟩ = some (.int .i64 1) := K6.cellAt hbF c0
            have f6 := K6.frozenAt hbF c0 (B5.frozen 0)
            clear H6 K6 O5 I5 hGl5 hdj B5 c0 Hdoes
            rcases hl with ⟨rfl, hl⟩ | ⟨rfl, hl⟩
            · obtain ⟨vl6, vr6, A6⟩ := O6.dev
              have him := image_calls A6 Hok'.out Hopsb.out
              rw [hl] at him
              go_wp2_with fail
              refine him.mono ?_
              rintro e w7 ⟨v7, rfl, I7, K7⟩
              have O7 := O6.keep K7 (Dj.noth _)
              have K07 := K06.trans K7 (fun _ _ h => h)
              have hlt6 := hid O6.dev.lt
              clear him A6 O6 I6 K7 K06
              go_wp2_with fail
              go_roundw
              case rel => exact HRel.out _ _ _ _ O7 I7 (fun q h1 h2 => by have h3 := hlt6.out q h1; have h4 := h2.1; omega) (fun q h => h.2) K07
              case measure => simp [intOf]; omega
            · rw [← hl] at I6
              go_wp2_with fail
              go_roundw
              case rel => exact HRel.out _ _ _ _ O6 I6 hdj6 hGl6 K06
              case measure => simp [intOf]; omega
        · have hn0 : x.o.kind ≠ 0 := fun e => hk (.inl e)
          have hn1 : x.o.kind ≠ 1 := fun e => hk (.inr e)
          have hk0 : (x.o.kind != 0) = true := by simpa using hn0
          have hk1 : (x.o.kind != 1) = true := by simpa using hn1
          have hk2 : (x.o.kind == 0) = false := by simpa using hn0
          have hk3 : (x.o.kind == 1) = false := by simpa using hn1
          go_wp2_with (first | (refine wpList_load_elem rfl 36 _ rfl 4 ga oa (xs.map OpC.cells) k _ x.cells _ Hr.out (opc_each xs) (by rw [List.length_map]; exact hlt) Hxc.out rfl (by rfl) Try.underlying36 rfl size36 ?_) | (refine wpList_alloc_store rfl 36 rfl 8 _ rfl (by rfl) rfl rfl (by decide) (.agg zop.toArray) x.cells (by rw [opc_length]; exact info36) zop zop_cells (by rfl) (by rfl) (opv_one _ _ _ _ _) ?_; intro b w5 hb5 B5 K5; have c0 := B5.cell 0; simp only [OpC.cells, opv, List.getElem?_cons_zero, List.getElem?_cons_succ] at c0))
          go_roundw
          case rel => exact ⟨k + 1, D, by go_num, hlt, ⟨⟨F, G, O4.keep K5 (Dj.noth _), I4.keep K5 (Dj.noth _), hdj, fun q h => Nat.lt_of_lt_of_le (hGl q h) K5.size⟩, hok, by omega, by omega, K04.trans K5 (fun _ _ h => h)⟩⟩
          case measure => simp [intOf]; omega
      · have hge : k = xs.length := by omega
        subst hge
        obtain ⟨⟨F, G, O4, I4, hdj, hGl⟩, hok, hops, hrow, K04⟩ := HR
        clear hR3
        obtain ⟨fl, hfl⟩ : ∃ fl, fl = D.l.flatten := ⟨_, rfl⟩
        rw [← hfl] at I4
        have Hfl := hid hfl
        clear hfl
        obtain ⟨Af, cf, hv⟩ := I4.val
        rw [u1_length] at hv
        subst hv
        obtain ⟨vl4, vr4, A4⟩ := O4.dev
        have him := image_calls A4 hok (by omega)
        go_wp2_with fail
        refine him.mono ?_
        rintro e w5 ⟨v5, rfl, I5, K5⟩
        obtain ⟨As, cs, hv⟩ := I5.val
        rw [u1_length] at hv
        subst hv
        have O5 := O4.keep K5 (Dj.noth _)
        have If5 := I4.keep K5 (Dj.noth _)
        have K05 := K04.trans K5 (fun _ _ h => h)
        have hs45 := K5.size
        have hlt4 := O4.dev.lt
        clear him A4 O4 I4 K5 K04
        obtain ⟨vl5, vr5, A5⟩ := O5.dev
        have hcp := copy_calls A5 hok (by omega)
        go_wp2_with fail
        refine hcp.mono ?_
        rintro e w6 ⟨gx, rfl, H6, K6⟩
        have Oa : Own w.heap.size w6 (Fresh w5 w6) gx D := Own.fresh K05.size H6
        have O6 := O5.keep K6 (Dj.noth _)
        have If6 := If5.keep K6 (Dj.noth _)
        have Is6 := I5.keep K6 (Dj.noth _)
        have K06 := K05.trans K6 (fun _ _ h => h)
        have hs56 := K6.size
        clear hcp A5 O5 If5 I5 K6 K05 H6
        obtain ⟨vl6, vr6, A6⟩ := O6.dev
        have hcp := copy_calls A6 hok (by omega)
        go_wp2_with fail
        refine hcp.mono ?_
        rintro e w7 ⟨gy, rfl, H7, K7⟩
        have Ob : Own w.heap.size w7 (Fresh w6 w7) gy D := Own.fresh K06.size H7
        have Oa7 := Oa.keep K7 (Dj.noth _)
        have O7 := O6.keep K7 (Dj.noth _)
        have If7 := If6.keep K7 (Dj.noth _)
        have Is7 := Is6.keep K7 (Dj.noth _)
        have K07 := K06.trans K7 (fun _ _ h => h)
        have hs67 := K7.size
        clear hcp A6 O6 If6 Is6 K7 K06 H7 Oa
        have ka := ((Keep.refl Noth w7).alloc (.cells #[.int .i64 0] 3))
        obtain ⟨vl7, vr7, A7⟩ := (Oa7.keep ka (Dj.noth _)).dev
        have hcr := crash_calls A7 hok (by omega) (some ⟨w7.heap.size, 0, none⟩) 1 [0] (Reads.of_range (BlockIs.new w7 [.int .i64 0] 3).rangeAll) (fun ad h _ => by injection h with h; subst h; intro hq; have := hq.2; simp only at this; omega) (by decide) (by intro x hx; rw [List.mem_singleton.1 hx]; decide)
        rw [show ([0] : List Int).length = 1 from rfl] at hcr
        go_wp2_with fail
        refine hcr.mono ?_
        rintro e w8 ⟨rfl, H8, K8⟩
        have k8 := (ka.mono (fun i hi (h : Noth i) => (h.elim : Fresh w5 w6 i))).trans K8 (fun _ _ h => h)
        have Oa8 : Own w.heap.size w8 (Fresh w5 w6) gx (D.crash [0]) := ⟨H8, Oa7.low⟩
        have O8 := O7.keep k8 (fun q h1 h2 => by have h3 := hlt4 q h1; have h4 := h2.1; omega)
        have Ob8 := Ob.keep k8 (fun q h1 h2 => by have h3 := h1.1; have h4 := h2.2; omega)
        have If8 := If7.keep k8 (fun q h1 h2 => by have h3 := hGl q h1; have h4 := h2.1; omega)
        have Is8 := Is7.keep k8 (fun q h1 h2 => by have h3 := h1.2; have h4 := h2.1; omega)
        have K08 := K07.own k8 Oa7.low
        have hs78 := k8.size
        clear hcr H8 K8 k8 A7 Oa7 O7 Ob If7 Is7 K07 ka
        have ka := ((Keep.refl Noth w8).alloc (.cells #[.int .i64 1] 3))
        obtain ⟨vl8, vr8, A8⟩ := (Ob8.keep ka (Dj.noth _)).dev
        have hcr := crash_calls A8 hok (by omega) (some ⟨w8.heap.size, 0, none⟩) 1 [1] (Reads.of_range (BlockIs.new w8 [.int .i64 1] 3).rangeAll) (fun ad h _ => by injection h with h; subst h; intro hq; have := hq.2; simp only at this; omega) (by decide) (by intro x hx; rw [List.mem_singleton.1 hx]; decide)
        rw [show ([1] : List Int).length = 1 from rfl] at hcr
        go_wp2_with fail
        refine hcr.mono ?_
        rintro e w9 ⟨rfl, H9, K9⟩
        have k9 := (ka.mono (fun i hi (h : Noth i) => (h.elim : Fresh w6 w7 i))).trans K9 (fun _ _ h => h)
        have Ob9 : Own w.heap.size w9 (Fresh w6 w7) gy (D.crash [1]) := ⟨H9, Ob8.low⟩
        have O9 := O8.keep k9 (fun q h1 h2 => by have h3 := hlt4 q h1; have h4 := h2.1; omega)
        have Oa9 := Oa8.keep k9 (fun q h1 h2 => by have h3 := h1.2; have h4 := h2.1; omega)
        have If9 := If8.keep k9 (fun q h1 h2 => by have h3 := hGl q h1; have h4 := h2.1; omega)
        have Is9 := Is8.keep k9 (fun q h1 h2 => by have h3 := h1.2; have h4 := h2.1; omega)
        have K09 := K08.own k9 Ob8.low
        clear hcr H9 K9 k9 A8 Oa8 O8 Ob8 If8 Is8 K08 ka
        go_wp2_with fail
        refine (alive_calls w9).mono ?_
        rintro e w10 ⟨rfl, K10⟩
        have Oa10 := Oa9.keep K10 (Dj.noth _)
        have Ob10 := Ob9.keep K10 (Dj.noth _)
        have O10 := O9.keep K10 (Dj.noth _)
        have If10 := If9.keep K10 (Dj.noth _)
        have Is10 := Is9.keep K10 (Dj.noth _)
        have K010 := K09.trans K10 (fun _ _ h => h)
        clear Oa9 Ob9 O9 If9 Is9 K09 K10
        have hokA := crash_ok hok [0]
        have hokB := crash_ok hok [1]
        obtain ⟨vla, vra, AA⟩ := Oa10.dev
        have him := image_calls AA hokA (by show (0 : Nat) ≤ _; omega)
        rw [image_lost hok, ← Hfl.out] at him
        go_wp2_with fail
        refine him.mono ?_
        rintro e w11 ⟨v11, rfl, I11, K11⟩
        obtain ⟨Ax, cx, hv⟩ := I11.val
        rw [u1_length] at hv
        subst hv
        have Ob11 := Ob10.keep K11 (Dj.noth _)
        have O11 := O10.keep K11 (Dj.noth _)
        have Is11 := Is10.keep K11 (Dj.noth _)
        have K011 := K010.trans K11 (fun _ _ h => h)
        have heq := equal_calls w11 Ax Af fl.length fl.length cx cf fl fl rfl rfl (Bytes.same_as I11) (Bytes.same_as (If10.keep K11 (Dj.noth _)))
        rw [show (fl == fl) = true by simp] at heq
        clear him I11 K11 Oa10 Ob10 O10 If10 Is10 K010 AA
        go_wp2_with fail
        refine heq.mono ?_
        rintro e wx ⟨rfl, rfl⟩
        clear heq
        obtain ⟨vlb, vrb, AB⟩ := Ob11.dev
        have him := image_calls AB hokB (by show (0 : Nat) ≤ _; omega)
        rw [image_kept] at him
        go_wp2_with fail
        refine him.mono ?_
        rintro e w12 ⟨v12, rfl, I12, K12⟩
        obtain ⟨Ax, cx, hv⟩ := I12.val
        rw [u1_length] at hv
        subst hv
        have O12 := O11.keep K12 (Dj.noth _)
        have Is12 := Is11.keep K12 (Dj.noth _)
        have K012 := K011.trans K12 (fun _ _ h => h)
        have heq := equal_calls w12 Ax As D.image.length D.image.length cx cs D.image D.image rfl rfl (Bytes.same_as I12) (Bytes.same_as Is12)
        rw [show (D.image == D.image) = true by simp] at heq
        clear him I12 K12 Ob11 O11 Is11 K011 AB
        go_wp2_with fail
        refine heq.mono ?_
        rintro e wx ⟨rfl, rfl⟩
        clear heq
        obtain ⟨vlc, vrc, AC⟩ := O12.dev
        have him := image_calls AC hok (by omega)
        go_wp2_with fail
        refine him.mono ?_
        rintro e w13 ⟨v13, rfl, I13, K13⟩
        obtain ⟨Ax, cx, hv⟩ := I13.val
        rw [u1_length] at hv
        subst hv
        have K013 := K012.trans K13 (fun _ _ h => h)
        have heq := equal_calls w13 Ax As D.image.length D.image.length cx cs D.image D.image rfl rfl (Bytes.same_as I13) (Bytes.same_as (Is12.keep K13 (Dj.noth _)))
        rw [show (D.image == D.image) = true by simp] at heq
        clear him I13 K13 O12 Is12 K012 AC
        go_wp2_with fail
        refine heq.mono ?_
        rintro e wx ⟨rfl, rfl⟩
        clear heq
        go_wp2_with fail
        go_ret
        exact ⟨rfl, K013⟩
  · have hf0 := hfp.1
    clear hfp
    have hor : 0 < few xs ∨ (few xs = 0 ∧ 20 < count) := by omega
    clear hin
    obtain ⟨fx, hfx⟩ : ∃ fx, fx = few xs := ⟨_, rfl⟩
    rw [← hfx] at hfc hor
    clear hfx hf0 hS hsz
    rcases hor with h | ⟨h, h'⟩
    · go_enter Try.func7, Try.ntmps7
      go_wp2_with fail
      refine hfc.mono ?_
      rintro e w1 ⟨rfl, K1⟩
      clear hfc
      go_wp2_with fail
      refine (alive_calls w1).mono ?_
      rintro e w2 ⟨rfl, K2⟩
      go_wp2_with fail
      go_ret
      exact ⟨rfl, K1.trans K2 (fun _ _ h => h)⟩
    · subst h
      go_enter Try.func7, Try.ntmps7
      go_wp2_with fail
      refine hfc.mono ?_
      rintro e w1 ⟨rfl, K1⟩
      clear hfc
      go_wp2_with fail
      refine (alive_calls w1).mono ?_
      rintro e w2 ⟨rfl, K2⟩
      go_wp2_with fail
      go_ret
      exact ⟨rfl, K1.trans K2 (fun _ _ h => h)⟩
end Go.Proofs.Ytffcglfepobdjaa
/- Is a device the document's? -/
set_option linter.unusedVariables false
set_option linter.unusedSimpArgs false
set_option maxRecDepth 10000
set_option maxHeartbeats 1500000
namespace Go.Proofs.Ytffcglfepobdjaa
open Go.RowKit

theorem st_stands {w : World} {F G : Nat → Prop} {g : Nat} {vl vr : Value} {D : DS} (hDev : DevIs w F g D) (H : StAt w G vl vr D) (hok : D.ok) (hr : D.row.length ≤ 1099511627776) :
    Calls Try.prog 19 #[.pointer (some ⟨g, 0, none⟩), .agg (stv vl vr D).toArray] w (fun e w' => e = .returned (.bool true) ∧ Keep Noth w w') := by
  obtain ⟨Al, cl, rfl⟩ := H.l.valm
  obtain ⟨Ar, cr, rfl⟩ := H.row.valm
  obtain ⟨n, hn⟩ : ∃ n, n = D.l.length := ⟨_, rfl⟩
  obtain ⟨m, hm⟩ : ∃ n, n = D.row.length := ⟨_, rfl⟩
  obtain ⟨op, hop⟩ : ∃ n : Int, n = (D.ops : Int) := ⟨_, rfl⟩
  obtain ⟨fu, hfu⟩ : ∃ n : Int, n = D.fuse := ⟨_, rfl⟩
  obtain ⟨dn, hdn⟩ : ∃ n : Bool, n = D.down := ⟨_, rfl⟩
  have hst : (stv (.slice Al D.l.length cl) (.slice Ar D.row.length cr) D) = [.slice Al n cl, .slice Ar m cr, .int .i64 op, .int .i64 fu, .bool dn] := by rw [hn, hm, hop, hfu, hdn]; rfl
  have Hst := hid hst
  rw [hst]
  obtain ⟨vl', vr', hD⟩ := hDev
  have hn4 : (n : Int) ≤ 4096 := by have := hok.most; omega
  have HR := hid H
  have HD := hid hD
  have Hn := hid hn
  have Hm := hid hm
  have Hop := hid hop
  have Hdn := hid hdn
  clear hst hn hm hop hfu hdn H hD
  go_enter Try.func19, Try.ntmps19
  go_wp2_with (guard_target = wpList _ _ _ (Oper.mk _ (Op.box _ _) _ _ _ _ :: _) _ _; refine wpList_box_v rfl 30 _ rfl [.slice Al n cl, .slice Ar m cr, .int .i64 op, .int .i64 fu, .bool dn] (by rfl) ?_; intro b3 w1 hb1 B1 K1)
  have HR1 := hid (HR.out.keep K1 (Dj.noth _))
  have HD1 := hid (HD.out.keep K1 (Dj.noth _))
  have HB : BlockIs w1.drew b3 [.slice Al n cl, .slice Ar m cr, .int .i64 op, .int .i64 fu, .bool dn] 30 := B1.drew
  refine wp_region_ordL [(0, true), (2, true), (3, true), (4, true), (1, false), (5, true), (6, true), (7, true), (9, true), (10, true), (11, true), (8, false), (12, true), (13, true), (14, true), (15, true), (17, true), (18, true), (16, false), (19, true), (20, true), (21, true), (22, true), (24, true), (25, true), (23, false), (26, true), (27, true), (28, true), (29, true), (31, true), (30, false), (32, false), (33, false), (34, true), (35, false)] (fun w' => BlockIs w' b3 [.slice Al n cl, .slice Ar m cr, .int .i64 op, .int .i64 fu, .bool dn] 30) follows_mixed (by kernel_rfl) HB ?_
  simp only [List.map_cons, List.map_nil, List.getElem?_cons_succ, List.getElem?_cons_zero, Option.getD_some]
  have hDr := HD1.out.keep ((Keep.refl Noth w1).drew) (Dj.noth _)
  refine wpO_pure (v := .pointer (some ⟨g, 0, none⟩)) (by rfl) (fun w' hw' => by rfl) ?_
  go_frame
  refine wpO_pure (v := .pointer (some ⟨b3, 0, none⟩)) (by rfl) (fun w' hw' => by go_simp) ?_
  go_frame
  refine wpO_pure (v := .slice Al n cl) (by rfl) (fun w' hw' => by have hc := hw'.cell 0; simp only [List.getElem?_cons_zero, List.getElem?_cons_succ] at hc; go_simp) ?_
  go_frame
  refine wpO_pure (v := .int .i64 (n : Int)) (by rfl) (fun w' hw' => by go_simp) ?_
  go_frame
  refine wpO_call (by rfl) (exec_call' 24 _ _ rfl Try.func24 (by kernel_rfl) (by rfl) #[.pointer (some ⟨g, 0, none⟩)] (by simp [Act.eval])) ((count_calls hDr).mono ?_)
  rintro e w' ⟨rfl, rfl⟩
  refine ⟨_, rfl, .inr HB, ?_⟩
  rw [← Hn.out]
  go_frame
  refine wpO_pure (v := .bool false) (by rfl) (fun w' hw' => by go_simp) ?_
  go_frame
  refine wpO_pure (v := .bool false) (by rfl) (fun w' hw' => by go_simp) ?_
  go_frame
  refine wpO_pure (v := .pointer (some ⟨g, 0, none⟩)) (by rfl) (fun w' hw' => by rfl) ?_
  go_frame
  refine wpO_pure (v := .pointer (some ⟨b3, 1, none⟩)) (by rfl) (fun w' hw' => by go_simp) ?_
  go_frame
  refine wpO_pure (v := .slice Ar m cr) (by rfl) (fun w' hw' => by have hc := hw'.cell 1; simp only [List.getElem?_cons_zero, List.getElem?_cons_succ] at hc; go_simp) ?_
  go_frame
  refine wpO_pure (v := .int .i64 (m : Int)) (by rfl) (fun w' hw' => by go_simp) ?_
  go_frame
  refine wpO_call (by rfl) (exec_call' 30 _ _ rfl Try.func30 (by kernel_rfl) (by rfl) #[.pointer (some ⟨g, 0, none⟩)] (by simp [Act.eval])) ((pending_calls hDr).mono ?_)
  rintro e w' ⟨rfl, rfl⟩
  refine ⟨_, rfl, .inr HB, ?_⟩
  rw [← Hm.out]
  go_frame
  refine wpO_pure (v := .bool false) (by rfl) (fun w' hw' => by go_simp) ?_
  go_frame
  refine wpO_pure (v := .bool false) (by rfl) (fun w' hw' => by go_simp) ?_
  go_frame
  refine wpO_pure (v := .bool false) (by rfl) (fun w' hw' => by go_simp) ?_
  go_frame
  refine wpO_pure (v := .pointer (some ⟨g, 0, none⟩)) (by rfl) (fun w' hw' => by rfl) ?_
  go_frame
  refine wpO_pure (v := .pointer (some ⟨b3, 2, none⟩)) (by rfl) (fun w' hw' => by go_simp) ?_
  go_frame
  refine wpO_pure (v := .int .i64 op) (by rfl) (fun w' hw' => by have hc := hw'.cell 2; simp only [List.getElem?_cons_zero, List.getElem?_cons_succ] at hc; go_simp) ?_
  go_frame
  refine wpO_call (by rfl) (exec_call' 29 _ _ rfl Try.func29 (by kernel_rfl) (by rfl) #[.pointer (some ⟨g, 0, none⟩)] (by simp [Act.eval])) ((ops_calls hDr).mono ?_)
  rintro e w' ⟨rfl, rfl⟩
  refine ⟨_, rfl, .inr HB, ?_⟩
  rw [← Hop.out]
  go_frame
  refine wpO_pure (v := .bool false) (by rfl) (fun w' hw' => by go_simp) ?_
  go_frame
  refine wpO_pure (v := .bool false) (by rfl) (fun w' hw' => by go_simp) ?_
  go_frame
  refine wpO_pure (v := .bool false) (by rfl) (fun w' hw' => by go_simp) ?_
  go_frame
  refine wpO_pure (v := .pointer (some ⟨g, 0, none⟩)) (by rfl) (fun w' hw' => by rfl) ?_
  go_frame
  refine wpO_pure (v := .pointer (some ⟨b3, 4, none⟩)) (by rfl) (fun w' hw' => by go_simp) ?_
  go_frame
  refine wpO_pure (v := .bool dn) (by rfl) (fun w' hw' => by have hc := hw'.cell 4; simp only [List.getElem?_cons_zero, List.getElem?_cons_succ] at hc; go_simp) ?_
  go_frame
  refine wpO_call (by rfl) (exec_call' 28 _ _ rfl Try.func28 (by kernel_rfl) (by rfl) #[.pointer (some ⟨g, 0, none⟩)] (by simp [Act.eval])) ((down_calls hDr).mono ?_)
  rintro e w' ⟨rfl, rfl⟩
  refine ⟨_, rfl, .inr HB, ?_⟩
  rw [← Hdn.out]
  go_frame
  refine wpO_pure (v := .bool false) (by rfl) (fun w' hw' => by cases dn <;> go_simp) ?_
  go_frame
  refine wpO_pure (v := .bool false) (by rfl) (fun w' hw' => by go_simp) ?_
  go_frame
  refine wpO_pure (v := .bool false) (by rfl) (fun w' hw' => by go_simp) ?_
  go_frame
  refine wpO_pure (v := .pointer (some ⟨g, 0, none⟩)) (by rfl) (fun w' hw' => by rfl) ?_
  go_frame
  refine wpO_pure (v := .agg [.slice Al n cl, .slice Ar m cr, .int .i64 op, .int .i64 fu, .bool dn].toArray) (by rfl) (fun w' hw' => exec_load_blk 30 _ rfl b3 0 _ [.slice Al n cl, .slice Ar m cr, .int .i64 op, .int .i64 fu, .bool dn] 30 _ (by simp [Act.eval]) hw' (part0 _) Try.underlying30 rfl info30) ?_
  go_frame
  refine wpO_call (by rfl) (exec_call' 22 _ _ rfl Try.func22 (by kernel_rfl) (by rfl) #[.pointer (some ⟨g, 0, none⟩)] (by simp [Act.eval])) ((image_calls hDr hok hr).mono ?_)
  rintro e w2 ⟨v2, rfl, I2, K2⟩
  obtain ⟨A2, c2, rfl⟩ := I2.valm
  have HB2 := HB.keep K2 id
  refine ⟨_, rfl, .inr HB2, ?_⟩
  go_frame
  have HIM := st_image ((HR1.out.keep ((Keep.refl Noth w1).drew) (Dj.noth _)).keep K2 (Dj.noth _)) hok hr
  rw [Hst.out] at HIM
  refine wpO_call (f := 54) (args := #[.agg [.slice Al n cl, .slice Ar m cr, .int .i64 op, .int .i64 fu, .bool dn].toArray]) (by rfl) (by have hf := Try.func54; go_simp) ?_
  refine HIM.mono ?_
  rintro e w3 ⟨v3, rfl, I3, K3⟩
  obtain ⟨A3, c3, rfl⟩ := I3.valm
  have HB3 := HB2.keep K3 id
  refine ⟨_, rfl, .inr HB3, ?_⟩
  go_frame
  have heq := equal_calls w3 A2 A3 D.image.length D.image.length c2 c3 D.image D.image rfl rfl (Bytes.same_as (I2.keep K3 (Dj.noth _))) (Bytes.same_as I3)
  refine wpO_call (by rfl) (exec_call' 26 _ _ rfl Try.func26 (by kernel_rfl) (by rfl) #[.slice A2 D.image.length c2, .slice A3 D.image.length c3] (by simp [Act.eval])) (heq.mono ?_)
  rintro e w' ⟨rfl, rfl⟩
  refine ⟨.bool true, by simp, .inr HB3, ?_⟩
  clear heq HIM
  go_frame
  refine wpO_pure (v := .bool false) (by rfl) (fun w' hw' => by go_simp) ?_
  go_frame
  refine wpO_run (v := .bool false) (w1 := w3) (by rfl) (by go_simp) (.inl rfl) ?_
  refine wpO_nil ?_
  go_frame
  go_wp2_with fail
  have K13 : Keep Noth w1 w3 := (((Keep.refl Noth w1).drew).trans K2 (fun _ _ h => h)).trans K3 (fun _ _ h => h)
  clear HB HB2 I2 I3 K2 K3 hDr
  have hnn : (n : Int) = D.l.length := by rw [Hn.out]
  have Hnn := hid hnn
  clear hnn
  go_loopw [5] (fun i wr => ∃ k : Int, i = .int .i64 k ∧ -1 ≤ k ∧ k ≤ n + 1 ∧ Keep Noth w1 wr) (fun i _ => (n + 1 - intOf i).toNat)
  case atStart => exact ⟨-1, rfl, by omega, by omega, K13⟩
  case round =>
    obtain ⟨k, rfl, hk1, hk2, HK⟩ := hrel
    clear HB3
    have HB := B1.keep HK id
    have HRr := hid (HR1.out.keep HK (Dj.noth _))
    have HDr := hid (HD1.out.keep HK (Dj.noth _))
    have c0 := HB.cell 0
    have c4 := HB.cell 4
    simp only [List.getElem?_cons_zero, List.getElem?_cons_succ] at c0 c4
    by_cases hkn : k ≤ n
    · by_cases hin : 0 ≤ k ∧ k < n
      · obtain ⟨k, rfl⟩ : ∃ q : Nat, k = (q : Int) := ⟨k.toNat, by omega⟩
        obtain ⟨h0, hlt⟩ := hin
        have hkl : k < D.l.length := by have := Hnn.out; omega
        have h64 : (D.at k).length = 64 := by have := at_length hok k hkl D.row.length; rw [List.take_length] at this; exact this
        have H64 := hid h64
        clear h64
        cases dn with
        | true =>
          have KR := Keep.refl Noth wr
          have BR := HB
          go_wp2_with (first | (go_at_call 25; refine (read_down HDr.out Hdn.out.symm (k : Int)).mono ?_; rintro e w' ⟨rfl, rfl⟩) | (guard_target = wpList _ _ _ (Oper.mk _ (Op.load 30 _) _ _ _ _ :: _) _ _; refine wpList_load_blk rfl 30 _ rfl b3 0 _ [.slice Al n cl, .slice Ar m cr, .int .i64 op, .int .i64 fu, .bool true] 30 _ (by rfl) BR (fun j v h => by simpa using h) Try.underlying30 rfl info30 ?_) | (go_at_call 55; have HAT := st_at (HRr.out.keep KR (Dj.noth _)) hok hr k hkl; rw [Hst.out] at HAT; refine HAT.mono ?_; clear HAT; rintro e wA ⟨rfl, KA⟩; have BA := BR.keep KA id) | (guard_target = wpList _ _ _ (Oper.mk _ (Op.alloc _) _ _ _ _ :: _) _ _; refine wpList_alloc_store rfl 52 rfl 10 _ rfl (by rfl) rfl rfl (by decide) zv (bv (D.at k)) (by rw [bv_length, H64.out]; exact info52) (bv zb) zv_cells (by rw [bv_length, H64.out, bvz_length]) (by rfl) (bv_one _) ?_; intro b10 wB hb10 B10 KB; have d4 := (BA.keep KB id).cell 4; simp only [List.getElem?_cons_zero, List.getElem?_cons_succ] at d4) | (go_at_call 26; refine (equal_calls _ none none 0 0 0 0 [] [] rfl rfl (by intro j u h; cases h) (by intro j u h; cases h)).mono ?_; rintro e w' ⟨rfl, rfl⟩))
          go_roundw
          case rel => exact ⟨(k : Int) + 1, by go_num, by omega, by omega, (HK.trans KA (fun _ _ h => h)).trans KB (fun _ _ h => h)⟩
          case measure => simp [intOf] <;> omega
        | false =>
          go_wp2_with (first | (go_at_call 25; refine (read_ok HDr.out Hdn.out.symm hok hr k hkl).mono ?_; rintro e wR ⟨b, rfl, hb, BR5, KR⟩; have BR := HB.keep KR id; have e0 := BR.cell 0; have e4 := BR.cell 4; simp only [List.getElem?_cons_zero, List.getElem?_cons_succ] at e0 e4) | (guard_target = wpList _ _ _ (Oper.mk _ (Op.load 30 _) _ _ _ _ :: _) _ _; refine wpList_load_blk rfl 30 _ rfl b3 0 _ [.slice Al n cl, .slice Ar m cr, .int .i64 op, .int .i64 fu, .bool false] 30 _ (by rfl) BR (fun j v h => by simpa using h) Try.underlying30 rfl info30 ?_) | (go_at_call 55; have HAT := st_at (HRr.out.keep KR (Dj.noth _)) hok hr k hkl; rw [Hst.out] at HAT; refine HAT.mono ?_; clear HAT; rintro e wA ⟨rfl, KA⟩; have BA := BR.keep KA id) | (guard_target = wpList _ _ _ (Oper.mk _ (Op.alloc _) _ _ _ _ :: _) _ _; refine wpList_alloc_store rfl 52 rfl 10 _ rfl (by rfl) rfl rfl (by decide) zv (bv (D.at k)) (by rw [bv_length, H64.out]; exact info52) (bv zb) zv_cells (by rw [bv_length, H64.out, bvz_length]) (by rfl) (bv_one _) ?_; intro b10 wB hb10 B10 KB; have d4 := (BA.keep KB id).cell 4; simp only [List.getElem?_cons_zero, List.getElem?_cons_succ] at d4) | (go_at_call 26; refine (equal_calls _ (some ⟨b, 0, none⟩) (some ⟨b10, 0, none⟩) 64 64 64 64 (D.at k) (D.at k) H64.out.symm H64.out.symm (Reads.of_range ((BR5.keep KA id).keep KB id).rangeAll) (Reads.of_range B10.rangeAll)).mono ?_; rintro e w' ⟨rfl, rfl⟩; rw [beq_self_eq_true]))
          go_roundw
          case rel => exact ⟨(k : Int) + 1, by go_num, by omega, by omega, ((HK.trans KR (fun _ _ h => h)).trans KA (fun _ _ h => h)).trans KB (fun _ _ h => h)⟩
          case measure => simp [intOf] <;> omega
      · have hor : k = -1 ∨ k = n := by omega
        have hout : k < 0 ∨ (D.l.length : Int) ≤ k := by have := Hnn.out; omega
        clear hin
        rcases hor with rfl | rfl
        · cases dn with
          | true =>
            go_wp2_with (first | (go_at_call 25; refine (read_down HDr.out Hdn.out.symm (-1)).mono ?_; rintro e w' ⟨rfl, rfl⟩) | (go_at_call 26; refine (equal_calls _ none none 0 0 0 0 [] [] rfl rfl (by intro j u h; cases h) (by intro j u h; cases h)).mono ?_; rintro e w' ⟨rfl, rfl⟩))
            go_roundw
            case rel => exact ⟨(-1) + 1, by go_num, by omega, by omega, HK⟩
            case measure => simp [intOf] <;> omega
          | false =>
            go_wp2_with (first | (go_at_call 25; refine (read_at HDr.out Hdn.out.symm (-1) hout).mono ?_; rintro e w' ⟨rfl, rfl⟩) | (go_at_call 26; refine (equal_calls _ none none 0 0 0 0 [] [] rfl rfl (by intro j u h; cases h) (by intro j u h; cases h)).mono ?_; rintro e w' ⟨rfl, rfl⟩))
            go_roundw
            case rel => exact ⟨(-1) + 1, by go_num, by omega, by omega, HK⟩
            case measure => simp [intOf] <;> omega
        · cases dn with
          | true =>
            go_wp2_with (first | (go_at_call 25; refine (read_down HDr.out Hdn.out.symm (n : Int)).mono ?_; rintro e w' ⟨rfl, rfl⟩) | (go_at_call 26; refine (equal_calls _ none none 0 0 0 0 [] [] rfl rfl (by intro j u h; cases h) (by intro j u h; cases h)).mono ?_; rintro e w' ⟨rfl, rfl⟩))
            go_roundw
            case rel => exact ⟨(n : Int) + 1, by go_num, by omega, by omega, HK⟩
            case measure => simp [intOf] <;> omega
          | false =>
            go_wp2_with (first | (go_at_call 25; refine (read_at HDr.out Hdn.out.symm (n : Int) hout).mono ?_; rintro e w' ⟨rfl, rfl⟩) | (go_at_call 26; refine (equal_calls _ none none 0 0 0 0 [] [] rfl rfl (by intro j u h; cases h) (by intro j u h; cases h)).mono ?_; rintro e w' ⟨rfl, rfl⟩))
            go_roundw
            case rel => exact ⟨(n : Int) + 1, by go_num, by omega, by omega, HK⟩
            case measure => simp [intOf] <;> omega
    · have hge : k = n + 1 := by omega
      subst hge
      go_wp2_with fail
      go_ret
      exact ⟨rfl, K1.trans HK (fun _ _ h => h)⟩
end Go.Proofs.Ytffcglfepobdjaa
/- What BlockFlushed asks of the device: plain law; a map that the call owns. -/
set_option linter.unusedVariables false
set_option linter.unusedSimpArgs false
set_option maxRecDepth 10000
namespace Go.Proofs.Ytffcglfepobdjaa
open Go.RowKit Go.Maps

theorem crashK_else (fs : List Int) (l : List Bk) (row : List (Nat × Bk)) (i : Nat) (h : ∀ p ∈ row, p.1 ≠ i) : ∀ k, k ≤ row.length → (crashK fs l row k).getD i [] = l.getD i []
  | 0, _ => rfl
  | k + 1, hk => by
    have e : row.getD k (0, []) = row[k] := by simp [List.getD_eq_getElem?_getD, show k < row.length by omega]
    rw [crashK, crash1, e, List.getD_eq_getElem?_getD, List.getElem?_set_ne (h _ (List.getElem_mem (by omega))), ← List.getD_eq_getElem?_getD]
    exact crashK_else fs l row i h k (by omega)
theorem crash_at_else {D : DS} (fs : List Int) {i : Nat} (h : ∀ p ∈ D.row, p.1 ≠ i) : (D.crash fs).at i = D.l.getD i [] := crashK_else fs D.l D.row i h _ (Nat.le_refl _)
theorem flatten_block : ∀ (l : List Bk) (i : Nat), (∀ b ∈ l, b.length = 64) → i < l.length → (l.flatten.drop (i * 64)).take 64 = l.getD i []
  | [], i, _, h => by simp at h
  | b :: l, 0, he, _ => by
    have hb := he b (by simp)
    rw [Nat.zero_mul, List.drop_zero, List.flatten_cons, List.take_append_of_le_length (by omega), ← hb, List.take_length]
    rfl
  | b :: l, i + 1, he, h => by
    have hb := he b (by simp)
    have ih := flatten_block l i (fun c hc => he c (by simp [hc])) (by simpa using h)
    rw [List.flatten_cons, Nat.succ_mul, Nat.add_comm, ← List.drop_drop]
    rw [show List.drop 64 (b ++ l.flatten) = l.flatten by rw [← hb, List.drop_left]]
    rw [ih]; rfl
theorem flatten_length64 : ∀ (l : List Bk), (∀ b ∈ l, b.length = 64) → l.flatten.length = l.length * 64
  | [], _ => rfl
  | b :: l, h => by rw [List.flatten_cons, List.length_append, flatten_length64 l (fun c hc => h c (by simp [hc])), h b (by simp), List.length_cons]; omega

/-- A device that was never armed. -/
structure Calm (D : DS) : Prop where
  fuse : D.fuse = -1
  down : D.down = false
theorem calm_new (n : Nat) : Calm (DS.new n) := ⟨rfl, rfl⟩
theorem calm_write {D : DS} (h : Calm D) (k : Int) (b : List UInt8) :
    (D.write k b = (D, 101)) ∨ (0 ≤ k ∧ k < D.l.length ∧ D.write k b = ((D.put k.toNat b).tick, 0)) := by
  unfold DS.write
  rw [h.down, h.fuse]
  simp only [Bool.false_eq_true, if_false]
  split
  · exact .inl rfl
  · exact .inr ⟨by omega, by omega, rfl⟩
theorem calm_tick {D : DS} (h : Calm D) : Calm D.tick := ⟨by simp only [DS.tick, h.fuse]; omega, by simp [DS.tick, h.fuse]⟩
theorem calm_put {D : DS} (h : Calm D) (k : Nat) (b : List UInt8) : Calm (D.put k b) := ⟨h.fuse, h.down⟩
theorem calm_flush {D : DS} (h : Calm D) : D.flush = (D.flushed, 0) ∧ Calm D.flushed := by
  refine ⟨?_, ⟨(calm_tick h).fuse, (calm_tick h).down⟩⟩
  unfold DS.flush
  rw [h.down, h.fuse]
  rfl

/-! ### The map -/
abbrev i64l (z : Int) : DataW Unit := .lit (.int .i64 z)
abbrev SMap (w : World) (b n : Nat) (M : DataW Unit) : Prop := w.ownsMap Try.prog 3 (plainElem Try.prog 3) b n M
theorem law3 : Keyed Try.prog 3 := int_keyed Try.underlying3
theorem zero3 (w : World) : (zeroValue 3).run Try.prog w = .ok (.int .i64 0) w := by kernel_rfl
theorem key3 {z : Int} (h1 : -9223372036854775808 ≤ z) (h2 : z ≤ 9223372036854775807) : keyOf Try.prog 3 (.int .i64 z) = some (.int .i64 z) := keyOf_int_mk Try.underlying3 (by simp [Lit.wf, IntKind.min, IntKind.max, IntKind.signed, IntKind.bits]; omega)
theorem SMap.keep {w w' : World} {F : Nat → Prop} {b n : Nat} {M : DataW Unit} (h : SMap w b n M) (hk : Keep F w w') (hb : ¬ F b) : SMap w' b n M := by
  have hlt := World.ownsMap.lt h
  obtain ⟨es, clock, h1, h2⟩ := h
  exact ⟨es, clock, (hk.block b hlt hb).trans h1, h2⟩
/-- What was written since the last flush is in the map. -/
def Since (M : DataW Unit) (row : List (Nat × Bk)) : Prop := ∀ p ∈ row, M.atKey (.int .i64 (p.1 : Int)) (i64l 0) = i64l 1
theorem since_nil (M : DataW Unit) : Since M [] := fun p hp => by cases hp
theorem since_put {M : DataW Unit} {row : List (Nat × Bk)} (h : Since M row) (hM : IsMap M) (k : Nat) (b : Bk) : Since (M.put (.int .i64 (k : Int)) (i64l 1)) (row ++ [(k, b)]) := by
  intro p hp
  by_cases hk : (p.1 : Int) = k
  · rw [hk]
    exact atKey_put_same hM (by simp [WideAt.IsKeyLit]) _ _
  · rw [atKey_put_other (by simp; omega)]
    rcases List.mem_append.1 hp with hp | hp
    · exact h p hp
    · rw [List.mem_singleton.1 hp] at hk; exact absurd rfl hk
theorem since_not {M : DataW Unit} {row : List (Nat × Bk)} (h : Since M row) {i : Nat} {c : Int} (hat : M.atKey (.int .i64 (i : Int)) (i64l 0) = i64l c) (hc : c = 0) : ∀ p ∈ row, p.1 ≠ i := by
  intro p hp e
  have h1 := h p hp
  rw [e, hat, hc] at h1
  simp [i64l] at h1
end Go.Proofs.Ytffcglfepobdjaa
/- A device of an image: the plain law. -/
set_option linter.unusedVariables false
set_option linter.unusedSimpArgs false
namespace Go.Proofs.Ytffcglfepobdjaa
open Go.RowKit

theorem fillz_full (b : List UInt8) (h : b.length = 64) : fillz b = b := by
  unfold fillz splice
  simp [zb, h]
theorem of_l (im : List UInt8) : (DS.of im).l = (List.range (ofN im)).map fun j => chunk im (64 * j) := by
  show ofL im _ _ = _
  unfold ofL
  refine List.map_congr_left fun j hj => ?_
  simp [List.mem_range.1 hj]
theorem ofN_one (im : List UInt8) : 1 ≤ ofN im := by unfold ofN clampN; omega
theorem ofN_most (im : List UInt8) : ofN im ≤ 4096 := by unfold ofN clampN; omega
theorem of_len (im : List UInt8) : (DS.of im).l.length = ofN im := ofL_length _ _ _
theorem of_ok (im : List UInt8) : (DS.of im).ok :=
  ⟨fun b hb => by rw [of_l] at hb; simp only [List.mem_map] at hb; obtain ⟨j, _, rfl⟩ := hb; exact chunk_length _ _, fun p hp => by simp [DS.of] at hp, by rw [of_len]; exact ofN_one im, by rw [of_len]; exact ofN_most im, by simp [DS.of], by simp [DS.of]⟩
theorem of_all (im : List UInt8) : (DS.of im).all = (DS.of im).l := rfl
theorem of_image_length (im : List UInt8) : (DS.of im).image.length = ofN im * 64 := by
  unfold DS.image
  rw [flatten_length64 _ (all_64 (of_ok im)), of_all, of_len]
theorem of_block (im : List UInt8) (j : Nat) (hj : j < ofN im) : ((DS.of im).image.drop (64 * j)).take 64 = chunk im (64 * j) := by
  unfold DS.image
  rw [Nat.mul_comm, flatten_block _ _ (all_64 (of_ok im)) (by rw [of_all, of_len]; exact hj), of_all, of_l]
  simp [hj, Nat.mul_comm]
/-- The image's bytes stand first. -/
theorem of_prefix (im : List UInt8) (hl : im.length ≤ 262144) : (DS.of im).image.take im.length = im := by
  have hn : im.length ≤ ofN im * 64 := by unfold ofN clampN; omega
  apply List.ext_getElem?
  intro i
  rw [List.getElem?_take]
  split
  · rename_i h
    have hj : i / 64 < ofN im := by omega
    have hb := of_block im (i / 64) hj
    have h1 : (((DS.of im).image.drop (64 * (i / 64))).take 64)[i % 64]? = (DS.of im).image[i]? := by
      rw [List.getElem?_take, if_pos (by omega), List.getElem?_drop]
      congr 1
      omega
    rw [← h1, hb]
    unfold chunk fillz splice
    rw [List.take_zero, List.nil_append, Nat.zero_add, List.getElem?_append_left (by rw [List.length_take, List.length_drop]; omega), List.getElem?_take, if_pos (by omega), List.getElem?_drop]
    congr 1
    omega
  · rename_i h
    rw [List.getElem?_eq_none (by omega)]
theorem of_again_n (im : List UInt8) : ofN (DS.of im).image = ofN im := by
  have h1 := ofN_one im
  have h2 := ofN_most im
  have h3 := of_image_length im
  have h4 : ofN (DS.of im).image = clampN ((((DS.of im).image.length + 63) / 64 : Nat) : Int) := rfl
  rw [h4, h3]
  unfold clampN
  omega
theorem of_again (im : List UInt8) : DS.of (DS.of im).image = DS.of im := by
  have hl : (DS.of (DS.of im).image).l = (DS.of im).l := by
    rw [of_l, of_l, of_again_n]
    refine List.map_congr_left fun j hj => ?_
    have := of_block im j (List.mem_range.1 hj)
    show fillz _ = _
    rw [this]
    exact fillz_full _ (chunk_length _ _)
  have h1 : DS.of (DS.of im).image = ⟨(DS.of (DS.of im).image).l, [], 0, -1, false⟩ := rfl
  rw [h1, hl]
  rfl
end Go.Proofs.Ytffcglfepobdjaa
/- BlockImages: the walk. -/
set_option linter.unusedVariables false
set_option linter.unusedSimpArgs false
set_option maxRecDepth 10000
set_option maxHeartbeats 1500000
namespace Go.Proofs.Ytffcglfepobdjaa
open Go.RowKit

section
variable {P : Program} {ops : Array Oper} {rest : List Oper} {o : Oper} {a : Act} {w : World} {Q : Exit → Act → World → Prop}
/-- 'wpList_run' behind a guard that says yes. -/
theorem wpList_run_w (hw : Region.wanted o (yielded ops a.tmps) = true) (v : Value) (w1 : World) (hr : (execOp a.eval o).run P w = .ok (.value v) w1) (h : wpList P ops Q rest (a.put o.dst v) w1) : wpList P ops Q (o :: rest) a w := by
  refine BigFrame.wpList_want hw fun K' hK' => ?_
  unfold Oper.wp
  rw [hr]
  exact hK' _ _ h
theorem wpList_loadw_blk (hw : Region.wanted o (yielded ops a.tmps) = true) (ty : TypeId) (x : Operand) (ho : o.op = .load ty x) (b k : Nat) (zs cs : List Value) (t : TypeId) (d : TypeDesc) {z : Option Value} {bytes : Nat}
    (hx : a.eval x = .pointer (some ⟨b, k, none⟩)) (hb : BlockIs w b zs t) (hc : ∀ j v, cs[j]? = some v → zs[k + j]? = some v)
    (hu : P.underlying ty = some d) (hd : d.isRow = true) (hi : (P.info? ty).map (fun i => (i.zero, i.size, i.bytes)) = some (z, cs.length, bytes))
    (h : wpList P ops Q rest (a.put o.dst (.agg cs.toArray)) w) : wpList P ops Q (o :: rest) a w :=
  wpList_run_w hw _ _ (exec_load_blk ty x ho b k zs cs t d hx hb hc hu hd hi) h
end
theorem Rows.cap_le {w : World} {F : Nat → Prop} {e : TypeId} {size : Nat} {A : Option Addr} {n c : Nat} {xs : List (List Value)} (h : Rows w F e size (.slice A n c) xs) : xs.length ≤ c := by
  rcases h.own.2 with ⟨hv, h0⟩ | ⟨g, cap, cur, hv, _, _, h1, _⟩
  · omega
  · simp only [Value.slice.injEq] at hv
    omega

theorem images_calls (w : World) (A : Option Addr) (c : Nat) (im : List UInt8) (hA : Reads w A (bv im)) (hc : im.length ≤ c) (hcm : c ≤ maxLen) :
    Calls Try.prog 8 #[.slice A im.length c] w (fun e w' => e = .returned (.bool true) ∧ Keep Noth w w') := by
  by_cases hbig : 3000 < im.length
  · have hb' : (3000 : Int) < im.length := by omega
    go_enter Try.func8, Try.ntmps8
    go_wp2_with (go_at_call 16; refine (alive_calls w).mono ?_; rintro e w12 ⟨rfl, K12⟩)
    go_ret
    exact ⟨rfl, K12⟩
  · have hl : im.length ≤ 3000 := by omega
    have hb' : ¬ (3000 : Int) < im.length := by omega
    have hok := of_ok im
    have HA := hid hA
    obtain ⟨D, hD⟩ : ∃ D, D = DS.of im := ⟨_, rfl⟩
    have hrow : D.row.length ≤ 1099511627776 := by rw [hD]; exact Nat.zero_le _
    have hpre := of_prefix im (by omega)
    have hagain := of_again im
    have hlen := of_image_length im
    have hN : ofN im ≤ 4096 := ofN_most im
    have h1 := of_calls0 w A c im hA (by omega) hc
    rw [← hD] at hok hpre hagain hlen h1
    have Hpre := hid hpre
    have Hagain := hid hagain
    have Hlen := hid hlen
    have HD := hid hD
    clear hA hpre hagain hlen hD
    go_enter Try.func8, Try.ntmps8
    go_wp2_with fail
    refine h1.mono ?_
    rintro e w1 ⟨g, rfl, D1, K1⟩
    clear h1
    have h2 := st_of w1 A c im (HA.out.keep K1 (fun _ _ => id)) (by omega)
    rw [← HD.out] at h2
    go_wp2_with fail
    refine h2.mono ?_
    rintro e w2 ⟨vl, rfl, S2, K2⟩
    clear h2
    have D2 := D1.keep K2 (Dj.noth _)
    clear D1
    obtain ⟨sv, hsv⟩ : ∃ sv, sv = stv vl (.slice none 0 0) D := ⟨_, rfl⟩
    have Hsl : Hid (sv.length = 5) := by show _ = _; rw [hsv]; rfl
    have Hs1 : Hid (∀ u ∈ sv, u.oneCell' = true) := by show ∀ u ∈ sv, _; rw [hsv]; exact stv_one D S2.l.one_val.1 rfl
    rw [← hsv]
    have Hsv := hid hsv
    clear hsv
    go_wp2_with (first
      | (guard_target = wpList _ _ _ (Oper.mk _ (Op.alloc _) _ _ _ _ :: _) _ _; refine wpList_alloc_v rfl 30 rfl zst info30 stz zst_cells ?_; intro b4 w3 hb4 B3 K3)
      | (guard_target = wpList _ _ _ (Oper.mk _ (Op.store _ _ _) _ _ _ _ :: _) _ _; refine wpList_store_whole rfl 30 _ _ rfl b4 stz sv 30 (by rfl) (by rfl) B3 (by rw [Hsl.out]; rfl) (by rw [Hsl.out]; exact info30) Hs1.out ?_; intro w4 B4 K4)
      | (guard_target = wpList _ _ _ (Oper.mk _ (Op.load 30 _) _ _ _ _ :: _) _ _; refine wpList_loadw_blk (by rfl) 30 _ rfl b4 0 sv sv 30 _ (by rfl) B4 (part0 _) Try.underlying30 rfl (by rw [Hsl.out]; exact info30) ?_))
    have K24 : Keep Noth w2 w4 := K3.own K4 (fun q e => by unfold Only at e; subst e; exact hb4)
    have D4 := D2.keep K24 (Dj.noth _)
    have S4 := S2.keep K24 (Dj.noth _)
    have K04 : Keep Noth w w4 := (K1.trans K2 (fun _ _ h => h)).trans K24 (fun _ _ h => h)
    clear D2 S2 K3 K4 K24 K1 K2 B3
    have h3 := st_stands D4 S4 hok hrow
    rw [← Hsv.out] at h3
    refine h3.mono ?_
    rintro e w5 ⟨rfl, K5⟩
    clear h3
    have D5 := D4.keep K5 (Dj.noth _)
    have S5 := S4.keep K5 (Dj.noth _)
    have B5 := B4.keep K5 id
    have K05 : Keep Noth w w5 := K04.trans K5 (fun _ _ h => h)
    clear D4 S4 B4 K5 K04
    obtain ⟨vl5, vr5, A5⟩ := D5
    go_wp2_with fail
    refine (image_calls A5 hok hrow).mono ?_
    rintro e w6 ⟨vi, rfl, I6, K6⟩
    obtain ⟨Ai, ci, rfl⟩ := I6.valm
    have hci := I6.cap_le
    rw [u1_length] at hci
    have D6 : DevIs w6 _ g D := DevIs.keep ⟨_, _, A5⟩ K6 (Dj.noth _)
    have S6 := S5.keep K6 (Dj.noth _)
    have B6 := B5.keep K6 id
    have K06 : Keep Noth w w6 := K05.trans K6 (fun _ _ h => h)
    have hle : im.length ≤ D.image.length := by have h9 := congrArg List.length Hpre.out; rw [List.length_take] at h9; omega
    have hpf := hasPrefix_calls w6 Ai A D.image.length im.length ci c D.image im rfl rfl (Bytes.same_as I6) (HA.out.keep K06 (fun _ _ => id)) hle hci (by rw [Hlen.out]; omega)
    rw [Hpre.out, show (im == im) = true by simp] at hpf
    go_wp2_with fail
    refine hpf.mono ?_
    rintro e w' ⟨rfl, rfl⟩
    clear hpf I6 hci A5 S5 B5 K05 K6
    obtain ⟨vl6, vr6, A6⟩ := D6
    go_wp2_with fail
    refine (image_calls A6 hok hrow).mono ?_
    rintro e w7 ⟨vj, rfl, I7, K7⟩
    obtain ⟨Aj, cj, rfl⟩ := I7.valm
    have hcj := I7.cap_le
    rw [u1_length] at hcj
    have S7 := S6.keep K7 (Dj.noth _)
    have B7 := B6.keep K7 id
    have K07 : Keep Noth w w7 := K06.trans K7 (fun _ _ h => h)
    have h4 := of_calls0 w7 Aj cj D.image (Bytes.same_as I7) (by rw [Hlen.out]; omega) hcj
    rw [Hagain.out] at h4
    clear A6 S6 B6 K06 K7 I7 hcj
    go_wp2_with fail
    refine h4.mono ?_
    rintro e w8 ⟨ge, rfl, D8, K8⟩
    clear h4
    have S8 := S7.keep K8 (Dj.noth _)
    have B8 := B7.keep K8 id
    have K08 : Keep Noth w w8 := K07.trans K8 (fun _ _ h => h)
    clear S7 B7 K07 K8
    go_wp2_with fail
    refine (alive_calls w8).mono ?_
    rintro e w9 ⟨rfl, K9⟩
    have D9 := D8.keep K9 (Dj.noth _)
    have S9 := S8.keep K9 (Dj.noth _)
    have B9 := B8.keep K9 id
    have K09 : Keep Noth w w9 := K08.trans K9 (fun _ _ h => h)
    clear D8 S8 B8 K08 K9
    go_wp2_with (guard_target = wpList _ _ _ (Oper.mk _ (Op.load 30 _) _ _ _ _ :: _) _ _; refine wpList_loadw_blk (by rfl) 30 _ rfl b4 0 sv sv 30 _ (by rfl) B9 (part0 _) Try.underlying30 rfl (by rw [Hsl.out]; exact info30) ?_)
    have h5 := st_stands D9 S9 hok hrow
    rw [← Hsv.out] at h5
    refine h5.mono ?_
    rintro e w10 ⟨rfl, K10⟩
    have K010 : Keep Noth w w10 := K09.trans K10 (fun _ _ h => h)
    clear h5 D9 S9 B9 K09 K10
    go_wp2_with fail
    go_ret
    exact ⟨rfl, K010⟩
end Go.Proofs.Ytffcglfepobdjaa
/- The reference's Do: results that lie in a variable and a slot; a write built; the frame of all kinds. -/
set_option linter.unusedVariables false
set_option linter.unusedSimpArgs false
set_option maxRecDepth 10000
set_option maxHeartbeats 1500000
namespace Go.Proofs.Ytffcglfepobdjaa
open Go.RowKit
section
variable {P : Program} {w : World} {ops : Array Oper} {rest : List Oper} {o : Oper} {a : Act} {Q : Exit → Act → World → Prop}
/-- Two results: one lies in a variable, one in a slot. -/
theorem ret_cell_tmp {fn : Func} {R : Ending → World → Prop} {p u : Tmp} {ty : TypeId} (h : fn.results = #[.cell p ty, .tmp u]) (b : Nat) (cs : List Value) (t : TypeId) (d : TypeDesc) (v : Value) {z : Option Value} {bytes : Nat}
    (hx : a.tmps.getD p undef = .pointer (some ⟨b, 0, none⟩)) (hy : a.tmps.getD u undef = v) (hB : BlockIs w b cs t) (hu : P.underlying ty = some d) (hd : d.isRow = true) (hi : (P.info? ty).map (fun i => (i.zero, i.size, i.bytes)) = some (z, cs.length, bytes))
    (hdf : a.defers = []) (hR : R (.returned (.tuple #[.agg cs.toArray, v])) w) : bodyPost P fn R .ret a w := by
  refine bodyPost_ret (v := .tuple #[.agg cs.toArray, v]) ?_ hdf hR
  have hl := run_loadVar_mid w b 0 ty cs d hB.rangeAll hu hd (info_size hi)
  rw [results_cell_tmp h, hx, hy]
  simp [asAddr, Sem.run_bind, hl, Result.andThen]
end

theorem foldl_set_splice (off : Nat) : ∀ (l : List Value) (k : Nat) (A : Array Value), off + k + l.length ≤ A.size → (l.zipIdx k).foldl (fun cs (p : Value × Nat) => cs.setIfInBounds (off + p.2) p.1) A = (Go.splice A.toList (off + k) l).toArray := by
  intro l
  induction l with
  | nil => intro k A _; simp [splice_nil]
  | cons v l ih =>
    intro k A hk
    simp only [List.length_cons] at hk
    rw [List.zipIdx_cons, List.foldl_cons, ih (k + 1) _ (by simp; omega)]
    simp only [Array.toList_setIfInBounds]
    rw [show off + (k + 1) = off + k + 1 by omega, splice_cons _ _ _ _ (by simp; omega)]
theorem fill_cons (place : Nat → Option (Nat × Nat)) (A : Array Value) (i off size : Nat) (v : Value) (l : List Value) (rest : List (Nat × Value)) (hp : place i = some (off, size)) (hv : v.cells = l.toArray) (hl : l.length = size) (hs : off + size ≤ A.size) :
    Instr.fill place A ((i, v) :: rest) = Instr.fill place (Go.splice A.toList off l).toArray rest := by
  have h := foldl_set_splice off l 0 A (by omega)
  rw [Nat.add_zero] at h
  rw [Instr.fill, hp]
  simp only [hv, List.size_toArray, hl]
  have hg : ¬ (off + size > A.size) := by omega
  simp only [ne_eq, not_true_eq_false, decide_false, Bool.false_or, decide_eq_true_eq, hg, if_false]
  congr 1
  rw [← h, ← Array.foldl_toList]
  congr 1
  simp
theorem built54 (parts : List (Nat × Value)) : Try.prog.built 54 parts = Instr.fill (#[(0, 1), (1, 64)][·]?) (wv (0, zb)).toArray parts := by kernel_rfl
theorem build54 (k : Int) (cs : List Value) (hl : cs.length = 64) (W : World) : (Instr.build 54 #[(0, .int .i64 k), (1, .agg cs.toArray)]).run Try.prog W = .ok (.agg (.int .i64 k :: cs).toArray) W := by
  refine run_build W 54 _ _ ?_
  rw [built54]
  show Instr.fill _ _ [(0, .int .i64 k), (1, .agg cs.toArray)] = _
  rw [fill_cons _ _ 0 0 1 _ [.int .i64 k] _ rfl rfl rfl (by simp [wv, zb])]
  rw [fill_cons _ _ 1 1 64 _ cs _ rfl rfl hl (by rw [List.size_toArray, length_splice _ _ _ (by simp [wv])]; simp [wv, zb])]
  rw [Instr.fill]
  simp [splice, zb, hl, wv]
theorem build30c (A : Option Addr) (n c : Nat) (ops : Int) (W : World) : (Instr.build 30 #[(0, .slice A n c), (2, .int .i64 ops), (3, .int .i64 (-1))]).run Try.prog W = .ok (.agg [.slice A n c, .slice none 0 0, .int .i64 ops, .int .i64 (-1), .bool false].toArray) W := by kernel_rfl
end Go.Proofs.Ytffcglfepobdjaa
/- The reference's Do, but a crash. -/
set_option linter.unusedVariables false
set_option linter.unusedSimpArgs false
set_option maxRecDepth 10000
set_option maxHeartbeats 1500000
namespace Go.Proofs.Ytffcglfepobdjaa
open Go.RowKit

/-- What Do leaves. -/
def DoPost (w : World) (F : Nat → Prop) (R : DS × Int) (e : Ending) (w' : World) : Prop :=
  ∃ vl vr, e = .returned (.tuple #[.agg (stv vl vr R.1).toArray, .int .i64 R.2]) ∧ StAt w' (grow F w w') vl vr R.1 ∧ Keep Noth w w'
theorem DoPost.same {w w' : World} {F : Nat → Prop} {vl vr : Value} {D : DS} {E : Int} {SV : List Value} (H : StAt w F vl vr D) (hst : stv vl vr D = SV) (K : Keep Noth w w') : DoPost w F (D, E) (.returned (.tuple #[.agg SV.toArray, .int .i64 E])) w' :=
  ⟨vl, vr, by rw [← hst], (H.keep K (Dj.noth _)).mono (fun q h => .inl h), K⟩
theorem Keep.noth4 {w w1 w2 w3 w9 : World} {b4 : Nat} (K1 : Keep Noth w w1) (K2 : Keep Noth w1 w2) (K3 : Keep Noth w2 w3) (hb4 : w2.heap.size ≤ b4) (K9 : Keep (Only b4) w3 w9) : Keep Noth w w9 := by
  have h1 := K1.size
  have h2 := K2.size
  exact ((K1.trans K2 (fun _ _ h => h)).trans K3 (fun _ _ h => h)).own K9 (fun q e => by unfold Only at e; subst e; omega)
theorem Rows.none_cap {w : World} {F : Nat → Prop} {e : TypeId} {size : Nat} {A : Option Addr} {n c : Nat} {xs : List (List Value)} (h : Rows w F e size (.slice A n c) xs) : A = none → c = 0 := by
  rintro rfl
  rcases h.own.2 with ⟨hv, h0⟩ | ⟨g, cap, cur, hv, _⟩
  · simp only [Value.slice.injEq] at hv; exact hv.2.2
  · simp at hv

theorem do_none {w : World} {F : Nat → Prop} {vl vr : Value} {D : DS} (H : StAt w F vl vr D) (hok : D.ok) (ho : D.ops ≤ 1099511627776) (hr : D.row.length ≤ 1099511627776) (o : OpV) (hoo : o.ok) (Ab Af : Option Addr) (cb cf : Nat) (h0 : o.kind ≠ 0) (h1 : o.kind ≠ 1) (h2 : o.kind ≠ 2) (h3 : o.kind ≠ 3) :
    Calls Try.prog 20 #[.agg (stv vl vr D).toArray, .agg (opv o Ab Af cb cf).toArray] w (DoPost w F (D, 0)) := by
  obtain ⟨Al, cl, rfl⟩ := H.l.valm
  obtain ⟨Ar, cr, rfl⟩ := H.row.valm
  obtain ⟨n, hn⟩ : ∃ n, n = D.l.length := ⟨_, rfl⟩
  obtain ⟨m, hm⟩ : ∃ n, n = D.row.length := ⟨_, rfl⟩
  obtain ⟨op, hop⟩ : ∃ n : Int, n = (D.ops : Int) := ⟨_, rfl⟩
  obtain ⟨fu, hfu⟩ : ∃ n : Int, n = D.fuse := ⟨_, rfl⟩
  obtain ⟨dn, hdn⟩ : ∃ n : Bool, n = D.down := ⟨_, rfl⟩
  obtain ⟨kd, hkd⟩ : ∃ n : Int, n = o.kind := ⟨_, rfl⟩
  obtain ⟨ok, hok1⟩ : ∃ n : Int, n = o.k := ⟨_, rfl⟩
  obtain ⟨nb, hnb⟩ : ∃ n : Nat, n = o.b.length := ⟨_, rfl⟩
  obtain ⟨nf, hnf⟩ : ∃ n : Nat, n = o.forms.length := ⟨_, rfl⟩
  have hst : (stv (.slice Al D.l.length cl) (.slice Ar D.row.length cr) D) = [.slice Al n cl, .slice Ar m cr, .int .i64 op, .int .i64 fu, .bool dn] := by rw [hn, hm, hop, hfu, hdn]; rfl
  have hov : opv o Ab Af cb cf = [.int .i64 kd, .int .i64 ok, .slice Ab nb cb, .slice Af nf cf] := by rw [hkd, hok1, hnb, hnf]; rfl
  have hkk := hoo.kind
  have hk1 := hoo.k
  rw [← hkd] at hkk
  rw [← hok1] at hk1
  have hkk1 := hkk.1
  have hkk2 := hkk.2
  have hk11 := hk1.1
  have hk12 := hk1.2
  have Hst := hid hst
  rw [hst, hov]
  have HR := hid H
  have Hn := hid hn
  have Hm := hid hm
  have Hop := hid hop
  have Hfu := hid hfu
  have Hdn := hid hdn
  have Hok := hid hok1
  have Hnb := hid hnb
  clear hkk hk1 hst hov hn hm hop hfu hdn hok1 hnb hnf H
  rw [← hkd] at h0 h1 h2 h3
  have b0 : (kd == 0) = false := by simpa using h0
  have b1 : (kd == 1) = false := by simpa using h1
  have b2' : (kd == 2) = false := by simpa using h2
  have b3' : (kd == 3) = false := by simpa using h3
  clear h0 h1 h2 h3 hkd
  go_enter Try.func20, Try.ntmps20
  go_wp2_with (first
    | (guard_target = wpList _ _ _ (Oper.mk _ (Op.box 30 _) _ _ _ _ :: _) _ _; refine wpList_box_v rfl 30 _ rfl [.slice Al n cl, .slice Ar m cr, .int .i64 op, .int .i64 fu, .bool dn] (by rfl) ?_; intro b2 w1 hb2 B1 K1)
    | (guard_target = wpList _ _ _ (Oper.mk _ (Op.box 36 _) _ _ _ _ :: _) _ _; refine wpList_box_v rfl 36 _ rfl [.int .i64 kd, .int .i64 ok, .slice Ab nb cb, .slice Af nf cf] (by rfl) ?_; intro b3 w2 hb3 C2 K2; have B2 := B1.keep K2 id)
    | (guard_target = wpList _ _ _ (Oper.mk _ (Op.alloc 30) _ _ _ _ :: _) _ _; refine wpList_alloc_v rfl 30 rfl zst info30 stz zst_cells ?_; intro b4 w3 hb4 D3 K3; have B3 := B2.keep K3 id; have C3 := C2.keep K3 id; have k0 := C3.cell 0; have k1 := C3.cell 1; have k2 := C3.cell 2; have k3 := C3.cell 3; have s0 := B3.cell 0; have s4 := B3.cell 4; have s3 := B3.cell 3; simp only [List.getElem?_cons_zero, List.getElem?_cons_succ] at k0 k1 k2 k3 s0 s3 s4)
    | (guard_target = wpList _ _ _ (Oper.mk _ (Op.load 30 _) _ _ _ _ :: _) _ _; refine wpList_load_blk rfl 30 _ rfl b2 0 [.slice Al n cl, .slice Ar m cr, .int .i64 op, .int .i64 fu, .bool dn] [.slice Al n cl, .slice Ar m cr, .int .i64 op, .int .i64 fu, .bool dn] 30 _ (by rfl) B3 (part0 _) Try.underlying30 rfl info30 ?_)
    | (guard_target = wpList _ _ _ (Oper.mk _ (Op.store 30 _ _) _ _ _ _ :: _) _ _; refine wpList_store_whole rfl 30 _ _ rfl b4 stz [.slice Al n cl, .slice Ar m cr, .int .i64 op, .int .i64 fu, .bool dn] 30 (by rfl) (by rfl) D3 (by rfl) info30 (st5_one rfl rfl _ _ _) ?_; intro w9 D9 K9))
  refine ret_cell_tmp rfl b4 [.slice Al n cl, .slice Ar m cr, .int .i64 op, .int .i64 fu, .bool dn] 30 _ (.int .i64 0) (by rfl) (by rfl) D9 Try.underlying30 rfl info30 rfl ?_
  exact DoPost.same HR.out Hst.out (K1.noth4 K2 K3 hb4 K9)

theorem arm_post {w w1 w2 w3 w4 w9 : World} {F : Nat → Prop} {vl vr : Value} {D : DS} {op fu mx ok k : Int} {dn : Bool} {va vb : Value} {b2 b4 : Nat} (H : StAt w F vl vr D) (hst : stv vl vr D = [va, vb, .int .i64 op, .int .i64 fu, .bool dn]) (hok : ok = k) (hmx : mx = max ok (-1))
    (K1 : Keep Noth w w1) (K2 : Keep Noth w1 w2) (K3 : Keep Noth w2 w3) (K4 : Keep (Only b2) w3 w4) (hb2 : w.heap.size ≤ b2) (hb4 : w2.heap.size ≤ b4) (K9 : Keep (Only b4) w4 w9) :
    DoPost w F (D.arm k, 0) (.returned (.tuple #[.agg [va, vb, .int .i64 op, .int .i64 mx, .bool dn].toArray, .int .i64 0])) w9 := by
  have h1 := K1.size
  have h2 := K2.size
  have K : Keep Noth w w9 := (((K1.trans K2 (fun _ _ h => h)).trans K3 (fun _ _ h => h)).own K4 (fun q e => by unfold Only at e; subst e; exact hb2)).own K9 (fun q e => by unfold Only at e; subst e; omega)
  refine ⟨vl, vr, ?_, (⟨(H.keep K (Dj.noth _)).l, (H.keep K (Dj.noth _)).row⟩ : StAt w9 F vl vr (D.arm k)).mono (fun q h => .inl h), K⟩
  have e : stv vl vr (D.arm k) = [va, vb, .int .i64 op, .int .i64 mx, .bool dn] := by
    simp only [stv, DS.arm, List.cons.injEq, Value.int.injEq, true_and, and_true] at hst ⊢
    exact ⟨hst.1, hst.2.1, hst.2.2.1, by rw [hmx, hok], hst.2.2.2.2⟩
  rw [e]

theorem do_arm {w : World} {F : Nat → Prop} {vl vr : Value} {D : DS} (H : StAt w F vl vr D) (hok : D.ok) (ho : D.ops ≤ 1099511627776) (hr : D.row.length ≤ 1099511627776) (o : OpV) (hoo : o.ok) (Ab Af : Option Addr) (cb cf : Nat) (h2 : o.kind = 2) :
    Calls Try.prog 20 #[.agg (stv vl vr D).toArray, .agg (opv o Ab Af cb cf).toArray] w (DoPost w F (D.arm o.k, 0)) := by
  obtain ⟨Al, cl, rfl⟩ := H.l.valm
  obtain ⟨Ar, cr, rfl⟩ := H.row.valm
  obtain ⟨n, hn⟩ : ∃ n, n = D.l.length := ⟨_, rfl⟩
  obtain ⟨m, hm⟩ : ∃ n, n = D.row.length := ⟨_, rfl⟩
  obtain ⟨op, hop⟩ : ∃ n : Int, n = (D.ops : Int) := ⟨_, rfl⟩
  obtain ⟨fu, hfu⟩ : ∃ n : Int, n = D.fuse := ⟨_, rfl⟩
  obtain ⟨dn, hdn⟩ : ∃ n : Bool, n = D.down := ⟨_, rfl⟩
  obtain ⟨kd, hkd⟩ : ∃ n : Int, n = o.kind := ⟨_, rfl⟩
  obtain ⟨ok, hok1⟩ : ∃ n : Int, n = o.k := ⟨_, rfl⟩
  obtain ⟨nb, hnb⟩ : ∃ n : Nat, n = o.b.length := ⟨_, rfl⟩
  obtain ⟨nf, hnf⟩ : ∃ n : Nat, n = o.forms.length := ⟨_, rfl⟩
  have hst : (stv (.slice Al D.l.length cl) (.slice Ar D.row.length cr) D) = [.slice Al n cl, .slice Ar m cr, .int .i64 op, .int .i64 fu, .bool dn] := by rw [hn, hm, hop, hfu, hdn]; rfl
  have hov : opv o Ab Af cb cf = [.int .i64 kd, .int .i64 ok, .slice Ab nb cb, .slice Af nf cf] := by rw [hkd, hok1, hnb, hnf]; rfl
  have hkk := hoo.kind
  have hk1 := hoo.k
  rw [← hkd] at hkk
  rw [← hok1] at hk1
  have hkk1 := hkk.1
  have hkk2 := hkk.2
  have hk11 := hk1.1
  have hk12 := hk1.2
  have Hst := hid hst
  rw [hst, hov]
  have HR := hid H
  have Hn := hid hn
  have Hm := hid hm
  have Hop := hid hop
  have Hfu := hid hfu
  have Hdn := hid hdn
  have Hok := hid hok1
  have Hnb := hid hnb
  clear hkk hk1 hst hov hn hm hop hfu hdn hok1 hnb hnf H
  rw [← hkd] at h2
  subst h2
  clear hkd
  by_cases hm1 : ok < -1
  · go_enter Try.func20, Try.ntmps20
    go_wp2_with (first
      | (guard_target = wpList _ _ _ (Oper.mk _ (Op.box 30 _) _ _ _ _ :: _) _ _; refine wpList_box_v rfl 30 _ rfl [.slice Al n cl, .slice Ar m cr, .int .i64 op, .int .i64 fu, .bool dn] (by rfl) ?_; intro b2 w1 hb2 B1 K1)
      | (guard_target = wpList _ _ _ (Oper.mk _ (Op.box 36 _) _ _ _ _ :: _) _ _; refine wpList_box_v rfl 36 _ rfl [.int .i64 2, .int .i64 ok, .slice Ab nb cb, .slice Af nf cf] (by rfl) ?_; intro b3 w2 hb3 C2 K2; have B2 := B1.keep K2 id)
      | (guard_target = wpList _ _ _ (Oper.mk _ (Op.alloc 30) _ _ _ _ :: _) _ _; refine wpList_alloc_v rfl 30 rfl zst info30 stz zst_cells ?_; intro b4 w3 hb4 D3 K3; have B3 := B2.keep K3 id; have C3 := C2.keep K3 id; have k0 := C3.cell 0; have k1 := C3.cell 1; have k2 := C3.cell 2; have k3 := C3.cell 3; have s0 := B3.cell 0; have s4 := B3.cell 4; have s3 := B3.cell 3; simp only [List.getElem?_cons_zero, List.getElem?_cons_succ] at k0 k1 k2 k3 s0 s3 s4)
      | (guard_target = wpList _ _ _ (Oper.mk _ (Op.store 3 _ _) _ _ _ _ :: _) _ _; refine wpList_store_blk rfl 3 _ _ rfl b2 3 _ 30 (.int .i64 (-1)) (by rfl) (by rfl) B3 (by simp) rfl rfl info3' ?_; intro w4 B4 K4; simp only [List.set_cons_zero, List.set_cons_succ] at B4; have D4 := D3.keep K4 (by unfold Only; have := B2.lt; omega))
      | (guard_target = wpList _ _ _ (Oper.mk _ (Op.load 30 _) _ _ _ _ :: _) _ _; refine wpList_load_blk rfl 30 _ rfl b2 0 [.slice Al n cl, .slice Ar m cr, .int .i64 op, .int .i64 (-1), .bool dn] [.slice Al n cl, .slice Ar m cr, .int .i64 op, .int .i64 (-1), .bool dn] 30 _ (by rfl) B4 (part0 _) Try.underlying30 rfl info30 ?_)
      | (guard_target = wpList _ _ _ (Oper.mk _ (Op.store 30 _ _) _ _ _ _ :: _) _ _; refine wpList_store_whole rfl 30 _ _ rfl b4 stz [.slice Al n cl, .slice Ar m cr, .int .i64 op, .int .i64 (-1), .bool dn] 30 (by rfl) (by rfl) D4 (by rfl) info30 (st5_one rfl rfl _ _ _) ?_; intro w9 D9 K9))
    refine ret_cell_tmp rfl b4 [.slice Al n cl, .slice Ar m cr, .int .i64 op, .int .i64 (-1), .bool dn] 30 _ (.int .i64 0) (by rfl) (by rfl) D9 Try.underlying30 rfl info30 rfl ?_
    exact arm_post HR.out Hst.out Hok.out (by omega) K1 K2 K3 K4 hb2 hb4 K9
  · go_enter Try.func20, Try.ntmps20
    go_wp2_with (first
      | (guard_target = wpList _ _ _ (Oper.mk _ (Op.box 30 _) _ _ _ _ :: _) _ _; refine wpList_box_v rfl 30 _ rfl [.slice Al n cl, .slice Ar m cr, .int .i64 op, .int .i64 fu, .bool dn] (by rfl) ?_; intro b2 w1 hb2 B1 K1)
      | (guard_target = wpList _ _ _ (Oper.mk _ (Op.box 36 _) _ _ _ _ :: _) _ _; refine wpList_box_v rfl 36 _ rfl [.int .i64 2, .int .i64 ok, .slice Ab nb cb, .slice Af nf cf] (by rfl) ?_; intro b3 w2 hb3 C2 K2; have B2 := B1.keep K2 id)
      | (guard_target = wpList _ _ _ (Oper.mk _ (Op.alloc 30) _ _ _ _ :: _) _ _; refine wpList_alloc_v rfl 30 rfl zst info30 stz zst_cells ?_; intro b4 w3 hb4 D3 K3; have B3 := B2.keep K3 id; have C3 := C2.keep K3 id; have k0 := C3.cell 0; have k1 := C3.cell 1; have k2 := C3.cell 2; have k3 := C3.cell 3; have s0 := B3.cell 0; have s4 := B3.cell 4; have s3 := B3.cell 3; simp only [List.getElem?_cons_zero, List.getElem?_cons_succ] at k0 k1 k2 k3 s0 s3 s4)
      | (guard_target = wpList _ _ _ (Oper.mk _ (Op.store 3 _ _) _ _ _ _ :: _) _ _; refine wpList_store_blk rfl 3 _ _ rfl b2 3 _ 30 (.int .i64 (ok)) (by rfl) (by rfl) B3 (by simp) rfl rfl info3' ?_; intro w4 B4 K4; simp only [List.set_cons_zero, List.set_cons_succ] at B4; have D4 := D3.keep K4 (by unfold Only; have := B2.lt; omega))
      | (guard_target = wpList _ _ _ (Oper.mk _ (Op.load 30 _) _ _ _ _ :: _) _ _; refine wpList_load_blk rfl 30 _ rfl b2 0 [.slice Al n cl, .slice Ar m cr, .int .i64 op, .int .i64 (ok), .bool dn] [.slice Al n cl, .slice Ar m cr, .int .i64 op, .int .i64 (ok), .bool dn] 30 _ (by rfl) B4 (part0 _) Try.underlying30 rfl info30 ?_)
      | (guard_target = wpList _ _ _ (Oper.mk _ (Op.store 30 _ _) _ _ _ _ :: _) _ _; refine wpList_store_whole rfl 30 _ _ rfl b4 stz [.slice Al n cl, .slice Ar m cr, .int .i64 op, .int .i64 (ok), .bool dn] 30 (by rfl) (by rfl) D4 (by rfl) info30 (st5_one rfl rfl _ _ _) ?_; intro w9 D9 K9))
    refine ret_cell_tmp rfl b4 [.slice Al n cl, .slice Ar m cr, .int .i64 op, .int .i64 (ok), .bool dn] 30 _ (.int .i64 0) (by rfl) (by rfl) D9 Try.underlying30 rfl info30 rfl ?_
    exact arm_post HR.out Hst.out Hok.out (by omega) K1 K2 K3 K4 hb2 hb4 K9

end Go.Proofs.Ytffcglfepobdjaa
/- The reference's Do, a flush. -/
set_option linter.unusedVariables false
set_option linter.unusedSimpArgs false
set_option maxRecDepth 10000
set_option maxHeartbeats 1500000
namespace Go.Proofs.Ytffcglfepobdjaa
open Go.RowKit

theorem tick_post {w w1 w2 w3 w4 w5 w9 : World} {F : Nat → Prop} {vl vr : Value} {D : DS} {E : Int} {b2 b4 : Nat} {S : List Value} (H : StAt w F vl vr D) (hst : stv vl vr D.tick = S)
    (K1 : Keep Noth w w1) (K2 : Keep Noth w1 w2) (K3 : Keep Noth w2 w3) (K4 : Keep Noth w3 w4) (K5 : Keep (Only b2) w4 w5) (hb2 : w.heap.size ≤ b2) (hb4 : w2.heap.size ≤ b4) (K9 : Keep (Only b4) w5 w9) :
    DoPost w F (D.tick, E) (.returned (.tuple #[.agg S.toArray, .int .i64 E])) w9 := by
  have h1 := K1.size
  have h2 := K2.size
  have K : Keep Noth w w9 := ((((K1.trans K2 (fun _ _ h => h)).trans K3 (fun _ _ h => h)).trans K4 (fun _ _ h => h)).own K5 (fun q e => by unfold Only at e; subst e; exact hb2)).own K9 (fun q e => by unfold Only at e; subst e; omega)
  exact ⟨vl, vr, by rw [← hst], (⟨(H.keep K (Dj.noth _)).l, (H.keep K (Dj.noth _)).row⟩ : StAt w9 F vl vr D.tick).mono (fun q h => .inl h), K⟩
theorem flushed_post {w w5 wr w6 w7 w9 : World} {F : Nat → Prop} {vl vr v5 : Value} {D : DS} {b2 b4 : Nat} {va vb : Value} {q1 q2 : Int} (hst : stv vl vr D.tick = [va, vb, .int .i64 q1, .int .i64 q2, .bool false]) (HA : Acc w5 wr 52 64 v5 (D.all.map bv))
    (K05 : Keep Noth w w5) (K6 : Keep (Only b2) wr w6) (K7 : Keep (Only b2) w6 w7) (hb2 : w.heap.size ≤ b2) (b2lt : b2 < w5.heap.size) (hb4 : w.heap.size ≤ b4) (b4lt : b4 < w5.heap.size) (K9 : Keep (Only b4) w7 w9) :
    DoPost w F (D.flushed, 0) (.returned (.tuple #[.agg [v5, .slice none 0 0, .int .i64 q1, .int .i64 q2, .bool false].toArray, .int .i64 0])) w9 := by
  have h0 := K05.size
  have h6 := K6.size
  have h7 := K7.size
  have h9 := K9.size
  have o2 : ∀ q, Only b2 q → w.heap.size ≤ q := fun q e => by unfold Only at e; subst e; exact hb2
  have o4 : ∀ q, Only b4 q → w.heap.size ≤ q := fun q e => by unfold Only at e; subst e; exact hb4
  have d2 : Dj (Fresh w5 wr) (Only b2) := fun q a e => by unfold Only at e; subst e; have := a.1; omega
  have d4 : Dj (Fresh w5 wr) (Only b4) := fun q a e => by unfold Only at e; subst e; have := a.1; omega
  have e : stv v5 (.slice none 0 0) D.flushed = [v5, .slice none 0 0, .int .i64 q1, .int .i64 q2, .bool false] := by
    have := hst
    simp only [stv, List.cons.injEq, and_true, true_and] at this ⊢
    exact this.2.2
  refine ⟨v5, .slice none 0 0, by rw [e], ⟨?_, Rows.nil _ _ _ _⟩, (((K05.trans HA.kept (fun _ _ h => h)).own K6 o2).own K7 o2).own K9 o4⟩
  exact (((HA.rows.keep K6 d2).keep K7 d2).keep K9 d4).mono (fun q hq => .inr ⟨by have := hq.1; omega, by have := hq.2; omega⟩)

theorem do_flush {w : World} {F : Nat → Prop} {vl vr : Value} {D : DS} (H : StAt w F vl vr D) (hok : D.ok) (ho : D.ops ≤ 1099511627776) (hr : D.row.length ≤ 1099511627776) (o : OpV) (hoo : o.ok) (Ab Af : Option Addr) (cb cf : Nat) (h1 : o.kind = 1) :
    Calls Try.prog 20 #[.agg (stv vl vr D).toArray, .agg (opv o Ab Af cb cf).toArray] w (DoPost w F (D.flush)) := by
  obtain ⟨Al, cl, rfl⟩ := H.l.valm
  obtain ⟨Ar, cr, rfl⟩ := H.row.valm
  obtain ⟨n, hn⟩ : ∃ n, n = D.l.length := ⟨_, rfl⟩
  obtain ⟨m, hm⟩ : ∃ n, n = D.row.length := ⟨_, rfl⟩
  obtain ⟨op, hop⟩ : ∃ n : Int, n = (D.ops : Int) := ⟨_, rfl⟩
  obtain ⟨fu, hfu⟩ : ∃ n : Int, n = D.fuse := ⟨_, rfl⟩
  obtain ⟨dn, hdn⟩ : ∃ n : Bool, n = D.down := ⟨_, rfl⟩
  obtain ⟨kd, hkd⟩ : ∃ n : Int, n = o.kind := ⟨_, rfl⟩
  obtain ⟨ok, hok1⟩ : ∃ n : Int, n = o.k := ⟨_, rfl⟩
  obtain ⟨nb, hnb⟩ : ∃ n : Nat, n = o.b.length := ⟨_, rfl⟩
  obtain ⟨nf, hnf⟩ : ∃ n : Nat, n = o.forms.length := ⟨_, rfl⟩
  have hst : (stv (.slice Al D.l.length cl) (.slice Ar D.row.length cr) D) = [.slice Al n cl, .slice Ar m cr, .int .i64 op, .int .i64 fu, .bool dn] := by rw [hn, hm, hop, hfu, hdn]; rfl
  have hov : opv o Ab Af cb cf = [.int .i64 kd, .int .i64 ok, .slice Ab nb cb, .slice Af nf cf] := by rw [hkd, hok1, hnb, hnf]; rfl
  have hkk := hoo.kind
  have hk1 := hoo.k
  rw [← hkd] at hkk
  rw [← hok1] at hk1
  have hkk1 := hkk.1
  have hkk2 := hkk.2
  have hk11 := hk1.1
  have hk12 := hk1.2
  have Hst := hid hst
  rw [hst, hov]
  have HR := hid H
  have Hn := hid hn
  have Hm := hid hm
  have Hop := hid hop
  have Hfu := hid hfu
  have Hdn := hid hdn
  have Hok := hid hok1
  have Hnb := hid hnb
  clear hkk hk1 hst hov hn hm hop hfu hdn hok1 hnb hnf H
  rw [← hkd] at h1
  subst h1
  clear hkd
  cases hd : dn with
  | true =>
    subst hd
    have hR : D.flush = (D, 100) := by unfold DS.flush; rw [if_pos Hdn.out.symm]
    rw [hR]
    clear hR
    go_enter Try.func20, Try.ntmps20
    go_wp2_with (first
      | (guard_target = wpList _ _ _ (Oper.mk _ (Op.box 30 _) _ _ _ _ :: _) _ _; refine wpList_box_v rfl 30 _ rfl [.slice Al n cl, .slice Ar m cr, .int .i64 op, .int .i64 fu, .bool true] (by rfl) ?_; intro b2 w1 hb2 B1 K1)
      | (guard_target = wpList _ _ _ (Oper.mk _ (Op.box 36 _) _ _ _ _ :: _) _ _; refine wpList_box_v rfl 36 _ rfl [.int .i64 1, .int .i64 ok, .slice Ab nb cb, .slice Af nf cf] (by rfl) ?_; intro b3 w2 hb3 C2 K2; have B2 := B1.keep K2 id)
      | (guard_target = wpList _ _ _ (Oper.mk _ (Op.alloc 30) _ _ _ _ :: _) _ _; refine wpList_alloc_v rfl 30 rfl zst info30 stz zst_cells ?_; intro b4 w3 hb4 D3 K3; have B3 := B2.keep K3 id; have C3 := C2.keep K3 id; have k0 := C3.cell 0; have k1 := C3.cell 1; have k2 := C3.cell 2; have k3 := C3.cell 3; have s0 := B3.cell 0; have s4 := B3.cell 4; have s3 := B3.cell 3; simp only [List.getElem?_cons_zero, List.getElem?_cons_succ] at k0 k1 k2 k3 s0 s3 s4)
      | (guard_target = wpList _ _ _ (Oper.mk _ (Op.load 30 _) _ _ _ _ :: _) _ _; refine wpList_load_blk rfl 30 _ rfl b2 0 [.slice Al n cl, .slice Ar m cr, .int .i64 op, .int .i64 fu, .bool true] [.slice Al n cl, .slice Ar m cr, .int .i64 op, .int .i64 fu, .bool true] 30 _ (by rfl) B3 (part0 _) Try.underlying30 rfl info30 ?_)
      | (guard_target = wpList _ _ _ (Oper.mk _ (Op.store 30 _ _) _ _ _ _ :: _) _ _; refine wpList_store_whole rfl 30 _ _ rfl b4 stz [.slice Al n cl, .slice Ar m cr, .int .i64 op, .int .i64 fu, .bool true] 30 (by rfl) (by rfl) D3 (by rfl) info30 (st5_one rfl rfl _ _ _) ?_; intro w9 D9 K9))
    refine ret_cell_tmp rfl b4 [.slice Al n cl, .slice Ar m cr, .int .i64 op, .int .i64 fu, .bool true] 30 _ (.int .i64 100) (by rfl) (by rfl) D9 Try.underlying30 rfl info30 rfl ?_
    exact DoPost.same HR.out Hst.out (K1.noth4 K2 K3 hb4 K9)
  | false =>
    subst hd
    obtain ⟨q1, hq1⟩ : ∃ q : Int, q = ((D.ops + 1 : Nat) : Int) := ⟨_, rfl⟩
    obtain ⟨q2, hq2⟩ : ∃ q : Int, q = max (D.fuse - 1) (-1) := ⟨_, rfl⟩
    obtain ⟨t, ht⟩ : ∃ t : Bool, t = (D.fuse == 0) := ⟨_, rfl⟩
    have hst3 : stv (.slice Al D.l.length cl) (.slice Ar D.row.length cr) D.tick = [.slice Al n cl, .slice Ar m cr, .int .i64 q1, .int .i64 q2, .bool t] := by
      rw [hq1, hq2, ht, Hn.out, Hm.out]; rfl
    have hcnt : ∀ W : World, Calls Try.prog 57 #[.agg [.slice Al n cl, .slice Ar m cr, .int .i64 op, .int .i64 fu, .bool false].toArray] W (fun e w' => e = .returned (.agg [.slice Al n cl, .slice Ar m cr, .int .i64 q1, .int .i64 q2, .bool t].toArray) ∧ Keep Noth W w') := fun W => by
      have h := st_count (w := W) (D := D) Hdn.out.symm (vl := .slice Al D.l.length cl) (vr := .slice Ar D.row.length cr) rfl rfl (by omega) hok.fuse hok.fuse'
      rw [Hst.out, hst3] at h
      exact h
    have Hst3 := hid hst3
    have Hcnt := hid hcnt
    clear hst3 hcnt hq1 hq2
    cases htt : t with
    | true =>
      subst htt
      have hf0 : D.fuse = 0 := by simpa using ht.symm
      have hR : D.flush = (D.tick, 100) := by unfold DS.flush; rw [if_neg (by rw [← Hdn.out]; decide), if_pos hf0]
      rw [hR]
      clear hR hf0 ht
      go_enter Try.func20, Try.ntmps20
      go_wp2_with (first
        | (guard_target = wpList _ _ _ (Oper.mk _ (Op.box 30 _) _ _ _ _ :: _) _ _; refine wpList_box_v rfl 30 _ rfl [.slice Al n cl, .slice Ar m cr, .int .i64 op, .int .i64 fu, .bool false] (by rfl) ?_; intro b2 w1 hb2 B1 K1)
        | (guard_target = wpList _ _ _ (Oper.mk _ (Op.box 36 _) _ _ _ _ :: _) _ _; refine wpList_box_v rfl 36 _ rfl [.int .i64 1, .int .i64 ok, .slice Ab nb cb, .slice Af nf cf] (by rfl) ?_; intro b3 w2 hb3 C2 K2; have B2 := B1.keep K2 id)
        | (guard_target = wpList _ _ _ (Oper.mk _ (Op.alloc 30) _ _ _ _ :: _) _ _; refine wpList_alloc_v rfl 30 rfl zst info30 stz zst_cells ?_; intro b4 w3 hb4 D3 K3; have B3 := B2.keep K3 id; have C3 := C2.keep K3 id; have k0 := C3.cell 0; have k1 := C3.cell 1; have k2 := C3.cell 2; have k3 := C3.cell 3; have s0 := B3.cell 0; have s4 := B3.cell 4; have s3 := B3.cell 3; simp only [List.getElem?_cons_zero, List.getElem?_cons_succ] at k0 k1 k2 k3 s0 s3 s4)
        | (go_at_call 57; refine (Hcnt.out _).mono ?_; rintro e w4 ⟨rfl, K4⟩; have B4 := B3.keep K4 id; have D4 := D3.keep K4 id)
        | (guard_target = wpList _ _ _ (Oper.mk _ (Op.store 30 (Operand.tmp 2) _) _ _ _ _ :: _) _ _; refine wpList_store_whole rfl 30 _ _ rfl b2 [.slice Al n cl, .slice Ar m cr, .int .i64 op, .int .i64 fu, .bool false] [.slice Al n cl, .slice Ar m cr, .int .i64 q1, .int .i64 q2, .bool true] 30 (by rfl) (by rfl) B4 (by rfl) info30 (st5_one rfl rfl _ _ _) ?_; intro w5 B5 K5; have f4 := B5.cell 4; simp only [List.getElem?_cons_zero, List.getElem?_cons_succ] at f4)
        | (guard_target = wpList _ _ _ (Oper.mk _ (Op.store 30 (Operand.tmp 4) _) _ _ _ _ :: _) _ _; refine wpList_store_whole rfl 30 _ _ rfl b4 stz [.slice Al n cl, .slice Ar m cr, .int .i64 q1, .int .i64 q2, .bool true] 30 (by rfl) (by rfl) (D4.keep K5 (by unfold Only; have := B2.lt; omega)) (by rfl) info30 (st5_one rfl rfl _ _ _) ?_; intro w9 D9 K9)
        | (have := K5; (guard_target = wpList _ _ _ (Oper.mk _ (Op.load 30 (Operand.tmp 2)) _ _ _ _ :: _) _ _; refine wpList_load_blk rfl 30 _ rfl b2 0 [.slice Al n cl, .slice Ar m cr, .int .i64 q1, .int .i64 q2, .bool true] [.slice Al n cl, .slice Ar m cr, .int .i64 q1, .int .i64 q2, .bool true] 30 _ (by rfl) B5 (part0 _) Try.underlying30 rfl info30 ?_))
        | (guard_target = wpList _ _ _ (Oper.mk _ (Op.load 30 (Operand.tmp 2)) _ _ _ _ :: _) _ _; refine wpList_load_blk rfl 30 _ rfl b2 0 [.slice Al n cl, .slice Ar m cr, .int .i64 op, .int .i64 fu, .bool false] [.slice Al n cl, .slice Ar m cr, .int .i64 op, .int .i64 fu, .bool false] 30 _ (by rfl) B3 (part0 _) Try.underlying30 rfl info30 ?_))
      refine ret_cell_tmp rfl b4 [.slice Al n cl, .slice Ar m cr, .int .i64 q1, .int .i64 q2, .bool true] 30 _ (.int .i64 100) (by rfl) (by rfl) D9 Try.underlying30 rfl info30 rfl ?_
      exact tick_post HR.out Hst3.out K1 K2 K3 K4 K5 hb2 hb4 K9
    | false =>
      subst htt
      have hf0 : ¬ D.fuse = 0 := by simpa using ht.symm
      have hR : D.flush = (D.flushed, 0) := by unfold DS.flush; rw [if_neg (by rw [← Hdn.out]; decide), if_neg hf0]
      rw [hR]
      clear hR hf0 ht
      go_enter Try.func20, Try.ntmps20
      go_wp2_with (first
        | (guard_target = wpList _ _ _ (Oper.mk _ (Op.box 30 _) _ _ _ _ :: _) _ _; refine wpList_box_v rfl 30 _ rfl [.slice Al n cl, .slice Ar m cr, .int .i64 op, .int .i64 fu, .bool false] (by rfl) ?_; intro b2 w1 hb2 B1 K1)
        | (guard_target = wpList _ _ _ (Oper.mk _ (Op.box 36 _) _ _ _ _ :: _) _ _; refine wpList_box_v rfl 36 _ rfl [.int .i64 1, .int .i64 ok, .slice Ab nb cb, .slice Af nf cf] (by rfl) ?_; intro b3 w2 hb3 C2 K2; have B2 := B1.keep K2 id)
        | (guard_target = wpList _ _ _ (Oper.mk _ (Op.alloc 30) _ _ _ _ :: _) _ _; refine wpList_alloc_v rfl 30 rfl zst info30 stz zst_cells ?_; intro b4 w3 hb4 D3 K3; have B3 := B2.keep K3 id; have C3 := C2.keep K3 id; have k0 := C3.cell 0; have k1 := C3.cell 1; have k2 := C3.cell 2; have k3 := C3.cell 3; have s0 := B3.cell 0; have s4 := B3.cell 4; have s3 := B3.cell 3; simp only [List.getElem?_cons_zero, List.getElem?_cons_succ] at k0 k1 k2 k3 s0 s3 s4)
        | (go_at_call 57; refine (Hcnt.out _).mono ?_; rintro e w4 ⟨rfl, K4⟩; have B4 := B3.keep K4 id; have D4 := D3.keep K4 id)
        | (guard_target = wpList _ _ _ (Oper.mk _ (Op.store 30 (Operand.tmp 2) _) _ _ _ _ :: _) _ _; refine wpList_store_whole rfl 30 _ _ rfl b2 [.slice Al n cl, .slice Ar m cr, .int .i64 op, .int .i64 fu, .bool false] [.slice Al n cl, .slice Ar m cr, .int .i64 q1, .int .i64 q2, .bool false] 30 (by rfl) (by rfl) B4 (by rfl) info30 (st5_one rfl rfl _ _ _) ?_; intro w5 B5 K5; have f4 := B5.cell 4; have f0 := B5.cell 0; simp only [List.getElem?_cons_zero, List.getElem?_cons_succ] at f4 f0)
        | (guard_target = wpList _ _ _ (Oper.mk _ (Op.load 30 (Operand.tmp 2)) _ _ _ _ :: _) _ _; refine wpList_load_blk rfl 30 _ rfl b2 0 [.slice Al n cl, .slice Ar m cr, .int .i64 op, .int .i64 fu, .bool false] [.slice Al n cl, .slice Ar m cr, .int .i64 op, .int .i64 fu, .bool false] 30 _ (by rfl) B3 (part0 _) Try.underlying30 rfl info30 ?_))
      have D5 := D4.keep K5 (by unfold Only; have := B2.lt; omega)
      have K05 : Keep Noth w w5 := by
        have h1 := K1.size
        exact (((K1.trans K2 (fun _ _ h => h)).trans K3 (fun _ _ h => h)).trans K4 (fun _ _ h => h)).own K5 (fun q e => by unfold Only at e; subst e; exact hb2)
      have HR5 : Hid (StAt w5 F (.slice Al D.l.length cl) (.slice Ar D.row.length cr) D.tick) := hid ⟨(HR.out.keep K05 (Dj.noth _)).l, (HR.out.keep K05 (Dj.noth _)).row⟩
      have hb4' : w.heap.size ≤ b4 := by have := K1.size; have := K2.size; omega
      have hokt := tick_ok hok
      have hn4 : (n : Int) ≤ 4096 := by have := hok.most; have := Hn.out; omega
      have h24 : b2 ≠ b4 := by have := B2.lt; omega
      have b2lt := B5.lt
      have b4lt := D5.lt
      clear f4 f0
      clear B1 B2 B3 B4 C2 C3 D3 D4 K1 K2 K3 K4 K5 k0 k1 k2 k3 s0 s3 s4
      go_loopw [6, 7] (fun v i wr => ∃ k : Nat, i = .int .i64 k ∧ k ≤ n ∧ Acc w5 wr 52 64 v ((D.all.take k).map bv)) (fun _ i _ => n - (intOf i).toNat)
      case atStart => exact ⟨0, rfl, Nat.zero_le _, Acc.nil _ _ _⟩
      case round =>
        obtain ⟨k, rfl, hkl, HA⟩ := hrel
        have Br := B5.keep HA.kept id
        have c0 := Br.cell 0
        simp only [List.getElem?_cons_zero] at c0
        by_cases hlt : k < n
        · have hlt' : (k : Int) < n := by omega
          have hkl' : k < D.l.length := by rw [← Hn.out]; exact hlt
          have h64 : (D.tick.at k).length = 64 := by have := at_length hok k hkl' D.row.length; rw [List.take_length] at this; exact this
          have H64 := hid h64
          have htk : (D.all.take (k + 1)).map bv = (D.all.take k).map bv ++ [bv (D.tick.at k)] := by
            rw [take_snoc' _ _ (by rw [all_length]; exact hkl'), List.map_append, ← at_all k hkl']; rfl
          have Htk := hid htk
          have HAT := st_at (HR5.out.keep HA.kept (Dj.noth _)) hokt hr k hkl'
          rw [Hst3.out] at HAT
          have HAT' := hid HAT
          clear h64 htk HAT
          go_wp2_with (first
            | (guard_target = wpList _ _ _ (Oper.mk _ (Op.load 30 (Operand.tmp 2)) _ _ _ _ :: _) _ _; refine wpList_load_blk rfl 30 _ rfl b2 0 [.slice Al n cl, .slice Ar m cr, .int .i64 q1, .int .i64 q2, .bool false] [.slice Al n cl, .slice Ar m cr, .int .i64 q1, .int .i64 q2, .bool false] 30 _ (by rfl) Br (part0 _) Try.underlying30 rfl info30 ?_)
            | (go_at_call 55; refine HAT'.out.mono ?_; rintro e wA ⟨rfl, KA⟩)
            | (guard_target = wpList _ _ _ (Oper.mk _ (Op.buildSlice _ _ _) _ _ _ _ :: _) _ _; refine wpList_slice1_v rfl 27 52 _ rfl sl27 (bv (D.tick.at k)) zv info52 zv_size (by decide) (by decide) (by rfl) (by rw [bv_length]; exact H64.out) ?_; intro bA wC hbA BA KC)
            | (at_builtin; refine wpList_append_rows rfl _ _ 27 rfl 52 zv 64 64 sl27 info52 zv_size (by decide) (by decide) _ _ _ [bv (D.tick.at k)] (by rfl) ((HA.rows.keep KA (Dj.noth _)).keep KC (Dj.noth _)) (some ⟨bA, 0, none⟩) 1 1 (by rfl) rfl (fun h => by cases h) (by intro x hx; rw [List.mem_singleton.1 hx, bv_length]; exact H64.out) (by rw [List.flatten_singleton]; exact Reads.of_range BA.rangeAll) (by rw [List.flatten_singleton]; exact bv_one _) (by rw [List.length_map, List.length_take]; omega) ?_; intro v3 w3 HR3 K3))
          rw [← Htk.out] at HR3
          have HN := HA.append (KA.trans KC (fun _ _ h => h)) HR3 K3
          clear HR3 K3 KA KC BA Br c0 HA
          go_roundw
          case rel => exact ⟨k + 1, by go_num, hlt, HN⟩
          case measure => simp [intOf]; omega
        · have hge : k = n := by omega
          subst hge
          rw [Hn.out, ← all_length, List.take_length] at HA
          obtain ⟨v5, hv5⟩ : ∃ v5, v5 = u6 := ⟨_, rfl⟩
          have hone := HA.rows.one_val
          have D6 := D5.keep HA.kept id
          rw [← hv5] at HA hone
          rw [← hv5]
          go_wp2_with (first
            | (guard_target = wpList _ _ _ (Oper.mk _ (Op.store 27 _ _) _ _ _ _ :: _) _ _; refine wpList_store_blk rfl 27 _ _ rfl b2 0 _ 30 v5 (by rfl) (by rfl) Br (by simp) hone.1 hone.2 info27 ?_; intro w6 B6 K6; simp only [List.set_cons_zero] at B6)
            | (guard_target = wpList _ _ _ (Oper.mk _ (Op.store 28 _ _) _ _ _ _ :: _) _ _; refine wpList_store_blk rfl 28 _ _ rfl b2 1 _ 30 (.slice none 0 0) (by rfl) (by rfl) B6 (by simp) rfl rfl info28 ?_; intro w7 B7 K7; simp only [List.set_cons_zero, List.set_cons_succ] at B7)
            | (guard_target = wpList _ _ _ (Oper.mk _ (Op.load 30 (Operand.tmp 2)) _ _ _ _ :: _) _ _; refine wpList_load_blk rfl 30 _ rfl b2 0 [v5, .slice none 0 0, .int .i64 q1, .int .i64 q2, .bool false] [v5, .slice none 0 0, .int .i64 q1, .int .i64 q2, .bool false] 30 _ (by rfl) B7 (part0 _) Try.underlying30 rfl info30 ?_)
            | (guard_target = wpList _ _ _ (Oper.mk _ (Op.store 30 (Operand.tmp 4) _) _ _ _ _ :: _) _ _; refine wpList_store_whole rfl 30 _ _ rfl b4 stz [v5, .slice none 0 0, .int .i64 q1, .int .i64 q2, .bool false] 30 (by rfl) (by rfl) ((D6.keep K6 (fun e => h24 e.symm)).keep K7 (fun e => h24 e.symm)) (by rfl) info30 (st5_one hone.1 rfl _ _ _) ?_; intro w9 D9 K9))
          refine ret_cell_tmp rfl b4 [v5, .slice none 0 0, .int .i64 q1, .int .i64 q2, .bool false] 30 _ (.int .i64 0) (by rfl) (by rfl) D9 Try.underlying30 rfl info30 rfl ?_
          exact flushed_post Hst3.out HA K05 K6 K7 hb2 b2lt hb4' b4lt K9
end Go.Proofs.Ytffcglfepobdjaa
/- The reference's Do, a write. -/
set_option linter.unusedVariables false
set_option linter.unusedSimpArgs false
set_option maxRecDepth 10000
set_option maxHeartbeats 1500000
namespace Go.Proofs.Ytffcglfepobdjaa
open Go.RowKit

theorem exec_build54 {a : Act} {w : World} {o : Oper} (x y : Operand) (ho : o.op = .build 54 #[(0, x), (1, y)]) (k : Int) (cs : List Value) (hl : cs.length = 64) (hx : a.eval x = .int .i64 k) (hy : a.eval y = .agg cs.toArray) :
    (execOp a.eval o).run Try.prog w = .ok (.value (.agg (.int .i64 k :: cs).toArray)) w := by
  unfold execOp
  simp only [ho, List.map_toArray, List.map_cons, List.map_nil, hx, hy, Sem.run_bind, Sem.run_pure, Result.andThen_ok, build54 k cs hl]
theorem put_st {w w3 w6 w7 w8 : World} {F : Nat → Prop} {vl vr v4 v6 : Value} {D : DS} {b2 k : Nat} {b : List UInt8} (H : StAt w F vl vr D) (K08 : Keep Noth w w8)
    (H7 : Rows w7 (fun q => v4.ownBlock = some q ∨ (w6.heap.size ≤ q ∧ q < w7.heap.size)) 54 65 v6 (D.row.map wv ++ [wv (k, fillz b)])) (K8 : Keep (Only b2) w7 w8) (hw3 : w.heap.size ≤ w3.heap.size) (hb2 : b2 < w3.heap.size) (d8 : ∀ q, v4.ownBlock = some q → w3.heap.size ≤ q) (hs : w3.heap.size ≤ w6.heap.size) :
    StAt w8 (grow F w w8) vl v6 (D.put k b) := by
  have hs8 := K8.size
  refine ⟨((H.keep K08 (Dj.noth _)).l).mono (fun q h => .inl h), ?_⟩
  have e : (D.put k b).row.map wv = D.row.map wv ++ [wv (k, fillz b)] := by simp [DS.put]
  rw [e]
  have hlt := fun q hq => (H7.own.lt q hq).2
  refine ⟨(H7.keep K8 (fun q hq e' => ?_)).own, H7.each, fun q hq => .inr ?_⟩
  · unfold Only at e'; subst e'
    rcases hq with hq | hq
    · have := d8 _ hq; omega
    · omega
  · have h1 := H7.foot q hq
    have h2 := hlt q hq
    refine ⟨?_, by omega⟩
    rcases h1 with h1 | h1
    · have := d8 _ h1; omega
    · omega
theorem StAt.stay2 {w w' : World} {G : Nat → Prop} {vl vr : Value} {D : DS} {b : Nat} {cs : List Value} (H : StAt w G vl vr D) (B : BlockIs w b cs 30) (K : Keep (Only b) w w') : StAt w' G vl vr D :=
  ⟨H.l.stay K (fun k hk e => H.l.ne B (by decide) (by unfold Only at e; rw [hk, e])), H.row.stay K (fun k hk e => H.row.ne B (by decide) (by unfold Only at e; rw [hk, e]))⟩
theorem put_post {w w8 wP wQ w9 : World} {F : Nat → Prop} {vl vr : Value} {D : DS} {E : Int} {b2 b4 : Nat} {S c2 c4 : List Value} (H : StAt w8 (grow F w w8) vl vr D) (hst : stv vl vr D.tick = S) (K08 : Keep Noth w w8)
    (KP : Keep Noth w8 wP) (B2 : BlockIs wP b2 c2 30) (KQ : Keep (Only b2) wP wQ) (hb2 : w.heap.size ≤ b2) (B4 : BlockIs wQ b4 c4 30) (hb4 : w.heap.size ≤ b4) (K9 : Keep (Only b4) wQ w9) :
    DoPost w F (D.tick, E) (.returned (.tuple #[.agg S.toArray, .int .i64 E])) w9 := by
  have h9 := ((H.keep KP (Dj.noth _)).stay2 B2 KQ).stay2 B4 K9
  have hs : w8.heap.size ≤ w9.heap.size := by have := KP.size; have := KQ.size; have := K9.size; omega
  refine ⟨vl, vr, by rw [← hst], (⟨h9.l, h9.row⟩ : StAt w9 (grow F w w8) vl vr D.tick).mono (fun q h => ?_), ((K08.trans KP (fun _ _ h => h)).own KQ (fun q e => by unfold Only at e; subst e; exact hb2)).own K9 (fun q e => by unfold Only at e; subst e; exact hb4)⟩
  rcases h with h | h
  · exact .inl h
  · exact .inr ⟨h.1, Nat.lt_of_lt_of_le h.2 hs⟩

theorem do_write_ok {w : World} {F : Nat → Prop} {vl vr : Value} {D : DS} (H : StAt w F vl vr D) (hok : D.ok) (ho : D.ops ≤ 1099511627776) (hr : D.row.length ≤ 1099511627776) (o : OpV) (hoo : o.ok) (Ab Af : Option Addr) (cb cf : Nat) (hAb : Reads w Ab (bv o.b)) (h0 : o.kind = 0) (hd : D.down = false) (hk0 : 0 ≤ o.k) (hkl : o.k < D.l.length) (h64 : o.b.length ≤ 64) :
    Calls Try.prog 20 #[.agg (stv vl vr D).toArray, .agg (opv o Ab Af cb cf).toArray] w (DoPost w F ((D.put o.k.toNat o.b).tick, if D.fuse == 0 then 100 else 0)) := by
  obtain ⟨Al, cl, rfl⟩ := H.l.valm
  obtain ⟨Ar, cr, rfl⟩ := H.row.valm
  obtain ⟨n, hn⟩ : ∃ n, n = D.l.length := ⟨_, rfl⟩
  obtain ⟨m, hm⟩ : ∃ n, n = D.row.length := ⟨_, rfl⟩
  obtain ⟨op, hop⟩ : ∃ n : Int, n = (D.ops : Int) := ⟨_, rfl⟩
  obtain ⟨fu, hfu⟩ : ∃ n : Int, n = D.fuse := ⟨_, rfl⟩
  obtain ⟨dn, hdn⟩ : ∃ n : Bool, n = D.down := ⟨_, rfl⟩
  obtain ⟨kd, hkd⟩ : ∃ n : Int, n = o.kind := ⟨_, rfl⟩
  obtain ⟨ok, hok1⟩ : ∃ n : Int, n = o.k := ⟨_, rfl⟩
  obtain ⟨nb, hnb⟩ : ∃ n : Nat, n = o.b.length := ⟨_, rfl⟩
  obtain ⟨nf, hnf⟩ : ∃ n : Nat, n = o.forms.length := ⟨_, rfl⟩
  have hst : (stv (.slice Al D.l.length cl) (.slice Ar D.row.length cr) D) = [.slice Al n cl, .slice Ar m cr, .int .i64 op, .int .i64 fu, .bool dn] := by rw [hn, hm, hop, hfu, hdn]; rfl
  have hov : opv o Ab Af cb cf = [.int .i64 kd, .int .i64 ok, .slice Ab nb cb, .slice Af nf cf] := by rw [hkd, hok1, hnb, hnf]; rfl
  have hkk := hoo.kind
  have hk1 := hoo.k
  rw [← hkd] at hkk
  rw [← hok1] at hk1
  have hkk1 := hkk.1
  have hkk2 := hkk.2
  have hk11 := hk1.1
  have hk12 := hk1.2
  have Hst := hid hst
  have HOV := hid hov
  rw [hst, hov]
  have HR := hid H
  have Hn := hid hn
  have Hm := hid hm
  have Hop := hid hop
  have Hfu := hid hfu
  have Hdn := hid hdn
  have Hok := hid hok1
  have Hnb := hid hnb
  clear hkk hk1 hst hov hn hm hop hfu hdn hok1 hnb hnf H
  rw [← hkd] at h0
  subst h0
  clear hkd
  obtain rfl : dn = false := by rw [Hdn.out]; exact hd
  have hx : 0 ≤ ok := by rw [Hok.out]; exact hk0
  have hy : ok < n := by rw [Hok.out, Hn.out]; exact hkl
  have hz : (nb : Int) ≤ 64 := by rw [Hnb.out]; omega
  have htk64 : o.b.take 64 = o.b := List.take_of_length_le h64
  obtain ⟨i54, hi54, -⟩ := info_parts info54
  have Hi54 := hid hi54
  clear hi54
  obtain ⟨q1, hq1⟩ : ∃ q : Int, q = ((D.ops + 1 : Nat) : Int) := ⟨_, rfl⟩
  obtain ⟨q2, hq2⟩ : ∃ q : Int, q = max (D.fuse - 1) (-1) := ⟨_, rfl⟩
  obtain ⟨t, ht⟩ : ∃ t : Bool, t = (D.fuse == 0) := ⟨_, rfl⟩
  have Hd := hid hd
  have Hq1 := hid hq1
  have Hq2 := hid hq2
  have Ht := hid ht
  rw [← ht]
  obtain ⟨E0, hE0⟩ : ∃ E0 : Int, E0 = (if t then 100 else 0) := ⟨_, rfl⟩
  rw [← hE0]
  have HE0 := hid hE0
  clear hd hq1 hq2 ht hE0
  go_enter Try.func20, Try.ntmps20
  go_wp2_with (first
    | (guard_target = wpList _ _ _ (Oper.mk _ (Op.box 30 _) _ _ _ _ :: _) _ _; refine wpList_box_v rfl 30 _ rfl [.slice Al n cl, .slice Ar m cr, .int .i64 op, .int .i64 fu, .bool false] (by rfl) ?_; intro b2 w1 hb2 B1 K1)
    | (guard_target = wpList _ _ _ (Oper.mk _ (Op.box 36 _) _ _ _ _ :: _) _ _; refine wpList_box_v rfl 36 _ rfl [.int .i64 0, .int .i64 ok, .slice Ab nb cb, .slice Af nf cf] (by rfl) ?_; intro b3 w2 hb3 C2 K2; have B2 := B1.keep K2 id)
    | (guard_target = wpList _ _ _ (Oper.mk _ (Op.alloc 30) _ _ _ _ :: _) _ _; refine wpList_alloc_v rfl 30 rfl zst info30 stz zst_cells ?_; intro b4 w3 hb4 D3 K3; have B3 := B2.keep K3 id; have C3 := C2.keep K3 id; have k0 := C3.cell 0; have k1 := C3.cell 1; have k2 := C3.cell 2; have k3 := C3.cell 3; have s0 := B3.cell 0; have s4 := B3.cell 4; have s3 := B3.cell 3; simp only [List.getElem?_cons_zero, List.getElem?_cons_succ] at k0 k1 k2 k3 s0 s3 s4))
  refine wp_region_ordL [(1, true), (2, true), (4, true), (5, true), (6, true), (7, true), (0, false), (3, false), (8, false), (9, true), (10, false), (11, false), (12, true), (13, false)] (fun w' => BlockIs w' b2 [.slice Al n cl, .slice Ar m cr, .int .i64 op, .int .i64 fu, .bool false] 30 ∧ BlockIs w' b3 [.int .i64 0, .int .i64 ok, .slice Ab nb cb, .slice Af nf cf] 36) follows_mixed (by kernel_rfl) ⟨B3.drew, C3.drew⟩ ?_
  simp only [List.map_cons, List.map_nil, List.getElem?_cons_succ, List.getElem?_cons_zero, Option.getD_some]
  refine wpO_pure (v := .pointer (some ⟨b2, 1, none⟩)) (by rfl) (fun w' hw' => by go_simp) ?_
  go_frame
  refine wpO_pure (v := .slice Ar m cr) (by rfl) (fun w' hw' => by have hc := hw'.1.cell 1; simp only [List.getElem?_cons_zero, List.getElem?_cons_succ] at hc; go_simp) ?_
  go_frame
  refine wpO_pure (v := .pointer (some ⟨b3, 1, none⟩)) (by rfl) (fun w' hw' => by go_simp) ?_
  go_frame
  refine wpO_pure (v := .int .i64 ok) (by rfl) (fun w' hw' => by have hc := hw'.2.cell 1; simp only [List.getElem?_cons_zero, List.getElem?_cons_succ] at hc; go_simp) ?_
  go_frame
  refine wpO_pure (v := .pointer (some ⟨b3, 2, none⟩)) (by rfl) (fun w' hw' => by go_simp) ?_
  go_frame
  refine wpO_pure (v := .slice Ab nb cb) (by rfl) (fun w' hw' => by have hc := hw'.2.cell 2; simp only [List.getElem?_cons_zero, List.getElem?_cons_succ] at hc; go_simp) ?_
  go_frame
  refine wpO_run (by rfl) (exec_buildSlice0 28 54 rfl sl28 Hi54.out) (.inr ⟨B3.drew.alloc _, C3.drew.alloc _⟩) ?_
  have hE := Rows.empty w3.drew 54 65
  have BA := B3.drew.alloc (.cells #[] 54)
  have CA := C3.drew.alloc (.cells #[] 54)
  have DA := D3.drew.alloc (.cells #[] 54)
  have KA : Keep Noth w3 (w3.drew.alloc (.cells #[] 54)) := ((Keep.refl Noth w3).drew).alloc _
  have hszA : w3.heap.size < (w3.drew.alloc (.cells #[] 54)).heap.size := by simp
  generalize w3.drew.alloc (.cells #[] 54) = wA at *
  go_frame
  have K3A : Keep Noth w wA := ((K1.trans K2 (fun _ _ h => h)).trans K3 (fun _ _ h => h)).trans KA (fun _ _ h => h)
  have HRA := HR.out.keep K3A (Dj.noth _)
  have HR7 : Rows wA F 54 65 (.slice Ar m cr) (D.row.map wv) := by rw [Hm.out]; exact HRA.row
  have hb2A : b2 < w3.heap.size := B3.lt
  have hb3A : b3 < w3.heap.size := C3.lt
  have hb4A : b4 < w3.heap.size := D3.lt
  have hw3 : w.heap.size ≤ w3.heap.size := by have := K1.size; have := K2.size; have := K3.size; omega
  obtain ⟨v4, w4, hr4, H4, K4⟩ := run_append_rows (P := Try.prog) (w := wA) 28 28 54 zw 65 72 sl28 info54 (by rw [zw_cells, List.size_toArray]; exact wv0_length) (by decide) (by decide) _ (.slice (some ⟨w3.heap.size, 0, none⟩) 0 0) [] (D.row.map wv) hE Ar m cr (by rw [List.length_map, Hm.out]) HR7.none_cap HR7.each (rd_of_own HR7) wvs_one (by have := Hm.out; simp only [List.length_nil]; omega)
  have d7 : ∀ q, (Value.slice (some ⟨w3.heap.size, 0, none⟩) 0 0).ownBlock = some q → q = w3.heap.size := fun q hq => by simp only [Value.ownBlock, Option.some.injEq] at hq; exact hq.symm
  have B4 := BA.keep K4 (fun e => by have := d7 _ e; omega)
  have C4 := CA.keep K4 (fun e => by have := d7 _ e; omega)
  have D4 := DA.keep K4 (fun e => by have := d7 _ e; omega)
  refine wpO_run (by rfl) (exec_append _ _ 28 rfl (by simp [Act.eval]) (by simp [Act.eval]) hr4) (.inr ⟨B4, C4⟩) ?_
  have K04 : Keep Noth w w4 := K3A.own K4 (fun q e => by have := d7 _ e; omega)
  have hs4 := K4.size
  have H4' : Rows w4 (fun q => w3.heap.size ≤ q ∧ q < w4.heap.size) 54 65 v4 (D.row.map wv) := Rows.mono (by simpa using H4) (fun q hq => by
    rcases hq with hq | hq
    · have := d7 q hq; omega
    · omega)
  clear H4 hr4 HR7 HRA hE BA CA DA
  go_frame
  have hfill := st_fill w4 Ab cb o.b 0 (hAb.keep K04 (fun _ _ => id)) (by have := hoo.b; omega) (by omega)
  rw [← Hnb.out, List.drop_zero, htk64] at hfill
  refine wpO_call (by rfl) (exec_call' 56 _ _ rfl Try.func56 (by kernel_rfl) (by rfl) #[.slice Ab nb cb, .int .i64 ((0 : Nat) : Int)] (by simp [Act.eval])) ?_
  refine hfill.mono ?_
  clear hfill
  rintro e w5 ⟨rfl, K5⟩
  have B5 := B4.keep K5 id
  have C5 := C4.keep K5 id
  have D5 := D4.keep K5 id
  have H5 := H4'.keep K5 (Dj.noth _)
  refine ⟨_, rfl, .inr ⟨B5, C5⟩, ?_⟩
  go_frame
  have hbf : (bv (fillz o.b)).length = 64 := by rw [bv_length]; exact fillz_length _ h64
  refine wpO_pure (v := .agg (.int .i64 ok :: bv (fillz o.b)).toArray) (by rfl) (fun w' hw' => exec_build54 _ _ rfl ok _ hbf (by simp [Act.eval]) (by simp [Act.eval])) ?_
  go_frame
  have hwl : (Value.int .i64 ok :: bv (fillz o.b)).length = 65 := by rw [List.length_cons, hbf]
  refine wpO_run (by rfl) (exec_buildSlice1 28 54 _ rfl sl28 (.int .i64 ok :: bv (fillz o.b)) zw info54 (by rw [zw_cells, List.size_toArray]; exact wv0_length) (by decide) (by decide) (by simp [Act.eval, Value.cells]) hwl) (.inr ⟨B5.alloc _, C5.alloc _⟩) ?_
  have K6 : Keep Noth w5 (w5.alloc (.cells (Value.int .i64 ok :: bv (fillz o.b)).toArray 54)) := (Keep.refl _ _).alloc _
  have G6 : BlockIs (w5.alloc (.cells (Value.int .i64 ok :: bv (fillz o.b)).toArray 54)) w5.heap.size (Value.int .i64 ok :: bv (fillz o.b)) 54 := BlockIs.new w5 _ _
  generalize w5.alloc (.cells (Value.int .i64 ok :: bv (fillz o.b)).toArray 54) = w6 at *
  have hwv : wv (o.k.toNat, fillz o.b) = Value.int .i64 ok :: bv (fillz o.b) := by
    show Value.int .i64 ((o.k.toNat : Nat) : Int) :: _ = _
    rw [show ((o.k.toNat : Nat) : Int) = ok by rw [← Hok.out]; omega]
  have B6 := B5.keep K6 id
  have C6 := C5.keep K6 id
  have D6 := D5.keep K6 id
  have H6 := H5.keep K6 (Dj.noth _)
  go_frame
  obtain ⟨v6, w7, hr7, H7, K7⟩ := run_append_rows (P := Try.prog) (w := w6) 28 28 54 zw 65 72 sl28 info54 (by rw [zw_cells, List.size_toArray]; exact wv0_length) (by decide) (by decide) _ v4 (D.row.map wv) [Value.int .i64 ok :: bv (fillz o.b)] H6 (some ⟨w5.heap.size, 0, none⟩) 1 1 rfl (fun h => by cases h) (by intro x hx; rw [List.mem_singleton.1 hx]; exact hwl) (by rw [List.flatten_singleton]; exact Reads.of_range G6.rangeAll) (by rw [List.flatten_singleton, ← hwv]; exact wv_one _) (by rw [List.length_map]; omega)
  have d8 : ∀ q, v4.ownBlock = some q → w3.heap.size ≤ q := fun q hq => (H6.foot q hq).1
  have B7 := B6.keep K7 (fun e => by have := d8 _ e; omega)
  have C7 := C6.keep K7 (fun e => by have := d8 _ e; omega)
  have D7 := D6.keep K7 (fun e => by have := d8 _ e; omega)
  refine wpO_run (by rfl) (exec_append _ _ 28 rfl (by simp [Act.eval]) (by simp [Act.eval]) hr7) (.inr ⟨B7, C7⟩) ?_
  go_frame
  refine wpO_pure (v := .pointer (some ⟨b2, 1, none⟩)) (by rfl) (fun w' hw' => by go_simp) ?_
  go_frame
  refine wpO_store (by rfl) (exec_store_cell 28 _ _ rfl b2 1 v6 _ 30 (by simp [Act.eval]) (by simp [Act.eval]) B7 (by simp) H7.one_val.1 H7.one_val.2 info28) (.inl rfl) ?_
  refine wpO_nil ?_
  have B8 := B7.set 1 v6
  have K8 := (Keep.refl (Only b2) w7).cell 1 v6
  generalize w7.setCell ⟨b2, 1, none⟩ v6 = w8 at *
  simp only [List.set_cons_zero, List.set_cons_succ] at B8
  have D8 := D7.keep K8 (by unfold Only; have := B2.lt; omega)
  have K08 : Keep Noth w w8 := (((K04.trans K5 (fun _ _ h => h)).trans K6 (fun _ _ h => h)).own K7 (fun q e => by have := d8 _ e; omega)).own K8 (fun q e => by unfold Only at e; subst e; exact hb2)
  have hs8 := K8.size
  have hs7 := K7.size
  have hs6 := K6.size
  have hs5 := K5.size
  rw [← hwv] at H7
  have HS8 : StAt w8 (grow F w w8) (.slice Al D.l.length cl) v6 (D.put o.k.toNat o.b) := put_st HR.out K08 H7 K8 hw3 hb2A d8 (by omega)
  have hone6 := H7.one_val.1
  have b2lt8 := B8.lt
  have b4lt8 := D8.lt
  have hb4' : w.heap.size ≤ b4 := by have := K1.size; have := K2.size; omega
  have h24 : b2 ≠ b4 := by have := B2.lt; omega
  clear B1 B2 B3 B4 B5 B6 B7 C2 C3 C4 C5 C6 C7 D3 D4 D5 D6 D7 H4' H5 H6 H7 K4 K5 K6 K7 K8 KA K3A K04 K1 K2 K3 G6 hr7 d7 d8 hwv hwl hbf k0 k1 k2 k3 s0 s3 s4 hs4 hs5 hs6 hs7 hs8 hszA
  go_frame

  have hst2 : stv (.slice Al D.l.length cl) v6 (D.put o.k.toNat o.b) = [.slice Al n cl, v6, .int .i64 op, .int .i64 fu, .bool false] := by
    show [Value.slice Al D.l.length cl, v6, .int .i64 (D.ops : Int), .int .i64 D.fuse, .bool D.down] = _
    rw [Hn.out, Hop.out, Hfu.out, Hd.out]
  have hst3 : stv (.slice Al D.l.length cl) v6 (D.put o.k.toNat o.b).tick = [.slice Al n cl, v6, .int .i64 q1, .int .i64 q2, .bool t] := by
    show [Value.slice Al D.l.length cl, v6, .int .i64 ((D.ops + 1 : Nat) : Int), .int .i64 (max (D.fuse - 1) (-1)), .bool (D.fuse == 0)] = _
    rw [Hn.out, Hq1.out, Hq2.out, Ht.out]
  have hcnt : ∀ W : World, Calls Try.prog 57 #[.agg [.slice Al n cl, v6, .int .i64 op, .int .i64 fu, .bool false].toArray] W (fun e w' => e = .returned (.agg [.slice Al n cl, v6, .int .i64 q1, .int .i64 q2, .bool t].toArray) ∧ Keep Noth W w') := fun W => by
    have h := st_count (w := W) (D := D.put o.k.toNat o.b) Hd.out (vl := .slice Al D.l.length cl) (vr := v6) rfl hone6 (by show D.ops ≤ _; omega) hok.fuse hok.fuse'
    rw [hst2, hst3] at h
    exact h
  have Hst3 := hid hst3
  have Hcnt := hid hcnt
  clear hst2 hst3 hcnt
  cases htt : t with
  | true =>
    subst htt
    obtain rfl : E0 = 100 := HE0.out
    go_wp2_with (first
      | (go_at_call 57; refine (Hcnt.out _).mono ?_; rintro e wP ⟨rfl, KP⟩; have BP := B8.keep KP id; have DP := D8.keep KP id)
      | (guard_target = wpList _ _ _ (Oper.mk _ (Op.store 30 (Operand.tmp 2) _) _ _ _ _ :: _) _ _; refine wpList_store_whole rfl 30 _ _ rfl b2 [.slice Al n cl, v6, .int .i64 op, .int .i64 fu, .bool false] [.slice Al n cl, v6, .int .i64 q1, .int .i64 q2, .bool true] 30 (by rfl) (by rfl) BP (by rfl) info30 (st5_one rfl hone6 _ _ _) ?_; intro wQ BQ KQ; have f4 := BQ.cell 4; simp only [List.getElem?_cons_zero, List.getElem?_cons_succ] at f4)
      | (guard_target = wpList _ _ _ (Oper.mk _ (Op.store 30 (Operand.tmp 4) _) _ _ _ _ :: _) _ _; refine wpList_store_whole rfl 30 _ _ rfl b4 stz [.slice Al n cl, v6, .int .i64 q1, .int .i64 q2, .bool true] 30 (by rfl) (by rfl) (DP.keep KQ (fun e => h24 e.symm)) (by rfl) info30 (st5_one rfl hone6 _ _ _) ?_; intro w9 D9 K9)
      | (have := KQ; (guard_target = wpList _ _ _ (Oper.mk _ (Op.load 30 (Operand.tmp 2)) _ _ _ _ :: _) _ _; refine wpList_load_blk rfl 30 _ rfl b2 0 [.slice Al n cl, v6, .int .i64 q1, .int .i64 q2, .bool true] [.slice Al n cl, v6, .int .i64 q1, .int .i64 q2, .bool true] 30 _ (by rfl) BQ (part0 _) Try.underlying30 rfl info30 ?_))
      | (guard_target = wpList _ _ _ (Oper.mk _ (Op.load 30 (Operand.tmp 2)) _ _ _ _ :: _) _ _; refine wpList_load_blk rfl 30 _ rfl b2 0 [.slice Al n cl, v6, .int .i64 op, .int .i64 fu, .bool false] [.slice Al n cl, v6, .int .i64 op, .int .i64 fu, .bool false] 30 _ (by rfl) B8 (part0 _) Try.underlying30 rfl info30 ?_))
    refine ret_cell_tmp rfl b4 [.slice Al n cl, v6, .int .i64 q1, .int .i64 q2, .bool true] 30 _ (.int .i64 100) (by rfl) (by rfl) D9 Try.underlying30 rfl info30 rfl ?_
    exact put_post HS8 Hst3.out K08 KP BP KQ hb2 (DP.keep KQ (fun e => h24 e.symm)) hb4' K9
  | false =>
    subst htt
    obtain rfl : E0 = 0 := HE0.out
    go_wp2_with (first
      | (go_at_call 57; refine (Hcnt.out _).mono ?_; rintro e wP ⟨rfl, KP⟩; have BP := B8.keep KP id; have DP := D8.keep KP id)
      | (guard_target = wpList _ _ _ (Oper.mk _ (Op.store 30 (Operand.tmp 2) _) _ _ _ _ :: _) _ _; refine wpList_store_whole rfl 30 _ _ rfl b2 [.slice Al n cl, v6, .int .i64 op, .int .i64 fu, .bool false] [.slice Al n cl, v6, .int .i64 q1, .int .i64 q2, .bool false] 30 (by rfl) (by rfl) BP (by rfl) info30 (st5_one rfl hone6 _ _ _) ?_; intro wQ BQ KQ; have f4 := BQ.cell 4; simp only [List.getElem?_cons_zero, List.getElem?_cons_succ] at f4)
      | (guard_target = wpList _ _ _ (Oper.mk _ (Op.store 30 (Operand.tmp 4) _) _ _ _ _ :: _) _ _; refine wpList_store_whole rfl 30 _ _ rfl b4 stz [.slice Al n cl, v6, .int .i64 q1, .int .i64 q2, .bool false] 30 (by rfl) (by rfl) (DP.keep KQ (fun e => h24 e.symm)) (by rfl) info30 (st5_one rfl hone6 _ _ _) ?_; intro w9 D9 K9)
      | (have := KQ; (guard_target = wpList _ _ _ (Oper.mk _ (Op.load 30 (Operand.tmp 2)) _ _ _ _ :: _) _ _; refine wpList_load_blk rfl 30 _ rfl b2 0 [.slice Al n cl, v6, .int .i64 q1, .int .i64 q2, .bool false] [.slice Al n cl, v6, .int .i64 q1, .int .i64 q2, .bool false] 30 _ (by rfl) BQ (part0 _) Try.underlying30 rfl info30 ?_))
      | (guard_target = wpList _ _ _ (Oper.mk _ (Op.load 30 (Operand.tmp 2)) _ _ _ _ :: _) _ _; refine wpList_load_blk rfl 30 _ rfl b2 0 [.slice Al n cl, v6, .int .i64 op, .int .i64 fu, .bool false] [.slice Al n cl, v6, .int .i64 op, .int .i64 fu, .bool false] 30 _ (by rfl) B8 (part0 _) Try.underlying30 rfl info30 ?_))
    refine ret_cell_tmp rfl b4 [.slice Al n cl, v6, .int .i64 q1, .int .i64 q2, .bool false] 30 _ (.int .i64 0) (by rfl) (by rfl) D9 Try.underlying30 rfl info30 rfl ?_
    exact put_post HS8 Hst3.out K08 KP BP KQ hb2 (DP.keep KQ (fun e => h24 e.symm)) hb4' K9

theorem do_write {w : World} {F : Nat → Prop} {vl vr : Value} {D : DS} (H : StAt w F vl vr D) (hok : D.ok) (ho : D.ops ≤ 1099511627776) (hr : D.row.length ≤ 1099511627776) (o : OpV) (hoo : o.ok) (Ab Af : Option Addr) (cb cf : Nat) (hAb : Reads w Ab (bv o.b)) (h0 : o.kind = 0) :
    Calls Try.prog 20 #[.agg (stv vl vr D).toArray, .agg (opv o Ab Af cb cf).toArray] w (DoPost w F (D.write o.k o.b)) := by
  obtain ⟨Al, cl, rfl⟩ := H.l.valm
  obtain ⟨Ar, cr, rfl⟩ := H.row.valm
  obtain ⟨n, hn⟩ : ∃ n, n = D.l.length := ⟨_, rfl⟩
  obtain ⟨m, hm⟩ : ∃ n, n = D.row.length := ⟨_, rfl⟩
  obtain ⟨op, hop⟩ : ∃ n : Int, n = (D.ops : Int) := ⟨_, rfl⟩
  obtain ⟨fu, hfu⟩ : ∃ n : Int, n = D.fuse := ⟨_, rfl⟩
  obtain ⟨dn, hdn⟩ : ∃ n : Bool, n = D.down := ⟨_, rfl⟩
  obtain ⟨kd, hkd⟩ : ∃ n : Int, n = o.kind := ⟨_, rfl⟩
  obtain ⟨ok, hok1⟩ : ∃ n : Int, n = o.k := ⟨_, rfl⟩
  obtain ⟨nb, hnb⟩ : ∃ n : Nat, n = o.b.length := ⟨_, rfl⟩
  obtain ⟨nf, hnf⟩ : ∃ n : Nat, n = o.forms.length := ⟨_, rfl⟩
  have hst : (stv (.slice Al D.l.length cl) (.slice Ar D.row.length cr) D) = [.slice Al n cl, .slice Ar m cr, .int .i64 op, .int .i64 fu, .bool dn] := by rw [hn, hm, hop, hfu, hdn]; rfl
  have hov : opv o Ab Af cb cf = [.int .i64 kd, .int .i64 ok, .slice Ab nb cb, .slice Af nf cf] := by rw [hkd, hok1, hnb, hnf]; rfl
  have hkk := hoo.kind
  have hk1 := hoo.k
  rw [← hkd] at hkk
  rw [← hok1] at hk1
  have hkk1 := hkk.1
  have hkk2 := hkk.2
  have hk11 := hk1.1
  have hk12 := hk1.2
  have Hst := hid hst
  have HOV := hid hov
  rw [hst, hov]
  have HR := hid H
  have Hn := hid hn
  have Hm := hid hm
  have Hop := hid hop
  have Hfu := hid hfu
  have Hdn := hid hdn
  have Hok := hid hok1
  have Hnb := hid hnb
  clear hkk hk1 hst hov hn hm hop hfu hdn hok1 hnb hnf H
  have h00 := h0
  rw [← hkd] at h0
  subst h0
  clear hkd
  have hov : opv o Ab Af cb cf = [.int .i64 0, .int .i64 ok, .slice Ab nb cb, .slice Af nf cf] := by rw [HOV.out]
  cases hd : dn with
  | true =>
    subst hd
    have hR : D.write o.k o.b = (D, 100) := by unfold DS.write; rw [if_pos Hdn.out.symm]
    rw [hR]
    clear hR
    go_enter Try.func20, Try.ntmps20
    go_wp2_with (first
      | (guard_target = wpList _ _ _ (Oper.mk _ (Op.box 30 _) _ _ _ _ :: _) _ _; refine wpList_box_v rfl 30 _ rfl [.slice Al n cl, .slice Ar m cr, .int .i64 op, .int .i64 fu, .bool true] (by rfl) ?_; intro b2 w1 hb2 B1 K1)
      | (guard_target = wpList _ _ _ (Oper.mk _ (Op.box 36 _) _ _ _ _ :: _) _ _; refine wpList_box_v rfl 36 _ rfl [.int .i64 0, .int .i64 ok, .slice Ab nb cb, .slice Af nf cf] (by rfl) ?_; intro b3 w2 hb3 C2 K2; have B2 := B1.keep K2 id)
      | (guard_target = wpList _ _ _ (Oper.mk _ (Op.alloc 30) _ _ _ _ :: _) _ _; refine wpList_alloc_v rfl 30 rfl zst info30 stz zst_cells ?_; intro b4 w3 hb4 D3 K3; have B3 := B2.keep K3 id; have C3 := C2.keep K3 id; have k0 := C3.cell 0; have k1 := C3.cell 1; have k2 := C3.cell 2; have k3 := C3.cell 3; have s0 := B3.cell 0; have s4 := B3.cell 4; have s3 := B3.cell 3; simp only [List.getElem?_cons_zero, List.getElem?_cons_succ] at k0 k1 k2 k3 s0 s3 s4)
      | (guard_target = wpList _ _ _ (Oper.mk _ (Op.load 30 _) _ _ _ _ :: _) _ _; refine wpList_load_blk rfl 30 _ rfl b2 0 [.slice Al n cl, .slice Ar m cr, .int .i64 op, .int .i64 fu, .bool true] [.slice Al n cl, .slice Ar m cr, .int .i64 op, .int .i64 fu, .bool true] 30 _ (by rfl) B3 (part0 _) Try.underlying30 rfl info30 ?_)
      | (guard_target = wpList _ _ _ (Oper.mk _ (Op.store 30 _ _) _ _ _ _ :: _) _ _; refine wpList_store_whole rfl 30 _ _ rfl b4 stz [.slice Al n cl, .slice Ar m cr, .int .i64 op, .int .i64 fu, .bool true] 30 (by rfl) (by rfl) D3 (by rfl) info30 (st5_one rfl rfl _ _ _) ?_; intro w9 D9 K9))
    refine ret_cell_tmp rfl b4 [.slice Al n cl, .slice Ar m cr, .int .i64 op, .int .i64 fu, .bool true] 30 _ (.int .i64 100) (by rfl) (by rfl) D9 Try.underlying30 rfl info30 rfl ?_
    exact DoPost.same HR.out Hst.out (K1.noth4 K2 K3 hb4 K9)
  | false =>
    subst hd
    have hnI : (n : Int) = D.l.length := by rw [Hn.out]
    have hbI : (nb : Int) = o.b.length := by rw [Hnb.out]
    by_cases hbad : ok < 0 ∨ (n : Int) ≤ ok ∨ 64 < (nb : Int)
    · have hR : D.write o.k o.b = (D, 101) := by unfold DS.write; rw [if_neg (by rw [← Hdn.out]; decide), if_pos (by rw [← Hok.out, ← Hn.out]; omega)]
      rw [hR]
      clear hR
      have hor : ok < 0 ∨ ((0 ≤ ok) ∧ (n : Int) ≤ ok) ∨ ((0 ≤ ok) ∧ (ok < n) ∧ 64 < (nb : Int)) := by omega
      clear hbad hbI hnI
      rcases hor with hx | ⟨hx, hy⟩ | ⟨hx, hy, hz⟩
      · go_enter Try.func20, Try.ntmps20
        go_wp2_with (first
          | (guard_target = wpList _ _ _ (Oper.mk _ (Op.box 30 _) _ _ _ _ :: _) _ _; refine wpList_box_v rfl 30 _ rfl [.slice Al n cl, .slice Ar m cr, .int .i64 op, .int .i64 fu, .bool false] (by rfl) ?_; intro b2 w1 hb2 B1 K1)
          | (guard_target = wpList _ _ _ (Oper.mk _ (Op.box 36 _) _ _ _ _ :: _) _ _; refine wpList_box_v rfl 36 _ rfl [.int .i64 0, .int .i64 ok, .slice Ab nb cb, .slice Af nf cf] (by rfl) ?_; intro b3 w2 hb3 C2 K2; have B2 := B1.keep K2 id)
          | (guard_target = wpList _ _ _ (Oper.mk _ (Op.alloc 30) _ _ _ _ :: _) _ _; refine wpList_alloc_v rfl 30 rfl zst info30 stz zst_cells ?_; intro b4 w3 hb4 D3 K3; have B3 := B2.keep K3 id; have C3 := C2.keep K3 id; have k0 := C3.cell 0; have k1 := C3.cell 1; have k2 := C3.cell 2; have k3 := C3.cell 3; have s0 := B3.cell 0; have s4 := B3.cell 4; have s3 := B3.cell 3; simp only [List.getElem?_cons_zero, List.getElem?_cons_succ] at k0 k1 k2 k3 s0 s3 s4)
          | (guard_target = wpList _ _ _ (Oper.mk _ (Op.load 30 _) _ _ _ _ :: _) _ _; refine wpList_load_blk rfl 30 _ rfl b2 0 [.slice Al n cl, .slice Ar m cr, .int .i64 op, .int .i64 fu, .bool false] [.slice Al n cl, .slice Ar m cr, .int .i64 op, .int .i64 fu, .bool false] 30 _ (by rfl) B3 (part0 _) Try.underlying30 rfl info30 ?_)
          | (guard_target = wpList _ _ _ (Oper.mk _ (Op.store 30 _ _) _ _ _ _ :: _) _ _; refine wpList_store_whole rfl 30 _ _ rfl b4 stz [.slice Al n cl, .slice Ar m cr, .int .i64 op, .int .i64 fu, .bool false] 30 (by rfl) (by rfl) D3 (by rfl) info30 (st5_one rfl rfl _ _ _) ?_; intro w9 D9 K9))
        refine ret_cell_tmp rfl b4 [.slice Al n cl, .slice Ar m cr, .int .i64 op, .int .i64 fu, .bool false] 30 _ (.int .i64 101) (by rfl) (by rfl) D9 Try.underlying30 rfl info30 rfl ?_
        exact DoPost.same HR.out Hst.out (K1.noth4 K2 K3 hb4 K9)
      · go_enter Try.func20, Try.ntmps20
        go_wp2_with (first
          | (guard_target = wpList _ _ _ (Oper.mk _ (Op.box 30 _) _ _ _ _ :: _) _ _; refine wpList_box_v rfl 30 _ rfl [.slice Al n cl, .slice Ar m cr, .int .i64 op, .int .i64 fu, .bool false] (by rfl) ?_; intro b2 w1 hb2 B1 K1)
          | (guard_target = wpList _ _ _ (Oper.mk _ (Op.box 36 _) _ _ _ _ :: _) _ _; refine wpList_box_v rfl 36 _ rfl [.int .i64 0, .int .i64 ok, .slice Ab nb cb, .slice Af nf cf] (by rfl) ?_; intro b3 w2 hb3 C2 K2; have B2 := B1.keep K2 id)
          | (guard_target = wpList _ _ _ (Oper.mk _ (Op.alloc 30) _ _ _ _ :: _) _ _; refine wpList_alloc_v rfl 30 rfl zst info30 stz zst_cells ?_; intro b4 w3 hb4 D3 K3; have B3 := B2.keep K3 id; have C3 := C2.keep K3 id; have k0 := C3.cell 0; have k1 := C3.cell 1; have k2 := C3.cell 2; have k3 := C3.cell 3; have s0 := B3.cell 0; have s4 := B3.cell 4; have s3 := B3.cell 3; simp only [List.getElem?_cons_zero, List.getElem?_cons_succ] at k0 k1 k2 k3 s0 s3 s4)
          | (guard_target = wpList _ _ _ (Oper.mk _ (Op.load 30 _) _ _ _ _ :: _) _ _; refine wpList_load_blk rfl 30 _ rfl b2 0 [.slice Al n cl, .slice Ar m cr, .int .i64 op, .int .i64 fu, .bool false] [.slice Al n cl, .slice Ar m cr, .int .i64 op, .int .i64 fu, .bool false] 30 _ (by rfl) B3 (part0 _) Try.underlying30 rfl info30 ?_)
          | (guard_target = wpList _ _ _ (Oper.mk _ (Op.store 30 _ _) _ _ _ _ :: _) _ _; refine wpList_store_whole rfl 30 _ _ rfl b4 stz [.slice Al n cl, .slice Ar m cr, .int .i64 op, .int .i64 fu, .bool false] 30 (by rfl) (by rfl) D3 (by rfl) info30 (st5_one rfl rfl _ _ _) ?_; intro w9 D9 K9))
        refine ret_cell_tmp rfl b4 [.slice Al n cl, .slice Ar m cr, .int .i64 op, .int .i64 fu, .bool false] 30 _ (.int .i64 101) (by rfl) (by rfl) D9 Try.underlying30 rfl info30 rfl ?_
        exact DoPost.same HR.out Hst.out (K1.noth4 K2 K3 hb4 K9)
      · go_enter Try.func20, Try.ntmps20
        go_wp2_with (first
          | (guard_target = wpList _ _ _ (Oper.mk _ (Op.box 30 _) _ _ _ _ :: _) _ _; refine wpList_box_v rfl 30 _ rfl [.slice Al n cl, .slice Ar m cr, .int .i64 op, .int .i64 fu, .bool false] (by rfl) ?_; intro b2 w1 hb2 B1 K1)
          | (guard_target = wpList _ _ _ (Oper.mk _ (Op.box 36 _) _ _ _ _ :: _) _ _; refine wpList_box_v rfl 36 _ rfl [.int .i64 0, .int .i64 ok, .slice Ab nb cb, .slice Af nf cf] (by rfl) ?_; intro b3 w2 hb3 C2 K2; have B2 := B1.keep K2 id)
          | (guard_target = wpList _ _ _ (Oper.mk _ (Op.alloc 30) _ _ _ _ :: _) _ _; refine wpList_alloc_v rfl 30 rfl zst info30 stz zst_cells ?_; intro b4 w3 hb4 D3 K3; have B3 := B2.keep K3 id; have C3 := C2.keep K3 id; have k0 := C3.cell 0; have k1 := C3.cell 1; have k2 := C3.cell 2; have k3 := C3.cell 3; have s0 := B3.cell 0; have s4 := B3.cell 4; have s3 := B3.cell 3; simp only [List.getElem?_cons_zero, List.getElem?_cons_succ] at k0 k1 k2 k3 s0 s3 s4)
          | (guard_target = wpList _ _ _ (Oper.mk _ (Op.load 30 _) _ _ _ _ :: _) _ _; refine wpList_load_blk rfl 30 _ rfl b2 0 [.slice Al n cl, .slice Ar m cr, .int .i64 op, .int .i64 fu, .bool false] [.slice Al n cl, .slice Ar m cr, .int .i64 op, .int .i64 fu, .bool false] 30 _ (by rfl) B3 (part0 _) Try.underlying30 rfl info30 ?_)
          | (guard_target = wpList _ _ _ (Oper.mk _ (Op.store 30 _ _) _ _ _ _ :: _) _ _; refine wpList_store_whole rfl 30 _ _ rfl b4 stz [.slice Al n cl, .slice Ar m cr, .int .i64 op, .int .i64 fu, .bool false] 30 (by rfl) (by rfl) D3 (by rfl) info30 (st5_one rfl rfl _ _ _) ?_; intro w9 D9 K9))
        refine ret_cell_tmp rfl b4 [.slice Al n cl, .slice Ar m cr, .int .i64 op, .int .i64 fu, .bool false] 30 _ (.int .i64 101) (by rfl) (by rfl) D9 Try.underlying30 rfl info30 rfl ?_
        exact DoPost.same HR.out Hst.out (K1.noth4 K2 K3 hb4 K9)
    · have hR : D.write o.k o.b = ((D.put o.k.toNat o.b).tick, if D.fuse == 0 then 100 else 0) := by unfold DS.write; rw [if_neg (by rw [← Hdn.out]; decide), if_neg (by rw [← Hok.out, ← Hn.out]; omega)]
      rw [hR]
      have h9 := do_write_ok HR.out hok ho hr o hoo Ab Af cb cf hAb h00 Hdn.out.symm (by rw [← Hok.out]; omega) (by rw [← Hok.out]; omega) (by omega)
      rw [Hst.out, hov] at h9
      exact h9
end Go.Proofs.Ytffcglfepobdjaa
/- The reference's crash: the plain part. -/
set_option linter.unusedVariables false
set_option linter.unusedSimpArgs false
set_option maxRecDepth 10000
set_option maxHeartbeats 1500000
namespace Go.Proofs.Ytffcglfepobdjaa
open Go.RowKit

def takes (f i : Nat) : Prop := f = 1 ∨ (f = 2 ∧ i < 32) ∨ (f = 3 ∧ 32 ≤ i)
instance (f i : Nat) : Decidable (takes f i) := by unfold takes; infer_instance
/-- The first j bytes are dealt with. -/
def mixJ (f j : Nat) (a b : Bk) : Bk := (List.range 64).map fun i => if i < j ∧ takes f i then b.getD i 0 else a.getD i 0
theorem mixJ_length (f j : Nat) (a b : Bk) : (mixJ f j a b).length = 64 := by simp [mixJ]
theorem mixJ_zero (f : Nat) (a b : Bk) (ha : a.length = 64) : mixJ f 0 a b = a := by
  apply List.ext_getElem?
  intro i
  by_cases h : i < 64
  · simp [mixJ, h, List.getD_eq_getElem?_getD, ha]
  · rw [List.getElem?_eq_none (by rw [mixJ_length]; omega), List.getElem?_eq_none (by omega)]
theorem mixJ_yes (f j : Nat) (a b : Bk) (hj : j < 64) (h : takes f j) : mixJ f (j + 1) a b = (mixJ f j a b).set j (b.getD j 0) := by
  apply List.ext_getElem?
  intro i
  by_cases hi : i < 64
  · rw [List.getElem?_set]
    by_cases hij : j = i
    · subst hij
      simp [mixJ, hi, h]
    · have e : (i < j + 1) = (i < j) := by simp; omega
      simp [mixJ, hi, hij, e]
  · rw [List.getElem?_eq_none (by rw [mixJ_length]; omega), List.getElem?_eq_none (by rw [List.length_set, mixJ_length]; omega)]
theorem mixJ_no (f j : Nat) (a b : Bk) (h : ¬ takes f j) : mixJ f (j + 1) a b = mixJ f j a b := by
  unfold mixJ
  refine List.map_congr_left fun i _ => ?_
  by_cases hij : i = j
  · subst hij; simp [h]
  · have e : (i < j + 1) = (i < j) := by simp; omega
    simp only [e]
theorem mixJ_all (f : Nat) (a b : Bk) (ha : a.length = 64) (hb : b.length = 64) : mixJ f 64 a b = mix f a b := by
  apply List.ext_getElem?
  intro i
  by_cases hi : i < 64
  · have e1 : (mixJ f 64 a b)[i]? = some (if takes f i then b.getD i 0 else a.getD i 0) := by simp [mixJ, hi]
    rw [e1]
    unfold mix
    have hd : ∀ x : Bk, x.length = 64 → x[i]? = some (x.getD i 0) := fun x hx => by rw [List.getD_eq_getElem?_getD, List.getElem?_eq_getElem (by omega)]; rfl
    by_cases h32 : i < 32
    · rw [List.getElem?_append_left (by split <;> rw [List.length_take] <;> omega)]
      by_cases hf : f = 1 ∨ f = 2
      · rw [if_pos hf, List.getElem?_take, if_pos h32, hd b hb, if_pos (by unfold takes; omega)]
      · rw [if_neg hf, List.getElem?_take, if_pos h32, hd a ha, if_neg (by unfold takes; omega)]
    · have hl : (if f = 1 ∨ f = 2 then b.take 32 else a.take 32).length = 32 := by split <;> rw [List.length_take] <;> omega
      rw [List.getElem?_append_right (by omega), hl]
      by_cases hf : f = 1 ∨ f = 3
      · rw [if_pos hf, List.getElem?_drop, show 32 + (i - 32) = i by omega, hd b hb, if_pos (by unfold takes; omega)]
      · rw [if_neg hf, List.getElem?_drop, show 32 + (i - 32) = i by omega, hd a ha, if_neg (by unfold takes; omega)]
  · rw [List.getElem?_eq_none (by rw [mixJ_length]; omega), List.getElem?_eq_none (by rw [mix_length _ _ _ ha hb]; omega)]

theorem exec_store1 {P : Program} {a : Act} {w : World} {o : Oper} (ty : TypeId) (x y : Operand) (ho : o.op = .store ty x y) (b k : Nat) (v : Value) {z : Option Value} {bytes : Nat}
    (hx : a.eval x = .pointer (some ⟨b, k, none⟩)) (hy : a.eval y = v) (ht : w.there b k 1) (h1 : v.oneCell' = true) (hc : v.cells = #[v]) (hi : (P.info? ty).map (fun i => (i.zero, i.size, i.bytes)) = some (z, 1, bytes)) :
    (execOp a.eval o).run P w = .ok .skip (w.setCell ⟨b, k, none⟩ v) := by
  have hst := run_storeCells_cells (P := P) b k [v] 0 w (fun j hj => by simpa using (ht j (by simpa using hj)).1) (fun j hj => by simpa using (ht j (by simpa using hj)).2) (by simpa using h1)
  cases hq : P.info? ty with
  | none => simp [hq] at hi
  | some i =>
    have hs : i.size = 1 := by simp [hq] at hi; exact hi.2.1
    simp only [Nat.add_zero, World.setCells] at hst
    simp [execOp, ho, hx, hy, Instr.storeAt, Instr.sureAddr, storeVar, sizeOf, typeInfo, hq, hs, hc, hst]
theorem splice_one (m : Bk) (j : Nat) (y : UInt8) (hj : j < m.length) : splice (bv m) j [u8 y] = bv (m.set j y) := by
  rw [show [u8 y] = bv [y] from rfl, ← bv_splice]
  congr 1
  apply List.ext_getElem?
  intro i
  unfold splice
  rw [List.getElem?_set]
  by_cases h1 : i < j
  · rw [List.getElem?_append_left (by rw [List.length_take]; omega), List.getElem?_take, if_pos h1, if_neg (by omega)]
  · rw [List.getElem?_append_right (by rw [List.length_take]; omega), List.length_take, show min j m.length = j by omega]
    by_cases h2 : j = i
    · subst h2; simp [hj]
    · rw [if_neg h2, List.getElem?_append_right (by simp; omega), List.getElem?_drop]
      congr 1
      simp
      omega
/-- One byte of a block of a row. -/
theorem Rows.put1 {w : World} {F : Nat → Prop} {g n c : Nat} {M : List Bk} (H : Rows w F 52 64 (.slice (some ⟨g, 0, none⟩) n c) (M.map bv)) (K j : Nat) (y : UInt8) (hK : K < M.length) (hM : (M.getD K []).length = 64) (hj : j < 64) :
    Rows (w.setCell ⟨g, K * 64 + j, none⟩ (u8 y)) F 52 64 (.slice (some ⟨g, 0, none⟩) n c) ((M.set K ((M.getD K []).set j y)).map bv) ∧ w.there g (K * 64 + j) 1 := by
  have hlen : K < (M.map bv).length := by rw [List.length_map]; exact hK
  have e0 : M.getD K [] = M[K] := by simp [List.getD_eq_getElem?_getD, hK]
  have h := Rows.splice H K j [u8 y] hlen (by simp; omega)
  have e : (M.map bv).set K (Go.splice (M.map bv)[K] j [u8 y]) = (M.set K ((M.getD K []).set j y)).map bv := by
    rw [List.getElem_map, splice_one _ _ _ (by rw [← e0]; omega), ← List.map_set, e0]
  rw [e] at h
  refine ⟨h, fun q hq => ?_⟩
  have := Rows.there H K hlen (j + q) (by omega)
  rw [Nat.add_assoc]
  exact this
theorem exec_build30c {a : Act} {w : World} {o : Oper} (x y : Operand) (ho : o.op = .build 30 #[(0, x), (2, y), (3, .const (.int .i64 (-1)))]) (A : Option Addr) (n c : Nat) (ops : Int) (hx : a.eval x = .slice A n c) (hy : a.eval y = .int .i64 ops) :
    (execOp a.eval o).run Try.prog w = .ok (.value (.agg [.slice A n c, .slice none 0 0, .int .i64 ops, .int .i64 (-1), .bool false].toArray)) w := by
  have hz : a.eval (.const (.int .i64 (-1))) = .int .i64 (-1) := rfl
  unfold execOp
  simp only [ho, List.map_toArray, List.map_cons, List.map_nil, hx, hy, hz, Sem.run_bind, Sem.run_pure, Result.andThen_ok, build30c A n c ops]
end Go.Proofs.Ytffcglfepobdjaa
/- The reference's crash: the walk. -/
set_option linter.unusedVariables false
set_option linter.unusedSimpArgs false
set_option maxRecDepth 10000
set_option maxHeartbeats 4000000
namespace Go.Proofs.Ytffcglfepobdjaa
open Go.RowKit

section
variable {P : Program} {w : World} {ops : Array Oper} {rest : List Oper} {o : Oper} {a : Act} {Q : Exit → Act → World → Prop}
theorem wpList_slice0_v (hgd : o.guard = none) (T E : TypeId) (size : Nat) (ho : o.op = .buildSlice T 0 #[]) (hT : P.underlying T = some (.slice E)) {i : TypeInfo} (hi : P.info? E = some i)
    (h : ∀ b w1, w.heap.size ≤ b → Rows w1 (fun q => q = b) E size (.slice (some ⟨b, 0, none⟩) 0 0) [] → Keep Noth w w1 → wpList P ops Q rest (a.put o.dst (.slice (some ⟨b, 0, none⟩) 0 0)) w1) : wpList P ops Q (o :: rest) a w :=
  wpList_run hgd _ _ (exec_buildSlice0 T E ho hT hi) (h _ _ (Nat.le_refl _) (Rows.empty w E size) ((Keep.refl _ _).alloc _))
end
theorem wv_byte (p : Nat × Bk) (j : Nat) (h : j < p.2.length) : ∃ y, p.2.getD j 0 = y ∧ (wv p)[1 + j]? = some (.int .u8 (y.toNat : Int)) := by
  refine ⟨p.2[j], by simp [List.getD_eq_getElem?_getD, h], ?_⟩
  rw [Nat.add_comm, wv, List.getElem?_cons_succ]
  simp [bv, u8, h]

structure CrOut (w wx : World) (g5 n c5 b2 b4 : Nat) (SV : List Value) (L : List Bk) : Prop where
  rows : Rows wx (Fresh w wx) 52 64 (.slice (some ⟨g5, 0, none⟩) n c5) (L.map bv)
  blk2 : BlockIs wx b2 SV 30
  blk4 : BlockIs wx b4 stz 30
  kept : Keep Noth w wx
structure CrIn (w wx : World) (g5 n c5 b2 b4 b8 : Nat) (SV : List Value) (p : Nat × Bk) (L : List Bk) : Prop where
  out : CrOut w wx g5 n c5 b2 b4 SV L
  blk8 : BlockIs wx b8 (wv p) 54
theorem CrOut.keep {w wx wy : World} {g5 n c5 b2 b4 : Nat} {SV : List Value} {L : List Bk} (H : CrOut w wx g5 n c5 b2 b4 SV L) (K : Keep Noth wx wy) : CrOut w wy g5 n c5 b2 b4 SV L :=
  ⟨(H.rows.keep K (Dj.noth _)).mono (fun q hq => ⟨hq.1, Nat.lt_of_lt_of_le hq.2 K.size⟩), H.blk2.keep K id, H.blk4.keep K id, H.kept.trans K (fun _ _ h => h)⟩
theorem CrIn.drew {w wx : World} {g5 n c5 b2 b4 b8 : Nat} {SV : List Value} {p : Nat × Bk} {L : List Bk} (H : CrIn w wx g5 n c5 b2 b4 b8 SV p L) : CrIn w wx.drew g5 n c5 b2 b4 b8 SV p L :=
  ⟨H.out.keep ((Keep.refl _ _).drew), H.blk8.drew⟩
theorem CrOut.start {w wx w8 : World} {g5 n c5 b2 b4 b8 : Nat} {SV : List Value} {p : Nat × Bk} {L : List Bk} (H : CrOut w wx g5 n c5 b2 b4 SV L) (f : Nat) (hb8 : wx.heap.size ≤ b8) (B8 : BlockIs w8 b8 (wv p) 54) (K8 : Keep Noth wx w8) (hp : p.1 < L.length) (h64 : (L.getD p.1 []).length = 64) :
    CrIn w w8 g5 n c5 b2 b4 b8 SV p (L.set p.1 (mixJ f 0 (L.getD p.1 []) p.2)) := by
  refine ⟨?_, B8⟩
  have e : L.set p.1 (mixJ f 0 (L.getD p.1 []) p.2) = L := by
    rw [mixJ_zero _ _ _ h64]
    have : L.getD p.1 [] = L[p.1] := by simp [List.getD_eq_getElem?_getD, hp]
    rw [this]; simp
  rw [e]
  exact H.keep K8
theorem CrIn.put {w wx : World} {g5 n c5 b2 b4 b8 : Nat} {SV : List Value} {p : Nat × Bk} {M : List Bk} (H : CrIn w wx g5 n c5 b2 b4 b8 SV p M) (j : Nat) (y : UInt8) (hj : j < 64) (hK : p.1 < M.length) (hM : (M.getD p.1 []).length = 64) :
    CrIn w (wx.setCell ⟨g5, p.1 * 64 + j, none⟩ (.int .u8 (y.toNat : Int))) g5 n c5 b2 b4 b8 SV p (M.set p.1 ((M.getD p.1 []).set j y)) ∧ wx.there g5 (p.1 * 64 + j) 1 := by
  obtain ⟨h1, h2⟩ := H.out.rows.put1 p.1 j y hK hM hj
  have K := (Keep.refl (Only g5) wx).cell (p.1 * 64 + j) (.int .u8 (y.toNat : Int))
  have hn2 : ¬ Only g5 b2 := fun e => H.out.rows.ne H.out.blk2 (by decide) (by unfold Only at e; rw [e]; rfl)
  have hn4 : ¬ Only g5 b4 := fun e => H.out.rows.ne H.out.blk4 (by decide) (by unfold Only at e; rw [e]; rfl)
  have hn8 : ¬ Only g5 b8 := fun e => H.out.rows.ne H.blk8 (by decide) (by unfold Only at e; rw [e]; rfl)
  refine ⟨⟨⟨h1.mono (fun q hq => ⟨hq.1, Nat.lt_of_lt_of_le hq.2 K.size⟩), H.out.blk2.keep K hn2, H.out.blk4.keep K hn4, H.out.kept.own K (fun q e => by unfold Only at e; subst e; exact (H.out.rows.foot q rfl).1)⟩, H.blk8.keep K hn8⟩, h2⟩
theorem CrIn.finish {w wx : World} {g5 n c5 b2 b4 b8 : Nat} {SV : List Value} {p : Nat × Bk} {L0 L : List Bk} {row : List (Nat × Bk)} (fs : List Int) (k : Nat) (hn : crashK fs L0 row (k + 1) = L.set p.1 (mix (formOf fs k) (L.getD p.1 []) p.2)) (f : Nat) (hf : formOf fs k = f) (h64 : (L.getD p.1 []).length = 64) (hp : p.2.length = 64)
    (H : CrIn w wx g5 n c5 b2 b4 b8 SV p (L.set p.1 (mixJ f 64 (L.getD p.1 []) p.2))) : CrOut w wx g5 n c5 b2 b4 SV (crashK fs L0 row (k + 1)) := by
  rw [hn, hf, ← mixJ_all _ _ _ h64 hp]
  exact H.out

theorem crash_post {w wr w9 : World} {g5 n c5 b2 b4 : Nat} {SV : List Value} {D : DS} {fs : List Int} {op : Int} (hop : op = (D.ops : Int)) (HO : CrOut w wr g5 n c5 b2 b4 SV (crashK fs D.l D.row D.row.length)) (K9 : Keep (Only b4) wr w9) (hb : w.heap.size ≤ b4) :
    ∃ vl', Ending.returned (.agg [.slice (some ⟨g5, 0, none⟩) n c5, .slice none 0 0, .int .i64 op, .int .i64 (-1), .bool false].toArray) = .returned (.agg (stv vl' (.slice none 0 0) (D.crash fs)).toArray) ∧ StAt w9 (Fresh w w9) vl' (.slice none 0 0) (D.crash fs) ∧ Keep Noth w w9 := by
  refine ⟨_, by rw [hop]; rfl, ⟨?_, Rows.nil _ _ _ _⟩, HO.kept.own K9 (fun q e => by unfold Only at e; subst e; exact hb)⟩
  exact (HO.rows.stay K9 (fun q hq e => HO.rows.ne HO.blk4 (by decide) (by unfold Only at e; rw [hq, e]))).mono (fun q hq => ⟨hq.1, Nat.lt_of_lt_of_le hq.2 K9.size⟩)

theorem st_crash {w : World} {F : Nat → Prop} {vl vr : Value} {D : DS} (H : StAt w F vl vr D) (hok : D.ok) (hr : D.row.length ≤ 1099511627776) (A : Option Addr) (c : Nat) (fs : List Int) (hA : Reads w A (ints fs)) (hfl : fs.length ≤ 140737488351232) (hfw : ∀ x ∈ fs, -9223372036854775808 ≤ x ∧ x ≤ 9223372036854775807) :
    Calls Try.prog 58 #[.agg (stv vl vr D).toArray, .slice A fs.length c] w (fun e w' => ∃ vl', e = .returned (.agg (stv vl' (.slice none 0 0) (D.crash fs)).toArray) ∧ StAt w' (Fresh w w') vl' (.slice none 0 0) (D.crash fs) ∧ Keep Noth w w') := by
  obtain ⟨Al, cl, rfl⟩ := H.l.valm
  obtain ⟨Ar, cr, rfl⟩ := H.row.valm
  obtain ⟨gl, rfl⟩ := H.l.some_at (by rw [List.length_map]; have := hok.one; omega)
  obtain ⟨n, hn⟩ : ∃ n, n = D.l.length := ⟨_, rfl⟩
  obtain ⟨m, hm⟩ : ∃ n, n = D.row.length := ⟨_, rfl⟩
  obtain ⟨op, hop⟩ : ∃ n : Int, n = (D.ops : Int) := ⟨_, rfl⟩
  obtain ⟨fu, hfu⟩ : ∃ n : Int, n = D.fuse := ⟨_, rfl⟩
  obtain ⟨dn, hdn⟩ : ∃ n : Bool, n = D.down := ⟨_, rfl⟩
  have hst : (stv (.slice (some ⟨gl, 0, none⟩) D.l.length cl) (.slice Ar D.row.length cr) D) = [.slice (some ⟨gl, 0, none⟩) n cl, .slice Ar m cr, .int .i64 op, .int .i64 fu, .bool dn] := by rw [hn, hm, hop, hfu, hdn]; rfl
  rw [hst]
  have HR := hid H
  have HA := hid hA
  have Hn := hid hn
  have Hm := hid hm
  have Hop := hid hop
  have hflI : (fs.length : Int) ≤ 140737488351232 := by omega
  have Hfw := hid hfw
  have hm1 : (m : Int) ≤ 1099511627776 := by omega
  have hmost := hok.most
  obtain ⟨i52, hi52, -⟩ := info_parts info52
  have Hi52 := hid hi52
  clear hst hn hm hop hfu hdn H hA hfw hi52
  go_enter Try.func58, Try.ntmps58
  go_wp2_with (first
    | (guard_target = wpList _ _ _ (Oper.mk _ (Op.box 30 _) _ _ _ _ :: _) _ _; refine wpList_box_v rfl 30 _ rfl [.slice (some ⟨gl, 0, none⟩) n cl, .slice Ar m cr, .int .i64 op, .int .i64 fu, .bool dn] (by rfl) ?_; intro b2 w1 hb2 B1 K1)
    | (guard_target = wpList _ _ _ (Oper.mk _ (Op.alloc 30) _ _ _ _ :: _) _ _; refine wpList_alloc_v rfl 30 rfl zst info30 stz zst_cells ?_; intro b4 w2 hb4 D2 K2; have B2 := B1.keep K2 id)
    | (guard_target = wpList _ _ _ (Oper.mk _ (Op.buildSlice _ _ _) _ _ _ _ :: _) _ _; refine wpList_slice0_v rfl 27 52 64 rfl sl27 Hi52.out ?_; intro b3 w3 hb3 R3 K3; have B3 := B2.keep K3 id; have D3 := D2.keep K3 id; have s0 := B3.cell 0; simp only [List.getElem?_cons_zero] at s0; have K03 := (K1.trans K2 (fun _ _ h => h)).trans K3 (fun _ _ h => h); have HL3 := (HR.out.keep K03 (Dj.noth _)).l; rw [← Hn.out] at HL3)
    | (at_builtin; refine wpList_append_rows rfl _ _ 27 rfl 52 zv 64 64 sl27 info52 zv_size (by decide) (by decide) _ _ [] (D.l.map bv) (by rfl) R3 (some ⟨gl, 0, none⟩) n cl (by rfl) (by rw [List.length_map, Hn.out]) (fun h => by cases h) HL3.each (rd_of_own HL3) bvs_one (by have := Hn.out; simp only [List.length_nil]; omega) ?_; intro v5 w5 R5 K5))
  rw [List.nil_append] at R5
  obtain ⟨A5, c5, hv5⟩ := R5.valm
  subst hv5
  obtain ⟨g5, rfl⟩ := R5.some_at (by rw [List.length_map]; have := hok.one; omega)
  have h1s := K1.size
  have h2s := K2.size
  have h3s := K3.size
  have h5s := K5.size
  have d5 : ∀ q, (Value.slice (some ⟨b3, 0, none⟩) 0 0).ownBlock = some q → q = b3 := fun q hq => by simp only [Value.ownBlock, Option.some.injEq] at hq; exact hq.symm
  have HO0 : CrOut w w5 g5 n c5 b2 b4 [.slice (some ⟨gl, 0, none⟩) n cl, .slice Ar m cr, .int .i64 op, .int .i64 fu, .bool dn] (crashK fs D.l D.row 0) := by
    rw [← Hn.out] at R5
    refine ⟨R5.mono (fun q hq => ?_), B3.keep K5 (fun e => by have := d5 _ e; have := B2.lt; omega), D3.keep K5 (fun e => by have := d5 _ e; have := D2.lt; omega), K03.own K5 (fun q e => by have := d5 _ e; omega)⟩
    rcases hq with hq | hq
    · have := d5 q hq; have := R3.own.lt b3 rfl; exact ⟨by omega, by omega⟩
    · exact ⟨by omega, hq.2⟩
  have hb4w : w.heap.size ≤ b4 := by omega
  rw [← Hn.out]
  clear R5 R3 B1 B2 B3 D2 D3 K1 K2 K3 K5 s0 HL3 K03 d5 h1s h2s h3s h5s
  go_loopw [6] (fun i wr => ∃ k : Nat, i = .int .i64 k ∧ k ≤ m ∧ CrOut w wr g5 n c5 b2 b4 [.slice (some ⟨gl, 0, none⟩) n cl, .slice Ar m cr, .int .i64 op, .int .i64 fu, .bool dn] (crashK fs D.l D.row k)) (fun i _ => m - (intOf i).toNat)
  case atStart => exact ⟨0, rfl, Nat.zero_le _, HO0⟩
  case round =>
    obtain ⟨k, rfl, hkm, HO⟩ := hrel
    clear HO0
    have c0 := HO.blk2.cell 0
    have c1 := HO.blk2.cell 1
    simp only [List.getElem?_cons_zero, List.getElem?_cons_succ] at c0 c1
    by_cases hlt' : k < m
    case neg =>
      have hge : k = m := by omega
      subst hge
      have c2 := HO.blk2.cell 2
      simp only [List.getElem?_cons_zero, List.getElem?_cons_succ] at c2
      go_wp2_with (first
        | (guard_target = wpList _ _ _ (Oper.mk _ (Op.build _ _) _ _ _ _ :: _) _ _; refine wpList_run rfl _ _ (exec_build30c _ _ rfl (some ⟨g5, 0, none⟩) n c5 op (by rfl) (by rfl)) ?_)
        | (guard_target = wpList _ _ _ (Oper.mk _ (Op.store 30 _ _) _ _ _ _ :: _) _ _; refine wpList_store_whole rfl 30 _ _ rfl b4 stz [.slice (some ⟨g5, 0, none⟩) n c5, .slice none 0 0, .int .i64 op, .int .i64 (-1), .bool false] 30 (by rfl) (by rfl) HO.blk4 (by rfl) info30 (st5_one rfl rfl _ _ _) ?_; intro w9 D9 K9))
      refine ret_cell rfl b4 _ 30 _ (by rfl) D9 Try.underlying30 rfl info30 rfl ?_
      exact crash_post Hop.out (Hm.out ▸ HO) K9 hb4w
    have hlt : k < D.row.length := by rw [← Hm.out]; exact hlt'
    have hltI : (k : Int) < m := by omega
    obtain ⟨gr, rfl⟩ := HR.out.row.some_at (by rw [List.length_map]; omega)
    obtain ⟨p, hpk⟩ : ∃ p, p = D.row[k] := ⟨_, rfl⟩
    have hp := hok.row64 D.row[k] (List.getElem_mem hlt)
    rw [← hpk] at hp
    obtain ⟨L, hL⟩ : ∃ L, L = crashK fs D.l D.row k := ⟨_, rfl⟩
    have hnx : crashK fs D.l D.row (k + 1) = L.set p.1 (mix (formOf fs k) (L.getD p.1 []) p.2) := by
      rw [hL, hpk]; simp [crashK, crash1, List.getD_eq_getElem?_getD, hlt]
    have hLl : L.length = n := by rw [hL, crashK_length, Hn.out]
    have hpn : p.1 < n := by rw [Hn.out]; exact hp.1
    have hpnI : (p.1 : Int) < n := by omega
    have hL64 : (L.getD p.1 []).length = 64 := by
      have h2 : p.1 < L.length := by omega
      rw [List.getD_eq_getElem?_getD, List.getElem?_eq_getElem h2]
      exact crashK_64 fs hok.l64 hok.row64 k (by omega) _ (hL ▸ List.getElem_mem h2)
    have HpL : Hid (p.1 < L.length) := by show _ < _; omega
    have H64L := hid hL64
    have Hp64 : Hid (p.2.length = 64) := hid hp.2
    have Hw65 : Hid ((wv p).length = 65) := by show _ = _; simp [wv, hp.2]
    have Hpk : Hid ((D.row.map wv)[k]'(by rw [List.length_map]; exact hlt) = wv p) := by show _ = _; rw [List.getElem_map, hpk]
    have Hnext := hid hnx
    have Hrows : Hid (Rows wr F 54 65 (.slice (some ⟨gr, 0, none⟩) m cr) (D.row.map wv)) := by
      have := (HR.out.keep HO.kept (Dj.noth _)).row
      rw [← Hm.out] at this
      exact this
    rw [← hL] at HO
    clear hpk hp hnx hL hLl hL64 hpn
    by_cases hf0 : fs.length = 0
    · have HFm : Hid (formOf fs k = 0) := by show _ = _; unfold formOf; rw [if_pos hf0]
      have hfz : ¬ (0 : Int) < fs.length := by omega
      clear hf0
      go_wp2_with (first
        | (guard_target = wpList _ _ _ (Oper.mk _ (Op.load 54 _) _ _ _ _ :: _) _ _; refine wpList_load_row' rfl 54 _ rfl F 54 65 gr m cr (D.row.map wv) k _ (wv p) _ Hrows.out (by rw [List.length_map]; exact hlt) Hpk.out rfl (by rfl) Try.underlying54 rfl info54 ?_)
        | (guard_target = wpList _ _ _ (Oper.mk _ (Op.alloc 54) _ _ _ _ :: _) _ _; refine wpList_alloc_store rfl 54 rfl 8 _ rfl (by rfl) rfl rfl (by decide) zw (wv p) (by rw [Hw65.out]; exact info54) (wv (0, zb)) zw_cells (Hw65.out.trans wv0_length.symm) (by rfl) (wv_one _) ?_; intro b8 w8 hb8 B8 K8))
      have HI0 : CrIn w w8 g5 n c5 b2 b4 b8 [.slice (some ⟨gl, 0, none⟩) n cl, .slice (some ⟨gr, 0, none⟩) m cr, .int .i64 op, .int .i64 fu, .bool dn] p (L.set p.1 (mixJ 0 0 (L.getD p.1 []) p.2)) := HO.start 0 hb8 B8 K8 HpL.out H64L.out
      clear HO B8 K8 c0 c1 hfz
      go_loopw [9] (fun i wx => ∃ j : Nat, i = .int .i64 j ∧ j ≤ 64 ∧ CrIn w wx g5 n c5 b2 b4 b8 [.slice (some ⟨gl, 0, none⟩) n cl, .slice (some ⟨gr, 0, none⟩) m cr, .int .i64 op, .int .i64 fu, .bool dn] p (L.set p.1 (mixJ 0 j (L.getD p.1 []) p.2))) (fun i _ => 64 - (intOf i).toNat)
      case atStart => exact ⟨0, rfl, Nat.zero_le _, HI0⟩
      case round =>
        obtain ⟨j, rfl, hj, HI⟩ := hrel
        clear HI0
        by_cases h64j : j < 64
        · have hj64 : (j : Int) < 64 := by omega
          obtain ⟨y, hyd, hy⟩ := wv_byte p j (by rw [Hp64.out]; exact h64j)
          have Hy := hid hy
          have Hyd := hid hyd
          clear hy hyd
          have Hskip : Hid (L.set p.1 (mixJ 0 (j + 1) (L.getD p.1 []) p.2) = L.set p.1 (mixJ 0 j (L.getD p.1 []) p.2)) := by
            show _ = _
            rw [mixJ_no _ _ _ _ (by unfold takes; omega)]
          have HI' := HI
          rw [← Hskip.out] at HI'
          clear HI
          go_wp2_with fail
          go_roundw
          case rel => exact ⟨j + 1, by go_num, h64j, HI'⟩
          case measure => simp [intOf]; omega
        · have hge : j = 64 := by omega
          subst hge
          have HN := HI.finish fs k Hnext.out 0 HFm.out H64L.out Hp64.out
          clear HI
          go_wp2_with fail
          go_roundw
          case rel => exact ⟨k + 1, by go_num, hlt', HN⟩
          case measure => simp [intOf]; omega
    · have hf0' : (0 : Int) < fs.length := by omega
      have hmod : k % fs.length < fs.length := Nat.mod_lt _ (by omega)
      obtain ⟨ad, rfl, -⟩ := HA.out 0 (.int .i64 fs[0]) (by simp [ints, show 0 < fs.length by omega])
      obtain ⟨x, hx⟩ : ∃ x, x = fs[k % fs.length] := ⟨_, rfl⟩
      have hxb := Hfw.out x (by rw [hx]; exact List.getElem_mem _)
      have hxl := hxb.1
      have hxu := hxb.2
      have hfm : formOf fs k = ((max x 0) % 4).toNat := by unfold formOf; rw [if_neg hf0, hx]; simp [List.getD_eq_getElem?_getD, hmod]
      have hcA : wr.cell? (ad.add (k % fs.length)) = some (.int .i64 x) := by
        obtain ⟨ad', e, hc⟩ := (HA.out.keep HO.kept (fun _ _ => id)) (k % fs.length) (.int .i64 x) (by simp [ints, hmod, hx])
        injection e with e
        subst e
        exact hc
      have Hf := hid hfm
      have hmod0 : (0 : Int) ≤ (k : Int) % (fs.length : Int) := Int.emod_nonneg _ (by omega)
      have hmod1 : (k : Int) % (fs.length : Int) < (fs.length : Int) := Int.emod_lt_of_pos _ (by omega)
      clear hx hxb hfm hf0
      by_cases hneg : x ≤ 0
      · have HFm : Hid (formOf fs k = 0) := by show _ = _; rw [Hf.out]; omega
        have hnp : ¬ 0 < x := by omega
        clear hneg
        go_wp2_with (first
          | (guard_target = wpList _ _ _ (Oper.mk _ (Op.load 54 _) _ _ _ _ :: _) _ _; refine wpList_load_row' rfl 54 _ rfl F 54 65 gr m cr (D.row.map wv) k _ (wv p) _ Hrows.out (by rw [List.length_map]; exact hlt) Hpk.out rfl (by rfl) Try.underlying54 rfl info54 ?_)
          | (guard_target = wpList _ _ _ (Oper.mk _ (Op.alloc 54) _ _ _ _ :: _) _ _; refine wpList_alloc_store rfl 54 rfl 8 _ rfl (by rfl) rfl rfl (by decide) zw (wv p) (by rw [Hw65.out]; exact info54) (wv (0, zb)) zw_cells (Hw65.out.trans wv0_length.symm) (by rfl) (wv_one _) ?_; intro b8 w8 hb8 B8 K8))
        have HI0 : CrIn w w8 g5 n c5 b2 b4 b8 [.slice (some ⟨gl, 0, none⟩) n cl, .slice (some ⟨gr, 0, none⟩) m cr, .int .i64 op, .int .i64 fu, .bool dn] p (L.set p.1 (mixJ 0 0 (L.getD p.1 []) p.2)) := HO.start 0 hb8 B8 K8 HpL.out H64L.out
        clear HO B8 K8 c0 c1 hnp hcA
        go_loopw [9] (fun i wx => ∃ j : Nat, i = .int .i64 j ∧ j ≤ 64 ∧ CrIn w wx g5 n c5 b2 b4 b8 [.slice (some ⟨gl, 0, none⟩) n cl, .slice (some ⟨gr, 0, none⟩) m cr, .int .i64 op, .int .i64 fu, .bool dn] p (L.set p.1 (mixJ 0 j (L.getD p.1 []) p.2))) (fun i _ => 64 - (intOf i).toNat)
        case atStart => exact ⟨0, rfl, Nat.zero_le _, HI0⟩
        case round =>
          obtain ⟨j, rfl, hj, HI⟩ := hrel
          clear HI0
          by_cases h64j : j < 64
          · have hj64 : (j : Int) < 64 := by omega
            obtain ⟨y, hyd, hy⟩ := wv_byte p j (by rw [Hp64.out]; exact h64j)
            have Hy := hid hy
            have Hyd := hid hyd
            clear hy hyd
            have Hskip : Hid (L.set p.1 (mixJ 0 (j + 1) (L.getD p.1 []) p.2) = L.set p.1 (mixJ 0 j (L.getD p.1 []) p.2)) := by
              show _ = _
              rw [mixJ_no _ _ _ _ (by unfold takes; omega)]
            have HI' := HI
            rw [← Hskip.out] at HI'
            clear HI
            go_wp2_with fail
            go_roundw
            case rel => exact ⟨j + 1, by go_num, h64j, HI'⟩
            case measure => simp [intOf]; omega
          · have hge : j = 64 := by omega
            subst hge
            have HN := HI.finish fs k Hnext.out 0 HFm.out H64L.out Hp64.out
            clear HI
            go_wp2_with fail
            go_roundw
            case rel => exact ⟨k + 1, by go_num, hlt', HN⟩
            case measure => simp [intOf]; omega
      · have hpos : 0 < x := by omega
        have hpos0 : 0 ≤ x := by omega
        have h4 : x % 4 = 0 ∨ x % 4 = 1 ∨ x % 4 = 2 ∨ x % 4 = 3 := by omega
        clear hneg
        rcases h4 with h4 | h4 | h4 | h4
        · have HFm : Hid (formOf fs k = 0) := by show _ = _; rw [Hf.out]; omega
          have hb1 : (x % 4 == 1) = false := by rw [h4]; rfl
          have hb2 : (x % 4 == 2) = false := by rw [h4]; rfl
          have hb3 : (x % 4 == 3) = false := by rw [h4]; rfl
          clear h4
          go_wp2_with (first
            | (guard_target = wpList _ _ _ (Oper.mk _ (Op.load 54 _) _ _ _ _ :: _) _ _; refine wpList_load_row' rfl 54 _ rfl F 54 65 gr m cr (D.row.map wv) k _ (wv p) _ Hrows.out (by rw [List.length_map]; exact hlt) Hpk.out rfl (by rfl) Try.underlying54 rfl info54 ?_)
            | (guard_target = wpList _ _ _ (Oper.mk _ (Op.alloc 54) _ _ _ _ :: _) _ _; refine wpList_alloc_store rfl 54 rfl 8 _ rfl (by rfl) rfl rfl (by decide) zw (wv p) (by rw [Hw65.out]; exact info54) (wv (0, zb)) zw_cells (Hw65.out.trans wv0_length.symm) (by rfl) (wv_one _) ?_; intro b8 w8 hb8 B8 K8))
          have HI0 : CrIn w w8 g5 n c5 b2 b4 b8 [.slice (some ⟨gl, 0, none⟩) n cl, .slice (some ⟨gr, 0, none⟩) m cr, .int .i64 op, .int .i64 fu, .bool dn] p (L.set p.1 (mixJ 0 0 (L.getD p.1 []) p.2)) := HO.start 0 hb8 B8 K8 HpL.out H64L.out
          clear HO B8 K8 c0 c1 hcA
          go_loopw [9] (fun i wx => ∃ j : Nat, i = .int .i64 j ∧ j ≤ 64 ∧ CrIn w wx g5 n c5 b2 b4 b8 [.slice (some ⟨gl, 0, none⟩) n cl, .slice (some ⟨gr, 0, none⟩) m cr, .int .i64 op, .int .i64 fu, .bool dn] p (L.set p.1 (mixJ 0 j (L.getD p.1 []) p.2))) (fun i _ => 64 - (intOf i).toNat)
          case atStart => exact ⟨0, rfl, Nat.zero_le _, HI0⟩
          case round =>
            obtain ⟨j, rfl, hj, HI⟩ := hrel
            clear HI0
            by_cases h64j : j < 64
            · have hj64 : (j : Int) < 64 := by omega
              obtain ⟨y, hyd, hy⟩ := wv_byte p j (by rw [Hp64.out]; exact h64j)
              have Hy := hid hy
              have Hyd := hid hyd
              clear hy hyd
              have Hskip : Hid (L.set p.1 (mixJ 0 (j + 1) (L.getD p.1 []) p.2) = L.set p.1 (mixJ 0 j (L.getD p.1 []) p.2)) := by
                show _ = _
                rw [mixJ_no _ _ _ _ (by unfold takes; omega)]
              have HI' := HI
              rw [← Hskip.out] at HI'
              clear HI
              go_wp2_with fail
              go_roundw
              case rel => exact ⟨j + 1, by go_num, h64j, HI'⟩
              case measure => simp [intOf]; omega
            · have hge : j = 64 := by omega
              subst hge
              have HN := HI.finish fs k Hnext.out 0 HFm.out H64L.out Hp64.out
              clear HI
              go_wp2_with fail
              go_roundw
              case rel => exact ⟨k + 1, by go_num, hlt', HN⟩
              case measure => simp [intOf]; omega
        · have HFm : Hid (formOf fs k = 1) := by show _ = _; rw [Hf.out]; omega
          have hb1 : (x % 4 == 1) = true := by rw [h4]; rfl
          have hb2 : (x % 4 == 2) = false := by rw [h4]; rfl
          have hb3 : (x % 4 == 3) = false := by rw [h4]; rfl
          clear h4
          go_wp2_with (first
            | (guard_target = wpList _ _ _ (Oper.mk _ (Op.load 54 _) _ _ _ _ :: _) _ _; refine wpList_load_row' rfl 54 _ rfl F 54 65 gr m cr (D.row.map wv) k _ (wv p) _ Hrows.out (by rw [List.length_map]; exact hlt) Hpk.out rfl (by rfl) Try.underlying54 rfl info54 ?_)
            | (guard_target = wpList _ _ _ (Oper.mk _ (Op.alloc 54) _ _ _ _ :: _) _ _; refine wpList_alloc_store rfl 54 rfl 8 _ rfl (by rfl) rfl rfl (by decide) zw (wv p) (by rw [Hw65.out]; exact info54) (wv (0, zb)) zw_cells (Hw65.out.trans wv0_length.symm) (by rfl) (wv_one _) ?_; intro b8 w8 hb8 B8 K8))
          have HI0 : CrIn w w8 g5 n c5 b2 b4 b8 [.slice (some ⟨gl, 0, none⟩) n cl, .slice (some ⟨gr, 0, none⟩) m cr, .int .i64 op, .int .i64 fu, .bool dn] p (L.set p.1 (mixJ 1 0 (L.getD p.1 []) p.2)) := HO.start 1 hb8 B8 K8 HpL.out H64L.out
          clear HO B8 K8 c0 c1 hcA
          go_loopw [9] (fun i wx => ∃ j : Nat, i = .int .i64 j ∧ j ≤ 64 ∧ CrIn w wx g5 n c5 b2 b4 b8 [.slice (some ⟨gl, 0, none⟩) n cl, .slice (some ⟨gr, 0, none⟩) m cr, .int .i64 op, .int .i64 fu, .bool dn] p (L.set p.1 (mixJ 1 j (L.getD p.1 []) p.2))) (fun i _ => 64 - (intOf i).toNat)
          case atStart => exact ⟨0, rfl, Nat.zero_le _, HI0⟩
          case round =>
            obtain ⟨j, rfl, hj, HI⟩ := hrel
            clear HI0
            by_cases h64j : j < 64
            · have hj64 : (j : Int) < 64 := by omega
              obtain ⟨y, hyd, hy⟩ := wv_byte p j (by rw [Hp64.out]; exact h64j)
              have Hy := hid hy
              have Hyd := hid hyd
              clear hy hyd
              have ht : takes 1 j := .inl rfl
              have Hset : Hid (((L.set p.1 (mixJ 1 j (L.getD p.1 []) p.2)).set p.1 (((L.set p.1 (mixJ 1 j (L.getD p.1 []) p.2)).getD p.1 []).set j y)) = L.set p.1 (mixJ 1 (j + 1) (L.getD p.1 []) p.2)) := by
                show _ = _
                rw [List.set_set, getD_set_same HpL.out, mixJ_yes _ _ _ _ h64j ht, Hyd.out]
              have HM : Hid (((L.set p.1 (mixJ 1 j (L.getD p.1 []) p.2)).getD p.1 []).length = 64) := by
                show _ = _
                rw [getD_set_same HpL.out, mixJ_length]
              have Hpn : Hid (p.1 < (L.set p.1 (mixJ 1 j (L.getD p.1 []) p.2)).length) := by
                show _ < _
                rw [List.length_set]; exact HpL.out
              clear ht
              go_wp2_with fail
              refine wp_region_ordL [(0, true), (1, true), (2, true), (3, true), (4, true), (5, true), (6, true), (7, true), (8, true), (9, true), (10, false)] (fun w' => BlockIs w' b8 (wv p) 54) follows_mixed (by kernel_rfl) HI.blk8.drew ?_
              simp only [List.map_cons, List.map_nil, List.getElem?_cons_succ, List.getElem?_cons_zero, Option.getD_some]
              refine wpO_pure (v := .slice (some ⟨g5, 0, none⟩) n c5) (by rfl) (fun w' hw' => by rfl) ?_
              go_frame
              refine wpO_pure (v := .pointer (some ⟨b8, 0, none⟩)) (by rfl) (fun w' hw' => by go_simp) ?_
              go_frame
              refine wpO_pure (v := .int .i64 (p.1 : Int)) (by rfl) (fun w' hw' => by have hc := hw'.cell 0; simp only [wv, List.getElem?_cons_zero] at hc; go_simp) ?_
              go_frame
              refine wpO_pure (v := .int .i64 (j : Int)) (by rfl) (fun w' hw' => by rfl) ?_
              go_frame
              refine wpO_pure (v := .int .i64 (j : Int)) (by rfl) (fun w' hw' => by rfl) ?_
              go_frame
              refine wpO_pure (v := .pointer (some ⟨b8, 1, none⟩)) (by rfl) (fun w' hw' => by go_simp) ?_
              go_frame
              refine wpO_pure (v := .pointer (some ⟨b8, 1 + j, none⟩)) (by rfl) (fun w' hw' => by go_simp) ?_
              go_frame
              refine wpO_pure (v := .int .u8 (y.toNat : Int)) (by rfl) (fun w' hw' => by have hc : w'.cell? ⟨b8, 1 + j, none⟩ = some (.int .u8 (y.toNat : Int)) := (hw'.cell (1 + j)).trans Hy.out; go_simp) ?_
              go_frame
              refine wpO_pure (v := .pointer (some ⟨g5, p.1 * 64, none⟩)) (by rfl) (fun w' hw' => by go_simp) ?_
              go_frame
              refine wpO_pure (v := .pointer (some ⟨g5, p.1 * 64 + j, none⟩)) (by rfl) (fun w' hw' => by go_simp) ?_
              go_frame
              have HP := HI.drew.put j y h64j Hpn.out HM.out
              refine wpO_store (by rfl) (exec_store1 5 _ _ rfl g5 (p.1 * 64 + j) (.int .u8 (y.toNat : Int)) (by simp [Act.eval]) (by simp [Act.eval]) HP.2 rfl rfl info5') (.inl rfl) ?_
              refine wpO_nil ?_
              have HP1 := HP.1
              rw [Hset.out] at HP1
              clear HP HI
              go_frame
              go_wp2_with fail
              go_roundw
              case rel => exact ⟨j + 1, by go_num, h64j, HP1⟩
              case measure => simp [intOf]; omega
            · have hge : j = 64 := by omega
              subst hge
              have HN := HI.finish fs k Hnext.out 1 HFm.out H64L.out Hp64.out
              clear HI
              go_wp2_with fail
              go_roundw
              case rel => exact ⟨k + 1, by go_num, hlt', HN⟩
              case measure => simp [intOf]; omega
        · have HFm : Hid (formOf fs k = 2) := by show _ = _; rw [Hf.out]; omega
          have hb1 : (x % 4 == 1) = false := by rw [h4]; rfl
          have hb2 : (x % 4 == 2) = true := by rw [h4]; rfl
          have hb3 : (x % 4 == 3) = false := by rw [h4]; rfl
          clear h4
          go_wp2_with (first
            | (guard_target = wpList _ _ _ (Oper.mk _ (Op.load 54 _) _ _ _ _ :: _) _ _; refine wpList_load_row' rfl 54 _ rfl F 54 65 gr m cr (D.row.map wv) k _ (wv p) _ Hrows.out (by rw [List.length_map]; exact hlt) Hpk.out rfl (by rfl) Try.underlying54 rfl info54 ?_)
            | (guard_target = wpList _ _ _ (Oper.mk _ (Op.alloc 54) _ _ _ _ :: _) _ _; refine wpList_alloc_store rfl 54 rfl 8 _ rfl (by rfl) rfl rfl (by decide) zw (wv p) (by rw [Hw65.out]; exact info54) (wv (0, zb)) zw_cells (Hw65.out.trans wv0_length.symm) (by rfl) (wv_one _) ?_; intro b8 w8 hb8 B8 K8))
          have HI0 : CrIn w w8 g5 n c5 b2 b4 b8 [.slice (some ⟨gl, 0, none⟩) n cl, .slice (some ⟨gr, 0, none⟩) m cr, .int .i64 op, .int .i64 fu, .bool dn] p (L.set p.1 (mixJ 2 0 (L.getD p.1 []) p.2)) := HO.start 2 hb8 B8 K8 HpL.out H64L.out
          clear HO B8 K8 c0 c1 hcA
          go_loopw [9] (fun i wx => ∃ j : Nat, i = .int .i64 j ∧ j ≤ 64 ∧ CrIn w wx g5 n c5 b2 b4 b8 [.slice (some ⟨gl, 0, none⟩) n cl, .slice (some ⟨gr, 0, none⟩) m cr, .int .i64 op, .int .i64 fu, .bool dn] p (L.set p.1 (mixJ 2 j (L.getD p.1 []) p.2))) (fun i _ => 64 - (intOf i).toNat)
          case atStart => exact ⟨0, rfl, Nat.zero_le _, HI0⟩
          case round =>
            obtain ⟨j, rfl, hj, HI⟩ := hrel
            clear HI0
            by_cases h64j : j < 64
            · have hj64 : (j : Int) < 64 := by omega
              obtain ⟨y, hyd, hy⟩ := wv_byte p j (by rw [Hp64.out]; exact h64j)
              have Hy := hid hy
              have Hyd := hid hyd
              clear hy hyd
              by_cases h32 : (j : Int) < 32
              · have h32n : j < 32 := by omega
                have ht : takes 2 j := by unfold takes; omega
                have Hset : Hid (((L.set p.1 (mixJ 2 j (L.getD p.1 []) p.2)).set p.1 (((L.set p.1 (mixJ 2 j (L.getD p.1 []) p.2)).getD p.1 []).set j y)) = L.set p.1 (mixJ 2 (j + 1) (L.getD p.1 []) p.2)) := by
                  show _ = _
                  rw [List.set_set, getD_set_same HpL.out, mixJ_yes _ _ _ _ h64j ht, Hyd.out]
                have HM : Hid (((L.set p.1 (mixJ 2 j (L.getD p.1 []) p.2)).getD p.1 []).length = 64) := by
                  show _ = _
                  rw [getD_set_same HpL.out, mixJ_length]
                have Hpn : Hid (p.1 < (L.set p.1 (mixJ 2 j (L.getD p.1 []) p.2)).length) := by
                  show _ < _
                  rw [List.length_set]; exact HpL.out
                clear ht
                go_wp2_with fail
                refine wp_region_ordL [(0, true), (1, true), (2, true), (3, true), (4, true), (5, true), (6, true), (7, true), (8, true), (9, true), (10, false)] (fun w' => BlockIs w' b8 (wv p) 54) follows_mixed (by kernel_rfl) HI.blk8.drew ?_
                simp only [List.map_cons, List.map_nil, List.getElem?_cons_succ, List.getElem?_cons_zero, Option.getD_some]
                refine wpO_pure (v := .slice (some ⟨g5, 0, none⟩) n c5) (by rfl) (fun w' hw' => by rfl) ?_
                go_frame
                refine wpO_pure (v := .pointer (some ⟨b8, 0, none⟩)) (by rfl) (fun w' hw' => by go_simp) ?_
                go_frame
                refine wpO_pure (v := .int .i64 (p.1 : Int)) (by rfl) (fun w' hw' => by have hc := hw'.cell 0; simp only [wv, List.getElem?_cons_zero] at hc; go_simp) ?_
                go_frame
                refine wpO_pure (v := .int .i64 (j : Int)) (by rfl) (fun w' hw' => by rfl) ?_
                go_frame
                refine wpO_pure (v := .int .i64 (j : Int)) (by rfl) (fun w' hw' => by rfl) ?_
                go_frame
                refine wpO_pure (v := .pointer (some ⟨b8, 1, none⟩)) (by rfl) (fun w' hw' => by go_simp) ?_
                go_frame
                refine wpO_pure (v := .pointer (some ⟨b8, 1 + j, none⟩)) (by rfl) (fun w' hw' => by go_simp) ?_
                go_frame
                refine wpO_pure (v := .int .u8 (y.toNat : Int)) (by rfl) (fun w' hw' => by have hc : w'.cell? ⟨b8, 1 + j, none⟩ = some (.int .u8 (y.toNat : Int)) := (hw'.cell (1 + j)).trans Hy.out; go_simp) ?_
                go_frame
                refine wpO_pure (v := .pointer (some ⟨g5, p.1 * 64, none⟩)) (by rfl) (fun w' hw' => by go_simp) ?_
                go_frame
                refine wpO_pure (v := .pointer (some ⟨g5, p.1 * 64 + j, none⟩)) (by rfl) (fun w' hw' => by go_simp) ?_
                go_frame
                have HP := HI.drew.put j y h64j Hpn.out HM.out
                refine wpO_store (by rfl) (exec_store1 5 _ _ rfl g5 (p.1 * 64 + j) (.int .u8 (y.toNat : Int)) (by simp [Act.eval]) (by simp [Act.eval]) HP.2 rfl rfl info5') (.inl rfl) ?_
                refine wpO_nil ?_
                have HP1 := HP.1
                rw [Hset.out] at HP1
                clear HP HI
                go_frame
                go_wp2_with fail
                go_roundw
                case rel => exact ⟨j + 1, by go_num, h64j, HP1⟩
                case measure => simp [intOf]; omega
              · have h32n : ¬ j < 32 := by omega
                have Hskip : Hid (L.set p.1 (mixJ 2 (j + 1) (L.getD p.1 []) p.2) = L.set p.1 (mixJ 2 j (L.getD p.1 []) p.2)) := by
                  show _ = _
                  rw [mixJ_no _ _ _ _ (by unfold takes; omega)]
                have HI' := HI
                rw [← Hskip.out] at HI'
                clear HI
                go_wp2_with fail
                go_roundw
                case rel => exact ⟨j + 1, by go_num, h64j, HI'⟩
                case measure => simp [intOf]; omega
            · have hge : j = 64 := by omega
              subst hge
              have HN := HI.finish fs k Hnext.out 2 HFm.out H64L.out Hp64.out
              clear HI
              go_wp2_with fail
              go_roundw
              case rel => exact ⟨k + 1, by go_num, hlt', HN⟩
              case measure => simp [intOf]; omega
        · have HFm : Hid (formOf fs k = 3) := by show _ = _; rw [Hf.out]; omega
          have hb1 : (x % 4 == 1) = false := by rw [h4]; rfl
          have hb2 : (x % 4 == 2) = false := by rw [h4]; rfl
          have hb3 : (x % 4 == 3) = true := by rw [h4]; rfl
          clear h4
          go_wp2_with (first
            | (guard_target = wpList _ _ _ (Oper.mk _ (Op.load 54 _) _ _ _ _ :: _) _ _; refine wpList_load_row' rfl 54 _ rfl F 54 65 gr m cr (D.row.map wv) k _ (wv p) _ Hrows.out (by rw [List.length_map]; exact hlt) Hpk.out rfl (by rfl) Try.underlying54 rfl info54 ?_)
            | (guard_target = wpList _ _ _ (Oper.mk _ (Op.alloc 54) _ _ _ _ :: _) _ _; refine wpList_alloc_store rfl 54 rfl 8 _ rfl (by rfl) rfl rfl (by decide) zw (wv p) (by rw [Hw65.out]; exact info54) (wv (0, zb)) zw_cells (Hw65.out.trans wv0_length.symm) (by rfl) (wv_one _) ?_; intro b8 w8 hb8 B8 K8))
          have HI0 : CrIn w w8 g5 n c5 b2 b4 b8 [.slice (some ⟨gl, 0, none⟩) n cl, .slice (some ⟨gr, 0, none⟩) m cr, .int .i64 op, .int .i64 fu, .bool dn] p (L.set p.1 (mixJ 3 0 (L.getD p.1 []) p.2)) := HO.start 3 hb8 B8 K8 HpL.out H64L.out
          clear HO B8 K8 c0 c1 hcA
          go_loopw [9] (fun i wx => ∃ j : Nat, i = .int .i64 j ∧ j ≤ 64 ∧ CrIn w wx g5 n c5 b2 b4 b8 [.slice (some ⟨gl, 0, none⟩) n cl, .slice (some ⟨gr, 0, none⟩) m cr, .int .i64 op, .int .i64 fu, .bool dn] p (L.set p.1 (mixJ 3 j (L.getD p.1 []) p.2))) (fun i _ => 64 - (intOf i).toNat)
          case atStart => exact ⟨0, rfl, Nat.zero_le _, HI0⟩
          case round =>
            obtain ⟨j, rfl, hj, HI⟩ := hrel
            clear HI0
            by_cases h64j : j < 64
            · have hj64 : (j : Int) < 64 := by omega
              obtain ⟨y, hyd, hy⟩ := wv_byte p j (by rw [Hp64.out]; exact h64j)
              have Hy := hid hy
              have Hyd := hid hyd
              clear hy hyd
              by_cases h32 : (j : Int) < 32
              · have h32n : j < 32 := by omega
                have Hskip : Hid (L.set p.1 (mixJ 3 (j + 1) (L.getD p.1 []) p.2) = L.set p.1 (mixJ 3 j (L.getD p.1 []) p.2)) := by
                  show _ = _
                  rw [mixJ_no _ _ _ _ (by unfold takes; omega)]
                have HI' := HI
                rw [← Hskip.out] at HI'
                clear HI
                go_wp2_with fail
                go_roundw
                case rel => exact ⟨j + 1, by go_num, h64j, HI'⟩
                case measure => simp [intOf]; omega
              · have h32n : ¬ j < 32 := by omega
                have ht : takes 3 j := by unfold takes; omega
                have Hset : Hid (((L.set p.1 (mixJ 3 j (L.getD p.1 []) p.2)).set p.1 (((L.set p.1 (mixJ 3 j (L.getD p.1 []) p.2)).getD p.1 []).set j y)) = L.set p.1 (mixJ 3 (j + 1) (L.getD p.1 []) p.2)) := by
                  show _ = _
                  rw [List.set_set, getD_set_same HpL.out, mixJ_yes _ _ _ _ h64j ht, Hyd.out]
                have HM : Hid (((L.set p.1 (mixJ 3 j (L.getD p.1 []) p.2)).getD p.1 []).length = 64) := by
                  show _ = _
                  rw [getD_set_same HpL.out, mixJ_length]
                have Hpn : Hid (p.1 < (L.set p.1 (mixJ 3 j (L.getD p.1 []) p.2)).length) := by
                  show _ < _
                  rw [List.length_set]; exact HpL.out
                clear ht
                go_wp2_with fail
                refine wp_region_ordL [(0, true), (1, true), (2, true), (3, true), (4, true), (5, true), (6, true), (7, true), (8, true), (9, true), (10, false)] (fun w' => BlockIs w' b8 (wv p) 54) follows_mixed (by kernel_rfl) HI.blk8.drew ?_
                simp only [List.map_cons, List.map_nil, List.getElem?_cons_succ, List.getElem?_cons_zero, Option.getD_some]
                refine wpO_pure (v := .slice (some ⟨g5, 0, none⟩) n c5) (by rfl) (fun w' hw' => by rfl) ?_
                go_frame
                refine wpO_pure (v := .pointer (some ⟨b8, 0, none⟩)) (by rfl) (fun w' hw' => by go_simp) ?_
                go_frame
                refine wpO_pure (v := .int .i64 (p.1 : Int)) (by rfl) (fun w' hw' => by have hc := hw'.cell 0; simp only [wv, List.getElem?_cons_zero] at hc; go_simp) ?_
                go_frame
                refine wpO_pure (v := .int .i64 (j : Int)) (by rfl) (fun w' hw' => by rfl) ?_
                go_frame
                refine wpO_pure (v := .int .i64 (j : Int)) (by rfl) (fun w' hw' => by rfl) ?_
                go_frame
                refine wpO_pure (v := .pointer (some ⟨b8, 1, none⟩)) (by rfl) (fun w' hw' => by go_simp) ?_
                go_frame
                refine wpO_pure (v := .pointer (some ⟨b8, 1 + j, none⟩)) (by rfl) (fun w' hw' => by go_simp) ?_
                go_frame
                refine wpO_pure (v := .int .u8 (y.toNat : Int)) (by rfl) (fun w' hw' => by have hc : w'.cell? ⟨b8, 1 + j, none⟩ = some (.int .u8 (y.toNat : Int)) := (hw'.cell (1 + j)).trans Hy.out; go_simp) ?_
                go_frame
                refine wpO_pure (v := .pointer (some ⟨g5, p.1 * 64, none⟩)) (by rfl) (fun w' hw' => by go_simp) ?_
                go_frame
                refine wpO_pure (v := .pointer (some ⟨g5, p.1 * 64 + j, none⟩)) (by rfl) (fun w' hw' => by go_simp) ?_
                go_frame
                have HP := HI.drew.put j y h64j Hpn.out HM.out
                refine wpO_store (by rfl) (exec_store1 5 _ _ rfl g5 (p.1 * 64 + j) (.int .u8 (y.toNat : Int)) (by simp [Act.eval]) (by simp [Act.eval]) HP.2 rfl rfl info5') (.inl rfl) ?_
                refine wpO_nil ?_
                have HP1 := HP.1
                rw [Hset.out] at HP1
                clear HP HI
                go_frame
                go_wp2_with fail
                go_roundw
                case rel => exact ⟨j + 1, by go_num, h64j, HP1⟩
                case measure => simp [intOf]; omega
            · have hge : j = 64 := by omega
              subst hge
              have HN := HI.finish fs k Hnext.out 3 HFm.out H64L.out Hp64.out
              clear HI
              go_wp2_with fail
              go_roundw
              case rel => exact ⟨k + 1, by go_num, hlt', HN⟩
              case measure => simp [intOf]; omega
end Go.Proofs.Ytffcglfepobdjaa
/- The reference's Do. -/
set_option linter.unusedVariables false
set_option linter.unusedSimpArgs false
set_option maxRecDepth 10000
set_option maxHeartbeats 1500000
namespace Go.Proofs.Ytffcglfepobdjaa
open Go.RowKit

theorem do_crash {w : World} {F : Nat → Prop} {vl vr : Value} {D : DS} (H : StAt w F vl vr D) (hok : D.ok) (ho : D.ops ≤ 1099511627776) (hr : D.row.length ≤ 1099511627776) (o : OpV) (hoo : o.ok) (Ab Af : Option Addr) (cb cf : Nat) (hAf : Reads w Af (ints o.forms)) (h3 : o.kind = 3) :
    Calls Try.prog 20 #[.agg (stv vl vr D).toArray, .agg (opv o Ab Af cb cf).toArray] w (DoPost w F (D.crash o.forms, 0)) := by
  obtain ⟨Al, cl, rfl⟩ := H.l.valm
  obtain ⟨Ar, cr, rfl⟩ := H.row.valm
  obtain ⟨n, hn⟩ : ∃ n, n = D.l.length := ⟨_, rfl⟩
  obtain ⟨m, hm⟩ : ∃ n, n = D.row.length := ⟨_, rfl⟩
  obtain ⟨op, hop⟩ : ∃ n : Int, n = (D.ops : Int) := ⟨_, rfl⟩
  obtain ⟨fu, hfu⟩ : ∃ n : Int, n = D.fuse := ⟨_, rfl⟩
  obtain ⟨dn, hdn⟩ : ∃ n : Bool, n = D.down := ⟨_, rfl⟩
  obtain ⟨kd, hkd⟩ : ∃ n : Int, n = o.kind := ⟨_, rfl⟩
  obtain ⟨ok, hok1⟩ : ∃ n : Int, n = o.k := ⟨_, rfl⟩
  obtain ⟨nb, hnb⟩ : ∃ n : Nat, n = o.b.length := ⟨_, rfl⟩
  obtain ⟨nf, hnf⟩ : ∃ n : Nat, n = o.forms.length := ⟨_, rfl⟩
  have hst : (stv (.slice Al D.l.length cl) (.slice Ar D.row.length cr) D) = [.slice Al n cl, .slice Ar m cr, .int .i64 op, .int .i64 fu, .bool dn] := by rw [hn, hm, hop, hfu, hdn]; rfl
  have hov : opv o Ab Af cb cf = [.int .i64 kd, .int .i64 ok, .slice Ab nb cb, .slice Af nf cf] := by rw [hkd, hok1, hnb, hnf]; rfl
  have hkk := hoo.kind
  have hk1 := hoo.k
  rw [← hkd] at hkk
  rw [← hok1] at hk1
  have hkk1 := hkk.1
  have hkk2 := hkk.2
  have hk11 := hk1.1
  have hk12 := hk1.2
  have Hst := hid hst
  have HOV := hid hov
  rw [hst, hov]
  have HR := hid H
  have Hn := hid hn
  have Hm := hid hm
  have Hop := hid hop
  have Hfu := hid hfu
  have Hdn := hid hdn
  have Hok := hid hok1
  have Hnb := hid hnb
  have Hnf := hid hnf
  clear hkk hk1 hst hov hn hm hop hfu hdn hok1 hnb hnf H
  rw [← hkd] at h3
  subst h3
  clear hkd
  have HAf := hid hAf
  clear hAf
  have hcr : ∀ W : World, Keep Noth w W → Calls Try.prog 58 #[.agg [.slice Al n cl, .slice Ar m cr, .int .i64 op, .int .i64 fu, .bool dn].toArray, .slice Af nf cf] W (fun e w' => ∃ vl', e = .returned (.agg (stv vl' (.slice none 0 0) (D.crash o.forms)).toArray) ∧ StAt w' (Fresh W w') vl' (.slice none 0 0) (D.crash o.forms) ∧ Keep Noth W w') := fun W K => by
    have h := st_crash (HR.out.keep K (Dj.noth _)) hok hr Af cf o.forms (HAf.out.keep K (fun _ _ => id)) (by have := hoo.forms; omega) hoo.each
    rw [Hst.out, ← Hnf.out] at h
    exact h
  have Hcr := hid hcr
  clear hcr
  go_enter Try.func20, Try.ntmps20
  go_wp2_with (first
    | (guard_target = wpList _ _ _ (Oper.mk _ (Op.box 30 _) _ _ _ _ :: _) _ _; refine wpList_box_v rfl 30 _ rfl [.slice Al n cl, .slice Ar m cr, .int .i64 op, .int .i64 fu, .bool dn] (by rfl) ?_; intro b2 w1 hb2 B1 K1)
    | (guard_target = wpList _ _ _ (Oper.mk _ (Op.box 36 _) _ _ _ _ :: _) _ _; refine wpList_box_v rfl 36 _ rfl [.int .i64 3, .int .i64 ok, .slice Ab nb cb, .slice Af nf cf] (by rfl) ?_; intro b3 w2 hb3 C2 K2; have B2 := B1.keep K2 id)
    | (guard_target = wpList _ _ _ (Oper.mk _ (Op.alloc 30) _ _ _ _ :: _) _ _; refine wpList_alloc_v rfl 30 rfl zst info30 stz zst_cells ?_; intro b4 w3 hb4 D3 K3; have B3 := B2.keep K3 id; have C3 := C2.keep K3 id; have k0 := C3.cell 0; have k1 := C3.cell 1; have k2 := C3.cell 2; have k3 := C3.cell 3; have s0 := B3.cell 0; have s4 := B3.cell 4; have s3 := B3.cell 3; simp only [List.getElem?_cons_zero, List.getElem?_cons_succ] at k0 k1 k2 k3 s0 s3 s4)
    | (guard_target = wpList _ _ _ (Oper.mk _ (Op.load 30 (Operand.tmp 2)) _ _ _ _ :: _) _ _; refine wpList_load_blk rfl 30 _ rfl b2 0 [.slice Al n cl, .slice Ar m cr, .int .i64 op, .int .i64 fu, .bool dn] [.slice Al n cl, .slice Ar m cr, .int .i64 op, .int .i64 fu, .bool dn] 30 _ (by rfl) B3 (part0 _) Try.underlying30 rfl info30 ?_)
    | (go_at_call 58; refine (Hcr.out _ ((K1.trans K2 (fun _ _ h => h)).trans K3 (fun _ _ h => h))).mono ?_; rintro e w5 ⟨vl5, rfl, S5, K5⟩; obtain ⟨sv, hsv⟩ : ∃ sv, sv = stv vl5 (.slice none 0 0) (D.crash o.forms) := ⟨_, rfl⟩; have Hsl : Hid (sv.length = 5) := (show sv.length = 5 by rw [hsv]; rfl); have Hs1 : Hid (∀ u ∈ sv, u.oneCell' = true) := (show ∀ u ∈ sv, u.oneCell' = true by rw [hsv]; exact stv_one _ S5.l.one_val.1 rfl); rw [← hsv]; have Hsv := hid hsv; clear hsv; have D5 := D3.keep K5 id)
    | (guard_target = wpList _ _ _ (Oper.mk _ (Op.store 30 (Operand.tmp 4) _) _ _ _ _ :: _) _ _; refine wpList_store_whole rfl 30 _ _ rfl b4 stz sv 30 (by rfl) (by rfl) D5 (by rw [Hsl.out]; rfl) (by rw [Hsl.out]; exact info30) Hs1.out ?_; intro w9 D9 K9))
  refine ret_cell_tmp rfl b4 sv 30 _ (.int .i64 0) (by rfl) (by rfl) D9 Try.underlying30 rfl (by rw [Hsl.out]; exact info30) rfl ?_
  rw [Hsv.out]
  have h1s := K1.size
  have h2s := K2.size
  have h3s := K3.size
  have h5s := K5.size
  have h9s := K9.size
  refine ⟨vl5, _, rfl, ((S5.stay2 D5 K9).mono (fun q hq => .inr ⟨by have := hq.1; omega, by have := hq.2; omega⟩)), (((K1.trans K2 (fun _ _ h => h)).trans K3 (fun _ _ h => h)).trans K5 (fun _ _ h => h)).own K9 (fun q e => by unfold Only at e; subst e; omega)⟩

/-- Do. -/
theorem do_calls {w : World} {F : Nat → Prop} {vl vr : Value} {D : DS} (H : StAt w F vl vr D) (hok : D.ok) (ho : D.ops ≤ 1099511627776) (hr : D.row.length ≤ 1099511627776) (o : OpV) (hoo : o.ok) (Ab Af : Option Addr) (cb cf : Nat) (hR : OpAt w o Ab Af) :
    Calls Try.prog 20 #[.agg (stv vl vr D).toArray, .agg (opv o Ab Af cb cf).toArray] w (DoPost w F (D.doOp o)) := by
  unfold DS.doOp
  split
  · rename_i h; exact do_write H hok ho hr o hoo Ab Af cb cf hR.b h
  · rename_i h0
    split
    · rename_i h; exact do_flush H hok ho hr o hoo Ab Af cb cf h
    · rename_i h1
      split
      · rename_i h; exact do_arm H hok ho hr o hoo Ab Af cb cf h
      · rename_i h2
        split
        · rename_i h; exact do_crash H hok ho hr o hoo Ab Af cb cf hR.forms h
        · rename_i h3
          exact do_none H hok ho hr o hoo Ab Af cb cf h0 h1 h2 h3
end Go.Proofs.Ytffcglfepobdjaa
/- 'does' of a copy. -/
set_option linter.unusedVariables false
set_option linter.unusedSimpArgs false
set_option maxRecDepth 10000
set_option maxHeartbeats 1500000
namespace Go.Proofs.Ytffcglfepobdjaa
open Go.RowKit

theorem write_grow (D : DS) (k : Int) (b : List UInt8) : (D.write k b).1.ops ≤ D.ops + 1 ∧ (D.write k b).1.row.length ≤ D.row.length + 1 ∧ (D.write k b).1.l.length = D.l.length := by
  unfold DS.write
  (repeat' split) <;> simp [DS.tick, DS.put]

def noneB : List UInt8 := [110, 111, 110, 101]
structure Junk (w w2 : World) (F : Nat → Prop) (g n k : Nat) (D : DS) (wr : World) : Prop where
  dev : ∃ G, DevIs wr G g D ∧ ∀ q, G q → F q ∨ w2.heap.size ≤ q
  ok : D.ok
  len : D.l.length = n
  ops : D.ops ≤ 1000000 + k
  row : D.row.length ≤ 1000000 + k
  kept : Keep F w2 wr

theorem reads_none (W : World) : Reads (W.alloc (.cells #[.int .u8 110, .int .u8 111, .int .u8 110, .int .u8 101] 5 (4, 4 + 1))) (some ⟨W.heap.size, 0, none⟩) (bv noneB) := by
  refine Reads.of_range fun j v hv => ?_
  rw [cell_of_row _ W.heap.size (0 + j) #[.int .u8 110, .int .u8 111, .int .u8 110, .int .u8 101] 5 (4, 4 + 1) (heap_alloc_new W _), Nat.zero_add, show #[Value.int IntKind.u8 110, Value.int IntKind.u8 111, Value.int IntKind.u8 110, Value.int IntKind.u8 101] = (bv noneB).toArray from rfl, List.getElem?_toArray]
  exact hv
theorem Junk.next {w w2 wr wA wB : World} {F : Nat → Prop} {g n k : Nat} {D : DS} {G : Nat → Prop} (hD : DevIs wr G g D) (hG : ∀ q, G q → F q ∨ w2.heap.size ≤ q) (hok : D.ok) (hl : D.l.length = n) (ho : D.ops ≤ 1000000 + k) (hr : D.row.length ≤ 1000000 + k) (hk : Keep F w2 wr) (KA : Keep Noth wr wA) (j : Int) (b : List UInt8)
    (HB : DevIs wB (grow G wA wB) g (D.write j b).1) (KB : Keep G wA wB) : Junk w w2 F g n (k + 1) (D.write j b).1 wB := by
  have hg := write_grow D j b
  have h1 := hk.size
  have h2 := KA.size
  have h3 := KB.size
  refine ⟨⟨_, HB, fun q h => ?_⟩, write_ds_ok hok _ _, by omega, by omega, by omega, (hk.trans KA (fun _ _ h => h.elim)).trans KB (fun i hi h => (hG i h).resolve_right (by omega))⟩
  rcases h with h | h
  · exact hG q h
  · exact .inr (by have := h.1; omega)

theorem does4 {w : World} {F : Nat → Prop} {g : Nat} {D : DS} (hD : DevIs w F g D) (hok : D.ok) (ho : D.ops ≤ 1000000) (hr : D.row.length ≤ 1000000) (o : OpV) (hk4 : o.kind = 4)
    (Ab Af : Option Addr) (cb cf : Nat) :
    Calls Try.prog 21 #[.pointer (some ⟨g, 0, none⟩), .agg (opv o Ab Af cb cf).toArray] w (fun e w' => ∃ g', e = .returned (.tuple #[.pointer (some ⟨g', 0, none⟩), .int .i64 (D.doOp o).2]) ∧ DevIs w' (grow F w w') g' (D.doOp o).1 ∧ Keep F w w') := by
  have hop : D.doOp o = (D, 0) := by unfold DS.doOp; rw [if_neg (by omega), if_neg (by omega), if_neg (by omega), if_neg (by omega)]
  rw [hop]
  have Hlt := hid hD.lt
  obtain ⟨nb, hnb⟩ : ∃ n : Nat, n = o.b.length := ⟨_, rfl⟩
  obtain ⟨nf, hnf⟩ : ∃ n : Nat, n = o.forms.length := ⟨_, rfl⟩
  obtain ⟨ok, hok1⟩ : ∃ n : Int, n = o.k := ⟨_, rfl⟩
  have hov : opv o Ab Af cb cf = [.int .i64 4, .int .i64 ok, .slice Ab nb cb, .slice Af nf cf] := by rw [← hk4, hok1, hnb, hnf]; rfl
  rw [hov]
  obtain ⟨n, hn⟩ : ∃ n : Nat, n = D.l.length := ⟨_, rfl⟩
  have hn4 : (n : Int) ≤ 4096 := by have := hok.most; omega
  have kc := fun (W : World) (C : Array Value) (n c : Nat) => Lib.run_convert_bytes_const (P := Try.prog) W 33 5 C n c sl33 Try.underlying5
  clear hk4 hop hov hnb hnf hok1
  go_enter Try.func21, Try.ntmps21
  go_wp2_with (guard_target = wpList _ _ _ (Oper.mk _ (Op.box 36 _) _ _ _ _ :: _) _ _; refine wpList_box_v rfl 36 _ rfl [.int .i64 4, .int .i64 ok, .slice Ab nb cb, .slice Af nf cf] (by rfl) ?_; intro b w1 hb B1 K1; have c0 := B1.cell 0; simp only [List.getElem?_cons_zero] at c0)
  obtain ⟨vl1, vr1, A1⟩ := hD.keep K1 (Dj.noth _)
  refine (copy_calls A1 hok (by omega)).mono ?_
  rintro e w2 ⟨gc, rfl, HC, K2⟩
  have K02 : Keep Noth w w2 := K1.trans K2 (fun _ _ h => h)
  have A2 := A1.keep K2 (Dj.noth _)
  have hs02 := K02.size
  have hs01 := K1.size
  clear c0 B1 A1 K2
  go_wp2_with fail
  refine (count_calls A2).mono ?_
  rintro e w' ⟨rfl, rfl⟩
  rw [← hn]
  have HJ : Junk w w2 F g n 0 D w2 := ⟨⟨F, ⟨_, _, A2⟩, fun q h => .inl h⟩, hok, hn.symm, by omega, by omega, Keep.refl _ _⟩
  clear A2 hok ho hr hn
  go_wp2_with fail
  go_loopw [42] (fun i wr => ∃ (k : Nat) (DD : DS), i = .int .i64 k ∧ k ≤ n ∧ Junk w w2 F g n k DD wr) (fun i _ => n - (intOf i).toNat)
  case atStart => exact ⟨0, D, rfl, Nat.zero_le _, HJ⟩
  case round =>
    obtain ⟨k, DD, rfl, hkn, HK⟩ := hrel
    clear HJ
    obtain ⟨⟨G, HD, hG⟩, hokD, hlen, hops, hrow, hkept⟩ := HK
    by_cases hlt : k < n
    · have hlt' : (k : Int) < n := by omega
      have HDh := hid HD
      clear HD
      have KA : Keep Noth wr (wr.alloc (.cells #[.int .u8 110, .int .u8 111, .int .u8 110, .int .u8 101] 5 (4, 4 + 1))) := (Keep.refl _ _).alloc _
      have HR4 := reads_none wr
      have hHD := HDh.out.keep KA (Dj.noth _)
      have hw := write_calls hHD hokD (by omega) (by omega) (k : Int) (some ⟨wr.heap.size, 0, none⟩) 4 noneB (by decide) HR4
      go_wp2_with fail
      refine hw.mono ?_
      rintro e wB ⟨rfl, HB, KB⟩
      have HN := Junk.next (w := w) HDh.out hG hokD hlen hops hrow hkept KA (k : Int) noneB HB KB
      clear hw HR4 hHD HB KB KA
      go_wp2_with fail
      go_roundw
      case rel => exact ⟨k + 1, _, by go_num, hlt, HN⟩
      case measure => simp [intOf]; omega
    · have hge : k = n := by omega
      subst hge
      obtain ⟨vlr, vrr, AD⟩ := HD
      have K1' : Keep Noth wr (wr.alloc (.cells #[.int .i64 1] 3)) := (Keep.refl _ _).alloc _
      have hs2 := hkept.size
      have hcr := crash_calls (AD.keep K1' (Dj.noth _)) hokD (by omega) (some ⟨wr.heap.size, 0, none⟩) 1 [1] (Reads.of_range (BlockIs.new wr [.int .i64 1] 3).rangeAll) (fun ad h _ => by injection h with h; subst h; intro hq; have h2 := AD.lt _ hq; simp at h2) (by decide) (by intro x hx; simp at hx; subst hx; decide)
      rw [show ([1] : List Int).length = 1 from rfl] at hcr
      clear AD
      go_wp2_with fail
      refine hcr.mono ?_
      rintro e w5 ⟨rfl, H5, K5⟩
      have KK : Keep F w w5 := ((K02.mono (fun _ _ h => h.elim)).trans hkept (fun _ _ h => h)).trans ((K1'.mono (fun _ _ h => h.elim) : Keep G wr _).trans K5 (fun _ _ h => h)) (fun i hi h => (hG i h).resolve_right (by omega))
      have hs5 := K5.size
      have hs1 := K1'.size
      have HC5 : DevIs w5 (grow F w w5) gc D := by
        have hCF : Dj (Fresh w1 w2) F := fun q h1 h2 => by have := Hlt.out q h2; have := h1.1; omega
        have hCG : Dj (Fresh w1 w2) G := fun q h1 h2 => (hG q h2).elim (hCF q h1) (fun h => by have := h1.2; omega)
        exact (((HC.keep hkept hCF).keep K1' (Dj.noth _)).keep K5 hCG).mono (fun q h => .inr ⟨by have := h.1; omega, by have := h.2; omega⟩) (grow_lt Hlt.out KK.size)
      clear hcr H5 K5 K1' hkept HC hG
      go_wp2_with fail
      go_ret2
      exact ⟨gc, rfl, HC5, KK⟩
end Go.Proofs.Ytffcglfepobdjaa
/- BlockAll: the walk. -/
set_option linter.unusedVariables false
set_option linter.unusedSimpArgs false
set_option maxRecDepth 10000
set_option maxHeartbeats 1500000
namespace Go.Proofs.Ytffcglfepobdjaa
open Go.RowKit

theorem does_all {w : World} {F : Nat → Prop} {g : Nat} {D : DS} (hD : DevIs w F g D) (hok : D.ok) (ho : D.ops ≤ 1000000) (hr : D.row.length ≤ 1000000) (o : OpV) (hoo : o.ok)
    (Ab Af : Option Addr) (cb cf : Nat) (hR : OpAt w o Ab Af) (hAF : ∀ ad, Af = some ad → o.forms ≠ [] → ¬ F ad.block) :
    Calls Try.prog 21 #[.pointer (some ⟨g, 0, none⟩), .agg (opv o Ab Af cb cf).toArray] w (fun e w' => ∃ g', e = .returned (.tuple #[.pointer (some ⟨g', 0, none⟩), .int .i64 (D.doOp o).2]) ∧ DevIs w' (grow F w w') g' (D.doOp o).1 ∧ Keep F w w') := by
  by_cases h : o.kind = 4
  · exact does4 hD hok ho hr o h Ab Af cb cf
  · refine (does_calls hD hok (by omega) (by omega) o hoo h Ab Af cb cf hR hAF).mono ?_
    rintro e w' ⟨rfl, h1, h2⟩
    exact ⟨g, rfl, h1, h2⟩

/-- Where the loop over a script stands: a device, and the document's state, in variable b. -/
structure RowS (B : Nat) (w0 : World) (b k g : Nat) (D : DS) (wr : World) : Prop where
  both : ∃ F G vl vr, Own B wr F g D ∧ StAt wr G vl vr D ∧ Dj F G ∧ Lt G wr ∧ BlockIs wr b (stv vl vr D) 30 ∧ ¬ F b
  low : B ≤ b
  ok : D.ok
  ops : D.ops ≤ k
  row : D.row.length ≤ k
  kept : Keep Noth w0 wr

/-- Behind a call of a script. -/
theorem RowS.next {w0 wr wp w6 wb w7 w8 wz : World} {F G : Nat → Prop} {b k g g' : Nat} {D D' : DS} {vl' vr' : Value} {c6 : List Value}
    (O4 : Own w0.heap.size wr F g D) (hdj : Dj F G) (hG : Lt G wr) (hb : ¬ F b) (hbl : b < wr.heap.size) (low : w0.heap.size ≤ b) (K04 : Keep Noth w0 wr) (hok : D'.ok) (hops : D'.ops ≤ k) (hrow : D'.row.length ≤ k)
    (Kp : Keep Noth wr wp) (S6 : StAt w6 (grow G wp w6) vl' vr' D') (K6 : Keep Noth wp w6) (K6b : Keep Noth w6 wb) (B6 : BlockIs wb b c6 30) (B7 : BlockIs w7 b (stv vl' vr' D') 30) (K7 : Keep (Only b) wb w7)
    (H8 : DevIs w8 (grow F w7 w8) g' D') (K8 : Keep F w7 w8) (Kz : Keep Noth w8 wz) : RowS w0.heap.size w0 b k g' D' wz := by
  have h1 := Kp.size
  have h2 := K6.size
  have h2b := K6b.size
  have h3 := K7.size
  have h4 := K8.size
  have h5 := Kz.size
  have h0 := K04.size
  have hFlt : ∀ q, F q → q < wr.heap.size := fun q h => O4.dev.lt q h
  have S7 : StAt w7 (grow G wp w6) vl' vr' D' := (S6.keep K6b (Dj.noth _)).stay2 B6 K7
  have hdj7 : Dj F (grow G wp w6) := fun q a c => by
    rcases c with c | c
    · exact hdj q a c
    · have := hFlt q a; have := c.1; omega
  refine ⟨⟨grow F w7 w8, grow G wp w6, vl', vr', ⟨H8.keep Kz (Dj.noth _), fun q h => ?_⟩, (S7.keep K8 (Dj.symm hdj7)).keep Kz (Dj.noth _), fun q a c => ?_, fun q c => ?_, ((B7.keep K8 hb).keep Kz id), fun h => ?_⟩, low, hok, hops, hrow, ?_⟩
  · rcases h with h | h
    · exact O4.low q h
    · have := h.1; omega
  · rcases a with a | a
    · exact hdj7 q a c
    · rcases c with c | c
      · have := hG q c; have := a.1; omega
      · have := c.2; have := a.1; omega
  · rcases c with c | c
    · have := hG q c; omega
    · have := c.2; omega
  · rcases h with h | h
    · exact hb h
    · have := h.1; omega
  · exact (((((K04.trans Kp (fun _ _ h => h)).trans K6 (fun _ _ h => h)).trans K6b (fun _ _ h => h)).own K7 (fun i e => by unfold Only at e; subst e; exact low)).own K8 O4.low).trans Kz (fun _ _ h => h)

theorem all_law_calls (w : World) (count : Int) (A : Option Addr) (c : Nat) (xs : List OpC) (hS : Script w A xs) (hsz : scriptSize xs + xs.length ≤ 1048576) :
    Calls Try.prog 3 #[.int .i64 count, .slice A xs.length c] w (fun e w' => e = .returned (.bool true) ∧ Keep Noth w w') := by
  have hfp := few_pos xs
  have hfc := few_calls w A c xs hS hsz
  by_cases hin : few xs = 0 ∧ count ≤ 20
  · obtain ⟨h0, h20⟩ := hin
    have hlen := (hfp.2.1 h0).1
    have hlen' : (xs.length : Int) ≤ 80 := by omega
    rw [h0] at hfc
    have hcl := clampN_le h20
    have HS := hid hS
    clear hS hfp hsz
    go_enter Try.func3, Try.ntmps3
    go_wp2_with fail
    refine hfc.mono ?_
    rintro e w1 ⟨rfl, K1⟩
    clear hfc
    go_wp2_with fail
    refine (new_calls w1 count).mono ?_
    rintro e w2 ⟨g, rfl, H2, K2⟩
    go_wp2_with fail
    refine (st_new w2 count).mono ?_
    rintro e w3 ⟨vl, rfl, S3, K3⟩
    obtain ⟨n, hn⟩ : ∃ n, n = clampN count := ⟨_, rfl⟩
    rw [← hn] at H2 hcl S3
    rw [← hn]
    obtain ⟨D0, hD0⟩ : ∃ D, D = DS.new n := ⟨_, rfl⟩
    have hok0 : D0.ok := by rw [hD0]; exact new_ok n (by omega) (by omega)
    have hr0 : D0.row.length ≤ 0 := by rw [hD0]; exact Nat.le_refl _
    have ho0 : D0.ops ≤ 0 := by rw [hD0]; exact Nat.le_refl _
    rw [← hD0] at H2 S3
    rw [← hD0]
    obtain ⟨sv, hsv⟩ : ∃ sv, sv = stv vl (.slice none 0 0) D0 := ⟨_, rfl⟩
    have Hsl : Hid (sv.length = 5) := by show _ = _; rw [hsv]; rfl
    have Hs1 : Hid (∀ u ∈ sv, u.oneCell' = true) := by show ∀ u ∈ sv, _; rw [hsv]; exact stv_one D0 S3.l.one_val.1 rfl
    rw [← hsv]
    have Hsv := hid hsv
    clear hsv hn hD0
    go_wp2_with (first
      | (guard_target = wpList _ _ _ (Oper.mk _ (Op.alloc _) _ _ _ _ :: _) _ _; refine wpList_alloc_v rfl 30 rfl zst info30 stz zst_cells ?_; intro b4 w4 hb4 B4 K4)
      | (guard_target = wpList _ _ _ (Oper.mk _ (Op.store _ _ _) _ _ _ _ :: _) _ _; refine wpList_store_whole rfl 30 _ _ rfl b4 stz sv 30 (by rfl) (by rfl) B4 (by rw [Hsl.out]; rfl) (by rw [Hsl.out]; exact info30) Hs1.out ?_; intro w5 B5 K5)
      | (guard_target = wpList _ _ _ (Oper.mk _ (Op.load 30 _) _ _ _ _ :: _) _ _; refine wpList_loadw_blk (by rfl) 30 _ rfl b4 0 sv sv 30 _ (by rfl) B5 (part0 _) Try.underlying30 rfl (by rw [Hsl.out]; exact info30) ?_))
    have hlow2 : w.heap.size ≤ w1.heap.size := K1.size
    have hs23 : w2.heap.size ≤ w3.heap.size := K3.size
    have hs12 : w1.heap.size ≤ w2.heap.size := K2.size
    have K35 : Keep Noth w3 w5 := K4.own K5 (fun q e => by unfold Only at e; subst e; exact hb4)
    have H5 := (H2.keep K3 (Dj.noth _)).keep K35 (Dj.noth _)
    have S5 := S3.keep K35 (Dj.noth _)
    have K05 : Keep Noth w w5 := ((K1.trans K2 (fun _ _ h => h)).trans K3 (fun _ _ h => h)).trans K35 (fun _ _ h => h)
    have h3 := st_stands H5 S5 hok0 (by omega)
    rw [← Hsv.out] at h3
    refine h3.mono ?_
    rintro e w6 ⟨rfl, K6⟩
    have hR6 : RowS w.heap.size w b4 0 g D0 w6 := ⟨⟨_, _, vl, _, ⟨H5.keep K6 (Dj.noth _), fun q h => by have := h.1; omega⟩, S5.keep K6 (Dj.noth _), fun q a c => by have := a.2; have := c.1; omega, fun q c => by have := c.2; have := K35.size; have := K6.size; omega, by rw [← Hsv.out]; exact B5.keep K6 id, fun h => by have := h.2; omega⟩, by omega, hok0, ho0, hr0, K05.trans K6 (fun _ _ h => h)⟩
    clear h3 H5 S5 H2 S3 K1 K2 K3 K4 K5 K6 K35 K05 B4 B5 hok0 hr0 ho0 hs12 hs23 hlow2
    go_wp2_with fail
    go_loopw [5, 35] (fun dv i wr => ∃ (k g : Nat) (D : DS), dv = .pointer (some ⟨g, 0, none⟩) ∧ i = .int .i64 k ∧ k ≤ xs.length ∧ RowS w.heap.size w b4 k g D wr) (fun _ i _ => xs.length - (intOf i).toNat)
    case atStart => exact ⟨0, g, D0, rfl, rfl, Nat.zero_le _, hR6⟩
    case round =>
      obtain ⟨k, g, D, rfl, rfl, hkl, HR⟩ := hrel
      clear hR6
      by_cases hlt : k < xs.length
      · have hlt' : (k : Int) < xs.length := by omega
        obtain ⟨⟨F, G, vl, vr, O4, S4, hdj, hGl, BS, hbF⟩, hlow, hok, hops, hrow, K04⟩ := HR
        have HS4 := HS.out.old K04 (fun _ h => h.elim)
        obtain ⟨ga, oa, hAo, hrange, hga⟩ := HS4.cells.where (script_pos xs (by omega))
        subst hAo
        obtain ⟨x, hx⟩ : ∃ x, x = xs[k] := ⟨_, rfl⟩
        have hxm : x ∈ xs := by rw [hx]; exact List.getElem_mem hlt
        have hxc : (xs.map OpC.cells)[k]'(by rw [List.length_map]; exact hlt) = x.cells := by rw [List.getElem_map, ← hx]
        have hoo := HS4.ok x hxm
        have hat := HS.out.each x hxm
        have Hr := hid hrange
        have Hxc := hid hxc
        have Hat := hid hat
        have Hoo := hid hoo
        have HAF := hid (HS.out.below (F := F) O4.low hxm)
        have hgr := doOp_grow D x.o
        have hok' := doOp_ok hok x.o Hoo.out
        have hlow0 := O4.low
        clear hrange hxc hx HS4 hoo hat
        have hdo : ∀ wx, Keep Noth w wx → StAt wx G vl vr D → Calls Try.prog 20 #[.agg (stv vl vr D).toArray, .agg x.cells.toArray] wx (DoPost wx G (D.doOp x.o)) := fun wx Kx Sx =>
          do_calls Sx hok (by omega) (by omega) x.o Hoo.out x.Ab x.Af x.cb x.cf ⟨Hat.out.b.old Kx (fun _ h => h.elim), Hat.out.forms.old Kx (fun _ h => h.elim)⟩
        have hdoes : ∀ wx, Keep Noth w wx → DevIs wx F g D → Calls Try.prog 21 #[.pointer (some ⟨g, 0, none⟩), .agg x.cells.toArray] wx (fun e w' => ∃ g', e = .returned (.tuple #[.pointer (some ⟨g', 0, none⟩), .int .i64 (D.doOp x.o).2]) ∧ DevIs w' (grow F wx w') g' (D.doOp x.o).1 ∧ Keep F wx w') := fun wx Kx Hx =>
          does_all Hx hok (by omega) (by omega) x.o Hoo.out x.Ab x.Af x.cb x.cf ⟨Hat.out.b.old Kx (fun _ h => h.elim), Hat.out.forms.old Kx (fun _ h => h.elim)⟩ HAF.out
        obtain ⟨D', e', hR⟩ : ∃ D' e', D.doOp x.o = (D', e') := ⟨_, _, rfl⟩
        rw [hR] at hgr hdo hdoes hok'
        simp only at hgr hdoes hok'
        obtain ⟨sv, hsv⟩ : ∃ sv, sv = stv vl vr D := ⟨_, rfl⟩
        have Hsl : Hid (sv.length = 5) := by show _ = _; rw [hsv]; rfl
        rw [← hsv] at BS hdo
        have hxl : Hid (x.cells.length = 4) := opc_length x
        have Hdo := hid hdo
        have Hdoes := hid hdoes
        have Hops : Hid (D'.ops ≤ k + 1 ∧ D'.row.length ≤ k + 1 ∧ D'.row.length ≤ 1099511627776) := hid (by omega)
        have Hok' := hid hok'
        clear hdo hdoes hR hgr hok hops hrow hsv hok'
        go_wp2_with (first
          | (guard_target = wpList _ _ _ (Oper.mk _ (Op.load 36 (Operand.tmp 37)) _ _ _ _ :: _) _ _; refine wpList_load_elem rfl 36 _ rfl 4 ga oa (xs.map OpC.cells) k _ x.cells _ Hr.out (opc_each xs) (by rw [List.length_map]; exact hlt) Hxc.out rfl (by rfl) Try.underlying36 rfl size36 ?_)
          | (guard_target = wpList _ _ _ (Oper.mk _ (Op.alloc 36) _ _ _ _ :: _) _ _; refine wpList_alloc_store rfl 36 rfl 8 _ rfl (by rfl) rfl rfl (by decide) (.agg zop.toArray) x.cells (by rw [hxl.out]; exact info36) zop zop_cells (by rw [hxl.out]; rfl) (by rfl) (opv_one _ _ _ _ _) ?_; intro b8 wp hb8 B8 Kp)
          | (guard_target = wpList _ _ _ (Oper.mk _ (Op.load 30 (Operand.tmp 6)) _ _ _ _ :: _) _ _; refine wpList_load_blk rfl 30 _ rfl b4 0 sv sv 30 _ (by rfl) (BS.keep Kp id) (part0 _) Try.underlying30 rfl (by rw [Hsl.out]; exact info30) ?_)
          | (guard_target = wpList _ _ _ (Oper.mk _ (Op.load 36 (Operand.tmp 8)) _ _ _ _ :: _) _ _; refine wpList_load_blk rfl 36 _ rfl b8 0 x.cells x.cells 36 _ (by rfl) B8 (part0 _) Try.underlying36 rfl (by rw [hxl.out]; exact info36) ?_))
        refine (Hdo.out wp (K04.trans Kp (fun _ _ h => h)) (S4.keep Kp (Dj.noth _))).mono ?_
        rintro e w6 ⟨vl', vr', rfl, S6, K6⟩
        obtain ⟨sv', hsv'⟩ : ∃ sv, sv = stv vl' vr' D' := ⟨_, rfl⟩
        have Hsl' : Hid (sv'.length = 5) := by show _ = _; rw [hsv']; rfl
        have Hs1' : Hid (∀ u ∈ sv', u.oneCell' = true) := by show ∀ u ∈ sv', _; rw [hsv']; exact stv_one D' S6.l.one_val.1 S6.row.one_val.1
        rw [← hsv']
        have Hsv' := hid hsv'
        clear hsv'
        have B86 := B8.keep K6 id
        have B66 := (BS.keep Kp id).keep K6 id
        have hbl : b4 < wr.heap.size := BS.lt
        have hs4 := K04.size
        have hsp := Kp.size
        have hs6 := K6.size
        have h48 : b4 ≠ b8 := by omega
        clear S4 BS B8
        go_wp2_with (first
          | (guard_target = wpList _ _ _ (Oper.mk _ (Op.alloc 30) _ _ _ _ :: _) _ _; refine wpList_alloc_store rfl 30 rfl 9 _ rfl (by rfl) rfl rfl (by decide) zst sv' (by rw [Hsl'.out]; exact info30) stz zst_cells (by rw [Hsl'.out]; rfl) (by rfl) Hs1'.out ?_; intro b9 wb hb9 B9 K6b)
          | (guard_target = wpList _ _ _ (Oper.mk _ (Op.load 30 (Operand.tmp 9)) _ _ _ _ :: _) _ _; refine wpList_load_blk rfl 30 _ rfl b9 0 sv' sv' 30 _ (by rfl) B9 (part0 _) Try.underlying30 rfl (by rw [Hsl'.out]; exact info30) ?_)
          | (guard_target = wpList _ _ _ (Oper.mk _ (Op.store 30 (Operand.tmp 6) _) _ _ _ _ :: _) _ _; refine wpList_store_whole rfl 30 _ _ rfl b4 sv sv' 30 (by rfl) (by rfl) (B66.keep K6b id) (by rw [Hsl'.out, Hsl.out]) (by rw [Hsl'.out]; exact info30) Hs1'.out ?_; intro w7 B7 K7)
          | (guard_target = wpList _ _ _ (Oper.mk _ (Op.load 36 (Operand.tmp 8)) _ _ _ _ :: _) _ _; refine wpList_load_blk rfl 36 _ rfl b8 0 x.cells x.cells 36 _ (by rfl) ((B86.keep K6b id).keep K7 (fun e => h48 e.symm)) (part0 _) Try.underlying36 rfl (by rw [hxl.out]; exact info36) ?_))
        have hs6b := K6b.size
        have Kr7 : Keep (Only b4) wr w7 := (((Kp.trans K6 (fun _ _ h => h)).trans K6b (fun _ _ h => h)).mono (fun _ _ h => h.elim)).trans K7 (fun _ _ h => h)
        have K07 : Keep Noth w w7 := K04.own Kr7 (fun q e => by unfold Only at e; subst e; exact hlow)
        have hFb : Dj F (Only b4) := fun q a e => by unfold Only at e; subst e; exact hbF a
        refine (Hdoes.out w7 K07 (O4.dev.keep Kr7 hFb)).mono ?_
        rintro e w8 ⟨g', rfl, H8, K8⟩
        have S7 := (S6.keep K6b (Dj.noth _)).stay2 (B66.keep K6b id) K7
        have hdj7 : Dj (grow G wp w6) F := fun q c a => by
          rcases c with c | c
          · exact hdj q a c
          · have := O4.dev.lt q a; have := c.1; omega
        have S8 := S7.keep K8 hdj7
        have BS8 := B7.keep K8 hbF
        have hst := st_stands H8 S8 Hok'.out Hops.out.2.2
        rw [← Hsv'.out] at hst
        have HRN := fun wz (Kz : Keep Noth w8 wz) => RowS.next (k := k + 1) O4 hdj hGl hbF hbl hlow K04 Hok'.out Hops.out.1 Hops.out.2.1 Kp S6 K6 K6b (B66.keep K6b id) (Hsv'.out ▸ B7) K7 H8 K8 Kz
        have Hst := hid hst
        have HRN' := hid HRN
        clear hst HRN S7 S8 H8 K8 B7 K7 K07 Kr7 B9 K6b S6 K6 Kp B86 B66 O4 Hdoes Hdo K04 hdj hdj7 hFb
        go_wp2_with (first
          | (guard_target = wpList _ _ _ (Oper.mk _ (Op.load 30 _) _ _ _ _ :: _) _ _; refine wpList_loadw_blk (by rfl) 30 _ rfl b4 0 sv' sv' 30 _ (by rfl) BS8 (part0 _) Try.underlying30 rfl (by rw [Hsl'.out]; exact info30) ?_))
        refine Hst.out.mono ?_
        rintro e wz ⟨rfl, Kz⟩
        have HN := HRN'.out wz Kz
        clear Kz HRN' Hst BS8
        go_wp2_with fail
        go_roundw
        case rel => exact ⟨k + 1, g', D', rfl, by go_num, hlt, HN⟩
        case measure => simp [intOf]; omega
      · have hge : k = xs.length := by omega
        subst hge
        have K04 := HR.kept
        clear HR
        go_wp2_with (go_at_call 16; refine (alive_calls _).mono ?_; rintro e w12 ⟨rfl, K12⟩)
        go_ret
        exact ⟨rfl, K04.trans K12 (fun _ _ h => h)⟩
  · have hbig : few xs ≠ 0 ∨ 20 < count := by omega
    clear hin hS
    rcases hbig with h | h
    · have hpos : 0 < few xs := by have := hfp.1; omega
      clear h hfp
      go_enter Try.func3, Try.ntmps3
      go_wp2_with fail
      refine hfc.mono ?_
      rintro e w1 ⟨rfl, K1⟩
      clear hfc
      go_wp2_with (go_at_call 16; refine (alive_calls _).mono ?_; rintro e w12 ⟨rfl, K12⟩)
      go_ret
      exact ⟨rfl, K1.trans K12 (fun _ _ h => h)⟩
    · by_cases h0 : few xs = 0
      · rw [h0] at hfc
        clear h0 hfp
        go_enter Try.func3, Try.ntmps3
        go_wp2_with fail
        refine hfc.mono ?_
        rintro e w1 ⟨rfl, K1⟩
        clear hfc
        go_wp2_with (go_at_call 16; refine (alive_calls _).mono ?_; rintro e w12 ⟨rfl, K12⟩)
        go_ret
        exact ⟨rfl, K1.trans K12 (fun _ _ h => h)⟩
      · have hpos : 0 < few xs := by have := hfp.1; omega
        clear h0 hfp
        go_enter Try.func3, Try.ntmps3
        go_wp2_with fail
        refine hfc.mono ?_
        rintro e w1 ⟨rfl, K1⟩
        clear hfc
        go_wp2_with (go_at_call 16; refine (alive_calls _).mono ?_; rintro e w12 ⟨rfl, K12⟩)
        go_ret
        exact ⟨rfl, K1.trans K12 (fun _ _ h => h)⟩
end Go.Proofs.Ytffcglfepobdjaa
