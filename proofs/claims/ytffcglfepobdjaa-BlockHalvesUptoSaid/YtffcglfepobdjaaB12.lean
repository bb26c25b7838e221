/- A crash. -/
import Derived.Test.YtffcglfepobdjaaB11
set_option linter.unusedVariables false
set_option linter.unusedSimpArgs false
set_option maxRecDepth 10000
set_option maxHeartbeats 4000000
namespace Go.Proofs.Ytffcglfepobdjaa
open Go.RowKit

theorem crash_calls {w : World} {F : Nat → Prop} {g : Nat} {vl vr : Value} {D : DS} (hD : DevAt w F g vl vr D) (hok : D.ok) (hr : D.row.length ≤ 1099511627776)
    (A : Option Addr) (c : Nat) (fs : List Int) (hA : Reads w A (ints fs)) (hAF : ∀ ad, A = some ad → fs ≠ [] → ¬ F ad.block) (hfl : fs.length ≤ 140737488351232) (hfw : ∀ x ∈ fs, -9223372036854775808 ≤ x ∧ x ≤ 9223372036854775807) :
    Calls Try.prog 23 #[.pointer (some ⟨g, 0, none⟩), .slice A fs.length c] w (fun e w' => e = .returned (.tuple #[]) ∧ DevIs w' F g (D.crash fs) ∧ Keep F w w') := by
  obtain ⟨⟨h0, h1, -, -, h4⟩, -⟩ := hD.cells
  obtain ⟨Al, cl, rfl⟩ := hD.l.valm
  obtain ⟨Ar, cr, rfl⟩ := hD.row.valm
  obtain ⟨gl, rfl⟩ := hD.l.some_at (by rw [List.length_map]; have := hok.one; omega)
  have Hdev := hid hD
  have HglF : Hid (F gl) := hD.l.foot gl rfl
  have HA := hid hA
  have hflI : (fs.length : Int) ≤ 140737488351232 := by omega
  have Hfw := hid hfw
  clear hD hA hfw
  go_enter Try.func23, Try.ntmps23
  go_wp2_with fail
  go_loopw [13] (fun i wr => ∃ k : Nat, i = .int .i64 k ∧ k ≤ D.row.length ∧ DevAt wr F g (.slice (some ⟨gl, 0, none⟩) D.l.length cl) (.slice Ar D.row.length cr) { D with l := crashK fs D.l D.row k } ∧ Keep F w wr) (fun i _ => D.row.length - (intOf i).toNat)
  case atStart => exact ⟨0, rfl, Nat.zero_le _, Hdev.out, Keep.refl _ _⟩
  case round =>
    obtain ⟨k, rfl, hkn, HD, HK⟩ := hrel
    clear h0 h1 h4
    by_cases hlt : k < D.row.length
    case neg =>
      have hge : k = D.row.length := by omega
      subst hge
      have hc := HD.cells
      have HD' := hid HD
      have HK' := hid HK
      obtain ⟨⟨c0, c1, c2, c3, c4⟩, f0, f1, f2, f3, f4⟩ := hc
      clear HD HK
      have hfin := HD'.out.crash_end fs
      have Hfin := hid hfin
      clear hfin
      go_wp2_with fail
      go_end0
      exact ⟨rfl, ⟨_, _, Hfin.out.1⟩, HK'.out.trans Hfin.out.2 (fun i hi e => by unfold Only at e; subst e; exact Hdev.out.here)⟩
    obtain ⟨gr, rfl⟩ := Hdev.out.row.some_at (by rw [List.length_map]; omega)
    have hlt' : (k : Int) < D.row.length := by omega
    have hp := hok.row64 D.row[k] (List.getElem_mem hlt)
    have hi0 : (0 : Int) ≤ (D.row[k].1 : Int) := by omega
    have hp1 := hp.1
    have hi1 : (D.row[k].1 : Int) < (D.l.length : Int) := by omega
    clear hp1
    have Hw65 : Hid ((wv D.row[k]).length = 65) := by show _ = _; simp [wv, hp.2]
    have Ht : Hid ((D.row[k].2.take 32).length = 32) := by show _ = _; rw [List.length_take, hp.2]; rfl
    have Hd : Hid ((D.row[k].2.drop 32).length = 32) := by show _ = _; rw [List.length_drop, hp.2]
    have Hp := hid hp
    have HDh := hid HD
    have HL : Hid ((crashK fs D.l D.row k).length = D.l.length) := crashK_length fs D.l D.row k
    have Hcl : Hid (∀ b ∈ crashK fs D.l D.row k, b.length = 64) := crashK_64 fs hok.l64 hok.row64 k (by omega)
    have Hpl : Hid (D.row[k].1 < (crashK fs D.l D.row k).length ∧ D.row[k].2.length = 64) := ⟨by rw [HL.out]; exact hp.1, hp.2⟩
    have Hnx : Hid (crashK fs D.l D.row (k + 1) = (crashK fs D.l D.row k).set D.row[k].1 (mix (formOf fs k) ((crashK fs D.l D.row k).getD D.row[k].1 []) D.row[k].2)) := by
      show _ = _
      simp [crashK, crash1, List.getD_eq_getElem?_getD, hlt]
    have Hgl : Hid (gl < wr.heap.size) := HD.lt gl HglF.out
    clear hp HD
    by_cases hf0 : fs.length = 0
    · have hdf : decide (0 < fs.length) = false := by rw [hf0]; rfl
      have Hfm : Hid (formOf fs k = 0) := by show _ = _; unfold formOf; rw [if_pos hf0]
      clear hf0
      go_wp2_with (first | (refine wpList_load_row' rfl 105 _ rfl F 105 65 gr _ cr (D.row.map wv) k _ (wv D.row[k]) _ HDh.out.row (by rw [List.length_map]; exact hlt) (List.getElem_map ..) rfl (by rfl) Try.underlying105 rfl info105 ?_) | (refine wpList_alloc_v rfl 105 rfl zw info105 (wv (0, zb)) zw_cells ?_; intro b w1 hb B1 K1) | (refine wpList_store_whole rfl 105 _ _ rfl b _ (wv D.row[k]) 105 (by rfl) (by rfl) B1 (Hw65.out.trans wv0_length.symm) (by rw [Hw65.out]; exact info105) (wv_one _) ?_; intro w2 B2 K2; have HD2 := hid (HDh.out.step K1 K2 hb); have HK2 := hid (HK.step K1 K2 hb)))
      refine wp_region_ordQ [(0, true), (1, true), (2, true), (3, true), (4, true), (5, true), (6, true), (7, true)] (fun w' => BlockIs w' g [.slice (some ⟨gl, 0, none⟩) D.l.length cl, .slice (some ⟨gr, 0, none⟩) D.row.length cr, .int .i64 (D.ops : Int), .int .i64 D.fuse, .bool D.down] 96 ∧ BlockIs w' b (wv D.row[k]) 105) follows_mixed (by kernel_rfl) ⟨HD2.out.blk, B2⟩ ?_
      simp only [List.map_cons, List.map_nil, List.getElem?_cons_succ, List.getElem?_cons_zero, Option.getD_some]
      refine wpO_pure (v := .pointer (some ⟨g, 0, none⟩)) (by rfl) (fun w' hw' => by rfl) ?_
      go_frame
      refine wpO_pure (v := .pointer (some ⟨g, 0, none⟩)) (by rfl) (fun w' hw' => by rfl) ?_
      go_frame
      refine wpO_pure (v := .pointer (some ⟨g, 0, none⟩)) (by rfl) (fun w' hw' => by go_simp) ?_
      go_frame
      refine wpO_pure (v := .slice (some ⟨gl, 0, none⟩) D.l.length cl) (by rfl) (fun w' hw' => by have hc := hw'.1.cell 0; simp only [List.getElem?_cons_zero] at hc; go_simp) ?_
      go_frame
      refine wpO_pure (v := .pointer (some ⟨b, 0, none⟩)) (by rfl) (fun w' hw' => by go_simp) ?_
      go_frame
      refine wpO_pure (v := .int .i64 (D.row[k].1 : Int)) (by rfl) (fun w' hw' => by have hc := hw'.2.cell 0; simp only [wv, List.getElem?_cons_zero] at hc; go_simp) ?_
      go_frame
      refine wpO_pure (v := .pointer (some ⟨gl, D.row[k].1 * 64, none⟩)) (by rfl) (fun w' hw' => by go_simp) ?_
      go_frame
      refine wpO_pure (v := .pointer (some ⟨gl, D.row[k].1 * 64, none⟩)) (by rfl) (fun w' hw' => by rfl) ?_
      go_frame
      refine wpO_nil ?_
      go_wp2_with fail
      go_roundw
      case rel => exact ⟨k + 1, by go_num, hlt, by rw [Hnx.out, Hfm.out, mix_none Hcl.out Hpl.out]; exact (HD2.out.keep ((Keep.refl Noth w2).drew) (Dj.noth _)), HK2.out.drew⟩
      case measure => simp [intOf]; omega
    · have hf0' : (0 : Int) < fs.length := by omega
      have hmod : k % fs.length < fs.length := Nat.mod_lt _ (by omega)
      obtain ⟨ad, rfl, -⟩ := HA.out 0 (.int .i64 fs[0]) (by simp [ints, show 0 < fs.length by omega])
      obtain ⟨x, hx⟩ : ∃ x, x = fs[k % fs.length] := ⟨_, rfl⟩
      have hxb := Hfw.out x (by rw [hx]; exact List.getElem_mem _)
      have hxl := hxb.1
      have hxu := hxb.2
      have hfm : formOf fs k = ((max x 0) % 4).toNat := by unfold formOf; rw [if_neg hf0, hx]; simp [List.getD_eq_getElem?_getD, hmod]
      have hcA : ∀ wx : World, Keep F w wx → wx.cell? (ad.add (k % fs.length)) = some (.int .i64 x) := by
        intro wx K
        obtain ⟨ad', e, hc⟩ := (HA.out.keep K (fun ad h => hAF ad h (fun e0 => by have h0 := hmod; rw [e0] at h0; simp at h0))) (k % fs.length) (.int .i64 x) (by simp [ints, hmod, hx])
        injection e with e
        subst e
        exact hc
      have HcA := hid hcA
      have Hf := hid hfm
      have Hf0 := hid hf0
      have hmod0 : (0 : Int) ≤ (k : Int) % (fs.length : Int) := Int.emod_nonneg _ (by omega)
      have hmod1 : (k : Int) % (fs.length : Int) < (fs.length : Int) := Int.emod_lt_of_pos _ (by omega)
      clear hx hxb hfm hcA hf0
      by_cases hneg : x < 0
      · have Hfm : Hid (formOf fs k = 0) := by show _ = _; rw [Hf.out]; omega
        go_wp2_with (first | (refine wpList_load_row' rfl 105 _ rfl F 105 65 gr _ cr (D.row.map wv) k _ (wv D.row[k]) _ HDh.out.row (by rw [List.length_map]; exact hlt) (List.getElem_map ..) rfl (by rfl) Try.underlying105 rfl info105 ?_) | (refine wpList_alloc_v rfl 105 rfl zw info105 (wv (0, zb)) zw_cells ?_; intro b w1 hb B1 K1) | (refine wpList_store_whole rfl 105 _ _ rfl b _ (wv D.row[k]) 105 (by rfl) (by rfl) B1 (Hw65.out.trans wv0_length.symm) (by rw [Hw65.out]; exact info105) (wv_one _) ?_; intro w2 B2 K2; have HD2 := hid (HDh.out.step K1 K2 hb); have HK2 := hid (HK.step K1 K2 hb); have hcx := HcA.out w2 HK2.out))
        refine wp_region_ordQ [(0, true), (1, true), (2, true), (3, true), (4, true), (5, true), (6, true), (7, true)] (fun w' => BlockIs w' g [.slice (some ⟨gl, 0, none⟩) D.l.length cl, .slice (some ⟨gr, 0, none⟩) D.row.length cr, .int .i64 (D.ops : Int), .int .i64 D.fuse, .bool D.down] 96 ∧ BlockIs w' b (wv D.row[k]) 105) follows_mixed (by kernel_rfl) ⟨HD2.out.blk, B2⟩ ?_
        simp only [List.map_cons, List.map_nil, List.getElem?_cons_succ, List.getElem?_cons_zero, Option.getD_some]
        refine wpO_pure (v := .pointer (some ⟨g, 0, none⟩)) (by rfl) (fun w' hw' => by rfl) ?_
        go_frame
        refine wpO_pure (v := .pointer (some ⟨g, 0, none⟩)) (by rfl) (fun w' hw' => by rfl) ?_
        go_frame
        refine wpO_pure (v := .pointer (some ⟨g, 0, none⟩)) (by rfl) (fun w' hw' => by go_simp) ?_
        go_frame
        refine wpO_pure (v := .slice (some ⟨gl, 0, none⟩) D.l.length cl) (by rfl) (fun w' hw' => by have hc := hw'.1.cell 0; simp only [List.getElem?_cons_zero] at hc; go_simp) ?_
        go_frame
        refine wpO_pure (v := .pointer (some ⟨b, 0, none⟩)) (by rfl) (fun w' hw' => by go_simp) ?_
        go_frame
        refine wpO_pure (v := .int .i64 (D.row[k].1 : Int)) (by rfl) (fun w' hw' => by have hc := hw'.2.cell 0; simp only [wv, List.getElem?_cons_zero] at hc; go_simp) ?_
        go_frame
        refine wpO_pure (v := .pointer (some ⟨gl, D.row[k].1 * 64, none⟩)) (by rfl) (fun w' hw' => by go_simp) ?_
        go_frame
        refine wpO_pure (v := .pointer (some ⟨gl, D.row[k].1 * 64, none⟩)) (by rfl) (fun w' hw' => by rfl) ?_
        go_frame
        refine wpO_nil ?_
        go_wp2_with fail
        go_roundw
        case rel => exact ⟨k + 1, by go_num, hlt, by rw [Hnx.out, Hfm.out, mix_none Hcl.out Hpl.out]; exact (HD2.out.keep ((Keep.refl Noth w2).drew) (Dj.noth _)), HK2.out.drew⟩
        case measure => simp [intOf]; omega
      · have hpos : 0 ≤ x := by omega
        have h4 : x % 4 = 0 ∨ x % 4 = 1 ∨ x % 4 = 2 ∨ x % 4 = 3 := by omega
        rcases h4 with h4 | h4 | h4 | h4
        · have Hfm : Hid (formOf fs k = 0) := by show _ = _; rw [Hf.out]; omega
          have hb1 : (x % 4 == 1) = false := by rw [h4]; rfl
          have hb2 : (x % 4 == 2) = false := by rw [h4]; rfl
          have hb3 : (x % 4 == 3) = false := by rw [h4]; rfl
          clear h4 hneg
          go_wp2_with (first | (refine wpList_load_row' rfl 105 _ rfl F 105 65 gr _ cr (D.row.map wv) k _ (wv D.row[k]) _ HDh.out.row (by rw [List.length_map]; exact hlt) (List.getElem_map ..) rfl (by rfl) Try.underlying105 rfl info105 ?_) | (refine wpList_alloc_v rfl 105 rfl zw info105 (wv (0, zb)) zw_cells ?_; intro b w1 hb B1 K1) | (refine wpList_store_whole rfl 105 _ _ rfl b _ (wv D.row[k]) 105 (by rfl) (by rfl) B1 (Hw65.out.trans wv0_length.symm) (by rw [Hw65.out]; exact info105) (wv_one _) ?_; intro w2 B2 K2; have HD2 := hid (HDh.out.step K1 K2 hb); have HK2 := hid (HK.step K1 K2 hb); have hcx := HcA.out w2 HK2.out))
          refine wp_region_ordQ [(0, true), (1, true), (2, true), (3, true), (4, true), (5, true), (6, true), (7, true)] (fun w' => BlockIs w' g [.slice (some ⟨gl, 0, none⟩) D.l.length cl, .slice (some ⟨gr, 0, none⟩) D.row.length cr, .int .i64 (D.ops : Int), .int .i64 D.fuse, .bool D.down] 96 ∧ BlockIs w' b (wv D.row[k]) 105) follows_mixed (by kernel_rfl) ⟨HD2.out.blk, B2⟩ ?_
          simp only [List.map_cons, List.map_nil, List.getElem?_cons_succ, List.getElem?_cons_zero, Option.getD_some]
          refine wpO_pure (v := .pointer (some ⟨g, 0, none⟩)) (by rfl) (fun w' hw' => by rfl) ?_
          go_frame
          refine wpO_pure (v := .pointer (some ⟨g, 0, none⟩)) (by rfl) (fun w' hw' => by rfl) ?_
          go_frame
          refine wpO_pure (v := .pointer (some ⟨g, 0, none⟩)) (by rfl) (fun w' hw' => by go_simp) ?_
          go_frame
          refine wpO_pure (v := .slice (some ⟨gl, 0, none⟩) D.l.length cl) (by rfl) (fun w' hw' => by have hc := hw'.1.cell 0; simp only [List.getElem?_cons_zero] at hc; go_simp) ?_
          go_frame
          refine wpO_pure (v := .pointer (some ⟨b, 0, none⟩)) (by rfl) (fun w' hw' => by go_simp) ?_
          go_frame
          refine wpO_pure (v := .int .i64 (D.row[k].1 : Int)) (by rfl) (fun w' hw' => by have hc := hw'.2.cell 0; simp only [wv, List.getElem?_cons_zero] at hc; go_simp) ?_
          go_frame
          refine wpO_pure (v := .pointer (some ⟨gl, D.row[k].1 * 64, none⟩)) (by rfl) (fun w' hw' => by go_simp) ?_
          go_frame
          refine wpO_pure (v := .pointer (some ⟨gl, D.row[k].1 * 64, none⟩)) (by rfl) (fun w' hw' => by rfl) ?_
          go_frame
          refine wpO_nil ?_
          go_wp2_with fail
          go_roundw
          case rel => exact ⟨k + 1, by go_num, hlt, by rw [Hnx.out, Hfm.out, mix_none Hcl.out Hpl.out]; exact (HD2.out.keep ((Keep.refl Noth w2).drew) (Dj.noth _)), HK2.out.drew⟩
          case measure => simp [intOf]; omega
        · have Hfm : Hid (formOf fs k = 1) := by show _ = _; rw [Hf.out]; omega
          have hb1 : (x % 4 == 1) = true := by rw [h4]; rfl
          have hb2 : (x % 4 == 2) = false := by rw [h4]; rfl
          have hb3 : (x % 4 == 3) = false := by rw [h4]; rfl
          clear h4 hneg
          go_wp2_with (first | (refine wpList_load_row' rfl 105 _ rfl F 105 65 gr _ cr (D.row.map wv) k _ (wv D.row[k]) _ HDh.out.row (by rw [List.length_map]; exact hlt) (List.getElem_map ..) rfl (by rfl) Try.underlying105 rfl info105 ?_) | (refine wpList_alloc_v rfl 105 rfl zw info105 (wv (0, zb)) zw_cells ?_; intro b w1 hb B1 K1) | (refine wpList_store_whole rfl 105 _ _ rfl b _ (wv D.row[k]) 105 (by rfl) (by rfl) B1 (Hw65.out.trans wv0_length.symm) (by rw [Hw65.out]; exact info105) (wv_one _) ?_; intro w2 B2 K2; have HD2 := hid (HDh.out.step K1 K2 hb); have HK2 := hid (HK.step K1 K2 hb); have hcx := HcA.out w2 HK2.out))
          refine wp_region_ordQ [(0, true), (1, true), (2, true), (3, true), (4, true), (5, true), (6, true), (7, true)] (fun w' => BlockIs w' g [.slice (some ⟨gl, 0, none⟩) D.l.length cl, .slice (some ⟨gr, 0, none⟩) D.row.length cr, .int .i64 (D.ops : Int), .int .i64 D.fuse, .bool D.down] 96 ∧ BlockIs w' b (wv D.row[k]) 105) follows_mixed (by kernel_rfl) ⟨HD2.out.blk, B2⟩ ?_
          simp only [List.map_cons, List.map_nil, List.getElem?_cons_succ, List.getElem?_cons_zero, Option.getD_some]
          refine wpO_pure (v := .pointer (some ⟨g, 0, none⟩)) (by rfl) (fun w' hw' => by rfl) ?_
          go_frame
          refine wpO_pure (v := .pointer (some ⟨g, 0, none⟩)) (by rfl) (fun w' hw' => by rfl) ?_
          go_frame
          refine wpO_pure (v := .pointer (some ⟨g, 0, none⟩)) (by rfl) (fun w' hw' => by go_simp) ?_
          go_frame
          refine wpO_pure (v := .slice (some ⟨gl, 0, none⟩) D.l.length cl) (by rfl) (fun w' hw' => by have hc := hw'.1.cell 0; simp only [List.getElem?_cons_zero] at hc; go_simp) ?_
          go_frame
          refine wpO_pure (v := .pointer (some ⟨b, 0, none⟩)) (by rfl) (fun w' hw' => by go_simp) ?_
          go_frame
          refine wpO_pure (v := .int .i64 (D.row[k].1 : Int)) (by rfl) (fun w' hw' => by have hc := hw'.2.cell 0; simp only [wv, List.getElem?_cons_zero] at hc; go_simp) ?_
          go_frame
          refine wpO_pure (v := .pointer (some ⟨gl, D.row[k].1 * 64, none⟩)) (by rfl) (fun w' hw' => by go_simp) ?_
          go_frame
          refine wpO_pure (v := .pointer (some ⟨gl, D.row[k].1 * 64, none⟩)) (by rfl) (fun w' hw' => by rfl) ?_
          go_frame
          refine wpO_nil ?_
          go_wp2_with fail
          refine wp_region_ordL [(0, true), (1, true), (2, true), (3, true), (4, true), (5, false)] (fun _ => True) follows_mixed (by kernel_rfl) trivial ?_
          simp only [List.map_cons, List.map_nil, List.getElem?_cons_succ, List.getElem?_cons_zero, Option.getD_some]
          refine wpO_pure (v := .pointer (some ⟨gl, D.row[k].1 * 64, none⟩)) (by rfl) (fun w' hw' => by rfl) ?_
          go_frame
          refine wpO_pure (v := .pointer (some ⟨gl, D.row[k].1 * 64, none⟩)) (by rfl) (fun w' hw' => by rfl) ?_
          go_frame
          refine wpO_pure (v := .slice (some ⟨gl, D.row[k].1 * 64, none⟩) 32 64) (by rfl) (fun w' hw' => by go_simp) ?_
          go_frame
          refine wpO_pure (v := .pointer (some ⟨b, 1, none⟩)) (by rfl) (fun w' hw' => by go_simp) ?_
          go_frame
          refine wpO_pure (v := .slice (some ⟨b, 1, none⟩) 32 64) (by rfl) (fun w' hw' => by go_simp) ?_
          go_frame
          have hP1 := ((HD2.out.keep ((Keep.refl Noth w2).drew) (Dj.noth _) |> hid).out.keep ((Keep.refl Noth w2.drew).drew) (Dj.noth _)).patched' D.row[k].1 0 (D.row[k].2.take 32) (by show _ < (crashK fs D.l D.row k).length; rw [HL.out]; exact Hp.out.1) (by rw [Ht.out]; decide) (D.row[k].1 * 64) (Nat.add_zero _).symm
          have HP1 := hid hP1
          clear hP1
          refine wpO_run (by rfl) (exec_copy _ _ 33 33 rfl (by simp [Act.eval]) (by simp [Act.eval]) (run_copy_any 33 33 3 5 (some ⟨gl, D.row[k].1 * 64, none⟩) (some ⟨b, 1, none⟩) 32 64 32 64 (bv (D.row[k].2.take 32)) gl (D.row[k].1 * 64) sl33 size5 (by rw [bv_length, Ht.out]; rfl) (fun _ => rfl) (Reads.of_range (B2.drew.drew.range 1 _ (wv_lo D.row[k]))) HP1.out.2.2 (bv_one _))) (.inl rfl) ?_
          refine wpO_nil ?_
          go_frame
          have HL1 : Hid ((patch (crashK fs D.l D.row k) D.row[k].1 0 (D.row[k].2.take 32)).length = D.l.length) := by show _ = _; rw [patch_length]; exact HL.out
          have B3 : BlockIs (w2.drew.drew.setCells gl (D.row[k].1 * 64) (bv (D.row[k].2.take 32))) b (wv D.row[k]) 105 := B2.drew.drew.keep HP1.out.2.1 (fun e => by have := Hgl.out; unfold Only at e; omega)
          have HD3 := hid HP1.out.1
          generalize hw3 : w2.drew.drew.setCells gl (D.row[k].1 * 64) (bv (D.row[k].2.take 32)) = w3 at *
          have Hw3 := hid hw3
          clear hw3
          go_wp2_with fail
          refine wp_region_ordL [(0, true), (1, true), (2, true), (3, true), (4, true), (5, false)] (fun _ => True) follows_mixed (by kernel_rfl) trivial ?_
          simp only [List.map_cons, List.map_nil, List.getElem?_cons_succ, List.getElem?_cons_zero, Option.getD_some]
          refine wpO_pure (v := .pointer (some ⟨gl, D.row[k].1 * 64, none⟩)) (by rfl) (fun w' hw' => by rfl) ?_
          go_frame
          refine wpO_pure (v := .pointer (some ⟨gl, D.row[k].1 * 64, none⟩)) (by rfl) (fun w' hw' => by rfl) ?_
          go_frame
          refine wpO_pure (v := .slice (some ⟨gl, D.row[k].1 * 64 + 32, none⟩) 32 32) (by rfl) (fun w' hw' => by go_simp) ?_
          go_frame
          refine wpO_pure (v := .pointer (some ⟨b, 1, none⟩)) (by rfl) (fun w' hw' => by go_simp) ?_
          go_frame
          refine wpO_pure (v := .slice (some ⟨b, 33, none⟩) 32 32) (by rfl) (fun w' hw' => by go_simp) ?_
          go_frame
          have hP2 := (HD3.out.keep ((Keep.refl Noth w3).drew) (Dj.noth _)).patched' D.row[k].1 32 (D.row[k].2.drop 32) (by show _ < (patch (crashK fs D.l D.row k) D.row[k].1 0 (D.row[k].2.take 32)).length; rw [HL1.out]; exact Hp.out.1) (by rw [Hd.out]; decide) (D.row[k].1 * 64 + 32) rfl
          have HP2 := hid hP2
          clear hP2
          refine wpO_run (by rfl) (exec_copy _ _ 33 33 rfl (by simp [Act.eval]) (by simp [Act.eval]) (run_copy_any 33 33 3 5 (some ⟨gl, D.row[k].1 * 64 + 32, none⟩) (some ⟨b, 33, none⟩) 32 32 32 32 (bv (D.row[k].2.drop 32)) gl (D.row[k].1 * 64 + 32) sl33 size5 (by rw [bv_length, Hd.out]; rfl) (fun _ => rfl) (Reads.of_range (B3.drew.range 33 _ (wv_hi D.row[k]))) HP2.out.2.2 (bv_one _))) (.inl rfl) ?_
          refine wpO_nil ?_
          go_frame
          go_wp2_with fail
          go_roundw
          case rel => exact ⟨k + 1, by go_num, hlt, by rw [Hnx.out, Hfm.out, mix_both Hcl.out Hpl.out]; exact HP2.out.1, ((HK2.out.drew.drew.trans HP1.out.2.1 (fun i hi e => by unfold Only at e; subst e; exact HglF.out)).drew.trans HP2.out.2.1 (fun i hi e => by unfold Only at e; subst e; exact HglF.out))⟩
          case measure => simp [intOf]; omega
        · have Hfm : Hid (formOf fs k = 2) := by show _ = _; rw [Hf.out]; omega
          have hb1 : (x % 4 == 1) = false := by rw [h4]; rfl
          have hb2 : (x % 4 == 2) = true := by rw [h4]; rfl
          have hb3 : (x % 4 == 3) = false := by rw [h4]; rfl
          clear h4 hneg
          go_wp2_with (first | (refine wpList_load_row' rfl 105 _ rfl F 105 65 gr _ cr (D.row.map wv) k _ (wv D.row[k]) _ HDh.out.row (by rw [List.length_map]; exact hlt) (List.getElem_map ..) rfl (by rfl) Try.underlying105 rfl info105 ?_) | (refine wpList_alloc_v rfl 105 rfl zw info105 (wv (0, zb)) zw_cells ?_; intro b w1 hb B1 K1) | (refine wpList_store_whole rfl 105 _ _ rfl b _ (wv D.row[k]) 105 (by rfl) (by rfl) B1 (Hw65.out.trans wv0_length.symm) (by rw [Hw65.out]; exact info105) (wv_one _) ?_; intro w2 B2 K2; have HD2 := hid (HDh.out.step K1 K2 hb); have HK2 := hid (HK.step K1 K2 hb); have hcx := HcA.out w2 HK2.out))
          refine wp_region_ordQ [(0, true), (1, true), (2, true), (3, true), (4, true), (5, true), (6, true), (7, true)] (fun w' => BlockIs w' g [.slice (some ⟨gl, 0, none⟩) D.l.length cl, .slice (some ⟨gr, 0, none⟩) D.row.length cr, .int .i64 (D.ops : Int), .int .i64 D.fuse, .bool D.down] 96 ∧ BlockIs w' b (wv D.row[k]) 105) follows_mixed (by kernel_rfl) ⟨HD2.out.blk, B2⟩ ?_
          simp only [List.map_cons, List.map_nil, List.getElem?_cons_succ, List.getElem?_cons_zero, Option.getD_some]
          refine wpO_pure (v := .pointer (some ⟨g, 0, none⟩)) (by rfl) (fun w' hw' => by rfl) ?_
          go_frame
          refine wpO_pure (v := .pointer (some ⟨g, 0, none⟩)) (by rfl) (fun w' hw' => by rfl) ?_
          go_frame
          refine wpO_pure (v := .pointer (some ⟨g, 0, none⟩)) (by rfl) (fun w' hw' => by go_simp) ?_
          go_frame
          refine wpO_pure (v := .slice (some ⟨gl, 0, none⟩) D.l.length cl) (by rfl) (fun w' hw' => by have hc := hw'.1.cell 0; simp only [List.getElem?_cons_zero] at hc; go_simp) ?_
          go_frame
          refine wpO_pure (v := .pointer (some ⟨b, 0, none⟩)) (by rfl) (fun w' hw' => by go_simp) ?_
          go_frame
          refine wpO_pure (v := .int .i64 (D.row[k].1 : Int)) (by rfl) (fun w' hw' => by have hc := hw'.2.cell 0; simp only [wv, List.getElem?_cons_zero] at hc; go_simp) ?_
          go_frame
          refine wpO_pure (v := .pointer (some ⟨gl, D.row[k].1 * 64, none⟩)) (by rfl) (fun w' hw' => by go_simp) ?_
          go_frame
          refine wpO_pure (v := .pointer (some ⟨gl, D.row[k].1 * 64, none⟩)) (by rfl) (fun w' hw' => by rfl) ?_
          go_frame
          refine wpO_nil ?_
          go_wp2_with fail
          refine wp_region_ordL [(0, true), (1, true), (2, true), (3, true), (4, true), (5, false)] (fun _ => True) follows_mixed (by kernel_rfl) trivial ?_
          simp only [List.map_cons, List.map_nil, List.getElem?_cons_succ, List.getElem?_cons_zero, Option.getD_some]
          refine wpO_pure (v := .pointer (some ⟨gl, D.row[k].1 * 64, none⟩)) (by rfl) (fun w' hw' => by rfl) ?_
          go_frame
          refine wpO_pure (v := .pointer (some ⟨gl, D.row[k].1 * 64, none⟩)) (by rfl) (fun w' hw' => by rfl) ?_
          go_frame
          refine wpO_pure (v := .slice (some ⟨gl, D.row[k].1 * 64, none⟩) 32 64) (by rfl) (fun w' hw' => by go_simp) ?_
          go_frame
          refine wpO_pure (v := .pointer (some ⟨b, 1, none⟩)) (by rfl) (fun w' hw' => by go_simp) ?_
          go_frame
          refine wpO_pure (v := .slice (some ⟨b, 1, none⟩) 32 64) (by rfl) (fun w' hw' => by go_simp) ?_
          go_frame
          have hP1 := ((HD2.out.keep ((Keep.refl Noth w2).drew) (Dj.noth _) |> hid).out.keep ((Keep.refl Noth w2.drew).drew) (Dj.noth _)).patched' D.row[k].1 0 (D.row[k].2.take 32) (by show _ < (crashK fs D.l D.row k).length; rw [HL.out]; exact Hp.out.1) (by rw [Ht.out]; decide) (D.row[k].1 * 64) (Nat.add_zero _).symm
          have HP1 := hid hP1
          clear hP1
          refine wpO_run (by rfl) (exec_copy _ _ 33 33 rfl (by simp [Act.eval]) (by simp [Act.eval]) (run_copy_any 33 33 3 5 (some ⟨gl, D.row[k].1 * 64, none⟩) (some ⟨b, 1, none⟩) 32 64 32 64 (bv (D.row[k].2.take 32)) gl (D.row[k].1 * 64) sl33 size5 (by rw [bv_length, Ht.out]; rfl) (fun _ => rfl) (Reads.of_range (B2.drew.drew.range 1 _ (wv_lo D.row[k]))) HP1.out.2.2 (bv_one _))) (.inl rfl) ?_
          refine wpO_nil ?_
          go_frame
          go_wp2_with fail
          go_roundw
          case rel => exact ⟨k + 1, by go_num, hlt, by rw [Hnx.out, Hfm.out, mix_front Hcl.out Hpl.out]; exact HP1.out.1, (HK2.out.drew.drew.trans HP1.out.2.1 (fun i hi e => by unfold Only at e; subst e; exact HglF.out))⟩
          case measure => simp [intOf]; omega
        · have Hfm : Hid (formOf fs k = 3) := by show _ = _; rw [Hf.out]; omega
          have hb1 : (x % 4 == 1) = false := by rw [h4]; rfl
          have hb2 : (x % 4 == 2) = false := by rw [h4]; rfl
          have hb3 : (x % 4 == 3) = true := by rw [h4]; rfl
          clear h4 hneg
          go_wp2_with (first | (refine wpList_load_row' rfl 105 _ rfl F 105 65 gr _ cr (D.row.map wv) k _ (wv D.row[k]) _ HDh.out.row (by rw [List.length_map]; exact hlt) (List.getElem_map ..) rfl (by rfl) Try.underlying105 rfl info105 ?_) | (refine wpList_alloc_v rfl 105 rfl zw info105 (wv (0, zb)) zw_cells ?_; intro b w1 hb B1 K1) | (refine wpList_store_whole rfl 105 _ _ rfl b _ (wv D.row[k]) 105 (by rfl) (by rfl) B1 (Hw65.out.trans wv0_length.symm) (by rw [Hw65.out]; exact info105) (wv_one _) ?_; intro w2 B2 K2; have HD2 := hid (HDh.out.step K1 K2 hb); have HK2 := hid (HK.step K1 K2 hb); have hcx := HcA.out w2 HK2.out))
          refine wp_region_ordQ [(0, true), (1, true), (2, true), (3, true), (4, true), (5, true), (6, true), (7, true)] (fun w' => BlockIs w' g [.slice (some ⟨gl, 0, none⟩) D.l.length cl, .slice (some ⟨gr, 0, none⟩) D.row.length cr, .int .i64 (D.ops : Int), .int .i64 D.fuse, .bool D.down] 96 ∧ BlockIs w' b (wv D.row[k]) 105) follows_mixed (by kernel_rfl) ⟨HD2.out.blk, B2⟩ ?_
          simp only [List.map_cons, List.map_nil, List.getElem?_cons_succ, List.getElem?_cons_zero, Option.getD_some]
          refine wpO_pure (v := .pointer (some ⟨g, 0, none⟩)) (by rfl) (fun w' hw' => by rfl) ?_
          go_frame
          refine wpO_pure (v := .pointer (some ⟨g, 0, none⟩)) (by rfl) (fun w' hw' => by rfl) ?_
          go_frame
          refine wpO_pure (v := .pointer (some ⟨g, 0, none⟩)) (by rfl) (fun w' hw' => by go_simp) ?_
          go_frame
          refine wpO_pure (v := .slice (some ⟨gl, 0, none⟩) D.l.length cl) (by rfl) (fun w' hw' => by have hc := hw'.1.cell 0; simp only [List.getElem?_cons_zero] at hc; go_simp) ?_
          go_frame
          refine wpO_pure (v := .pointer (some ⟨b, 0, none⟩)) (by rfl) (fun w' hw' => by go_simp) ?_
          go_frame
          refine wpO_pure (v := .int .i64 (D.row[k].1 : Int)) (by rfl) (fun w' hw' => by have hc := hw'.2.cell 0; simp only [wv, List.getElem?_cons_zero] at hc; go_simp) ?_
          go_frame
          refine wpO_pure (v := .pointer (some ⟨gl, D.row[k].1 * 64, none⟩)) (by rfl) (fun w' hw' => by go_simp) ?_
          go_frame
          refine wpO_pure (v := .pointer (some ⟨gl, D.row[k].1 * 64, none⟩)) (by rfl) (fun w' hw' => by rfl) ?_
          go_frame
          refine wpO_nil ?_
          go_wp2_with fail
          refine wp_region_ordL [(0, true), (1, true), (2, true), (3, true), (4, true), (5, false)] (fun _ => True) follows_mixed (by kernel_rfl) trivial ?_
          simp only [List.map_cons, List.map_nil, List.getElem?_cons_succ, List.getElem?_cons_zero, Option.getD_some]
          refine wpO_pure (v := .pointer (some ⟨gl, D.row[k].1 * 64, none⟩)) (by rfl) (fun w' hw' => by rfl) ?_
          go_frame
          refine wpO_pure (v := .pointer (some ⟨gl, D.row[k].1 * 64, none⟩)) (by rfl) (fun w' hw' => by rfl) ?_
          go_frame
          refine wpO_pure (v := .slice (some ⟨gl, D.row[k].1 * 64 + 32, none⟩) 32 32) (by rfl) (fun w' hw' => by go_simp) ?_
          go_frame
          refine wpO_pure (v := .pointer (some ⟨b, 1, none⟩)) (by rfl) (fun w' hw' => by go_simp) ?_
          go_frame
          refine wpO_pure (v := .slice (some ⟨b, 33, none⟩) 32 32) (by rfl) (fun w' hw' => by go_simp) ?_
          go_frame
          have hP1 := ((HD2.out.keep ((Keep.refl Noth w2).drew) (Dj.noth _) |> hid).out.keep ((Keep.refl Noth w2.drew).drew) (Dj.noth _)).patched' D.row[k].1 32 (D.row[k].2.drop 32) (by show _ < (crashK fs D.l D.row k).length; rw [HL.out]; exact Hp.out.1) (by rw [Hd.out]; decide) (D.row[k].1 * 64 + 32) rfl
          have HP1 := hid hP1
          clear hP1
          refine wpO_run (by rfl) (exec_copy _ _ 33 33 rfl (by simp [Act.eval]) (by simp [Act.eval]) (run_copy_any 33 33 3 5 (some ⟨gl, D.row[k].1 * 64 + 32, none⟩) (some ⟨b, 33, none⟩) 32 32 32 32 (bv (D.row[k].2.drop 32)) gl (D.row[k].1 * 64 + 32) sl33 size5 (by rw [bv_length, Hd.out]; rfl) (fun _ => rfl) (Reads.of_range (B2.drew.drew.range 33 _ (wv_hi D.row[k]))) HP1.out.2.2 (bv_one _))) (.inl rfl) ?_
          refine wpO_nil ?_
          go_frame
          go_wp2_with fail
          go_roundw
          case rel => exact ⟨k + 1, by go_num, hlt, by rw [Hnx.out, Hfm.out, mix_back Hcl.out Hpl.out]; exact HP1.out.1, (HK2.out.drew.drew.trans HP1.out.2.1 (fun i hi e => by unfold Only at e; subst e; exact HglF.out))⟩
          case measure => simp [intOf]; omega
end Go.Proofs.Ytffcglfepobdjaa

