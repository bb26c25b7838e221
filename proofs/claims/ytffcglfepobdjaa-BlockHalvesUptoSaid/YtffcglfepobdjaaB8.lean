/- A read. -/
import Derived.Test.YtffcglfepobdjaaB7
set_option linter.unusedVariables false
set_option linter.unusedSimpArgs false
set_option maxRecDepth 10000
set_option maxHeartbeats 2000000
namespace Go.Proofs.Ytffcglfepobdjaa
open Go.RowKit

/-- A block, as Read has it. -/
def DS.at (D : DS) (k : Nat) : Bk := D.all.getD k []
theorem putAll_at_snoc (l : List Bk) (r : List (Nat × Bk)) (p : Nat × Bk) (k : Nat) (hk : k < l.length) : (putAll l (r ++ [p])).getD k [] = if p.1 = k then p.2 else (putAll l r).getD k [] := by
  rw [putAll_snoc]
  by_cases h : p.1 = k
  · subst h
    simp [List.getD_eq_getElem?_getD, putAll_length, hk]
  · simp [List.getD_eq_getElem?_getD, h]
theorem at_length {D : DS} (hok : D.ok) (k : Nat) (hk : k < D.l.length) (j : Nat) : ((putAll D.l (D.row.take j)).getD k []).length = 64 := by
  have hl : k < (putAll D.l (D.row.take j)).length := by rw [putAll_length]; exact hk
  rw [List.getD_eq_getElem?_getD, List.getElem?_eq_getElem hl]
  exact putAll_64 _ _ hok.l64 (fun p hp => (hok.row64 p (List.mem_of_mem_take hp)).2) _ (List.getElem_mem hl)

theorem read_down {w : World} {F : Nat → Prop} {g : Nat} {vl vr : Value} {D : DS} (hD : DevAt w F g vl vr D) (hd : D.down = true) (k : Int) :
    Calls Try.prog 25 #[.pointer (some ⟨g, 0, none⟩), .int .i64 k] w (fun e w' => e = .returned (.tuple #[.slice none 0 0, .int .i64 100]) ∧ w = w') := by
  obtain ⟨⟨-, -, -, -, h4⟩, -⟩ := hD.cells
  rw [hd] at h4
  clear hd hD
  go_enter Try.func25, Try.ntmps25
  go_wp2_with fail
  go_ret2
  exact ⟨rfl, rfl⟩
theorem read_at {w : World} {F : Nat → Prop} {g : Nat} {vl vr : Value} {D : DS} (hD : DevAt w F g vl vr D) (hd : D.down = false) (k : Int) (hk : k < 0 ∨ (D.l.length : Int) ≤ k) :
    Calls Try.prog 25 #[.pointer (some ⟨g, 0, none⟩), .int .i64 k] w (fun e w' => e = .returned (.tuple #[.slice none 0 0, .int .i64 101]) ∧ w = w') := by
  obtain ⟨⟨h0, -, -, -, h4⟩, -⟩ := hD.cells
  obtain ⟨Al, cl, rfl⟩ := hD.l.valm
  rw [hd] at h4
  clear hd hD
  by_cases h1 : k < 0
  · go_enter Try.func25, Try.ntmps25
    go_wp2_with fail
    go_ret2
    exact ⟨rfl, rfl⟩
  · have h2 : (D.l.length : Int) ≤ k := by omega
    clear hk
    go_enter Try.func25, Try.ntmps25
    go_wp2_with fail
    go_ret2
    exact ⟨rfl, rfl⟩
theorem read_ok {w : World} {F : Nat → Prop} {g : Nat} {vl vr : Value} {D : DS} (hD : DevAt w F g vl vr D) (hd : D.down = false) (hok : D.ok) (hr : D.row.length ≤ 1099511627776) (k : Nat) (hk : k < D.l.length) :
    Calls Try.prog 25 #[.pointer (some ⟨g, 0, none⟩), .int .i64 (k : Int)] w (fun e w' => ∃ b, e = .returned (.tuple #[.slice (some ⟨b, 0, none⟩) 64 64, .int .i64 0]) ∧ w.heap.size ≤ b ∧ BlockIs w' b (bv (D.at k)) 103 ∧ Keep Noth w w') := by
  obtain ⟨⟨h0, h1, -, -, h4⟩, -⟩ := hD.cells
  obtain ⟨Al, cl, rfl⟩ := hD.l.valm
  obtain ⟨Ar, cr, rfl⟩ := hD.row.valm
  obtain ⟨gl, rfl⟩ := hD.l.some_at (by rw [List.length_map]; omega)
  rw [hd] at h4
  have hk0 : (0 : Int) ≤ k := by omega
  have hk1 : (k : Int) < D.l.length := by omega
  have Hdev := hid hD
  have h64 := hok.l64 D.l[k] (List.getElem_mem hk)
  have H64 := hid h64
  have hst : (putAll D.l (D.row.take 0)).getD k [] = D.l[k] := by simp [putAll, List.getD_eq_getElem?_getD, hk]
  have Hst := hid hst
  clear hd h64 hst hD
  go_enter Try.func25, Try.ntmps25
  go_wp2_with (first | (refine wpList_load_row' rfl 103 _ rfl F 103 64 gl _ cl (D.l.map bv) k _ (bv D.l[k]) _ Hdev.out.l (by rw [List.length_map]; exact hk) (List.getElem_map ..) rfl (by rfl) Try.underlying103 rfl info103 ?_) | (refine wpList_alloc_store rfl 103 rfl 6 _ rfl (by rfl) rfl rfl (by decide) zv (bv D.l[k]) (by rw [bv_length, H64.out]; exact info103) (bv zb) zv_cells (by rw [bv_length, H64.out, bvz_length]) (by rfl) (bv_one _) ?_; intro b w1 hb1 B1 K1; have hc1 := ((Hdev.out.keep K1 (Dj.noth _)).cells).1.2.1))
  go_loopw [38] (fun i wr => ∃ j : Nat, i = .int .i64 j ∧ j ≤ D.row.length ∧ BlockIs wr b (bv ((putAll D.l (D.row.take j)).getD k [])) 103 ∧ Keep Noth w wr) (fun i _ => D.row.length - (intOf i).toNat)
  case atStart => exact ⟨0, rfl, Nat.zero_le _, by rw [Hst.out]; exact B1, K1⟩
  case round =>
    obtain ⟨j, rfl, hjl, HB, HK⟩ := hrel
    clear h0 h1 h4 hc1 B1 K1
    by_cases hlt : j < D.row.length
    · obtain ⟨gr, rfl⟩ := Hdev.out.row.some_at (by rw [List.length_map]; omega)
      have hDr := hid (Hdev.out.keep HK (Dj.noth _))
      have hlt' : (j : Int) < D.row.length := by omega
      have hp := hok.row64 D.row[j] (List.getElem_mem hlt)
      have Hw65 : Hid ((wv D.row[j]).length = 65) := by show _ = _; simp [wv, hp.2]
      have Hp := hid hp
      have hcur := at_length hok k hk j
      have Hcur := hid hcur
      have hnx : (putAll D.l (D.row.take (j + 1))).getD k [] = if D.row[j].1 = k then D.row[j].2 else (putAll D.l (D.row.take j)).getD k [] := by rw [take_snoc' _ _ hlt]; exact putAll_at_snoc _ _ _ _ hk
      have Hnx := hid hnx
      clear hp hcur hnx
      by_cases hkk : D.row[j].1 = k
      · have hkk' : (((D.row[j].1 : Nat) : Int) == (k : Int)) = true := by simp [hkk]
        have Hkk := hid hkk
        clear hkk
        go_wp2_with (first | (refine wpList_load_row' rfl 105 _ rfl F 105 65 gr _ cr (D.row.map wv) j _ (wv D.row[j]) _ hDr.out.row (by rw [List.length_map]; exact hlt) (List.getElem_map ..) rfl (by rfl) Try.underlying105 rfl info105 ?_) | (refine wpList_alloc_store rfl 105 rfl 8 _ rfl (by rfl) rfl rfl (by decide) zw (wv D.row[j]) (by rw [Hw65.out]; exact info105) (wv (0, zb)) zw_cells (Hw65.out.trans wv0_length.symm) (by rfl) (wv_one _) ?_; intro b2 w2 hb2 B2 K2; have hc2 := B2.cell 0; simp only [wv, List.getElem?_cons_zero] at hc2; have HB2 := hid (HB.keep K2 id)) | (refine wpList_load_blk rfl 103 _ rfl b2 1 (wv D.row[j]) (bv D.row[j].2) 105 _ (by rfl) B2 (part1 _ _) Try.underlying103 rfl (by rw [bv_length, Hp.out.2]; exact info103) ?_) | (refine wpList_store_whole rfl 103 _ _ rfl b (bv ((putAll D.l (D.row.take j)).getD k [])) (bv D.row[j].2) 103 (by rfl) (by rfl) HB2.out (by rw [bv_length, bv_length, Hp.out.2, Hcur.out]) (by rw [bv_length, Hp.out.2]; exact info103) (bv_one _) ?_; intro w3 B3 K3))
        go_roundw
        case rel => exact ⟨j + 1, by go_num, hlt, by rw [Hnx.out, if_pos Hkk.out]; exact B3, (HK.trans K2 (fun _ _ h => h)).trans K3 (fun i hi e => by unfold Only at e; omega)⟩
        case measure => simp [intOf]; omega
      · have hkk' : (((D.row[j].1 : Nat) : Int) == (k : Int)) = false := by simp; omega
        have Hkk := hid hkk
        clear hkk
        go_wp2_with (first | (refine wpList_load_row' rfl 105 _ rfl F 105 65 gr _ cr (D.row.map wv) j _ (wv D.row[j]) _ hDr.out.row (by rw [List.length_map]; exact hlt) (List.getElem_map ..) rfl (by rfl) Try.underlying105 rfl info105 ?_) | (refine wpList_alloc_store rfl 105 rfl 8 _ rfl (by rfl) rfl rfl (by decide) zw (wv D.row[j]) (by rw [Hw65.out]; exact info105) (wv (0, zb)) zw_cells (Hw65.out.trans wv0_length.symm) (by rfl) (wv_one _) ?_; intro b2 w2 hb2 B2 K2; have hc2 := B2.cell 0; simp only [wv, List.getElem?_cons_zero] at hc2; have HB2 := hid (HB.keep K2 id)))
        go_roundw
        case rel => exact ⟨j + 1, by go_num, hlt, by rw [Hnx.out, if_neg Hkk.out]; exact HB2.out, HK.trans K2 (fun _ _ h => h)⟩
        case measure => simp [intOf]; omega
    · have hge : j = D.row.length := by omega
      subst hge
      go_wp2_with fail
      go_ret2
      rw [List.take_length] at HB
      exact ⟨b, rfl, hb1, HB, HK⟩
end Go.Proofs.Ytffcglfepobdjaa
