/- The reference's At. -/
import Derived.Test.YtffcglfepobdjaaG4
import Derived.Test.YtffcglfepobdjaaB8
set_option linter.unusedVariables false
set_option linter.unusedSimpArgs false
set_option maxRecDepth 10000
set_option maxHeartbeats 1500000
namespace Go.Proofs.Ytffcglfepobdjaa
open Go.RowKit

theorem st_at {w : World} {F : Nat → Prop} {vl vr : Value} {D : DS} (H : StAt w F vl vr D) (hok : D.ok) (hr : D.row.length ≤ 1099511627776) (k : Nat) (hk : k < D.l.length) :
    Calls Try.prog 55 #[.agg (stv vl vr D).toArray, .int .i64 (k : Int)] w (fun e w' => e = .returned (.agg (bv (D.at k)).toArray) ∧ Keep Noth w w') := by
  obtain ⟨Al, cl, rfl⟩ := H.l.valm
  obtain ⟨Ar, cr, rfl⟩ := H.row.valm
  obtain ⟨gl, rfl⟩ := H.l.some_at (by rw [List.length_map]; omega)
  obtain ⟨n, hn⟩ : ∃ n, n = D.l.length := ⟨_, rfl⟩
  obtain ⟨m0, hm0⟩ : ∃ n, n = D.row.length := ⟨_, rfl⟩
  have hst : (stv (.slice (some ⟨gl, 0, none⟩) D.l.length cl) (.slice Ar D.row.length cr) D) = [.slice (some ⟨gl, 0, none⟩) n cl, .slice Ar m0 cr, .int .i64 (D.ops : Int), .int .i64 D.fuse, .bool D.down] := by rw [hn, hm0]; rfl
  rw [hst]
  have hk1 : (k : Int) < n := by omega
  have hm1 : (m0 : Int) ≤ 1099511627776 := by omega
  have h64 := hok.l64 D.l[k] (List.getElem_mem hk)
  have H64 := hid h64
  have HR := hid H
  have Hm0 := hid hm0
  have Hn := hid hn
  clear hst h64 hn hm0 H
  go_enter Try.func55, Try.ntmps55
  go_wp2_with (first
    | (guard_target = wpList _ _ _ (Oper.mk _ (Op.box _ _) _ _ _ _ :: _) _ _; refine wpList_box_v rfl 30 _ rfl [.slice (some ⟨gl, 0, none⟩) n cl, .slice Ar m0 cr, .int .i64 (D.ops : Int), .int .i64 D.fuse, .bool D.down] (by rfl) ?_; intro b2 w1 hb2 B1 K1)
    | (guard_target = wpList _ _ _ (Oper.mk _ (Op.alloc _) _ _ _ _ :: _) _ _; refine wpList_alloc_v rfl 52 rfl zv info52 (bv zb) zv_cells ?_; intro b4 w2 hb4 B4 K2; have B2 := B1.keep K2 id; have c0 := B2.cell 0; have c1 := B2.cell 1; simp only [List.getElem?_cons_zero, List.getElem?_cons_succ] at c0 c1))
  have K02 : Keep Noth w w2 := K1.trans K2 (fun _ _ h => h)
  have hb4w : w.heap.size ≤ b4 := Nat.le_trans K1.size hb4
  have HR2 := hid (HR.out.keep K02 (Dj.noth _))
  clear B1 K1 K2
  go_loopw [5] (fun i wr => ∃ m : Nat, i = .int .i64 ((m : Int) - 1) ∧ m ≤ m0 ∧ (putAll D.l (D.row.take m)).getD k [] = D.at k ∧ wr = w2) (fun i _ => (intOf i + 1).toNat)
  case atStart => exact ⟨m0, rfl, Nat.le_refl _, by rw [Hm0.out, List.take_length]; rfl, rfl⟩
  case round =>
    obtain ⟨m, hi, hm, hat, rfl⟩ := hrel
    rcases m with _ | j
    · obtain rfl : u5 = .int .i64 (-1) := hi
      have hD : D.at k = D.l[k] := by rw [← hat]; simp [putAll, List.getD_eq_getElem?_getD, hk]
      have HD := hid hD
      clear hat hD
      go_wp2_with (first
        | (guard_target = wpList _ _ _ (Oper.mk _ (Op.load 52 _) _ _ _ _ :: _) _ _; refine wpList_load_row' rfl 52 _ rfl F 52 64 gl n cl (D.l.map bv) k _ (bv D.l[k]) _ (by rw [Hn.out]; exact HR2.out.l) (by rw [List.length_map]; exact hk) (List.getElem_map ..) rfl (by rfl) Try.underlying52 rfl info52 ?_)
        | (guard_target = wpList _ _ _ (Oper.mk _ (Op.store _ _ _) _ _ _ _ :: _) _ _; refine wpList_store_whole rfl 52 _ _ rfl b4 (bv zb) (bv D.l[k]) 52 (by rfl) (by rfl) B4 (by rw [bv_length, bv_length, H64.out, zb_length]) (by rw [bv_length, H64.out]; exact info52) (bv_one _) ?_; intro w6 B6 K6))
      trace_state
      refine ret_cell rfl b4 _ 52 _ (by rfl) B6 Try.underlying52 rfl (by rw [bv_length, H64.out]; exact info52) rfl ?_
      exact ⟨by rw [HD.out], K02.own K6 (fun q e => by unfold Only at e; subst e; exact hb4w)⟩
    · have hij : u5 = .int .i64 (j : Int) := by rw [hi]; congr 1; omega
      subst hij
      clear hi
      have hj : j < D.row.length := by rw [← Hm0.out]; omega
      have hj' : (j : Int) < m0 := by omega
      obtain ⟨gr, rfl⟩ := HR2.out.row.some_at (by rw [List.length_map]; omega)
      obtain ⟨g', cap', hv, _, hrg⟩ := HR2.out.row.at (by rw [List.length_map]; omega)
      simp only [Value.slice.injEq, Option.some.injEq, Addr.mk.injEq, and_true, true_and] at hv
      obtain ⟨rfl, _, rfl⟩ := hv
      have hrj := hrg j (by rw [List.length_map]; exact hj)
      rw [List.getElem_map] at hrj
      have hcj : wr.cell? ⟨gr, j * 65, none⟩ = some (.int .i64 (D.row[j].1 : Int)) := by have := hrj 0 (.int .i64 (D.row[j].1 : Int)) (by simp [wv]); simpa using this
      have hp := hok.row64 D.row[j] (List.getElem_mem hj)
      have hrb : wr.rangeAt gr (j * 65 + 1) (bv D.row[j].2) := fun q u hu => by
        have := hrj (q + 1) u (by simpa [wv] using hu)
        rw [show j * 65 + 1 + q = j * 65 + (q + 1) by omega]
        exact this
      have hnx : (putAll D.l (D.row.take (j + 1))).getD k [] = if D.row[j].1 = k then D.row[j].2 else (putAll D.l (D.row.take j)).getD k [] := by rw [take_snoc' _ _ hj]; exact putAll_at_snoc _ _ _ _ hk
      rw [hat] at hnx
      have Hnx := hid hnx
      have Hrb := hid hrb
      have Hp := hid hp
      clear hrg hrj hp hrb hnx hat
      by_cases hkk : D.row[j].1 = k
      · have hkk' : (((D.row[j].1 : Nat) : Int) == (k : Int)) = true := by simp [hkk]
        have hD : D.at k = D.row[j].2 := by rw [Hnx.out, if_pos hkk]
        have HD := hid hD
        clear hkk hD
        go_wp2_with (first
          | (guard_target = wpList _ _ _ (Oper.mk _ (Op.load 52 _) _ _ _ _ :: _) _ _; refine wpList_load_mid rfl 52 _ rfl gr (j * 65 + 1) (by rfl) (bv D.row[j].2) _ Hrb.out Try.underlying52 rfl (by rw [bv_length, Hp.out.2]; exact info_size info52) ?_)
          | (guard_target = wpList _ _ _ (Oper.mk _ (Op.store _ _ _) _ _ _ _ :: _) _ _; refine wpList_store_whole rfl 52 _ _ rfl b4 (bv zb) (bv D.row[j].2) 52 (by rfl) (by rfl) B4 (by rw [bv_length, bv_length, Hp.out.2, zb_length]) (by rw [bv_length, Hp.out.2]; exact info52) (bv_one _) ?_; intro w6 B6 K6))
        refine ret_cell rfl b4 _ 52 _ (by rfl) B6 Try.underlying52 rfl (by rw [bv_length, Hp.out.2]; exact info52) rfl ?_
        exact ⟨by rw [HD.out], K02.own K6 (fun q e => by unfold Only at e; subst e; exact hb4w)⟩
      · have hkk' : (((D.row[j].1 : Nat) : Int) == (k : Int)) = false := by simp; omega
        have hD : (putAll D.l (D.row.take j)).getD k [] = D.at k := by rw [Hnx.out, if_neg hkk]
        have HD := hid hD
        clear hkk hD
        go_wp2_with fail
        go_roundw
        case rel => exact ⟨j, by go_num, by omega, HD.out, trivial⟩
        case measure => simp [intOf] <;> omega
end Go.Proofs.Ytffcglfepobdjaa
