/- The reference's Image. -/
import Derived.Test.YtffcglfepobdjaaG5
set_option linter.unusedVariables false
set_option linter.unusedSimpArgs false
set_option maxRecDepth 10000
set_option maxHeartbeats 1500000
namespace Go.Proofs.Ytffcglfepobdjaa
open Go.RowKit

theorem all_length (D : DS) : D.all.length = D.l.length := putAll_length _ _
theorem all_64 {D : DS} (hok : D.ok) : ∀ b ∈ D.all, b.length = 64 := putAll_64 D.row D.l hok.l64 (fun p hp => (hok.row64 p hp).2)
theorem flatten_64 : ∀ (l : List Bk), (∀ b ∈ l, b.length = 64) → l.flatten.length = l.length * 64
  | [], _ => rfl
  | b :: l, h => by rw [List.flatten_cons, List.length_append, flatten_64 l (fun c hc => h c (by simp [hc])), h b (by simp), List.length_cons]; omega
theorem at_all {D : DS} (k : Nat) (hk : k < D.l.length) : D.at k = D.all[k]'(by rw [all_length]; exact hk) := by
  unfold DS.at; rw [List.getD_eq_getElem?_getD, List.getElem?_eq_getElem (by rw [all_length]; exact hk)]; rfl

theorem st_image {w : World} {F : Nat → Prop} {vl vr : Value} {D : DS} (H : StAt w F vl vr D) (hok : D.ok) (hr : D.row.length ≤ 1099511627776) :
    Calls Try.prog 54 #[.agg (stv vl vr D).toArray] w (fun e w' => ∃ v, e = .returned v ∧ Bytes w' (Fresh w w') v D.image ∧ Keep Noth w w') := by
  obtain ⟨Al, cl, rfl⟩ := H.l.valm
  obtain ⟨n, hn⟩ : ∃ n, n = D.l.length := ⟨_, rfl⟩
  have hst : (stv (.slice Al D.l.length cl) vr D) = [.slice Al n cl, vr, .int .i64 (D.ops : Int), .int .i64 D.fuse, .bool D.down] := by rw [hn]; rfl
  have hvr := H.row.one_val.1
  obtain ⟨sv, hsv⟩ : ∃ sv, sv = stv (.slice Al D.l.length cl) vr D := ⟨_, rfl⟩
  have hsl : sv.length = 5 := by rw [hsv]; rfl
  have hn4 : (n : Int) ≤ 4096 := by have := hok.most; omega
  have HR := hid H
  have Hn := hid hn
  have Hsv := hid hsv
  have Hst := hid (hsv.trans hst)
  have Hc0 : Hid (sv[0]? = some (.slice Al n cl)) := by show _ = _; rw [hsv, hst]; rfl
  have Hsl := hid hsl
  rw [← hsv]
  clear hst hn H hvr hsv hsl
  go_enter Try.func54, Try.ntmps54
  go_wp2_with (guard_target = wpList _ _ _ (Oper.mk _ (Op.box _ _) _ _ _ _ :: _) _ _; refine wpList_box_v rfl 30 _ rfl sv (by rfl) ?_; intro b1 w1 hb1 B1 K1)
  have HR1 := hid (HR.out.keep K1 (Dj.noth _))
  go_loopw [3, 4] (fun v i wr => ∃ k : Nat, i = .int .i64 k ∧ k ≤ n ∧ Acc w1 wr 5 1 v (u1 (D.all.take k).flatten)) (fun _ i _ => n - (intOf i).toNat)
  case atStart => exact ⟨0, rfl, Nat.zero_le _, Acc.nil _ _ _⟩
  case round =>
    obtain ⟨k, rfl, hkl, HA⟩ := hrel
    have c0 : wr.cell? ⟨b1, 0, none⟩ = some (.slice Al n cl) := by rw [(B1.keep HA.kept id).cell 0]; exact Hc0.out
    by_cases hlt : k < n
    · have hlt' : (k : Int) < n := by omega
      have hkl' : k < D.l.length := by rw [← Hn.out]; exact hlt
      have h64 : (D.at k).length = 64 := by have := at_length hok k hkl' D.row.length; rw [List.take_length] at this; exact this
      have H64 := hid h64
      have hfl : (D.all.take k).flatten.length ≤ 262144 := by
        rw [flatten_64 _ (fun b hb => all_64 hok b (List.mem_of_mem_take hb)), List.length_take]; omega
      have HFl := hid hfl
      have htk : (D.all.take (k + 1)).flatten = (D.all.take k).flatten ++ D.at k := by
        rw [take_snoc' _ _ (by rw [all_length]; exact hkl'), List.flatten_append, List.flatten_singleton, at_all k hkl']
      have Htk := hid htk
      clear h64 hfl htk
      go_wp2_with (first
        | (guard_target = wpList _ _ _ (Oper.mk _ (Op.load 30 _) _ _ _ _ :: _) _ _; refine wpList_load_blk rfl 30 _ rfl b1 0 sv sv 30 _ (by rfl) (B1.keep HA.kept id) (fun j v h => by simpa using h) Try.underlying30 rfl (by rw [Hsl.out]; exact info30) ?_; clear c0)
        | (go_at_call 55; have HAT := st_at (HR1.out.keep HA.kept (Dj.noth _)) hok hr k hkl'; rw [← Hsv.out] at HAT; refine HAT.mono ?_; clear HAT; rintro e wA ⟨rfl, KA⟩)
        | (guard_target = wpList _ _ _ (Oper.mk _ (Op.alloc _) _ _ _ _ :: _) _ _; refine wpList_alloc_store rfl 52 rfl 5 _ rfl (by rfl) rfl rfl (by decide) zv (bv (D.at k)) (by rw [bv_length, H64.out]; exact info52) (bv zb) zv_cells (by rw [bv_length, H64.out, bvz_length]) (by rfl) (bv_one _) ?_; intro b5 wB hb5 B5 KB))
      have HB : Acc w1 wB 5 1 u3 (u1 ((D.all.take k).flatten ++ (D.at k).take 0)) := by
        rw [List.take_zero, List.append_nil]
        exact ⟨((HA.rows.keep KA (Dj.noth _)).keep KB (Dj.noth _)).mono (fun q hq => ⟨hq.1, by have := KA.size; have := KB.size; have := hq.2; omega⟩), (HA.kept.trans KA (fun _ _ h => h)).trans KB (fun _ _ h => h)⟩
      clear HA KA KB
      go_loopw [3, 6] (fun v i wr => ∃ j : Nat, i = .int .i64 j ∧ j ≤ 64 ∧ BlockIs wr b5 (bv (D.at k)) 52 ∧ Acc w1 wr 5 1 v (u1 ((D.all.take k).flatten ++ (D.at k).take j))) (fun _ i _ => 64 - (intOf i).toNat)
      case atStart => exact ⟨0, rfl, Nat.zero_le _, B5, HB⟩
      case round =>
        obtain ⟨j, rfl, hj, B5', HC⟩ := hrel
        clear B5 HB
        by_cases hj64 : j < 64
        · have hj' : (j : Int) < 64 := by omega
          obtain ⟨x, hx⟩ : ∃ x, (D.at k)[j]? = some x := ⟨_, List.getElem?_eq_getElem (by rw [H64.out]; exact hj64)⟩
          have c5 : wr.cell? ⟨b5, j, none⟩ = some (.int .u8 (x.toNat : Int)) := by rw [B5'.cell j]; simp [bv, hx, Go.Proofs.Ytffcglfepobdjaa.u8]
          have htk1 : (D.at k).take (j + 1) = (D.at k).take j ++ [x] := by rw [List.take_add_one, hx]; rfl
          have Htk1 := hid htk1
          clear htk1 hx
          go_wp2_with (first
            | (guard_target = wpList _ _ _ (Oper.mk _ (Op.buildSlice _ _ _) _ _ _ _ :: _) _ _; refine wpList_slice1_v rfl 33 5 _ rfl sl33 [Go.Proofs.Ytffcglfepobdjaa.u8 x] (.int .u8 0) info5 rfl (by decide) (by decide) (by rfl) rfl ?_; intro bA wC hbA BA KC; clear c5)
            | (at_builtin; refine wpList_append_rows rfl _ _ 33 rfl 5 (.int .u8 0) 1 1 sl33 info5 rfl (by decide) (by decide) _ _ _ (u1 [x]) (by rfl) (HC.rows.keep KC (Dj.noth _)) (some ⟨bA, 0, none⟩) 1 1 (by rfl) rfl (fun h => by cases h) (u1_each _) (by rw [u1_flatten]; exact Reads.of_range BA.rangeAll) (u1_one _) (by rw [u1_length, List.length_append, List.length_take]; have := HFl.out; omega) ?_; intro v3 w3 HR3 K3))
          rw [← u1_append, List.append_assoc, ← Htk1.out] at HR3
          have HC' := HC.append KC HR3 K3
          have B5'' := (B5'.keep KC id).keep K3 (fun e => HC.rows.ne B5' (by decide) e)
          clear HC HR3 K3 KC BA B5'
          go_roundw
          case rel => exact ⟨j + 1, by go_num, hj64, B5'', HC'⟩
          case measure => simp [intOf]; omega
        · have hge : j = 64 := by omega
          subst hge
          have h64t : (D.at k).take 64 = D.at k := List.take_of_length_le (by rw [H64.out]; omega)
          rw [h64t, ← Htk.out] at HC
          clear h64t
          clear B5'
          go_wp2_with fail
          go_roundw
          case rel => exact ⟨k + 1, by go_num, hlt, HC⟩
          case measure => simp [intOf]; omega
    · have hge : k = n := by omega
      subst hge
      rw [Hn.out, ← all_length, List.take_length] at HA
      go_wp2_with fail
      go_ret
      exact ⟨_, rfl, HA.rows.mono (fun q hq => ⟨Nat.le_trans K1.size hq.1, hq.2⟩), K1.trans HA.kept (fun _ _ h => h)⟩
end Go.Proofs.Ytffcglfepobdjaa
