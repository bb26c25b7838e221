/- Is a device the document's? -/
import Derived.Test.YtffcglfepobdjaaG6
import Derived.Test.YtffcglfepobdjaaC1
import Derived.Test.YtffcglfepobdjaaD4
set_option linter.unusedVariables false
set_option linter.unusedSimpArgs false
set_option maxRecDepth 10000
set_option maxHeartbeats 1500000
namespace Go.Proofs.Ytffcglfepobdjaa
open Go.RowKit

theorem st_stands {w : World} {F G : Nat → Prop} {g : Nat} {vl vr : Value} {D : DS} (hDev : DevIs w F g D) (H : StAt w G vl vr D) (hok : D.ok) (hr : D.row.length ≤ 1099511627776) :
    Calls Try.prog 19 #[.pointer (some ⟨g, 0, none⟩), .agg (stv vl vr D).toArray] w (fun e w' => e = .returned (.bool true) ∧ Keep Noth w w') := by
  obtain ⟨Al, cl, rfl⟩ := H.l.valm
  obtain ⟨Ar, cr, rfl⟩ := H.row.valm
  obtain ⟨n, hn⟩ : ∃ n, n = D.l.length := ⟨_, rfl⟩
  obtain ⟨m, hm⟩ : ∃ n, n = D.row.length := ⟨_, rfl⟩
  obtain ⟨op, hop⟩ : ∃ n : Int, n = (D.ops : Int) := ⟨_, rfl⟩
  obtain ⟨fu, hfu⟩ : ∃ n : Int, n = D.fuse := ⟨_, rfl⟩
  obtain ⟨dn, hdn⟩ : ∃ n : Bool, n = D.down := ⟨_, rfl⟩
  have hst : (stv (.slice Al D.l.length cl) (.slice Ar D.row.length cr) D) = [.slice Al n cl, .slice Ar m cr, .int .i64 op, .int .i64 fu, .bool dn] := by rw [hn, hm, hop, hfu, hdn]; rfl
  have Hst := hid hst
  rw [hst]
  obtain ⟨vl', vr', hD⟩ := hDev
  have hn4 : (n : Int) ≤ 4096 := by have := hok.most; omega
  have HR := hid H
  have HD := hid hD
  have Hn := hid hn
  have Hm := hid hm
  have Hop := hid hop
  have Hdn := hid hdn
  clear hst hn hm hop hfu hdn H hD
  go_enter Try.func19, Try.ntmps19
  go_wp2_with (guard_target = wpList _ _ _ (Oper.mk _ (Op.box _ _) _ _ _ _ :: _) _ _; refine wpList_box_v rfl 30 _ rfl [.slice Al n cl, .slice Ar m cr, .int .i64 op, .int .i64 fu, .bool dn] (by rfl) ?_; intro b3 w1 hb1 B1 K1)
  have HR1 := hid (HR.out.keep K1 (Dj.noth _))
  have HD1 := hid (HD.out.keep K1 (Dj.noth _))
  have HB : BlockIs w1.drew b3 [.slice Al n cl, .slice Ar m cr, .int .i64 op, .int .i64 fu, .bool dn] 30 := B1.drew
  refine wp_region_ordL [(0, true), (2, true), (3, true), (4, true), (1, false), (5, true), (6, true), (7, true), (9, true), (10, true), (11, true), (8, false), (12, true), (13, true), (14, true), (15, true), (17, true), (18, true), (16, false), (19, true), (20, true), (21, true), (22, true), (24, true), (25, true), (23, false), (26, true), (27, true), (28, true), (29, true), (31, true), (30, false), (32, false), (33, false), (34, true), (35, false)] (fun w' => BlockIs w' b3 [.slice Al n cl, .slice Ar m cr, .int .i64 op, .int .i64 fu, .bool dn] 30) follows_mixed (by kernel_rfl) HB ?_
  simp only [List.map_cons, List.map_nil, List.getElem?_cons_succ, List.getElem?_cons_zero, Option.getD_some]
  have hDr := HD1.out.keep ((Keep.refl Noth w1).drew) (Dj.noth _)
  refine wpO_pure (v := .pointer (some ⟨g, 0, none⟩)) (by rfl) (fun w' hw' => by rfl) ?_
  go_frame
  refine wpO_pure (v := .pointer (some ⟨b3, 0, none⟩)) (by rfl) (fun w' hw' => by go_simp) ?_
  go_frame
  refine wpO_pure (v := .slice Al n cl) (by rfl) (fun w' hw' => by have hc := hw'.cell 0; simp only [List.getElem?_cons_zero, List.getElem?_cons_succ] at hc; go_simp) ?_
  go_frame
  refine wpO_pure (v := .int .i64 (n : Int)) (by rfl) (fun w' hw' => by go_simp) ?_
  go_frame
  refine wpO_call (by rfl) (exec_call' 24 _ _ rfl Try.func24 (by kernel_rfl) (by rfl) #[.pointer (some ⟨g, 0, none⟩)] (by simp [Act.eval])) ((count_calls hDr).mono ?_)
  rintro e w' ⟨rfl, rfl⟩
  refine ⟨_, rfl, .inr HB, ?_⟩
  rw [← Hn.out]
  go_frame
  refine wpO_pure (v := .bool false) (by rfl) (fun w' hw' => by go_simp) ?_
  go_frame
  refine wpO_pure (v := .bool false) (by rfl) (fun w' hw' => by go_simp) ?_
  go_frame
  refine wpO_pure (v := .pointer (some ⟨g, 0, none⟩)) (by rfl) (fun w' hw' => by rfl) ?_
  go_frame
  refine wpO_pure (v := .pointer (some ⟨b3, 1, none⟩)) (by rfl) (fun w' hw' => by go_simp) ?_
  go_frame
  refine wpO_pure (v := .slice Ar m cr) (by rfl) (fun w' hw' => by have hc := hw'.cell 1; simp only [List.getElem?_cons_zero, List.getElem?_cons_succ] at hc; go_simp) ?_
  go_frame
  refine wpO_pure (v := .int .i64 (m : Int)) (by rfl) (fun w' hw' => by go_simp) ?_
  go_frame
  refine wpO_call (by rfl) (exec_call' 30 _ _ rfl Try.func30 (by kernel_rfl) (by rfl) #[.pointer (some ⟨g, 0, none⟩)] (by simp [Act.eval])) ((pending_calls hDr).mono ?_)
  rintro e w' ⟨rfl, rfl⟩
  refine ⟨_, rfl, .inr HB, ?_⟩
  rw [← Hm.out]
  go_frame
  refine wpO_pure (v := .bool false) (by rfl) (fun w' hw' => by go_simp) ?_
  go_frame
  refine wpO_pure (v := .bool false) (by rfl) (fun w' hw' => by go_simp) ?_
  go_frame
  refine wpO_pure (v := .bool false) (by rfl) (fun w' hw' => by go_simp) ?_
  go_frame
  refine wpO_pure (v := .pointer (some ⟨g, 0, none⟩)) (by rfl) (fun w' hw' => by rfl) ?_
  go_frame
  refine wpO_pure (v := .pointer (some ⟨b3, 2, none⟩)) (by rfl) (fun w' hw' => by go_simp) ?_
  go_frame
  refine wpO_pure (v := .int .i64 op) (by rfl) (fun w' hw' => by have hc := hw'.cell 2; simp only [List.getElem?_cons_zero, List.getElem?_cons_succ] at hc; go_simp) ?_
  go_frame
  refine wpO_call (by rfl) (exec_call' 29 _ _ rfl Try.func29 (by kernel_rfl) (by rfl) #[.pointer (some ⟨g, 0, none⟩)] (by simp [Act.eval])) ((ops_calls hDr).mono ?_)
  rintro e w' ⟨rfl, rfl⟩
  refine ⟨_, rfl, .inr HB, ?_⟩
  rw [← Hop.out]
  go_frame
  refine wpO_pure (v := .bool false) (by rfl) (fun w' hw' => by go_simp) ?_
  go_frame
  refine wpO_pure (v := .bool false) (by rfl) (fun w' hw' => by go_simp) ?_
  go_frame
  refine wpO_pure (v := .bool false) (by rfl) (fun w' hw' => by go_simp) ?_
  go_frame
  refine wpO_pure (v := .pointer (some ⟨g, 0, none⟩)) (by rfl) (fun w' hw' => by rfl) ?_
  go_frame
  refine wpO_pure (v := .pointer (some ⟨b3, 4, none⟩)) (by rfl) (fun w' hw' => by go_simp) ?_
  go_frame
  refine wpO_pure (v := .bool dn) (by rfl) (fun w' hw' => by have hc := hw'.cell 4; simp only [List.getElem?_cons_zero, List.getElem?_cons_succ] at hc; go_simp) ?_
  go_frame
  refine wpO_call (by rfl) (exec_call' 28 _ _ rfl Try.func28 (by kernel_rfl) (by rfl) #[.pointer (some ⟨g, 0, none⟩)] (by simp [Act.eval])) ((down_calls hDr).mono ?_)
  rintro e w' ⟨rfl, rfl⟩
  refine ⟨_, rfl, .inr HB, ?_⟩
  rw [← Hdn.out]
  go_frame
  refine wpO_pure (v := .bool false) (by rfl) (fun w' hw' => by cases dn <;> go_simp) ?_
  go_frame
  refine wpO_pure (v := .bool false) (by rfl) (fun w' hw' => by go_simp) ?_
  go_frame
  refine wpO_pure (v := .bool false) (by rfl) (fun w' hw' => by go_simp) ?_
  go_frame
  refine wpO_pure (v := .pointer (some ⟨g, 0, none⟩)) (by rfl) (fun w' hw' => by rfl) ?_
  go_frame
  refine wpO_pure (v := .agg [.slice Al n cl, .slice Ar m cr, .int .i64 op, .int .i64 fu, .bool dn].toArray) (by rfl) (fun w' hw' => exec_load_blk 30 _ rfl b3 0 _ [.slice Al n cl, .slice Ar m cr, .int .i64 op, .int .i64 fu, .bool dn] 30 _ (by simp [Act.eval]) hw' (part0 _) Try.underlying30 rfl info30) ?_
  go_frame
  refine wpO_call (by rfl) (exec_call' 22 _ _ rfl Try.func22 (by kernel_rfl) (by rfl) #[.pointer (some ⟨g, 0, none⟩)] (by simp [Act.eval])) ((image_calls hDr hok hr).mono ?_)
  rintro e w2 ⟨v2, rfl, I2, K2⟩
  obtain ⟨A2, c2, rfl⟩ := I2.valm
  have HB2 := HB.keep K2 id
  refine ⟨_, rfl, .inr HB2, ?_⟩
  go_frame
  have HIM := st_image ((HR1.out.keep ((Keep.refl Noth w1).drew) (Dj.noth _)).keep K2 (Dj.noth _)) hok hr
  rw [Hst.out] at HIM
  refine wpO_call (f := 54) (args := #[.agg [.slice Al n cl, .slice Ar m cr, .int .i64 op, .int .i64 fu, .bool dn].toArray]) (by rfl) (by have hf := Try.func54; go_simp) ?_
  refine HIM.mono ?_
  rintro e w3 ⟨v3, rfl, I3, K3⟩
  obtain ⟨A3, c3, rfl⟩ := I3.valm
  have HB3 := HB2.keep K3 id
  refine ⟨_, rfl, .inr HB3, ?_⟩
  go_frame
  have heq := equal_calls w3 A2 A3 D.image.length D.image.length c2 c3 D.image D.image rfl rfl (Bytes.same_as (I2.keep K3 (Dj.noth _))) (Bytes.same_as I3)
  refine wpO_call (by rfl) (exec_call' 26 _ _ rfl Try.func26 (by kernel_rfl) (by rfl) #[.slice A2 D.image.length c2, .slice A3 D.image.length c3] (by simp [Act.eval])) (heq.mono ?_)
  rintro e w' ⟨rfl, rfl⟩
  refine ⟨.bool true, by simp, .inr HB3, ?_⟩
  clear heq HIM
  go_frame
  refine wpO_pure (v := .bool false) (by rfl) (fun w' hw' => by go_simp) ?_
  go_frame
  refine wpO_run (v := .bool false) (w1 := w3) (by rfl) (by go_simp) (.inl rfl) ?_
  refine wpO_nil ?_
  go_frame
  go_wp2_with fail
  have K13 : Keep Noth w1 w3 := (((Keep.refl Noth w1).drew).trans K2 (fun _ _ h => h)).trans K3 (fun _ _ h => h)
  clear HB HB2 I2 I3 K2 K3 hDr
  have hnn : (n : Int) = D.l.length := by rw [Hn.out]
  have Hnn := hid hnn
  clear hnn
  go_loopw [5] (fun i wr => ∃ k : Int, i = .int .i64 k ∧ -1 ≤ k ∧ k ≤ n + 1 ∧ Keep Noth w1 wr) (fun i _ => (n + 1 - intOf i).toNat)
  case atStart => exact ⟨-1, rfl, by omega, by omega, K13⟩
  case round =>
    obtain ⟨k, rfl, hk1, hk2, HK⟩ := hrel
    clear HB3
    have HB := B1.keep HK id
    have HRr := hid (HR1.out.keep HK (Dj.noth _))
    have HDr := hid (HD1.out.keep HK (Dj.noth _))
    have c0 := HB.cell 0
    have c4 := HB.cell 4
    simp only [List.getElem?_cons_zero, List.getElem?_cons_succ] at c0 c4
    by_cases hkn : k ≤ n
    · by_cases hin : 0 ≤ k ∧ k < n
      · obtain ⟨k, rfl⟩ : ∃ q : Nat, k = (q : Int) := ⟨k.toNat, by omega⟩
        obtain ⟨h0, hlt⟩ := hin
        have hkl : k < D.l.length := by have := Hnn.out; omega
        have h64 : (D.at k).length = 64 := by have := at_length hok k hkl D.row.length; rw [List.take_length] at this; exact this
        have H64 := hid h64
        clear h64
        cases dn with
        | true =>
          have KR := Keep.refl Noth wr
          have BR := HB
          go_wp2_with (first | (go_at_call 25; refine (read_down HDr.out Hdn.out.symm (k : Int)).mono ?_; rintro e w' ⟨rfl, rfl⟩) | (guard_target = wpList _ _ _ (Oper.mk _ (Op.load 30 _) _ _ _ _ :: _) _ _; refine wpList_load_blk rfl 30 _ rfl b3 0 _ [.slice Al n cl, .slice Ar m cr, .int .i64 op, .int .i64 fu, .bool true] 30 _ (by rfl) BR (fun j v h => by simpa using h) Try.underlying30 rfl info30 ?_) | (go_at_call 55; have HAT := st_at (HRr.out.keep KR (Dj.noth _)) hok hr k hkl; rw [Hst.out] at HAT; refine HAT.mono ?_; clear HAT; rintro e wA ⟨rfl, KA⟩; have BA := BR.keep KA id) | (guard_target = wpList _ _ _ (Oper.mk _ (Op.alloc _) _ _ _ _ :: _) _ _; refine wpList_alloc_store rfl 52 rfl 10 _ rfl (by rfl) rfl rfl (by decide) zv (bv (D.at k)) (by rw [bv_length, H64.out]; exact info52) (bv zb) zv_cells (by rw [bv_length, H64.out, bvz_length]) (by rfl) (bv_one _) ?_; intro b10 wB hb10 B10 KB; have d4 := (BA.keep KB id).cell 4; simp only [List.getElem?_cons_zero, List.getElem?_cons_succ] at d4) | (go_at_call 26; refine (equal_calls _ none none 0 0 0 0 [] [] rfl rfl (by intro j u h; cases h) (by intro j u h; cases h)).mono ?_; rintro e w' ⟨rfl, rfl⟩))
          go_roundw
          case rel => exact ⟨(k : Int) + 1, by go_num, by omega, by omega, (HK.trans KA (fun _ _ h => h)).trans KB (fun _ _ h => h)⟩
          case measure => simp [intOf] <;> omega
        | false =>
          go_wp2_with (first | (go_at_call 25; refine (read_ok HDr.out Hdn.out.symm hok hr k hkl).mono ?_; rintro e wR ⟨b, rfl, hb, BR5, KR⟩; have BR := HB.keep KR id; have e0 := BR.cell 0; have e4 := BR.cell 4; simp only [List.getElem?_cons_zero, List.getElem?_cons_succ] at e0 e4) | (guard_target = wpList _ _ _ (Oper.mk _ (Op.load 30 _) _ _ _ _ :: _) _ _; refine wpList_load_blk rfl 30 _ rfl b3 0 _ [.slice Al n cl, .slice Ar m cr, .int .i64 op, .int .i64 fu, .bool false] 30 _ (by rfl) BR (fun j v h => by simpa using h) Try.underlying30 rfl info30 ?_) | (go_at_call 55; have HAT := st_at (HRr.out.keep KR (Dj.noth _)) hok hr k hkl; rw [Hst.out] at HAT; refine HAT.mono ?_; clear HAT; rintro e wA ⟨rfl, KA⟩; have BA := BR.keep KA id) | (guard_target = wpList _ _ _ (Oper.mk _ (Op.alloc _) _ _ _ _ :: _) _ _; refine wpList_alloc_store rfl 52 rfl 10 _ rfl (by rfl) rfl rfl (by decide) zv (bv (D.at k)) (by rw [bv_length, H64.out]; exact info52) (bv zb) zv_cells (by rw [bv_length, H64.out, bvz_length]) (by rfl) (bv_one _) ?_; intro b10 wB hb10 B10 KB; have d4 := (BA.keep KB id).cell 4; simp only [List.getElem?_cons_zero, List.getElem?_cons_succ] at d4) | (go_at_call 26; refine (equal_calls _ (some ⟨b, 0, none⟩) (some ⟨b10, 0, none⟩) 64 64 64 64 (D.at k) (D.at k) H64.out.symm H64.out.symm (Reads.of_range ((BR5.keep KA id).keep KB id).rangeAll) (Reads.of_range B10.rangeAll)).mono ?_; rintro e w' ⟨rfl, rfl⟩; rw [beq_self_eq_true]))
          go_roundw
          case rel => exact ⟨(k : Int) + 1, by go_num, by omega, by omega, ((HK.trans KR (fun _ _ h => h)).trans KA (fun _ _ h => h)).trans KB (fun _ _ h => h)⟩
          case measure => simp [intOf] <;> omega
      · have hor : k = -1 ∨ k = n := by omega
        have hout : k < 0 ∨ (D.l.length : Int) ≤ k := by have := Hnn.out; omega
        clear hin
        rcases hor with rfl | rfl
        · cases dn with
          | true =>
            go_wp2_with (first | (go_at_call 25; refine (read_down HDr.out Hdn.out.symm (-1)).mono ?_; rintro e w' ⟨rfl, rfl⟩) | (go_at_call 26; refine (equal_calls _ none none 0 0 0 0 [] [] rfl rfl (by intro j u h; cases h) (by intro j u h; cases h)).mono ?_; rintro e w' ⟨rfl, rfl⟩))
            go_roundw
            case rel => exact ⟨(-1) + 1, by go_num, by omega, by omega, HK⟩
            case measure => simp [intOf] <;> omega
          | false =>
            go_wp2_with (first | (go_at_call 25; refine (read_at HDr.out Hdn.out.symm (-1) hout).mono ?_; rintro e w' ⟨rfl, rfl⟩) | (go_at_call 26; refine (equal_calls _ none none 0 0 0 0 [] [] rfl rfl (by intro j u h; cases h) (by intro j u h; cases h)).mono ?_; rintro e w' ⟨rfl, rfl⟩))
            go_roundw
            case rel => exact ⟨(-1) + 1, by go_num, by omega, by omega, HK⟩
            case measure => simp [intOf] <;> omega
        · cases dn with
          | true =>
            go_wp2_with (first | (go_at_call 25; refine (read_down HDr.out Hdn.out.symm (n : Int)).mono ?_; rintro e w' ⟨rfl, rfl⟩) | (go_at_call 26; refine (equal_calls _ none none 0 0 0 0 [] [] rfl rfl (by intro j u h; cases h) (by intro j u h; cases h)).mono ?_; rintro e w' ⟨rfl, rfl⟩))
            go_roundw
            case rel => exact ⟨(n : Int) + 1, by go_num, by omega, by omega, HK⟩
            case measure => simp [intOf] <;> omega
          | false =>
            go_wp2_with (first | (go_at_call 25; refine (read_at HDr.out Hdn.out.symm (n : Int) hout).mono ?_; rintro e w' ⟨rfl, rfl⟩) | (go_at_call 26; refine (equal_calls _ none none 0 0 0 0 [] [] rfl rfl (by intro j u h; cases h) (by intro j u h; cases h)).mono ?_; rintro e w' ⟨rfl, rfl⟩))
            go_roundw
            case rel => exact ⟨(n : Int) + 1, by go_num, by omega, by omega, HK⟩
            case measure => simp [intOf] <;> omega
    · have hge : k = n + 1 := by omega
      subst hge
      go_wp2_with fail
      go_ret
      exact ⟨rfl, K1.trans HK (fun _ _ h => h)⟩
end Go.Proofs.Ytffcglfepobdjaa
