/- Texts of the blocks and of the roll, merged: Q7 Q8 Q9 Q10 Q11 E0. -/
import Derived.Test.YtffcglfepobdjaaZ4
import Derived.Test.YtffcglfepobdjaaRows
import Derived.ProofKit
import Derived.OpenShut
import Derived.JoinedCond
import Derived.JoinedOf
import Derived.Carry
import Derived.Deep.Slices
import Derived.Deep.CondSized
import Derived.SizedLaws
/- the reference of the roll: Open (f48). -/
set_option linter.unusedVariables false
set_option linter.unusedSimpArgs false
set_option maxRecDepth 100000
set_option maxHeartbeats 2000000
namespace Go.Proofs.Ytffcglfepobdjaa
open Go.RowKit


theorem Reads.part {w : World} {g o : Nat} {b : List UInt8} (n : Nat) (h : Reads w (some ⟨g, 0, none⟩) (bv b)) : Reads w (some ⟨g, o, none⟩) (bv ((b.drop o).take n)) := by
  intro j u hu
  rw [← bv_take, ← bv_drop, List.getElem?_take] at hu
  split at hu
  · rw [List.getElem?_drop] at hu
    obtain ⟨ad, e, hx⟩ := h _ u hu
    injection e with e
    subst e
    exact ⟨_, rfl, by rw [Addr.add_mid] at hx ⊢; rw [Nat.zero_add] at hx; exact hx⟩
  · cases hu
theorem getN_take_lt (b : List UInt8) : getN (b.take 4) < 4294967296 := by
  have h := getN_lt (b.take 4)
  have h4 : (b.take 4).length ≤ 4 := by rw [List.length_take]; omega
  have : (256 : Nat) ^ (b.take 4).length ≤ 256 ^ 4 := Nat.pow_le_pow_right (by decide) h4
  omega
theorem numC_small {b : List UInt8} (h : getN b < 4294967296) : numC b = getN b := by unfold numC; exact Nat.min_eq_left (by omega)
theorem numC_le (b : List UInt8) : numC b ≤ 1099511627776 := Nat.min_le_right _ _
theorem numC_le' (b : List UInt8) : numC b ≤ getN b := Nat.min_le_left _ _
theorem numC_far {b : List UInt8} (h : 1099511627776 ≤ numC b) : 1099511627776 ≤ getN b := Nat.le_trans h (numC_le' b)
theorem numC_eq {b : List UInt8} (h : numC b < 1099511627776) : numC b = getN b := by
  unfold numC at h ⊢
  rcases Nat.le_total (getN b) 1099511627776 with e | e
  · exact Nat.min_eq_left e
  · rw [Nat.min_eq_right e] at h; exact absurd h (Nat.lt_irrefl _)
theorem hdOk_no {D : DS} {b : Bk} (h : 1099511627776 ≤ (hdOf b).seq ∨ 1 < (hdOf b).area ∨ D.half < (hdOf b).used ∨ (b == (hdOf b).bytes) = false) : hdOk D b = false := by
  rw [hdOk_eq]
  rcases h with h | h | h | h
  · rw [decide_eq_false (fun e => absurd e.2.1 (Nat.not_lt.2 h))]; rfl
  · rw [decide_eq_false (fun e => absurd e.2.2.1 (Nat.not_le.2 h))]; rfl
  · rw [decide_eq_false (fun e => absurd e.2.2.2 (Nat.not_le.2 h))]; rfl
  · rw [h, Bool.and_false]
theorem refOpen_down {w : World} {F : Nat → Prop} {vl vr : Value} {D : DS} (H : StAt w F vl vr D) (hd : D.down = true) :
    Calls Try.prog 48 #[.agg (stv vl vr D).toArray] w (fun e w' => e = .returned (.tuple #[.agg zfs.toArray, .int .i64 100]) ∧ Keep Noth w w') := by
  obtain ⟨Al, cl, rfl⟩ := H.l.valm
  obtain ⟨Ar, cr, rfl⟩ := H.row.valm
  rw [stv_eq, hd]
  clear H hd
  go_enter Try.func48, Try.ntmps48
  go_wp2_with (first
    | (guard_target = wpList _ _ _ (Oper.mk _ (Op.box 30 _) _ _ _ _ :: _) _ _; refine wpList_box_v rfl 30 _ rfl [.slice Al D.l.length cl, .slice Ar D.row.length cr, .int .i64 (D.ops : Int), .int .i64 D.fuse, .bool true] (by rfl) ?_; intro b1 w1 hb1 B1 K1)
    | (guard_target = wpList _ _ _ (Oper.mk _ (Op.alloc 68) _ _ _ _ :: _) _ _; refine wpList_alloc_v rfl 68 rfl (.agg zfs.toArray) info68 zfs zfs_cells ?_; intro b2 w2 hb2 B2 K2; have c4 := (B1.keep K2 id).cell 4; simp only [List.getElem?_cons_zero, List.getElem?_cons_succ] at c4)
    | (guard_target = wpList _ _ _ (Oper.mk _ (Op.build 68 _) _ _ _ _ :: _) _ _; refine wpList_run rfl _ _ (build68z _) ?_)
    | (guard_target = wpList _ _ _ (Oper.mk _ (Op.store 68 _ _) _ _ _ _ :: _) _ _; refine wpList_store_whole rfl 68 _ _ rfl b2 _ zfs 68 (by rfl) (by rfl) B2 rfl info68 (fsv_one 0 0 0 0 (by simp [stz5]; trivial) rfl rfl) ?_; intro w3 B3 K3))
  refine ret_cell_tmp rfl b2 zfs 68 _ (.int .i64 100) (by rfl) (by rfl) B3 Try.underlying68 rfl info68 rfl ?_
  exact ⟨rfl, (K1.trans K2 (fun _ _ h => h)).own K3 (fun q e => by unfold Only at e; subst e; have := K1.size; omega)⟩
theorem refOpen_form {w : World} {F : Nat → Prop} {vl vr : Value} {D : DS} (H : StAt w F vl vr D) (hd : D.down = false) (hok : D.ok) (hs : D.l.length < 4) :
    Calls Try.prog 48 #[.agg (stv vl vr D).toArray] w (fun e w' => e = .returned (.tuple #[.agg zfs.toArray, .int .i64 110]) ∧ Keep Noth w w') := by
  have hhf := fun W (hW : Keep Noth w W) => refHalf_calls (H.keep hW (Dj.noth _)) hok.most
  obtain ⟨Al, cl, rfl⟩ := H.l.valm
  obtain ⟨Ar, cr, rfl⟩ := H.row.valm
  rw [stv_eq, hd] at hhf ⊢
  rw [show D.half = 0 by unfold DS.half; omega] at hhf
  have Hhf := hid hhf
  clear H hd hhf hs
  go_enter Try.func48, Try.ntmps48
  go_wp2_with (first
    | (guard_target = wpList _ _ _ (Oper.mk _ (Op.box 30 _) _ _ _ _ :: _) _ _; refine wpList_box_v rfl 30 _ rfl [.slice Al D.l.length cl, .slice Ar D.row.length cr, .int .i64 (D.ops : Int), .int .i64 D.fuse, .bool false] (by rfl) ?_; intro b1 w1 hb1 B1 K1)
    | (guard_target = wpList _ _ _ (Oper.mk _ (Op.alloc 68) _ _ _ _ :: _) _ _; refine wpList_alloc_v rfl 68 rfl (.agg zfs.toArray) info68 zfs zfs_cells ?_; intro b2 w2 hb2 B2 K2; have B12 := B1.keep K2 id; have c4 := B12.cell 4; simp only [List.getElem?_cons_zero, List.getElem?_cons_succ] at c4)
    | (guard_target = wpList _ _ _ (Oper.mk _ (Op.load 30 _) _ _ _ _ :: _) _ _; refine wpList_load_blk rfl 30 _ rfl b1 0 _ [.slice Al D.l.length cl, .slice Ar D.row.length cr, .int .i64 (D.ops : Int), .int .i64 D.fuse, .bool false] 30 _ (by rfl) B12 (part0 _) Try.underlying30 rfl info30 ?_))
  have K02 : Keep Noth w w2 := K1.trans K2 (fun _ _ h => h)
  refine (Hhf.out w2 K02).mono ?_
  rintro e w3 ⟨rfl, K3⟩
  have B23 := B2.keep K3 id
  clear B12 B1 c4
  go_wp2_with (first
    | (guard_target = wpList _ _ _ (Oper.mk _ (Op.build 68 _) _ _ _ _ :: _) _ _; refine wpList_run rfl _ _ (build68z _) ?_)
    | (guard_target = wpList _ _ _ (Oper.mk _ (Op.store 68 _ _) _ _ _ _ :: _) _ _; refine wpList_store_whole rfl 68 _ _ rfl b2 _ zfs 68 (by rfl) (by rfl) B23 rfl info68 (fsv_one 0 0 0 0 (by simp [stz5]; trivial) rfl rfl) ?_; intro w4 B4 K4))
  refine ret_cell_tmp rfl b2 zfs 68 _ (.int .i64 110) (by rfl) (by rfl) B4 Try.underlying68 rfl info68 rfl ?_
  exact ⟨rfl, (K02.trans K3 (fun _ _ h => h)).own K4 (fun q e => by unfold Only at e; subst e; have := K1.size; omega)⟩
theorem refOpen_ok {w : World} {F : Nat → Prop} {vl vr : Value} {D : DS} (H : StAt w F vl vr D) (hok : D.ok) (hr : D.row.length ≤ 1099511627776) (hd : D.down = false) (h4 : 4 ≤ D.l.length) :
    Calls Try.prog 48 #[.agg (stv vl vr D).toArray] w (fun e w' => ∃ A c, e = .returned (.tuple #[.agg (fsv (stv vl vr D) (openS D).own.seq (openS D).slot (openS D).own.area (openS D).own.used (.slice A (openS D).l.length c) (.slice none 0 0)).toArray, .int .i64 0]) ∧ Recs w' (Fresh w w') (.slice A (openS D).l.length c) (openS D).l ∧ Keep Noth w w') := by
  have hone := H.l.one_val.1
  have hone2 := H.row.one_val.1
  have hhf := fun W (hW : Keep Noth w W) => refHalf_calls (H.keep hW (Dj.noth _)) hok.most
  have hat := fun W (hW : Keep Noth w W) (k : Nat) (hk : k < D.l.length) => refAt_calls (H.keep hW (Dj.noth _)) hok hr k hk
  have hrc := fun W (hW : Keep Noth w W) (area used count : Nat) (ha : area ≤ 1) (hu : used ≤ D.half) (hc : count ≤ 4294967296) => refRecords_calls (H.keep hW (Dj.noth _)) hok hr (by omega) area used count ha hu hc
  obtain ⟨x0, x1, x2, x3, hSV, hx0⟩ : ∃ x0 x1 x2 x3, stv vl vr D = [x0, x1, x2, x3, .bool false] ∧ ∀ u ∈ [x0, x1, x2, x3, Value.bool false], u.oneCell' = true := ⟨vl, vr, _, _, by unfold stv; rw [hd], by
    intro u hu
    simp only [List.mem_cons, List.not_mem_nil, or_false] at hu
    rcases hu with rfl | rfl | rfl | rfl | rfl <;> first | exact hone | exact hone2 | rfl⟩
  rw [hSV] at hhf hat hrc ⊢
  have Hhf := hid hhf
  have Hat := hid hat
  have Hrc := hid hrc
  have Hok := hid hok
  have hhl := half_le hok
  have hhp : 1 ≤ D.half := by unfold DS.half; omega
  have Hx0 := hid hx0
  clear hhf hat hrc hok H hone hone2 hSV hx0
  go_enter Try.func48, Try.ntmps48
  go_wp2_with (first
    | (guard_target = wpList _ _ _ (Oper.mk _ (Op.box 30 _) _ _ _ _ :: _) _ _; refine wpList_box_v rfl 30 _ rfl [x0, x1, x2, x3, .bool false] (by rfl) ?_; intro b1 w1 hb1 B1 K1)
    | (guard_target = wpList _ _ _ (Oper.mk _ (Op.alloc 68) _ _ _ _ :: _) _ _; refine wpList_alloc_v rfl 68 rfl (.agg zfs.toArray) info68 zfs zfs_cells ?_; intro b2 w2 hb2 B2 K2; have B12 := B1.keep K2 id; have c4 := B12.cell 4; simp only [List.getElem?_cons_zero, List.getElem?_cons_succ] at c4)
    | (guard_target = wpList _ _ _ (Oper.mk _ (Op.load 30 _) _ _ _ _ :: _) _ _; refine wpList_load_blk rfl 30 _ rfl b1 0 _ [x0, x1, x2, x3, .bool false] 30 _ (by rfl) B12 (part0 _) Try.underlying30 rfl info30 ?_))
  have K02 : Keep Noth w w2 := K1.trans K2 (fun _ _ h => h)
  refine (Hhf.out w2 K02).mono ?_
  rintro e w3 ⟨rfl, K3⟩
  have K03 : Keep Noth w w3 := K02.trans K3 (fun _ _ h => h)
  have B13 := B12.keep K3 id
  have B23 := B2.keep K3 id
  have hb2w : w.heap.size ≤ b2 := by have := K1.size; omega
  clear B12 B1 B2 c4 K1 K2 K02 K3 hb1 hb2
  have hhI : ¬ ((D.half : Int) < 1) := by omega
  go_wp2_with (first
    | (guard_target = wpList _ _ _ (Oper.mk _ (Op.load 30 _) _ _ _ _ :: _) _ _; refine wpList_load_blk rfl 30 _ rfl b1 0 _ [x0, x1, x2, x3, .bool false] 30 _ (by rfl) B13 (part0 _) Try.underlying30 rfl info30 ?_)
    | (guard_target = wpList _ _ _ (Oper.mk _ (Op.build 68 _) _ _ _ _ :: _) _ _; refine wpList_run rfl _ _ (build68b x0 x1 x2 x3 (.bool false) (-1) _) ?_)
    | (guard_target = wpList _ _ _ (Oper.mk _ (Op.alloc 68) _ _ _ _ :: _) _ _; refine wpList_alloc_v rfl 68 rfl (.agg zfs.toArray) info68 zfs zfs_cells ?_; intro b4 w4 hb4 B4 K4)
    | (guard_target = wpList _ _ _ (Oper.mk _ (Op.store 68 _ _) _ _ _ _ :: _) _ _; refine wpList_store_whole rfl 68 _ _ rfl b4 _ (fsv [x0, x1, x2, x3, .bool false] 0 (-1) 0 0 (.slice none 0 0) (.slice none 0 0)) 68 (by rfl) (by rfl) B4 rfl info68 (fsv_one 0 (-1) 0 0 Hx0.out rfl rfl) ?_; intro w5 B5 K5))
  have hne : b2 ≠ b4 := by have := B23.lt; omega
  have hne1 : b1 ≠ b4 := by have := B13.lt; omega
  have hb4w : w.heap.size ≤ b4 := by have := K03.size; omega
  have B15 := (B13.keep K4 id).keep K5 (fun e => hne1 e)
  have B25 := (B23.keep K4 id).keep K5 (fun e => hne e)
  have K05 : Keep Noth w w5 := (K03.trans K4 (fun _ _ h => h)).own K5 (fun q e => by unfold Only at e; subst e; exact hb4w)
  clear B13 B23 B4 K4 K5 K03 hb4
  go_loopw [5] (fun kv wr => ∃ (k : Nat) (A : Option Addr) (c : Nat), kv = .int .i64 k ∧ k ≤ 2 ∧ BlockIs wr b4 (fsv [x0, x1, x2, x3, .bool false] (openP D k).own.seq (openP D k).slot (openP D k).own.area (openP D k).own.used (.slice A (openP D k).l.length c) (.slice none 0 0)) 68 ∧ Recs wr (Fresh w wr) (.slice A (openP D k).l.length c) (openP D k).l ∧ BlockIs wr b1 [x0, x1, x2, x3, .bool false] 30 ∧ BlockIs wr b2 zfs 68 ∧ Keep Noth w wr) (fun kv _ => 2 - (intOf kv).toNat)
  case atStart => exact ⟨0, none, 0, rfl, by omega, B5, Recs.nil _ _, B15, B25, K05⟩
  case round =>
    obtain ⟨k, A, c, rfl, hk, X4, XR, X1, X2, XK⟩ := hrel
    have hSg := openP_good Hok.out h4 k hk
    obtain ⟨Sk, hSk⟩ : ∃ Sk, Sk = openP D k := ⟨_, rfl⟩
    rw [← hSk] at X4 XR hSg
    have HSk := hid hSk
    have hoseq := hSg.seq
    clear B5 B15 B25 K05 hSk hSg
    by_cases hlt : k < 2
    · have hlt' : (k : Int) < 2 := by omega
      have h64 := at_64 Hok.out k (by omega)
      obtain ⟨Bk, hBk⟩ : ∃ Bk, Bk = D.at k := ⟨_, rfl⟩
      rw [← hBk] at h64
      have hat := Hat.out wr XK k (by omega)
      rw [← hBk] at hat
      have HBk := hid hBk
      have H64 := hid h64
      clear hBk h64
      go_wp2_with (first
        | (guard_target = wpList _ _ _ (Oper.mk _ (Op.load 30 _) _ _ _ _ :: _) _ _; refine wpList_load_blk rfl 30 _ rfl b1 0 _ [x0, x1, x2, x3, .bool false] 30 _ (by rfl) X1 (part0 _) Try.underlying30 rfl info30 ?_))
      refine hat.mono ?_
      rintro e wa ⟨g, cb, rfl, hcb, hcm, XBy, Ka⟩
      have XB := Bytes.same_as XBy
      have X4 := X4.keep Ka id
      have X1 := X1.keep Ka id
      have X2 := X2.keep Ka id
      have XR : Recs wa (Fresh w wa) (.slice A Sk.l.length c) Sk.l := (XR.keep Ka (Dj.noth _)).mono (fun x hx => ⟨hx.1, by have := hx.2; have := Ka.size; omega⟩)
      have HKa := hid (XK.trans Ka (fun _ _ h => h))
      have hcmI : (cb : Int) ≤ 9223372036854775807 := by unfold maxLen at hcm; omega
      have hcbI : (64 : Int) ≤ cb := by omega
      obtain ⟨y, hy⟩ : ∃ y, Bk[8]? = some y := ⟨_, List.getElem?_eq_getElem (by rw [H64.out]; decide)⟩
      have hcell : wa.cell? ⟨g, 8, none⟩ = some (.int .u8 (y.toNat : Int)) := by
        obtain ⟨ad, e, hx⟩ := XB 8 (Go.Proofs.Ytffcglfepobdjaa.u8 y) (by simp [bv, hy])
        injection e with e
        subst e
        rw [Addr.add_mid] at hx
        exact hx
      obtain ⟨h, hh⟩ : ∃ h, h = hdOf Bk := ⟨_, rfl⟩
      have hha : h.area = y.toNat := by rw [hh]; show (Bk.getD 8 0).toNat = y.toNat; rw [List.getD_eq_getElem?_getD, hy]; rfl
      have hhu : h.used = getN ((Bk.drop 9).take 4) := by rw [hh]; rfl
      have hhc : h.count = getN ((Bk.drop 13).take 4) := by rw [hh]; rfl
      have hhs : h.seq = getN (Bk.take 8) := by rw [hh]; rfl
      have hu4 := getN_take_lt (Bk.drop 9)
      have hc4 := getN_take_lt (Bk.drop 13)
      have hn8 := number_calls wa (some ⟨g, 0, none⟩) cb (Bk.take 8) (by have := XB.take 8; rwa [bv_take] at this) (by rw [List.length_take]; omega)
      have hn9 := number_calls wa (some ⟨g, 9, none⟩) (cb - 9) ((Bk.drop 9).take 4) (XB.part 4) (by rw [List.length_take]; omega)
      have hn13 := number_calls wa (some ⟨g, 13, none⟩) (cb - 13) ((Bk.drop 13).take 4) (XB.part 4) (by rw [List.length_take]; omega)
      rw [show (Bk.take 8).length = 8 by rw [List.length_take, H64.out]; rfl] at hn8
      rw [show ((Bk.drop 9).take 4).length = 4 by rw [List.length_take, List.length_drop, H64.out]; rfl, numC_small hu4, ← hhu] at hn9
      rw [show ((Bk.drop 13).take 4).length = 4 by rw [List.length_take, List.length_drop, H64.out]; rfl, numC_small hc4, ← hhc] at hn13
      rw [← hhu] at hu4
      rw [← hhc] at hc4
      obtain ⟨q, hq⟩ : ∃ q, q = numC (Bk.take 8) := ⟨_, rfl⟩
      rw [← hq] at hn8
      have hqle : q ≤ 1099511627776 := by rw [hq]; exact numC_le _
      have hqs : q ≤ h.seq := by rw [hq, hhs]; exact numC_le' _
      have hqe : q < 1099511627776 → q = h.seq := fun e => by rw [hq] at e ⊢; rw [hhs]; exact numC_eq e
      have hay : h.area < 256 := by rw [hha]; exact y.toNat_lt
      have Hhh := hid hh
      have Hhe := hid hqe
      have Hcell := hid hcell
      clear hq hhs hhu hhc hh hqe hat Ka XK hcm hcell XBy hy
      go_wp2_with fail
      refine hn8.mono ?_
      rintro e w' ⟨rfl, rfl⟩
      have hcell := Hcell.out
      clear hn8
      go_wp2_with fail
      refine hn9.mono ?_
      rintro e w' ⟨rfl, rfl⟩
      clear hn9 hcell
      go_wp2_with fail
      refine hn13.mono ?_
      rintro e w' ⟨rfl, rfl⟩
      clear hn13
      rw [← hha]
      clear hha Hcell
      go_wp2_with fail
      by_cases hc0 : q ≤ Sk.own.seq
      · have ihc0 : (q : Int) ≤ Sk.own.seq := by omega
        refine wp_region_ordL [(0, true), (1, true), (2, true), (3, true), (4, true), (5, true), (6, true), (7, true), (8, true), (9, true), (10, true), (11, true), (12, true), (13, true), (14, true), (15, false), (16, true), (17, true), (18, true), (19, true), (20, true), (21, true), (22, true), (25, true), (26, true), (23, false), (24, false), (27, true), (28, false)] (fun w' => BlockIs w' b1 [x0, x1, x2, x3, .bool false] 30 ∧ BlockIs w' b4 (fsv [x0, x1, x2, x3, .bool false] Sk.own.seq Sk.slot Sk.own.area Sk.own.used (.slice A Sk.l.length c) (.slice none 0 0)) 68 ∧ Reads w' (some ⟨g, 0, none⟩) (bv Bk)) follows_mixed (by kernel_rfl) ⟨X1.drew, X4.drew, XB.keep (Keep.refl Noth wa).drew (fun _ _ => id)⟩ ?_
        simp only [List.map_cons, List.map_nil, List.getElem?_cons_succ, List.getElem?_cons_zero, Option.getD_some]
        refine wpO_pure (v := .int .i64 (q : Int)) (by rfl) (fun w' hw' => by go_simp) ?_
        go_frame
        refine wpO_pure (v := .pointer (some ⟨b4, 5, none⟩)) (by rfl) (fun w' hw' => by go_simp) ?_
        go_frame
        refine wpO_pure (v := .int .i64 (Sk.own.seq : Int)) (by rfl) (fun w' hw' => by have hc : w'.cell? ⟨b4, 5, none⟩ = some (.int .i64 (Sk.own.seq : Int)) := hw'.2.1.cell 5; go_simp) ?_
        go_frame
        refine wpO_pure (v := .bool true) (by rfl) (fun w' hw' => by go_simp) ?_
        go_frame
        refine wpO_pure (v := .bool true) (by rfl) (fun w' hw' => by go_simp) ?_
        go_frame
        refine wpO_skip (by rfl) ?_
        go_frame
        refine wpO_skip (by rfl) ?_
        go_frame
        refine wpO_pure (v := .bool true) (by rfl) (fun w' hw' => by go_simp) ?_
        go_frame
        refine wpO_pure (v := .bool true) (by rfl) (fun w' hw' => by go_simp) ?_
        go_frame
        refine wpO_skip (by rfl) ?_
        go_frame
        refine wpO_skip (by rfl) ?_
        go_frame
        refine wpO_pure (v := .bool true) (by rfl) (fun w' hw' => by go_simp) ?_
        go_frame
        refine wpO_pure (v := .bool true) (by rfl) (fun w' hw' => by go_simp) ?_
        go_frame
        refine wpO_skip (by rfl) ?_
        go_frame
        refine wpO_skip (by rfl) ?_
        go_frame
        refine wpO_skipf (by rfl) (.inr ⟨X1.drew, X4.drew, XB.keep (Keep.refl Noth wa).drew (fun _ _ => id)⟩) ?_
        go_frame
        refine wpO_skip (by rfl) ?_
        go_frame
        refine wpO_pure (v := .bool true) (by rfl) (fun w' hw' => by go_simp) ?_
        go_frame
        refine wpO_pure (v := .bool true) (by rfl) (fun w' hw' => by go_simp) ?_
        go_frame
        refine wpO_skip (by rfl) ?_
        go_frame
        refine wpO_skip (by rfl) ?_
        go_frame
        refine wpO_skip (by rfl) ?_
        go_frame
        refine wpO_skip (by rfl) ?_
        go_frame
        refine wpO_skip (by rfl) ?_
        go_frame
        refine wpO_skip (by rfl) ?_
        go_frame
        refine wpO_skipf (by rfl) (.inr ⟨X1.drew, X4.drew, XB.keep (Keep.refl Noth wa).drew (fun _ _ => id)⟩) ?_
        go_frame
        refine wpO_skipf (by rfl) (.inr ⟨X1.drew, X4.drew, XB.keep (Keep.refl Noth wa).drew (fun _ _ => id)⟩) ?_
        go_frame
        refine wpO_skip (by rfl) ?_
        go_frame
        refine wpO_run (v := .bool true) (w1 := wa.drew) (by rfl) (by go_simp) (.inl rfl) (wpO_nil ?_)
        go_frame
        have HF := hid (show BlockIs wa.drew b4 _ 68 from X4.drew)
        have HG := hid (show Keep Noth wa wa.drew from (Keep.refl Noth wa).drew)
        have hskip := openP_skip (D := D) (k := k) (by
          rcases Nat.lt_or_ge q 1099511627776 with e | e
          · have := Hhe.out e; exact .inr (by rw [← HSk.out, ← HBk.out, ← Hhh.out]; omega)
          · exact .inl (hdOk_no (.inl (by rw [← HBk.out, ← Hhh.out]; omega))))
        rw [← HSk.out] at hskip
        have Hskip := hid hskip
        have HX1 := hid (X1.keep HG.out id)
        have HX2 := hid (X2.keep HG.out id)
        have HXR := hid ((XR.keep HG.out (Dj.noth _)).mono (fun x hx => (⟨hx.1, by have := hx.2; have := HG.out.size; omega⟩ : Fresh w wa.drew x)))
        have HXK := hid (HKa.out.trans HG.out (fun _ _ h => h))
        clear hskip X1 X2 X4 XB XR
        go_wp2_with fail
        go_roundw
        case rel => exact ⟨k + 1, A, c, by go_num, by omega, by rw [Hskip.out]; exact HF.out, by rw [Hskip.out]; exact HXR.out, HX1.out, HX2.out, HXK.out⟩
        case measure => simp [intOf]; omega
      have ihc0 : ¬ ((q : Int) ≤ Sk.own.seq) := by omega
      by_cases hc1 : 1099511627776 ≤ q
      · have ihc1 : (1099511627776 : Int) ≤ q := by omega
        refine wp_region_ordL [(0, true), (1, true), (2, true), (3, true), (4, true), (5, true), (6, true), (7, true), (8, true), (9, true), (10, true), (11, true), (12, true), (13, true), (14, true), (15, false), (16, true), (17, true), (18, true), (19, true), (20, true), (21, true), (22, true), (25, true), (26, true), (23, false), (24, false), (27, true), (28, false)] (fun w' => BlockIs w' b1 [x0, x1, x2, x3, .bool false] 30 ∧ BlockIs w' b4 (fsv [x0, x1, x2, x3, .bool false] Sk.own.seq Sk.slot Sk.own.area Sk.own.used (.slice A Sk.l.length c) (.slice none 0 0)) 68 ∧ Reads w' (some ⟨g, 0, none⟩) (bv Bk)) follows_mixed (by kernel_rfl) ⟨X1.drew, X4.drew, XB.keep (Keep.refl Noth wa).drew (fun _ _ => id)⟩ ?_
        simp only [List.map_cons, List.map_nil, List.getElem?_cons_succ, List.getElem?_cons_zero, Option.getD_some]
        refine wpO_pure (v := .int .i64 (q : Int)) (by rfl) (fun w' hw' => by go_simp) ?_
        go_frame
        refine wpO_pure (v := .pointer (some ⟨b4, 5, none⟩)) (by rfl) (fun w' hw' => by go_simp) ?_
        go_frame
        refine wpO_pure (v := .int .i64 (Sk.own.seq : Int)) (by rfl) (fun w' hw' => by have hc : w'.cell? ⟨b4, 5, none⟩ = some (.int .i64 (Sk.own.seq : Int)) := hw'.2.1.cell 5; go_simp) ?_
        go_frame
        refine wpO_pure (v := .bool false) (by rfl) (fun w' hw' => by go_simp) ?_
        go_frame
        refine wpO_pure (v := .bool false) (by rfl) (fun w' hw' => by go_simp) ?_
        go_frame
        refine wpO_pure (v := .int .i64 (q : Int)) (by rfl) (fun w' hw' => by go_simp) ?_
        go_frame
        refine wpO_pure (v := .bool true) (by rfl) (fun w' hw' => by go_simp) ?_
        go_frame
        refine wpO_pure (v := .bool true) (by rfl) (fun w' hw' => by go_simp) ?_
        go_frame
        refine wpO_pure (v := .bool true) (by rfl) (fun w' hw' => by go_simp) ?_
        go_frame
        refine wpO_skip (by rfl) ?_
        go_frame
        refine wpO_skip (by rfl) ?_
        go_frame
        refine wpO_pure (v := .bool true) (by rfl) (fun w' hw' => by go_simp) ?_
        go_frame
        refine wpO_pure (v := .bool true) (by rfl) (fun w' hw' => by go_simp) ?_
        go_frame
        refine wpO_skip (by rfl) ?_
        go_frame
        refine wpO_skip (by rfl) ?_
        go_frame
        refine wpO_skipf (by rfl) (.inr ⟨X1.drew, X4.drew, XB.keep (Keep.refl Noth wa).drew (fun _ _ => id)⟩) ?_
        go_frame
        refine wpO_skip (by rfl) ?_
        go_frame
        refine wpO_pure (v := .bool true) (by rfl) (fun w' hw' => by go_simp) ?_
        go_frame
        refine wpO_pure (v := .bool true) (by rfl) (fun w' hw' => by go_simp) ?_
        go_frame
        refine wpO_skip (by rfl) ?_
        go_frame
        refine wpO_skip (by rfl) ?_
        go_frame
        refine wpO_skip (by rfl) ?_
        go_frame
        refine wpO_skip (by rfl) ?_
        go_frame
        refine wpO_skip (by rfl) ?_
        go_frame
        refine wpO_skip (by rfl) ?_
        go_frame
        refine wpO_skipf (by rfl) (.inr ⟨X1.drew, X4.drew, XB.keep (Keep.refl Noth wa).drew (fun _ _ => id)⟩) ?_
        go_frame
        refine wpO_skipf (by rfl) (.inr ⟨X1.drew, X4.drew, XB.keep (Keep.refl Noth wa).drew (fun _ _ => id)⟩) ?_
        go_frame
        refine wpO_skip (by rfl) ?_
        go_frame
        refine wpO_run (v := .bool true) (w1 := wa.drew) (by rfl) (by go_simp) (.inl rfl) (wpO_nil ?_)
        go_frame
        have HF := hid (show BlockIs wa.drew b4 _ 68 from X4.drew)
        have HG := hid (show Keep Noth wa wa.drew from (Keep.refl Noth wa).drew)
        have hskip := openP_skip (D := D) (k := k) (.inl (hdOk_no (.inl (by rw [← HBk.out, ← Hhh.out]; omega))))
        rw [← HSk.out] at hskip
        have Hskip := hid hskip
        have HX1 := hid (X1.keep HG.out id)
        have HX2 := hid (X2.keep HG.out id)
        have HXR := hid ((XR.keep HG.out (Dj.noth _)).mono (fun x hx => (⟨hx.1, by have := hx.2; have := HG.out.size; omega⟩ : Fresh w wa.drew x)))
        have HXK := hid (HKa.out.trans HG.out (fun _ _ h => h))
        clear hskip X1 X2 X4 XB XR
        go_wp2_with fail
        go_roundw
        case rel => exact ⟨k + 1, A, c, by go_num, by omega, by rw [Hskip.out]; exact HF.out, by rw [Hskip.out]; exact HXR.out, HX1.out, HX2.out, HXK.out⟩
        case measure => simp [intOf]; omega
      have ihc1 : ¬ ((1099511627776 : Int) ≤ q) := by omega
      by_cases hc2 : 1 < h.area
      · have ihc2 : (1 : Int) < h.area := by omega
        refine wp_region_ordL [(0, true), (1, true), (2, true), (3, true), (4, true), (5, true), (6, true), (7, true), (8, true), (9, true), (10, true), (11, true), (12, true), (13, true), (14, true), (15, false), (16, true), (17, true), (18, true), (19, true), (20, true), (21, true), (22, true), (25, true), (26, true), (23, false), (24, false), (27, true), (28, false)] (fun w' => BlockIs w' b1 [x0, x1, x2, x3, .bool false] 30 ∧ BlockIs w' b4 (fsv [x0, x1, x2, x3, .bool false] Sk.own.seq Sk.slot Sk.own.area Sk.own.used (.slice A Sk.l.length c) (.slice none 0 0)) 68 ∧ Reads w' (some ⟨g, 0, none⟩) (bv Bk)) follows_mixed (by kernel_rfl) ⟨X1.drew, X4.drew, XB.keep (Keep.refl Noth wa).drew (fun _ _ => id)⟩ ?_
        simp only [List.map_cons, List.map_nil, List.getElem?_cons_succ, List.getElem?_cons_zero, Option.getD_some]
        refine wpO_pure (v := .int .i64 (q : Int)) (by rfl) (fun w' hw' => by go_simp) ?_
        go_frame
        refine wpO_pure (v := .pointer (some ⟨b4, 5, none⟩)) (by rfl) (fun w' hw' => by go_simp) ?_
        go_frame
        refine wpO_pure (v := .int .i64 (Sk.own.seq : Int)) (by rfl) (fun w' hw' => by have hc : w'.cell? ⟨b4, 5, none⟩ = some (.int .i64 (Sk.own.seq : Int)) := hw'.2.1.cell 5; go_simp) ?_
        go_frame
        refine wpO_pure (v := .bool false) (by rfl) (fun w' hw' => by go_simp) ?_
        go_frame
        refine wpO_pure (v := .bool false) (by rfl) (fun w' hw' => by go_simp) ?_
        go_frame
        refine wpO_pure (v := .int .i64 (q : Int)) (by rfl) (fun w' hw' => by go_simp) ?_
        go_frame
        refine wpO_pure (v := .bool false) (by rfl) (fun w' hw' => by go_simp) ?_
        go_frame
        refine wpO_pure (v := .bool false) (by rfl) (fun w' hw' => by go_simp) ?_
        go_frame
        refine wpO_pure (v := .bool false) (by rfl) (fun w' hw' => by go_simp) ?_
        go_frame
        refine wpO_pure (v := .int .i64 (h.area : Int)) (by rfl) (fun w' hw' => by go_simp) ?_
        go_frame
        refine wpO_pure (v := .bool true) (by rfl) (fun w' hw' => by go_simp) ?_
        go_frame
        refine wpO_pure (v := .bool true) (by rfl) (fun w' hw' => by go_simp) ?_
        go_frame
        refine wpO_pure (v := .bool true) (by rfl) (fun w' hw' => by go_simp) ?_
        go_frame
        refine wpO_skip (by rfl) ?_
        go_frame
        refine wpO_skip (by rfl) ?_
        go_frame
        refine wpO_skipf (by rfl) (.inr ⟨X1.drew, X4.drew, XB.keep (Keep.refl Noth wa).drew (fun _ _ => id)⟩) ?_
        go_frame
        refine wpO_skip (by rfl) ?_
        go_frame
        refine wpO_pure (v := .bool true) (by rfl) (fun w' hw' => by go_simp) ?_
        go_frame
        refine wpO_pure (v := .bool true) (by rfl) (fun w' hw' => by go_simp) ?_
        go_frame
        refine wpO_skip (by rfl) ?_
        go_frame
        refine wpO_skip (by rfl) ?_
        go_frame
        refine wpO_skip (by rfl) ?_
        go_frame
        refine wpO_skip (by rfl) ?_
        go_frame
        refine wpO_skip (by rfl) ?_
        go_frame
        refine wpO_skip (by rfl) ?_
        go_frame
        refine wpO_skipf (by rfl) (.inr ⟨X1.drew, X4.drew, XB.keep (Keep.refl Noth wa).drew (fun _ _ => id)⟩) ?_
        go_frame
        refine wpO_skipf (by rfl) (.inr ⟨X1.drew, X4.drew, XB.keep (Keep.refl Noth wa).drew (fun _ _ => id)⟩) ?_
        go_frame
        refine wpO_skip (by rfl) ?_
        go_frame
        refine wpO_run (v := .bool true) (w1 := wa.drew) (by rfl) (by go_simp) (.inl rfl) (wpO_nil ?_)
        go_frame
        have HF := hid (show BlockIs wa.drew b4 _ 68 from X4.drew)
        have HG := hid (show Keep Noth wa wa.drew from (Keep.refl Noth wa).drew)
        have hskip := openP_skip (D := D) (k := k) (.inl (hdOk_no (.inr (.inl (by rw [← HBk.out, ← Hhh.out]; omega)))))
        rw [← HSk.out] at hskip
        have Hskip := hid hskip
        have HX1 := hid (X1.keep HG.out id)
        have HX2 := hid (X2.keep HG.out id)
        have HXR := hid ((XR.keep HG.out (Dj.noth _)).mono (fun x hx => (⟨hx.1, by have := hx.2; have := HG.out.size; omega⟩ : Fresh w wa.drew x)))
        have HXK := hid (HKa.out.trans HG.out (fun _ _ h => h))
        clear hskip X1 X2 X4 XB XR
        go_wp2_with fail
        go_roundw
        case rel => exact ⟨k + 1, A, c, by go_num, by omega, by rw [Hskip.out]; exact HF.out, by rw [Hskip.out]; exact HXR.out, HX1.out, HX2.out, HXK.out⟩
        case measure => simp [intOf]; omega
      have ihc2 : ¬ ((1 : Int) < h.area) := by omega
      by_cases hc3 : D.half < h.used
      · have ihc3 : (D.half : Int) < h.used := by omega
        refine wp_region_ordL [(0, true), (1, true), (2, true), (3, true), (4, true), (5, true), (6, true), (7, true), (8, true), (9, true), (10, true), (11, true), (12, true), (13, true), (14, true), (15, false), (16, true), (17, true), (18, true), (19, true), (20, true), (21, true), (22, true), (25, true), (26, true), (23, false), (24, false), (27, true), (28, false)] (fun w' => BlockIs w' b1 [x0, x1, x2, x3, .bool false] 30 ∧ BlockIs w' b4 (fsv [x0, x1, x2, x3, .bool false] Sk.own.seq Sk.slot Sk.own.area Sk.own.used (.slice A Sk.l.length c) (.slice none 0 0)) 68 ∧ Reads w' (some ⟨g, 0, none⟩) (bv Bk)) follows_mixed (by kernel_rfl) ⟨X1.drew, X4.drew, XB.keep (Keep.refl Noth wa).drew (fun _ _ => id)⟩ ?_
        simp only [List.map_cons, List.map_nil, List.getElem?_cons_succ, List.getElem?_cons_zero, Option.getD_some]
        refine wpO_pure (v := .int .i64 (q : Int)) (by rfl) (fun w' hw' => by go_simp) ?_
        go_frame
        refine wpO_pure (v := .pointer (some ⟨b4, 5, none⟩)) (by rfl) (fun w' hw' => by go_simp) ?_
        go_frame
        refine wpO_pure (v := .int .i64 (Sk.own.seq : Int)) (by rfl) (fun w' hw' => by have hc : w'.cell? ⟨b4, 5, none⟩ = some (.int .i64 (Sk.own.seq : Int)) := hw'.2.1.cell 5; go_simp) ?_
        go_frame
        refine wpO_pure (v := .bool false) (by rfl) (fun w' hw' => by go_simp) ?_
        go_frame
        refine wpO_pure (v := .bool false) (by rfl) (fun w' hw' => by go_simp) ?_
        go_frame
        refine wpO_pure (v := .int .i64 (q : Int)) (by rfl) (fun w' hw' => by go_simp) ?_
        go_frame
        refine wpO_pure (v := .bool false) (by rfl) (fun w' hw' => by go_simp) ?_
        go_frame
        refine wpO_pure (v := .bool false) (by rfl) (fun w' hw' => by go_simp) ?_
        go_frame
        refine wpO_pure (v := .bool false) (by rfl) (fun w' hw' => by go_simp) ?_
        go_frame
        refine wpO_pure (v := .int .i64 (h.area : Int)) (by rfl) (fun w' hw' => by go_simp) ?_
        go_frame
        refine wpO_pure (v := .bool false) (by rfl) (fun w' hw' => by go_simp) ?_
        go_frame
        refine wpO_pure (v := .bool false) (by rfl) (fun w' hw' => by go_simp) ?_
        go_frame
        refine wpO_pure (v := .bool false) (by rfl) (fun w' hw' => by go_simp) ?_
        go_frame
        refine wpO_pure (v := .int .i64 (h.used : Int)) (by rfl) (fun w' hw' => by go_simp) ?_
        go_frame
        refine wpO_pure (v := .agg [x0, x1, x2, x3, .bool false].toArray) (by rfl) (fun w' hw' => by exact exec_load_blk 30 _ rfl b1 0 _ [x0, x1, x2, x3, .bool false] 30 _ (by rfl) hw'.1 (part0 _) Try.underlying30 rfl info30) ?_
        go_frame
        refine wpO_call (by rfl) (exec_call' 78 _ _ rfl Try.func78 (by kernel_rfl) (by rfl) #[.agg [x0, x1, x2, x3, .bool false].toArray] (by simp [Act.eval])) ?_
        refine (Hhf.out _ HKa.out.drew).mono ?_
        rintro e w9 ⟨rfl, K9⟩
        have KD9 : Keep Noth wa w9 := (Keep.refl Noth wa).drew.trans K9 (fun _ _ h => h)
        have Y1 := X1.keep KD9 id
        have Y4 := X4.keep KD9 id
        have YB := XB.keep KD9 (fun _ _ => id)
        refine ⟨_, rfl, .inr ⟨Y1, Y4, YB⟩, ?_⟩
        go_frame
        refine wpO_pure (v := .bool true) (by rfl) (fun w' hw' => by go_simp) ?_
        go_frame
        refine wpO_pure (v := .bool true) (by rfl) (fun w' hw' => by go_simp) ?_
        go_frame
        refine wpO_pure (v := .bool true) (by rfl) (fun w' hw' => by go_simp) ?_
        go_frame
        refine wpO_skip (by rfl) ?_
        go_frame
        refine wpO_skip (by rfl) ?_
        go_frame
        refine wpO_skip (by rfl) ?_
        go_frame
        refine wpO_skip (by rfl) ?_
        go_frame
        refine wpO_skip (by rfl) ?_
        go_frame
        refine wpO_skip (by rfl) ?_
        go_frame
        refine wpO_skipf (by rfl) (.inr ⟨Y1, Y4, YB⟩) ?_
        go_frame
        refine wpO_skipf (by rfl) (.inr ⟨Y1, Y4, YB⟩) ?_
        go_frame
        refine wpO_skip (by rfl) ?_
        go_frame
        refine wpO_run (v := .bool true) (w1 := w9) (by rfl) (by go_simp) (.inl rfl) (wpO_nil ?_)
        go_frame
        have HF := hid Y4
        have HG := hid KD9
        clear Y1 Y4 YB KD9 K9
        have hskip := openP_skip (D := D) (k := k) (.inl (hdOk_no (.inr (.inr (.inl (by rw [← HBk.out, ← Hhh.out]; omega))))))
        rw [← HSk.out] at hskip
        have Hskip := hid hskip
        have HX1 := hid (X1.keep HG.out id)
        have HX2 := hid (X2.keep HG.out id)
        have HXR := hid ((XR.keep HG.out (Dj.noth _)).mono (fun x hx => (⟨hx.1, by have := hx.2; have := HG.out.size; omega⟩ : Fresh w w9 x)))
        have HXK := hid (HKa.out.trans HG.out (fun _ _ h => h))
        clear hskip X1 X2 X4 XB XR
        go_wp2_with fail
        go_roundw
        case rel => exact ⟨k + 1, A, c, by go_num, by omega, by rw [Hskip.out]; exact HF.out, by rw [Hskip.out]; exact HXR.out, HX1.out, HX2.out, HXK.out⟩
        case measure => simp [intOf]; omega
      have ihc3 : ¬ ((D.half : Int) < h.used) := by omega
      refine wp_region_ordL [(0, true), (1, true), (2, true), (3, true), (4, true), (5, true), (6, true), (7, true), (8, true), (9, true), (10, true), (11, true), (12, true), (13, true), (14, true), (15, false), (16, true), (17, true), (18, true), (19, true), (20, true), (21, true), (22, true), (25, true), (26, true), (23, false), (24, false), (27, true), (28, false)] (fun w' => BlockIs w' b1 [x0, x1, x2, x3, .bool false] 30 ∧ BlockIs w' b4 (fsv [x0, x1, x2, x3, .bool false] Sk.own.seq Sk.slot Sk.own.area Sk.own.used (.slice A Sk.l.length c) (.slice none 0 0)) 68 ∧ Reads w' (some ⟨g, 0, none⟩) (bv Bk)) follows_mixed (by kernel_rfl) ⟨X1.drew, X4.drew, XB.keep (Keep.refl Noth wa).drew (fun _ _ => id)⟩ ?_
      simp only [List.map_cons, List.map_nil, List.getElem?_cons_succ, List.getElem?_cons_zero, Option.getD_some]
      refine wpO_pure (v := .int .i64 (q : Int)) (by rfl) (fun w' hw' => by go_simp) ?_
      go_frame
      refine wpO_pure (v := .pointer (some ⟨b4, 5, none⟩)) (by rfl) (fun w' hw' => by go_simp) ?_
      go_frame
      refine wpO_pure (v := .int .i64 (Sk.own.seq : Int)) (by rfl) (fun w' hw' => by have hc : w'.cell? ⟨b4, 5, none⟩ = some (.int .i64 (Sk.own.seq : Int)) := hw'.2.1.cell 5; go_simp) ?_
      go_frame
      refine wpO_pure (v := .bool false) (by rfl) (fun w' hw' => by go_simp) ?_
      go_frame
      refine wpO_pure (v := .bool false) (by rfl) (fun w' hw' => by go_simp) ?_
      go_frame
      refine wpO_pure (v := .int .i64 (q : Int)) (by rfl) (fun w' hw' => by go_simp) ?_
      go_frame
      refine wpO_pure (v := .bool false) (by rfl) (fun w' hw' => by go_simp) ?_
      go_frame
      refine wpO_pure (v := .bool false) (by rfl) (fun w' hw' => by go_simp) ?_
      go_frame
      refine wpO_pure (v := .bool false) (by rfl) (fun w' hw' => by go_simp) ?_
      go_frame
      refine wpO_pure (v := .int .i64 (h.area : Int)) (by rfl) (fun w' hw' => by go_simp) ?_
      go_frame
      refine wpO_pure (v := .bool false) (by rfl) (fun w' hw' => by go_simp) ?_
      go_frame
      refine wpO_pure (v := .bool false) (by rfl) (fun w' hw' => by go_simp) ?_
      go_frame
      refine wpO_pure (v := .bool false) (by rfl) (fun w' hw' => by go_simp) ?_
      go_frame
      refine wpO_pure (v := .int .i64 (h.used : Int)) (by rfl) (fun w' hw' => by go_simp) ?_
      go_frame
      refine wpO_pure (v := .agg [x0, x1, x2, x3, .bool false].toArray) (by rfl) (fun w' hw' => by exact exec_load_blk 30 _ rfl b1 0 _ [x0, x1, x2, x3, .bool false] 30 _ (by rfl) hw'.1 (part0 _) Try.underlying30 rfl info30) ?_
      go_frame
      refine wpO_call (by rfl) (exec_call' 78 _ _ rfl Try.func78 (by kernel_rfl) (by rfl) #[.agg [x0, x1, x2, x3, .bool false].toArray] (by simp [Act.eval])) ?_
      refine (Hhf.out _ HKa.out.drew).mono ?_
      rintro e w9 ⟨rfl, K9⟩
      have KD9 : Keep Noth wa w9 := (Keep.refl Noth wa).drew.trans K9 (fun _ _ h => h)
      have Y1 := X1.keep KD9 id
      have Y4 := X4.keep KD9 id
      have YB := XB.keep KD9 (fun _ _ => id)
      refine ⟨_, rfl, .inr ⟨Y1, Y4, YB⟩, ?_⟩
      go_frame
      refine wpO_pure (v := .bool false) (by rfl) (fun w' hw' => by go_simp) ?_
      go_frame
      refine wpO_pure (v := .bool false) (by rfl) (fun w' hw' => by go_simp) ?_
      go_frame
      refine wpO_pure (v := .bool false) (by rfl) (fun w' hw' => by go_simp) ?_
      go_frame
      refine wpO_pure (v := .int .i64 (q : Int)) (by rfl) (fun w' hw' => by go_simp) ?_
      go_frame
      refine wpO_pure (v := .int .i64 (h.area : Int)) (by rfl) (fun w' hw' => by go_simp) ?_
      go_frame
      refine wpO_pure (v := .int .i64 (h.used : Int)) (by rfl) (fun w' hw' => by go_simp) ?_
      go_frame
      refine wpO_pure (v := .int .i64 (h.count : Int)) (by rfl) (fun w' hw' => by go_simp) ?_
      go_frame
      refine wpO_pure (v := .slice (some ⟨g, 0, none⟩) 64 cb) (by rfl) (fun w' hw' => by go_simp) ?_
      go_frame
      refine wpO_pure (v := .string ⟨Bk.toArray⟩) (by rfl) (fun w' hw' => by have := run_conv (P := Try.prog) (w := w') 33 5 9 sl33 Try.underlying5 Try.underlying9 (some ⟨g, 0, none⟩) 64 cb Bk H64.out.symm hw'.2.2; simp [execOp, Act.eval, this, Result.andThen]) ?_
      go_frame
      refine wpO_call (by rfl) (exec_call' 81 _ _ rfl Try.func81 (by kernel_rfl) (by rfl) #[.int .i64 (q : Int), .int .i64 (h.area : Int), .int .i64 (h.used : Int), .int .i64 (h.count : Int)] (by simp [Act.eval])) ?_
      refine (head_calls w9 q h.area h.used h.count (by omega) (by omega) (by omega) (by omega)).mono ?_
      rintro e w10 ⟨gh, ch, rfl, XH, K10⟩
      have Z1 := Y1.keep K10 id
      have Z4 := Y4.keep K10 id
      have ZB := YB.keep K10 (fun _ _ => id)
      refine ⟨_, rfl, .inr ⟨Z1, Z4, ZB⟩, ?_⟩
      go_frame
      have hcv := run_conv (P := Try.prog) (w := w10) 33 5 9 sl33 Try.underlying5 Try.underlying9 (some ⟨gh, 0, none⟩) 64 ch (headB q h.area h.used h.count) (headB_length _ _ _ _).symm (Bytes.same_as XH)
      refine wpO_run (v := .string ⟨(headB q h.area h.used h.count).toArray⟩) (w1 := w10) (by rfl) (by simp [execOp, Act.eval, hcv, Result.andThen]) (.inr ⟨Z1, Z4, ZB⟩) ?_
      go_frame
      refine wpO_pure (v := .bool (!(headB q h.area h.used h.count == Bk))) (by rfl) (fun w' hw' => by go_simp) ?_
      go_frame
      refine wpO_run (v := .bool (!(headB q h.area h.used h.count == Bk))) (w1 := w10) (by rfl) (by go_simp) (.inl rfl) (wpO_nil ?_)
      go_frame
      have hqe : q = h.seq := Hhe.out (by omega)
      cases hqb : (headB q h.area h.used h.count == Bk) with
      | false =>
        simp only [Bool.not_false]
        have HF := hid Z4
        have HG := hid (KD9.trans K10 (fun _ _ h => h))
        clear Z1 Z4 ZB hcv XH K10
        clear Y1 Y4 YB KD9 K9
        have hskip := openP_skip (D := D) (k := k) (.inl (hdOk_no (.inr (.inr (.inr (by rw [← HBk.out, ← Hhh.out]; show (Bk == headB h.seq h.area h.used h.count) = false; rw [← hqe]; cases hx : (Bk == headB q h.area h.used h.count) with
          | false => rfl
          | true => rw [← eq_of_beq hx] at hqb; simp at hqb))))))
        rw [← HSk.out] at hskip
        have Hskip := hid hskip
        have HX1 := hid (X1.keep HG.out id)
        have HX2 := hid (X2.keep HG.out id)
        have HXR := hid ((XR.keep HG.out (Dj.noth _)).mono (fun x hx => (⟨hx.1, by have := hx.2; have := HG.out.size; omega⟩ : Fresh w w10 x)))
        have HXK := hid (HKa.out.trans HG.out (fun _ _ h => h))
        clear hskip X1 X2 X4 XB XR
        go_wp2_with fail
        go_roundw
        case rel => exact ⟨k + 1, A, c, by go_num, by omega, by rw [Hskip.out]; exact HF.out, by rw [Hskip.out]; exact HXR.out, HX1.out, HX2.out, HXK.out⟩
        case measure => simp [intOf]; omega
      | true =>
        simp only [Bool.not_true]
        have hdk : hdOk D (D.at k) = true := by
          rw [hdOk_eq, ← HBk.out, ← Hhh.out, decide_eq_true (by omega)]
          show (Bk == headB h.seq h.area h.used h.count) = true
          rw [← hqe, eq_of_beq hqb]; simp
        have htake := openP_take (D := D) (k := k) hdk (by rw [← HSk.out, ← HBk.out, ← Hhh.out]; omega)
        rw [← HBk.out, ← Hhh.out, ← HSk.out] at htake
        have KA : Keep Noth wa w10 := KD9.trans K10 (fun _ _ h => h)
        have K0A : Keep Noth w w10 := HKa.out.trans KA (fun _ _ h => h)
        have hrc := Hrc.out w10 K0A h.area h.used h.count (by omega) (by omega) (by omega)
        have Htake := hid htake
        have HK0A := hid K0A
        have V2 := X2.keep KA id
        have VR : Recs w10 (Fresh w w10) (.slice A Sk.l.length c) Sk.l := (XR.keep KA (Dj.noth _)).mono (fun x hx => ⟨hx.1, by have := hx.2; have := KA.size; omega⟩)
        clear X1 X2 X4 XB XR Y1 Y4 YB KD9 K9 ZB hcv XH K10 KA K0A hdk htake hqb
        go_wp2_with (first
          | (guard_target = wpList _ _ _ (Oper.mk _ (Op.load 30 _) _ _ _ _ :: _) _ _; refine wpList_load_blk rfl 30 _ rfl b1 0 _ [x0, x1, x2, x3, .bool false] 30 _ (by rfl) Z1 (part0 _) Try.underlying30 rfl info30 ?_))
        refine hrc.mono ?_
        rintro e w11 ⟨v, rfl, ⟨Av, nv, cv, rfl⟩, hRv, K11⟩
        have V1 := Z1.keep K11 id
        have V4 := Z4.keep K11 id
        have V2 := V2.keep K11 id
        have VR : Recs w11 (Fresh w w11) (.slice A Sk.l.length c) Sk.l := (VR.keep K11 (Dj.noth _)).mono (fun x hx => ⟨hx.1, by have := hx.2; have := K11.size; omega⟩)
        have K0B : Keep Noth w w11 := HK0A.out.trans K11 (fun _ _ h => h)
        cases hrs : recsF D h.area h.used h.count with
        | none =>
          have hn : openP D (k + 1) = Sk := by rw [Htake.out, hrs]
          have Hn := hid hn
          rw [Option.isSome_none]
          have HV := hid (show _ ∧ _ ∧ _ ∧ _ ∧ _ from ⟨V4, VR, V1, V2, K0B⟩)
          clear hn hrs hrc hRv V1 V2 V4 VR K0B K11 Z1 Z4
          go_wp2_with fail
          go_roundw
          case rel => exact ⟨k + 1, A, c, by go_num, by omega, by rw [Hn.out]; exact HV.out.1, by rw [Hn.out]; exact HV.out.2.1, HV.out.2.2.1, HV.out.2.2.2.1, HV.out.2.2.2.2⟩
          case measure => simp [intOf]; omega
        | some l =>
          have hn : openP D (k + 1) = ⟨D, h, (k : Int), l, [], 0⟩ := by rw [Htake.out, hrs]
          have hRl := hRv l hrs
          have hRl2 : Recs w11 (Fresh w w11) (.slice Av nv cv) l := hRl.mono (fun x hx => ⟨by have := hx.1; have := HK0A.out.size; omega, hx.2⟩)
          obtain ⟨Ax, cx, hvx⟩ := hRl2.val
          injection hvx with e1 e2 e3
          subst e1
          subst e2
          subst e3
          have Hn := hid hn
          have HRl := hid hRl2
          rw [Option.isSome_some]
          clear hn hrs hrc hRv hRl hRl2 VR K11 Z1 Z4
          clear hqe
          go_wp2_with (first
            | (guard_target = wpList _ _ _ (Oper.mk _ (Op.load 30 _) _ _ _ _ :: _) _ _; refine wpList_load_blk rfl 30 _ rfl b1 0 _ [x0, x1, x2, x3, .bool false] 30 _ (by rfl) V1 (part0 _) Try.underlying30 rfl info30 ?_)
            | (guard_target = wpList _ _ _ (Oper.mk _ (Op.build 68 _) _ _ _ _ :: _) _ _; refine wpList_run rfl _ _ (build68c x0 x1 x2 x3 (.bool false) (h.seq : Int) (k : Int) (h.area : Int) (h.used : Int) _ _ _ _) ?_)
            | (guard_target = wpList _ _ _ (Oper.mk _ (Op.store 68 _ _) _ _ _ _ :: _) _ _; refine wpList_store_whole rfl 68 _ _ rfl b4 _ (fsv [x0, x1, x2, x3, .bool false] (h.seq : Int) (k : Int) (h.area : Int) (h.used : Int) (.slice Av l.length cv) (.slice none 0 0)) 68 (by rfl) (by rfl) V4 rfl info68 (fsv_one _ _ _ _ Hx0.out rfl rfl) ?_; intro w12 B12 K12))
          have HV1 := hid (V1.keep K12 (fun e => hne1 e))
          have HV2 := hid (V2.keep K12 (fun e => hne e))
          have HB12 := hid B12
          have HR12 := hid ((HRl.out.stay V4 (by decide) (by decide) K12).mono (fun x hx => (⟨hx.1, by have := hx.2; have := K12.size; omega⟩ : Fresh w w12 x)))
          have HK12 := hid (K0B.own K12 (fun x e => by unfold Only at e; subst e; exact hb4w))
          clear V1 V2 V4 B12 K12 K0B
          go_roundw
          case rel => exact ⟨k + 1, Av, cv, by go_num, by omega, by rw [Hn.out]; exact HB12.out, by rw [Hn.out]; exact HR12.out, HV1.out, HV2.out, HK12.out⟩
          case measure => simp [intOf]; omega
    · have hge : k = 2 := by omega
      subst hge
      have HSk' : Sk = openS D := HSk.out
      clear HSk hlt hk
      subst HSk'
      go_wp2_with (first
        | (guard_target = wpList _ _ _ (Oper.mk _ (Op.load 68 _) _ _ _ _ :: _) _ _; refine wpList_load_blk rfl 68 _ rfl b4 0 _ (fsv [x0, x1, x2, x3, .bool false] (openS D).own.seq (openS D).slot (openS D).own.area (openS D).own.used (.slice A (openS D).l.length c) (.slice none 0 0)) 68 _ (by rfl) X4 (part0 _) Try.underlying68 rfl info68 ?_)
        | (guard_target = wpList _ _ _ (Oper.mk _ (Op.store 68 _ _) _ _ _ _ :: _) _ _; refine wpList_store_whole rfl 68 _ _ rfl b2 _ (fsv [x0, x1, x2, x3, .bool false] (openS D).own.seq (openS D).slot (openS D).own.area (openS D).own.used (.slice A (openS D).l.length c) (.slice none 0 0)) 68 (by rfl) (by rfl) X2 rfl info68 (fsv_one _ _ _ _ Hx0.out rfl rfl) ?_; intro w12 B12 K12))
      refine ret_cell_tmp rfl b2 _ 68 _ (.int .i64 0) (by rfl) (by rfl) B12 Try.underlying68 rfl info68 rfl ?_
      exact ⟨A, c, rfl, (XR.stay X2 (by decide) (by decide) K12).mono (fun x hx => ⟨hx.1, by have := hx.2; have := K12.size; omega⟩), XK.own K12 (fun x e => by unfold Only at e; subst e; exact hb2w)⟩
end Go.Proofs.Ytffcglfepobdjaa
/- the reference of the roll: Same (f41), more (f83). -/
set_option linter.unusedVariables false
set_option linter.unusedSimpArgs false
set_option maxRecDepth 100000
set_option maxHeartbeats 2000000
namespace Go.Proofs.Ytffcglfepobdjaa
open Go.RowKit


theorem same_calls (w : World) (G H : Nat → Prop) (A B : Option Addr) (c d : Nat) (l m : List (List UInt8)) (hA : ReadsL w G A l) (hB : ReadsL w H B m) (hl : l.length ≤ 1099511627776) :
    Calls Try.prog 41 #[.slice A l.length c, .slice B m.length d] w (fun e w' => e = .returned (.bool (l == m)) ∧ Keep Noth w w') := by
  have hl' : (l.length : Int) ≤ 1099511627776 := by omega
  by_cases hlm : l.length = m.length
  case neg =>
    have hne : ((l.length : Int) != (m.length : Int)) = true := by simp; omega
    have hf : (l == m) = false := by
      cases h : l == m with
      | false => rfl
      | true => exact absurd (congrArg List.length (eq_of_beq h)) hlm
    rw [hf]
    clear hf hlm hA hB
    go_enter Try.func41, Try.ntmps41
    go_wp2_with fail
    go_ret
    exact ⟨rfl, Keep.refl _ _⟩
  have hne : ((l.length : Int) != (m.length : Int)) = false := by rw [hlm]; simp
  have HA := hid hA
  have HB := hid hB
  have Hl := hid hlm
  clear hA hB hlm
  go_enter Try.func41, Try.ntmps41
  go_wp2_with fail
  clear hne
  go_loopw [5] (fun i wr => (∃ k : Nat, i = .int .i64 k ∧ k ≤ l.length ∧ l.take k = m.take k) ∧ Keep Noth w wr) (fun i _ => l.length - (intOf i).toNat)
  case atStart => exact ⟨⟨0, rfl, Nat.zero_le _, rfl⟩, Keep.refl _ _⟩
  case round =>
    obtain ⟨⟨k, rfl, hk, hz⟩, HK⟩ := hrel
    by_cases hlt : k < l.length
    · have hlt' : (k : Int) < l.length := by omega
      have hlt2 : (k : Int) < m.length := by have := Hl.out; omega
      obtain ⟨x, hx⟩ : ∃ x, l[k]? = some x := ⟨_, List.getElem?_eq_getElem hlt⟩
      obtain ⟨y, hy⟩ : ∃ y, m[k]? = some y := ⟨_, List.getElem?_eq_getElem (by rw [← Hl.out]; exact hlt)⟩
      obtain ⟨gA, oA, rfl, Bx, cx, hcx, hRx, -, -⟩ := (HA.out.keep HK (Dj.noth _)).at k x hx
      obtain ⟨gB, oB, rfl, By, cy, hcy, hRy, -, -⟩ := (HB.out.keep HK (Dj.noth _)).at k y hy
      have Hcx := hid hcx
      have Hcy := hid hcy
      have Hx := hid hx
      have Hy := hid hy
      have HRx := hid hRx
      have HRy := hid hRy
      have Hz := hid hz
      have HK' := hid HK
      clear hcx hcy hx hy hRx hRy hz HK
      go_wp2_with fail
      refine wp_region_ordQ [(0, true), (1, true), (2, true), (3, true), (4, true), (5, true), (6, true), (7, true), (8, true), (9, true), (10, true)] (fun W => Keep Noth wr W) follows_mixed (by kernel_rfl) (Keep.refl Noth wr).drew ?_
      simp only [List.map_cons, List.map_nil, List.getElem?_cons_succ, List.getElem?_cons_zero, Option.getD_some]
      refine wpO_pure (v := .slice (some ⟨gA, oA, none⟩) l.length c) (by rfl) (fun w' hw' => by go_simp) ?_
      go_frame
      refine wpO_pure (v := .int .i64 (k : Int)) (by rfl) (fun w' hw' => by go_simp) ?_
      go_frame
      refine wpO_pure (v := .pointer (some ⟨gA, oA + k, none⟩)) (by rfl) (fun w' hw' => by go_simp) ?_
      go_frame
      refine wpO_pure (v := .slice Bx x.length cx) (by rfl) (fun w' hw' => by have hc := Keep.cellAt hw' id Hcx.out; go_simp) ?_
      go_frame
      refine wpO_pure (v := .string ⟨x.toArray⟩) (by rfl) (fun w' hw' => by have := run_conv (P := Try.prog) (w := w') 33 5 9 sl33 Try.underlying5 Try.underlying9 Bx x.length cx x rfl (HRx.out.keep hw' (fun _ _ => id)); simp [execOp, Act.eval, this, Result.andThen]) ?_
      go_frame
      refine wpO_pure (v := .slice (some ⟨gB, oB, none⟩) m.length d) (by rfl) (fun w' hw' => by go_simp) ?_
      go_frame
      refine wpO_pure (v := .int .i64 (k : Int)) (by rfl) (fun w' hw' => by go_simp) ?_
      go_frame
      refine wpO_pure (v := .pointer (some ⟨gB, oB + k, none⟩)) (by rfl) (fun w' hw' => by go_simp) ?_
      go_frame
      refine wpO_pure (v := .slice By y.length cy) (by rfl) (fun w' hw' => by have hc := Keep.cellAt hw' id Hcy.out; go_simp) ?_
      go_frame
      refine wpO_pure (v := .string ⟨y.toArray⟩) (by rfl) (fun w' hw' => by have := run_conv (P := Try.prog) (w := w') 33 5 9 sl33 Try.underlying5 Try.underlying9 By y.length cy y rfl (HRy.out.keep hw' (fun _ _ => id)); simp [execOp, Act.eval, this, Result.andThen]) ?_
      go_frame
      refine wpO_pure (v := .bool (!(x == y))) (by rfl) (fun w' hw' => by go_simp) (wpO_nil ?_)
      go_frame
      have HKd := hid HK'.out.drew
      cases hq : (x == y) with
      | false =>
        have hf : (l == m) = false := by
          cases h : l == m with
          | false => rfl
          | true => rw [eq_of_beq h, Hy.out] at Hx; have e := Hx.out; injection e with e; rw [e] at hq; simp at hq
        simp only [Bool.not_false]
        have Hf := hid hf
        clear hq hf
        go_wp2_with fail
        go_ret
        exact ⟨by rw [Hf.out]; rfl, HKd.out⟩
      | true =>
        simp only [Bool.not_true]
        have ht : l.take (k + 1) = m.take (k + 1) := by rw [List.take_add_one, List.take_add_one, Hz.out, Hx.out, Hy.out, eq_of_beq hq]
        have Ht := hid ht
        clear hq ht
        go_wp2_with fail
        go_roundw
        case rel => exact ⟨⟨k + 1, by go_num, hlt, Ht.out⟩, HKd.out⟩
        case measure => simp [intOf]; omega
    · have hge : k = l.length := by omega
      subst hge
      have ht : (l == m) = true := by
        have h2 : m.take l.length = m := by rw [Hl.out, List.take_length]
        rw [List.take_length, h2] at hz
        rw [hz]; simp
      have Ht := hid ht
      clear hz ht
      go_wp2_with fail
      go_ret
      exact ⟨by rw [Ht.out]; rfl, HK⟩
theorem more_calls (w : World) (G : Nat → Prop) (A : Option Addr) (c : Nat) (l : List (List UInt8)) (hA : ReadsL w G A l) (hl : l.length ≤ 1099511627776) (hb : ∀ b ∈ l, b.length ≤ 1099511627776) (hm : moreL l ≤ 1099511627776) :
    Calls Try.prog 83 #[.slice A l.length c] w (fun e w' => e = .returned (.int .i64 (moreL l : Int)) ∧ w = w') := by
  have hl' : (l.length : Int) ≤ 1099511627776 := by omega
  have HA := hid hA
  have Hb := hid hb
  clear hA hb
  go_enter Try.func83, Try.ntmps83
  go_wp2_with fail
  go_loopw [4, 3] (fun i s wr => (∃ k : Nat, i = .int .i64 k ∧ k ≤ l.length ∧ s = .int .i64 (moreL (l.take k) : Int)) ∧ w = wr) (fun i _ _ => l.length - (intOf i).toNat)
  case atStart => exact ⟨⟨0, rfl, Nat.zero_le _, rfl⟩, rfl⟩
  case round =>
    obtain ⟨⟨k, rfl, hk, rfl⟩, rfl⟩ := hrel
    by_cases hlt : k < l.length
    · have hlt' : (k : Int) < l.length := by omega
      obtain ⟨b, hb⟩ : ∃ b, l[k]? = some b := ⟨_, List.getElem?_eq_getElem hlt⟩
      obtain ⟨gA, oA, rfl, B, c', hcell, hB', hBc, hBG⟩ := HA.out.at k b hb
      have hmk := moreL_take l k b hb
      have hmk1 := moreL_le l (k + 1)
      have hbl := refBlocks_calls w B c' b (by have := Hb.out b (List.mem_of_getElem? hb); omega)
      have Hmk := hid (show (moreL (l.take k) + blocksN b = moreL (l.take (k + 1))) ∧ moreL (l.take k) + blocksN b ≤ 1099511627776 from ⟨hmk.symm, by omega⟩)
      have hs1 : (moreL (l.take k) : Int) + blocksN b ≤ 1099511627776 := by have := Hmk.out.2; omega
      clear hB' hb hmk hmk1
      go_wp2_with fail
      refine hbl.mono ?_
      rintro e w' ⟨rfl, rfl⟩
      clear hbl
      go_wp2_with fail
      go_roundw
      case rel => exact ⟨⟨k + 1, by go_num, hlt, by rw [← Hmk.out.1]; first | rfl | (congr 1)⟩, trivial⟩
      case measure => simp [intOf]; omega
    · have hge : k = l.length := by omega
      subst hge
      rw [List.take_length]
      go_wp2_with fail
      go_ret
      exact ⟨rfl, rfl⟩
end Go.Proofs.Ytffcglfepobdjaa
/- quiltworklaw11: a world opens its roll (f63). -/
set_option linter.unusedVariables false
set_option linter.unusedSimpArgs false
set_option maxRecDepth 100000
set_option maxHeartbeats 2000000
namespace Go.Proofs.Ytffcglfepobdjaa
open Go.RowKit


theorem fsv_cells {SV : List Value} (m n p q : Int) (vL vS : Value) : (Value.agg (fsv SV m n p q vL vS).toArray).cells = (fsv SV m n p q vL vS).toArray := rfl
theorem wopen_calls {w : World} {F G : Nat → Prop} {bw g : Nat} {rv : Value} {vl vr : Value} {D : DS} {tail : List Value} (hD : DevIs w F g D) (hS : StAt w G vl vr D) (hW : BlockIs w bw (.pointer (some ⟨g, 0, none⟩) :: rv :: (stv vl vr D ++ tail)) 70) (htl : tail.length = 6)
    (hok : D.ok) (hr : D.row.length ≤ 1099511627776) (hd : D.down = false) (h4 : 4 ≤ D.l.length) (hbF : ¬ F bw) (hbG : ¬ G bw) :
    Calls Try.prog 63 #[.pointer (some ⟨bw, 0, none⟩)] w (fun e w' => e = .returned (.bool true) ∧ ∃ F' G' r A c, (∀ q, F' q → F q ∨ (w.heap.size ≤ q ∧ q < w'.heap.size)) ∧ (∀ q, G' q → w.heap.size ≤ q ∧ q < w'.heap.size) ∧ Dj G' F' ∧ RollIs w' F' g r (openS D) ∧ StAt w' G vl vr D ∧ ReadsL w' G' A (openS D).l ∧ (A = none → c = 0) ∧
      BlockIs w' bw (.pointer (some ⟨g, 0, none⟩) :: .pointer (some ⟨r, 0, none⟩) :: fsv (stv vl vr D) (openS D).own.seq (openS D).slot (openS D).own.area (openS D).own.used (.slice A (openS D).l.length c) (.slice none 0 0)) 70 ∧ Keep (Only bw) w w') := by
  have hone := hS.l.one_val.1
  have hone2 := hS.row.one_val.1
  obtain ⟨x0, x1, x2, x3, x4, hSV, hx0⟩ : ∃ x0 x1 x2 x3 x4, stv vl vr D = [x0, x1, x2, x3, x4] ∧ ∀ u ∈ [x0, x1, x2, x3, x4], u.oneCell' = true := ⟨vl, vr, _, _, _, rfl, by
    intro u hu
    simp only [List.mem_cons, List.not_mem_nil, or_false] at hu
    rcases hu with rfl | rfl | rfl | rfl | rfl <;> first | exact hone | exact hone2 | rfl⟩
  have hro := fun W (hW : Keep Noth w W) => refOpen_ok (hS.keep hW (Dj.noth _)) hok hr hd h4
  rw [hSV] at hW hro ⊢
  obtain ⟨va, vb, hDv⟩ := hD
  have hop := open_ok hDv hd hok hr h4
  have c0 : w.cell? ⟨bw, 0, none⟩ = some (.pointer (some ⟨g, 0, none⟩)) := hW.cell 0
  have f0 := hW.frozen 0
  obtain ⟨WC, hWC⟩ : ∃ WC, WC = Value.pointer (some ⟨g, 0, none⟩) :: rv :: ([x0, x1, x2, x3, x4] ++ tail) := ⟨_, rfl⟩
  have hWl : WC.length = 13 := by rw [hWC]; simp [htl]
  have hWp : ∀ j v, [x0, x1, x2, x3, x4][j]? = some v → WC[2 + j]? = some v := by
    intro j v hj
    rw [hWC, Nat.add_comm 2 j, List.getElem?_cons_succ, List.getElem?_cons_succ, List.getElem?_append_left (List.getElem?_eq_some_iff.1 hj).1]
    exact hj
  have hW0 : WC.take 1 = [.pointer (some ⟨g, 0, none⟩)] := by rw [hWC]; rfl
  rw [← hWC] at hW
  have HWp := hid hWp
  have HWl := hid hWl
  have HW0 := hid hW0
  have HS := hid hS
  have Hro := hid hro
  have Hx0 := hid hx0
  have HB := hid hW
  have Hlt := hid hDv.lt
  clear hro hx0 hWp hWl hW0 hWC hS hok hd hone hone2 hSV hW hDv htl
  go_enter Try.func63, Try.ntmps63
  go_wp2_with fail
  refine hop.mono ?_
  rintro e w1 ⟨r, rfl, hr1, ⟨vl1, vs1, R1⟩, K1⟩
  have B1 := HB.out.keep K1 id
  have R1h := hid R1
  have K1h := hid K1
  clear hop c0 f0 R1 K1
  go_wp2_with (first
    | (guard_target = wpList _ _ _ (Oper.mk _ (Op.load 30 _) _ _ _ _ :: _) _ _; refine wpList_load_blk rfl 30 _ rfl bw 2 _ [x0, x1, x2, x3, x4] 70 _ (by rfl) B1 HWp.out Try.underlying30 rfl info30 ?_))
  refine (Hro.out w1 K1h.out).mono ?_
  rintro e w2 ⟨A, c, rfl, HR2, K2⟩
  have B2 := B1.keep K2 id
  have hnc : A = none → c = 0 := by
    obtain ⟨es, e1, e2, e3⟩ := HR2
    exact e2.none_cap
  obtain ⟨FV, hFV⟩ : ∃ FV, FV = fsv [x0, x1, x2, x3, x4] (openS D).own.seq (openS D).slot (openS D).own.area (openS D).own.used (.slice A (openS D).l.length c) (.slice none 0 0) := ⟨_, rfl⟩
  have hFl : FV.length = 11 := by rw [hFV]; rfl
  have hFo : ∀ u ∈ FV, u.oneCell' = true := by rw [hFV]; exact fsv_one _ _ _ _ Hx0.out rfl rfl
  rw [← hFV]
  have HFV := hid hFV
  have HFl := hid hFl
  have HFo := hid hFo
  clear hFV hFl hFo B1 hr1
  go_wp2_with (first
    | (guard_target = wpList _ _ _ (Oper.mk _ (Op.alloc 68) _ _ _ _ :: _) _ _; refine wpList_alloc_v rfl 68 rfl (.agg zfs.toArray) info68 zfs zfs_cells ?_; intro b5 w3 hb5 B5 K3)
    | (guard_target = wpList _ _ _ (Oper.mk _ (Op.store 68 _ _) _ _ _ _ :: _) _ _; refine wpList_store_whole rfl 68 _ _ rfl b5 _ FV 68 (by rfl) (by rfl) B5 (by rw [HFl.out]; rfl) (by rw [HFl.out]; exact info68) HFo.out ?_; intro w4 B6 K4))
  have hbw := HB.out.lt
  have hs1 := K1h.out.size
  have hs2 := K2.size
  have hs3 := K3.size
  have hs4 := K4.size
  have hne : bw ≠ b5 := by omega
  have K14 : Keep Noth w1 w4 := ((K2.trans K3 (fun _ _ h => h)).own K4 (fun q e => by unfold Only at e; subst e; omega))
  have K24 : Keep Noth w2 w4 := (K3.own K4 (fun q e => by unfold Only at e; subst e; omega))
  have B4 := B2.keep K24 id
  have R4 := hid (R1h.out.keep K14 (Dj.noth _))
  have HR4 := hid (HR2.keep K24 (Dj.noth _))
  have HS4 := hid ((HS.out.keep K1h.out (Dj.noth _)).keep K14 (Dj.noth _))
  have HK4 := hid (K1h.out.trans K14 (fun _ _ h => h))
  clear B5 K3 K4 K2 K14 K24 HR2 B2 R1h
  refine wp_region_ordL [(0, true), (1, true), (2, true), (3, true), (4, true), (5, true), (6, false), (7, true), (8, true), (9, false)] (fun W => BlockIs W b5 FV 68) follows_mixed (by kernel_rfl) B6.drew ?_
  simp only [List.map_cons, List.map_nil, List.getElem?_cons_succ, List.getElem?_cons_zero, Option.getD_some]
  refine wpO_pure (v := .pointer (some ⟨bw, 0, none⟩)) (by rfl) (fun w' hw' => by go_simp) ?_
  go_frame
  refine wpO_pure (v := .pointer (some ⟨bw, 0, none⟩)) (by rfl) (fun w' hw' => by go_simp) ?_
  go_frame
  refine wpO_pure (v := .pointer (some ⟨r, 0, none⟩)) (by rfl) (fun w' hw' => by go_simp) ?_
  go_frame
  refine wpO_pure (v := .agg FV.toArray) (by rfl) (fun w' hw' => by exact exec_load_blk 68 _ rfl b5 0 FV FV 68 _ (by rfl) hw' (part0 _) Try.underlying68 rfl (by rw [HFl.out]; exact info68)) ?_
  go_frame
  refine wpO_pure (v := .pointer (some ⟨bw, 0, none⟩)) (by rfl) (fun w' hw' => by go_simp) ?_
  go_frame
  refine wpO_pure (v := .pointer (some ⟨bw, 1, none⟩)) (by rfl) (fun w' hw' => by go_simp) ?_
  go_frame
  refine wpO_store_cell (by rfl) 66 _ _ rfl bw 1 _ 70 (.pointer (some ⟨r, 0, none⟩)) (by rfl) (by rfl) B4.drew (by rw [HWl.out]; decide) rfl rfl info66 ?_
  intro w5 B7 K5
  refine ⟨.inr (B6.drew.keep K5 (fun e => hne e.symm)), ?_⟩
  go_frame
  refine wpO_pure (v := .pointer (some ⟨bw, 0, none⟩)) (by rfl) (fun w' hw' => by go_simp) ?_
  go_frame
  refine wpO_pure (v := .pointer (some ⟨bw, 2, none⟩)) (by rfl) (fun w' hw' => by go_simp) ?_
  go_frame
  refine wpO_store_part (by rfl) 68 _ _ rfl bw 2 _ FV 70 (by rfl) (by rfl) B7 (by rw [List.length_set, HWl.out, HFl.out]; decide) (by rw [HFl.out]; exact info68) HFo.out ?_
  intro w6 B8 K6
  refine ⟨.inl rfl, wpO_nil ?_⟩
  go_frame
  have hcells : splice (WC.set 1 (.pointer (some ⟨r, 0, none⟩))) 2 FV = .pointer (some ⟨g, 0, none⟩) :: .pointer (some ⟨r, 0, none⟩) :: FV := by
    have hl := HWl.out
    have h0 := HW0.out
    match WC, hl, h0 with
    | a :: b :: t, hl, h0 =>
      simp only [List.take_succ_cons, List.take_zero, List.cons.injEq, and_true] at h0
      subst h0
      simp only [splice, List.set_cons_succ, List.set_cons_zero, List.take_succ_cons, List.take_zero, List.cons_append, List.nil_append]
      rw [List.drop_eq_nil_of_le (by rw [HFl.out]; simp at hl ⊢; omega), List.append_nil]
  rw [hcells] at B8
  have KB : Keep (Only bw) w4 w6 := (Keep.refl _ w4).drew.trans (K5.trans K6 (fun _ _ h => h)) (fun _ _ h => h)
  have HB8 := hid B8
  have HKB := hid KB
  have HB4 := hid B4
  clear B4 B6 B7 B8 K5 K6 hcells KB
  go_wp2_with fail
  go_ret
  have hs6 := HKB.out.size
  have hs0 := HK4.out.size
  have hnF : ¬ grow F w w1 bw := fun e => e.elim hbF (fun e => by omega)
  refine ⟨rfl, grow F w w1, Fresh w1 w2, r, A, c, fun q hq => hq.imp id (fun e => ⟨e.1, by have := e.2; omega⟩), fun q hq => ⟨by have := hq.1; omega, by have := hq.2; omega⟩, fun q a b => ?_, ?_, ?_, ?_, hnc, ?_, ?_⟩
  · rcases b with b | b
    · have h1 := Hlt.out q b; have h2 := a.1; omega
    · have h1 := b.2; have h2 := a.1; omega
  · exact ⟨_, _, R4.out.keep HKB.out (fun q a e => hnF (by unfold Only at e; subst e; exact a))⟩
  · exact HS4.out.keep HKB.out (fun q a e => hbG (by unfold Only at e; subst e; exact a))
  · exact HR4.out.reads.keep HKB.out (fun q a e => by unfold Only at e; subst e; have := a.1; omega)
  · rw [HFV.out] at HB8
    exact HB8.out
  · exact (HK4.out.mono (fun _ _ e => e.elim)).trans HKB.out (fun _ _ e => e)
end Go.Proofs.Ytffcglfepobdjaa
/- quiltworklaw11: a world is begun (f38). -/
set_option linter.unusedVariables false
set_option linter.unusedSimpArgs false
set_option maxRecDepth 100000
set_option maxHeartbeats 2000000
namespace Go.Proofs.Ytffcglfepobdjaa
open Go.RowKit


theorem openS_st (D : DS) : (openS D).st = [] := (openP_st D 2).1
/-- A world of the laws: a device, its roll, and the document's state. -/
structure WX (w0 w : World) (F G : Nat → Prop) (bw g r : Nat) (S R : RS) : Prop where
  roll : RollIs w F g r S
  ref : ∃ vl vr A a B b, StAt w G vl vr R.D ∧ ReadsL w G A R.l ∧ ReadsL w G B R.st ∧ (A = none → a = 0) ∧ (B = none → b = 0) ∧
    BlockIs w bw (.pointer (some ⟨g, 0, none⟩) :: .pointer (some ⟨r, 0, none⟩) :: fsv (stv vl vr R.D) R.own.seq R.slot R.own.area R.own.used (.slice A R.l.length a) (.slice B R.st.length b)) 70
  low : ∀ q, F q → w0.heap.size ≤ q
  off : Dj G F
  nbF : ¬ F bw
  nbG : ¬ G bw
  wlow : w0.heap.size ≤ bw
  glt : Lt G w
  old : ∀ q, q < w0.heap.size → G q
  kept : Keep Noth w0 w
def zwd : List Value := .pointer none :: .pointer none :: zfs
theorem info70 : (Try.prog.info? 70).map (fun i => (i.zero, i.size, i.bytes)) = some (some (.agg zwd.toArray), 13, 168) := by kernel_rfl
theorem built70 (parts : List (Nat × Value)) : Try.prog.built 70 parts = Instr.fill (#[(0, 1), (1, 1), (2, 11)][·]?) zwd.toArray parts := by kernel_rfl
theorem build70 (p : Option Addr) (cs : List Value) (hl : cs.length = 11) (W : World) : (Instr.build 70 #[(0, .pointer p), (2, .agg cs.toArray)]).run Try.prog W = .ok (.agg (.pointer p :: .pointer none :: cs).toArray) W := by
  refine run_build W 70 _ _ ?_
  rw [built70]
  show Instr.fill _ _ [(0, .pointer p), (2, .agg cs.toArray)] = _
  rw [fill_cons _ _ 0 0 1 _ [.pointer p] _ rfl rfl rfl (by simp [zwd, zfs, fsv, stz5])]
  rw [fill_cons _ _ 2 2 11 _ cs _ rfl rfl hl (by simp [zwd, zfs, fsv, stz5, splice])]
  rw [Instr.fill]
  simp [splice, zwd, zfs, fsv, stz5, hl]
/-- The image of a world. -/
def padI (im : List UInt8) (N : Nat) : List UInt8 := splice (List.replicate N 0) 0 (im.take N)
theorem padI_length (im : List UInt8) (N : Nat) : (padI im N).length = N := by
  unfold padI; rw [length_splice _ _ _ (by rw [List.length_take, List.length_replicate]; omega), List.length_replicate]
def cntN (count : Int) : Nat := (max (min count 40) 4).toNat
theorem cntN_bound (count : Int) : 4 ≤ cntN count ∧ cntN count ≤ 40 := by unfold cntN; omega
theorem ofN_pad {im : List UInt8} {k : Nat} (h1 : 4 ≤ k) (h2 : k ≤ 40) : ofN (padI im (64 * k)) = k := by
  unfold ofN clampN; rw [padI_length]; omega
theorem wpList_make_bytes' {ops : Array Oper} {rest : List Oper} {o : Oper} {a : Act} {w : World} {Q : Exit → Act → World → Prop} (hw : Region.wanted o (yielded ops a.tmps) = true) (l c : Operand) (ho : o.op = Op.makeSlice 33 l c) (n : Nat) (L C : Int) (hl : a.eval l = .int .i64 L) (hc : a.eval c = .int .i64 C) (hL : L = n) (hC : C = n) (hn : n ≤ 140737488351232)
    (h : ∀ b w1, w.heap.size ≤ b → Bytes w1 (fun q => q = b) (.slice (some ⟨b, 0, none⟩) n n) (List.replicate n 0) → Keep Noth w w1 → wpList Try.prog ops Q rest (a.put o.dst (.slice (some ⟨b, 0, none⟩) n n)) w1) : wpList Try.prog ops Q (o :: rest) a w := by
  subst hL
  subst hC
  exact wpList_make_bytes hw l c ho n hl hc hn h


theorem begin_calls (w : World) (A : Option Addr) (c : Nat) (im : List UInt8) (hA : Reads w A (bv im)) (hil : im.length ≤ 1099511627776) (count : Int) :
    Calls Try.prog 38 #[.slice A im.length c, .int .i64 count] w (fun e w' => ∃ bw g r F G, e = .returned (.pointer (some ⟨bw, 0, none⟩)) ∧ WX w w' F G bw g r (openS (DS.of (padI im (64 * cntN count)))) (openS (DS.of (padI im (64 * cntN count))))) := by
  have HA := hid hA
  clear hA
  have hilI : (im.length : Int) ≤ 1099511627776 := by omega
  have hcn := cntN_bound count
  obtain ⟨N, hNe⟩ : ∃ N, N = 64 * cntN count := ⟨_, rfl⟩
  obtain ⟨k, hk⟩ : ∃ k, k = cntN count := ⟨_, rfl⟩
  rw [← hk] at hNe hcn ⊢
  have hN : N = 64 * k := hNe
  rw [← hNe]
  unfold cntN at hk
  by_cases h1 : count < 4
  · have hk4 : k = 4 := by omega
    have h2 : ¬ ((40 : Int) < count) := by omega
    have h3 : (count : Int) ≤ 40 := by omega
    have h4 : ((4 : Int) > count) := by omega
    clear hk hNe
    have HN := hid hN
    have Hk4 := hid hk4
    have Hcn := hid hcn
    clear hN hk4 hcn
    go_enter Try.func38, Try.ntmps38
    go_wp2_with (first
      | (guard_target = wpList _ _ _ (Oper.mk _ (Op.makeSlice _ _ _) _ _ _ _ :: _) _ _; refine wpList_make_bytes' (by rfl) _ _ rfl N _ _ (by rfl) (by rfl) (by have := HN.out; have := Hk4.out; omega) (by have := HN.out; have := Hk4.out; omega) (by have := HN.out; have := Hcn.out; omega) ?_; intro b5 w1 hb5 B5 K1)
      | (guard_target = wpList _ _ _ (Oper.mk _ (Op.call _) _ _ _ _ :: _) _ _; refine wpList_copy_bytes rfl _ _ 33 33 rfl sl33 size5 _ b5 N N _ B5 0 N N A im.length c (by rfl) (by rfl) (im.take N) (by rw [List.length_take]; exact Nat.min_comm _ _) (by have h := (HA.out.keep K1 (fun _ _ => id)).take N; rwa [bv_take] at h) (by rw [List.length_take, List.length_replicate]; omega) ?_; intro w2 B6 K2))
    have K02 : Keep Noth w w2 := K1.own K2 (fun q e => by unfold Only at e; subst e; exact hb5)
    have hpd : Reads w2 (some ⟨b5, 0, none⟩) (bv (padI im N)) := Bytes.same_as B6
    have hdo := of_calls0 w2 (some ⟨b5, 0, none⟩) N (padI im N) hpd (by rw [padI_length]; have := HN.out; have := Hcn.out; omega) (by rw [padI_length]; exact Nat.le_refl _)
    rw [padI_length] at hdo
    have Hpd := hid hpd
    have HK02 := hid K02
    clear B5 B6 K1 K2 K02 hpd hb5
    refine hdo.mono ?_
    rintro e w3 ⟨g, rfl, hD3, K3⟩
    have hso := st_of w3 (some ⟨b5, 0, none⟩) N (padI im N) (Hpd.out.keep K3 (fun _ _ => id)) (by rw [padI_length]; have := HN.out; have := Hcn.out; omega)
    rw [padI_length] at hso
    clear hdo
    go_wp2_with fail
    refine hso.mono ?_
    rintro e w4 ⟨vl, rfl, hS4, K4⟩
    clear hso
    have hone := hS4.l.one_val.1
    obtain ⟨x0, x1, x2, x3, x4, hSV, hx0⟩ : ∃ x0 x1 x2 x3 x4, stv vl (.slice none 0 0) (DS.of (padI im N)) = [x0, x1, x2, x3, x4] ∧ ∀ u ∈ [x0, x1, x2, x3, x4], u.oneCell' = true := ⟨vl, _, _, _, _, rfl, by
      intro u hu
      simp only [List.mem_cons, List.not_mem_nil, or_false] at hu
      rcases hu with rfl | rfl | rfl | rfl | rfl <;> first | exact hone | rfl⟩
    rw [hSV]
    have hs4 := K4.size
    have hs3 := K3.size
    have hs2 := HK02.out.size
    go_wp2_with (first
      | (guard_target = wpList _ _ _ (Oper.mk _ (Op.build 68 _) _ _ _ _ :: _) _ _; refine wpList_run rfl _ _ (build68a x0 x1 x2 x3 x4 _) ?_)
      | (guard_target = wpList _ _ _ (Oper.mk _ (Op.build 70 _) _ _ _ _ :: _) _ _; refine wpList_run rfl _ _ (build70 _ _ (fsv_length _ _ _ _ _ _ _ _ _ _ _) _) ?_)
      | (guard_target = wpList _ _ _ (Oper.mk _ (Op.box 70 _) _ _ _ _ :: _) _ _; refine wpList_box_v rfl 70 _ rfl (.pointer (some ⟨g, 0, none⟩) :: .pointer none :: fsv [x0, x1, x2, x3, x4] 0 0 0 0 (.slice none 0 0) (.slice none 0 0)) (by rfl) ?_; intro bw w5 hbw BW K5; have c0 := BW.cell 0; simp only [List.getElem?_cons_zero] at c0; have f0 := BW.frozen 0))
    have hwo := wopen_calls (w := w5) (F := Fresh w2 w3) (G := Fresh w3 w4) (bw := bw) (g := g) (rv := .pointer none) (vl := vl) (vr := .slice none 0 0) (D := DS.of (padI im N)) (tail := [.int .i64 0, .int .i64 0, .int .i64 0, .int .i64 0, .slice none 0 0, .slice none 0 0]) ((hD3.keep K4 (Dj.noth _)).keep K5 (Dj.noth _)) (hS4.keep K5 (Dj.noth _)) (by rw [hSV]; exact BW) rfl (of_ok _) (by show (0 : Nat) ≤ _; omega) rfl (by rw [of_len, HN.out, ofN_pad Hcn.out.1 Hcn.out.2]; exact Hcn.out.1) (fun e => by have := e.2; omega) (fun e => by have := e.2; omega)
    have hs5 := K5.size
    have HK5 := hid (((HK02.out.trans K3 (fun _ _ h => h)).trans K4 (fun _ _ h => h)).trans K5 (fun _ _ h => h))
    have hbl := BW.lt
    clear hD3 hS4 K3 K4 K5 BW hSV hx0 c0 f0 hone
    refine hwo.mono ?_
    rintro e w6 ⟨rfl, F', G', r, A', c', hF', hG', hdj, hR, hS, hL, hnc, hB, hK⟩
    have HFIN := hid (show _ ∧ _ ∧ _ ∧ _ ∧ _ ∧ _ ∧ _ ∧ _ ∧ _ from ⟨hF', hG', hdj, hR, hS, hL, hnc, hB, hK⟩)
    clear hwo hF' hG' hdj hR hS hL hnc hB hK
    go_wp2_with fail
    go_ret
    obtain ⟨hF', hG', hdj, hR, hS, hL, hnc, hB, hK⟩ := HFIN.out
    have hs6 := hK.size
    have hlw : w.heap.size ≤ w2.heap.size := hs2
    have hF2 : ∀ q, F' q → w2.heap.size ≤ q := fun q hq => (hF' q hq).elim (fun e => e.1) (fun e => by have := e.1; omega)
    refine ⟨bw, g, r, F', (fun q => q < w.heap.size ∨ Fresh w3 w4 q ∨ G' q), rfl, hR, ⟨vl, .slice none 0 0, A', c', none, 0, ?_, ?_, ?_, hnc, fun _ => rfl, ?_⟩, ?_, ?_, ?_, ?_, by omega, ?_, fun q hq => .inl hq, HK5.out.own hK (fun q e => by unfold Only at e; subst e; omega)⟩
    · rw [openS_D]; exact hS.mono (fun q hq => .inr (.inl hq))
    · exact hL.mono (fun q hq => .inr (.inr hq))
    · rw [openS_st]; exact ⟨⟨[], rfl, Reads.nil _ _, fun i v b e => by simp at e⟩, fun h => absurd rfl h⟩
    · rw [openS_D, openS_st]
      exact hB
    · exact fun q hq => by have := hF2 q hq; omega
    · intro q a b
      rcases a with a | a | a
      · have := hF2 q b; omega
      · rcases hF' q b with e | e
        · have h1 := a.1; have h2 := e.2; omega
        · have h1 := a.2; have h2 := e.1; omega
      · exact hdj q a b
    · intro e
      rcases hF' bw e with e | e
      · have := e.2; omega
      · have := e.1; omega
    · intro e
      rcases e with e | e | e
      · omega
      · have := e.2; omega
      · have := (hG' bw e).1; omega
    · intro q a
      rcases a with a | a | a
      · omega
      · have := a.2; omega
      · exact (hG' q a).2
  · by_cases h5 : 40 < count
    · have hk4 : k = 40 := by omega
      have h2 : ((40 : Int) < count) := by omega
      clear hk hNe h1
      have HN := hid hN
      have Hk4 := hid hk4
      have Hcn := hid hcn
      clear hN hk4 hcn
      go_enter Try.func38, Try.ntmps38
      go_wp2_with (first
        | (guard_target = wpList _ _ _ (Oper.mk _ (Op.makeSlice _ _ _) _ _ _ _ :: _) _ _; refine wpList_make_bytes' (by rfl) _ _ rfl N _ _ (by rfl) (by rfl) (by have := HN.out; have := Hk4.out; omega) (by have := HN.out; have := Hk4.out; omega) (by have := HN.out; have := Hcn.out; omega) ?_; intro b5 w1 hb5 B5 K1)
        | (guard_target = wpList _ _ _ (Oper.mk _ (Op.call _) _ _ _ _ :: _) _ _; refine wpList_copy_bytes rfl _ _ 33 33 rfl sl33 size5 _ b5 N N _ B5 0 N N A im.length c (by rfl) (by rfl) (im.take N) (by rw [List.length_take]; exact Nat.min_comm _ _) (by have h := (HA.out.keep K1 (fun _ _ => id)).take N; rwa [bv_take] at h) (by rw [List.length_take, List.length_replicate]; omega) ?_; intro w2 B6 K2))
      have K02 : Keep Noth w w2 := K1.own K2 (fun q e => by unfold Only at e; subst e; exact hb5)
      have hpd : Reads w2 (some ⟨b5, 0, none⟩) (bv (padI im N)) := Bytes.same_as B6
      have hdo := of_calls0 w2 (some ⟨b5, 0, none⟩) N (padI im N) hpd (by rw [padI_length]; have := HN.out; have := Hcn.out; omega) (by rw [padI_length]; exact Nat.le_refl _)
      rw [padI_length] at hdo
      have Hpd := hid hpd
      have HK02 := hid K02
      clear B5 B6 K1 K2 K02 hpd hb5
      refine hdo.mono ?_
      rintro e w3 ⟨g, rfl, hD3, K3⟩
      have hso := st_of w3 (some ⟨b5, 0, none⟩) N (padI im N) (Hpd.out.keep K3 (fun _ _ => id)) (by rw [padI_length]; have := HN.out; have := Hcn.out; omega)
      rw [padI_length] at hso
      clear hdo
      go_wp2_with fail
      refine hso.mono ?_
      rintro e w4 ⟨vl, rfl, hS4, K4⟩
      clear hso
      have hone := hS4.l.one_val.1
      obtain ⟨x0, x1, x2, x3, x4, hSV, hx0⟩ : ∃ x0 x1 x2 x3 x4, stv vl (.slice none 0 0) (DS.of (padI im N)) = [x0, x1, x2, x3, x4] ∧ ∀ u ∈ [x0, x1, x2, x3, x4], u.oneCell' = true := ⟨vl, _, _, _, _, rfl, by
        intro u hu
        simp only [List.mem_cons, List.not_mem_nil, or_false] at hu
        rcases hu with rfl | rfl | rfl | rfl | rfl <;> first | exact hone | rfl⟩
      rw [hSV]
      have hs4 := K4.size
      have hs3 := K3.size
      have hs2 := HK02.out.size
      go_wp2_with (first
        | (guard_target = wpList _ _ _ (Oper.mk _ (Op.build 68 _) _ _ _ _ :: _) _ _; refine wpList_run rfl _ _ (build68a x0 x1 x2 x3 x4 _) ?_)
        | (guard_target = wpList _ _ _ (Oper.mk _ (Op.build 70 _) _ _ _ _ :: _) _ _; refine wpList_run rfl _ _ (build70 _ _ (fsv_length _ _ _ _ _ _ _ _ _ _ _) _) ?_)
        | (guard_target = wpList _ _ _ (Oper.mk _ (Op.box 70 _) _ _ _ _ :: _) _ _; refine wpList_box_v rfl 70 _ rfl (.pointer (some ⟨g, 0, none⟩) :: .pointer none :: fsv [x0, x1, x2, x3, x4] 0 0 0 0 (.slice none 0 0) (.slice none 0 0)) (by rfl) ?_; intro bw w5 hbw BW K5; have c0 := BW.cell 0; simp only [List.getElem?_cons_zero] at c0; have f0 := BW.frozen 0))
      have hwo := wopen_calls (w := w5) (F := Fresh w2 w3) (G := Fresh w3 w4) (bw := bw) (g := g) (rv := .pointer none) (vl := vl) (vr := .slice none 0 0) (D := DS.of (padI im N)) (tail := [.int .i64 0, .int .i64 0, .int .i64 0, .int .i64 0, .slice none 0 0, .slice none 0 0]) ((hD3.keep K4 (Dj.noth _)).keep K5 (Dj.noth _)) (hS4.keep K5 (Dj.noth _)) (by rw [hSV]; exact BW) rfl (of_ok _) (by show (0 : Nat) ≤ _; omega) rfl (by rw [of_len, HN.out, ofN_pad Hcn.out.1 Hcn.out.2]; exact Hcn.out.1) (fun e => by have := e.2; omega) (fun e => by have := e.2; omega)
      have hs5 := K5.size
      have HK5 := hid (((HK02.out.trans K3 (fun _ _ h => h)).trans K4 (fun _ _ h => h)).trans K5 (fun _ _ h => h))
      have hbl := BW.lt
      clear hD3 hS4 K3 K4 K5 BW hSV hx0 c0 f0 hone
      refine hwo.mono ?_
      rintro e w6 ⟨rfl, F', G', r, A', c', hF', hG', hdj, hR, hS, hL, hnc, hB, hK⟩
      have HFIN := hid (show _ ∧ _ ∧ _ ∧ _ ∧ _ ∧ _ ∧ _ ∧ _ ∧ _ from ⟨hF', hG', hdj, hR, hS, hL, hnc, hB, hK⟩)
      clear hwo hF' hG' hdj hR hS hL hnc hB hK
      go_wp2_with fail
      go_ret
      obtain ⟨hF', hG', hdj, hR, hS, hL, hnc, hB, hK⟩ := HFIN.out
      have hs6 := hK.size
      have hlw : w.heap.size ≤ w2.heap.size := hs2
      have hF2 : ∀ q, F' q → w2.heap.size ≤ q := fun q hq => (hF' q hq).elim (fun e => e.1) (fun e => by have := e.1; omega)
      refine ⟨bw, g, r, F', (fun q => q < w.heap.size ∨ Fresh w3 w4 q ∨ G' q), rfl, hR, ⟨vl, .slice none 0 0, A', c', none, 0, ?_, ?_, ?_, hnc, fun _ => rfl, ?_⟩, ?_, ?_, ?_, ?_, by omega, ?_, fun q hq => .inl hq, HK5.out.own hK (fun q e => by unfold Only at e; subst e; omega)⟩
      · rw [openS_D]; exact hS.mono (fun q hq => .inr (.inl hq))
      · exact hL.mono (fun q hq => .inr (.inr hq))
      · rw [openS_st]; exact ⟨⟨[], rfl, Reads.nil _ _, fun i v b e => by simp at e⟩, fun h => absurd rfl h⟩
      · rw [openS_D, openS_st]
        exact hB
      · exact fun q hq => by have := hF2 q hq; omega
      · intro q a b
        rcases a with a | a | a
        · have := hF2 q b; omega
        · rcases hF' q b with e | e
          · have h1 := a.1; have h2 := e.2; omega
          · have h1 := a.2; have h2 := e.1; omega
        · exact hdj q a b
      · intro e
        rcases hF' bw e with e | e
        · have := e.2; omega
        · have := e.1; omega
      · intro e
        rcases e with e | e | e
        · omega
        · have := e.2; omega
        · have := (hG' bw e).1; omega
      · intro q a
        rcases a with a | a | a
        · omega
        · have := a.2; omega
        · exact (hG' q a).2
    · have hk4 : (k : Int) = count := by omega
      have h2 : ¬ ((40 : Int) < count) := by omega
      have h3 : (count : Int) ≤ 40 := by omega
      have h4 : ¬ ((4 : Int) > count) := by omega
      have h6 : (4 : Int) ≤ count := by omega
      clear hk hNe h1 h5
      have HN := hid hN
      have Hk4 := hid hk4
      have Hcn := hid hcn
      clear hN hk4 hcn
      go_enter Try.func38, Try.ntmps38
      go_wp2_with (first
        | (guard_target = wpList _ _ _ (Oper.mk _ (Op.makeSlice _ _ _) _ _ _ _ :: _) _ _; refine wpList_make_bytes' (by rfl) _ _ rfl N _ _ (by rfl) (by rfl) (by have := HN.out; have := Hk4.out; omega) (by have := HN.out; have := Hk4.out; omega) (by have := HN.out; have := Hcn.out; omega) ?_; intro b5 w1 hb5 B5 K1)
        | (guard_target = wpList _ _ _ (Oper.mk _ (Op.call _) _ _ _ _ :: _) _ _; refine wpList_copy_bytes rfl _ _ 33 33 rfl sl33 size5 _ b5 N N _ B5 0 N N A im.length c (by rfl) (by rfl) (im.take N) (by rw [List.length_take]; exact Nat.min_comm _ _) (by have h := (HA.out.keep K1 (fun _ _ => id)).take N; rwa [bv_take] at h) (by rw [List.length_take, List.length_replicate]; omega) ?_; intro w2 B6 K2))
      have K02 : Keep Noth w w2 := K1.own K2 (fun q e => by unfold Only at e; subst e; exact hb5)
      have hpd : Reads w2 (some ⟨b5, 0, none⟩) (bv (padI im N)) := Bytes.same_as B6
      have hdo := of_calls0 w2 (some ⟨b5, 0, none⟩) N (padI im N) hpd (by rw [padI_length]; have := HN.out; have := Hcn.out; omega) (by rw [padI_length]; exact Nat.le_refl _)
      rw [padI_length] at hdo
      have Hpd := hid hpd
      have HK02 := hid K02
      clear B5 B6 K1 K2 K02 hpd hb5
      refine hdo.mono ?_
      rintro e w3 ⟨g, rfl, hD3, K3⟩
      have hso := st_of w3 (some ⟨b5, 0, none⟩) N (padI im N) (Hpd.out.keep K3 (fun _ _ => id)) (by rw [padI_length]; have := HN.out; have := Hcn.out; omega)
      rw [padI_length] at hso
      clear hdo
      go_wp2_with fail
      refine hso.mono ?_
      rintro e w4 ⟨vl, rfl, hS4, K4⟩
      clear hso
      have hone := hS4.l.one_val.1
      obtain ⟨x0, x1, x2, x3, x4, hSV, hx0⟩ : ∃ x0 x1 x2 x3 x4, stv vl (.slice none 0 0) (DS.of (padI im N)) = [x0, x1, x2, x3, x4] ∧ ∀ u ∈ [x0, x1, x2, x3, x4], u.oneCell' = true := ⟨vl, _, _, _, _, rfl, by
        intro u hu
        simp only [List.mem_cons, List.not_mem_nil, or_false] at hu
        rcases hu with rfl | rfl | rfl | rfl | rfl <;> first | exact hone | rfl⟩
      rw [hSV]
      have hs4 := K4.size
      have hs3 := K3.size
      have hs2 := HK02.out.size
      go_wp2_with (first
        | (guard_target = wpList _ _ _ (Oper.mk _ (Op.build 68 _) _ _ _ _ :: _) _ _; refine wpList_run rfl _ _ (build68a x0 x1 x2 x3 x4 _) ?_)
        | (guard_target = wpList _ _ _ (Oper.mk _ (Op.build 70 _) _ _ _ _ :: _) _ _; refine wpList_run rfl _ _ (build70 _ _ (fsv_length _ _ _ _ _ _ _ _ _ _ _) _) ?_)
        | (guard_target = wpList _ _ _ (Oper.mk _ (Op.box 70 _) _ _ _ _ :: _) _ _; refine wpList_box_v rfl 70 _ rfl (.pointer (some ⟨g, 0, none⟩) :: .pointer none :: fsv [x0, x1, x2, x3, x4] 0 0 0 0 (.slice none 0 0) (.slice none 0 0)) (by rfl) ?_; intro bw w5 hbw BW K5; have c0 := BW.cell 0; simp only [List.getElem?_cons_zero] at c0; have f0 := BW.frozen 0))
      have hwo := wopen_calls (w := w5) (F := Fresh w2 w3) (G := Fresh w3 w4) (bw := bw) (g := g) (rv := .pointer none) (vl := vl) (vr := .slice none 0 0) (D := DS.of (padI im N)) (tail := [.int .i64 0, .int .i64 0, .int .i64 0, .int .i64 0, .slice none 0 0, .slice none 0 0]) ((hD3.keep K4 (Dj.noth _)).keep K5 (Dj.noth _)) (hS4.keep K5 (Dj.noth _)) (by rw [hSV]; exact BW) rfl (of_ok _) (by show (0 : Nat) ≤ _; omega) rfl (by rw [of_len, HN.out, ofN_pad Hcn.out.1 Hcn.out.2]; exact Hcn.out.1) (fun e => by have := e.2; omega) (fun e => by have := e.2; omega)
      have hs5 := K5.size
      have HK5 := hid (((HK02.out.trans K3 (fun _ _ h => h)).trans K4 (fun _ _ h => h)).trans K5 (fun _ _ h => h))
      have hbl := BW.lt
      clear hD3 hS4 K3 K4 K5 BW hSV hx0 c0 f0 hone
      refine hwo.mono ?_
      rintro e w6 ⟨rfl, F', G', r, A', c', hF', hG', hdj, hR, hS, hL, hnc, hB, hK⟩
      have HFIN := hid (show _ ∧ _ ∧ _ ∧ _ ∧ _ ∧ _ ∧ _ ∧ _ ∧ _ from ⟨hF', hG', hdj, hR, hS, hL, hnc, hB, hK⟩)
      clear hwo hF' hG' hdj hR hS hL hnc hB hK
      go_wp2_with fail
      go_ret
      obtain ⟨hF', hG', hdj, hR, hS, hL, hnc, hB, hK⟩ := HFIN.out
      have hs6 := hK.size
      have hlw : w.heap.size ≤ w2.heap.size := hs2
      have hF2 : ∀ q, F' q → w2.heap.size ≤ q := fun q hq => (hF' q hq).elim (fun e => e.1) (fun e => by have := e.1; omega)
      refine ⟨bw, g, r, F', (fun q => q < w.heap.size ∨ Fresh w3 w4 q ∨ G' q), rfl, hR, ⟨vl, .slice none 0 0, A', c', none, 0, ?_, ?_, ?_, hnc, fun _ => rfl, ?_⟩, ?_, ?_, ?_, ?_, by omega, ?_, fun q hq => .inl hq, HK5.out.own hK (fun q e => by unfold Only at e; subst e; omega)⟩
      · rw [openS_D]; exact hS.mono (fun q hq => .inr (.inl hq))
      · exact hL.mono (fun q hq => .inr (.inr hq))
      · rw [openS_st]; exact ⟨⟨[], rfl, Reads.nil _ _, fun i v b e => by simp at e⟩, fun h => absurd rfl h⟩
      · rw [openS_D, openS_st]
        exact hB
      · exact fun q hq => by have := hF2 q hq; omega
      · intro q a b
        rcases a with a | a | a
        · have := hF2 q b; omega
        · rcases hF' q b with e | e
          · have h1 := a.1; have h2 := e.2; omega
          · have h1 := a.2; have h2 := e.1; omega
        · exact hdj q a b
      · intro e
        rcases hF' bw e with e | e
        · have := e.2; omega
        · have := e.1; omega
      · intro e
        rcases e with e | e | e
        · omega
        · have := e.2; omega
        · have := (hG' bw e).1; omega
      · intro q a
        rcases a with a | a | a
        · omega
        · have := a.2; omega
        · exact (hG' q a).2
end Go.Proofs.Ytffcglfepobdjaa
/- the reference of the roll: Room (f49). -/
set_option linter.unusedVariables false
set_option linter.unusedSimpArgs false
set_option maxRecDepth 100000
set_option maxHeartbeats 2000000
namespace Go.Proofs.Ytffcglfepobdjaa
open Go.RowKit


theorem wrapII {n : Int} (h0 : -9223372036854775808 ≤ n) (h1 : n ≤ 9223372036854775807) : IntKind.i64.wrap n = n := by
  rw [IntKind.wrap_i64]; omega
/-- Parts of the document's state. -/
theorem fsv_dev (SV : List Value) (h : SV.length = 5) (m n p q : Int) (vL vS : Value) : ∀ j v, SV[j]? = some v → (fsv SV m n p q vL vS)[0 + j]? = some v := by
  intro j v hj
  rw [Nat.zero_add]
  unfold fsv
  rw [List.getElem?_append_left (List.getElem?_eq_some_iff.1 hj).1]
  exact hj
theorem refRoom_calls {w : World} {F G : Nat → Prop} {vl vr vL : Value} {D : DS} (H : StAt w F vl vr D) (hok : D.ok) (seq slot : Int) (area used : Nat) (B : Option Addr) (b : Nat) (st : List (List UInt8)) (hS : ReadsL w G B st) (h4 : ∀ x ∈ st, x.length ≤ 4000) (hl : st.length ≤ 1048576) (hm : moreL st ≤ 1099511627776) (hu : used ≤ 1099511627776) :
    Calls Try.prog 49 #[.agg (fsv (stv vl vr D) seq slot (area : Int) (used : Int) vL (.slice B st.length b)).toArray] w (fun e w' => e = .returned (.int .i64 ((D.half : Int) - used - moreL st)) ∧ Keep Noth w w') := by
  have hhf := fun W (hW : Keep Noth w W) => refHalf_calls (H.keep hW (Dj.noth _)) hok.most
  have hmo := fun W (hW : Keep Noth w W) => more_calls W G B b st (hS.keep hW (Dj.noth _)) (by omega) (fun x hx => by have := h4 x hx; omega) hm
  have hhl := half_le hok
  obtain ⟨SV, hSV⟩ : ∃ SV, SV = stv vl vr D := ⟨_, rfl⟩
  have hSl : SV.length = 5 := by rw [hSV]; rfl
  rw [← hSV] at hhf ⊢
  obtain ⟨x0, x1, x2, x3, x4, rfl⟩ : ∃ x0 x1 x2 x3 x4, SV = [x0, x1, x2, x3, x4] := ⟨_, _, _, _, _, hSV⟩
  have Hhf := hid hhf
  have Hmo := hid hmo
  clear hhf hmo H hS h4 hok hSV hSl
  go_enter Try.func49, Try.ntmps49
  go_wp2_with (first
    | (guard_target = wpList _ _ _ (Oper.mk _ (Op.box 68 _) _ _ _ _ :: _) _ _; refine wpList_box_v rfl 68 _ rfl (fsv [x0, x1, x2, x3, x4] seq slot (area : Int) (used : Int) vL (.slice B st.length b)) (by rfl) ?_; intro b1 w1 hb1 B1 K1))
  refine wp_region_ordL [(0, true), (1, true), (3, true), (4, true), (6, true), (7, true), (2, false), (5, true), (8, false), (9, true), (10, false)] (fun W => BlockIs W b1 (fsv [x0, x1, x2, x3, x4] seq slot (area : Int) (used : Int) vL (.slice B st.length b)) 68) follows_mixed (by kernel_rfl) B1.drew ?_
  simp only [List.map_cons, List.map_nil, List.getElem?_cons_succ, List.getElem?_cons_zero, Option.getD_some]
  refine wpO_pure (v := .pointer (some ⟨b1, 0, none⟩)) (by rfl) (fun w' hw' => by go_simp) ?_
  go_frame
  refine wpO_pure (v := .agg [x0, x1, x2, x3, x4].toArray) (by rfl) (fun w' hw' => by exact exec_load_blk 30 _ rfl b1 0 _ [x0, x1, x2, x3, x4] 68 _ (by rfl) hw' (fsv_dev _ rfl _ _ _ _ _ _) Try.underlying30 rfl info30) ?_
  go_frame
  refine wpO_pure (v := .pointer (some ⟨b1, 8, none⟩)) (by rfl) (fun w' hw' => by go_simp) ?_
  go_frame
  refine wpO_pure (v := .int .i64 (used : Int)) (by rfl) (fun w' hw' => by have hc : w'.cell? ⟨b1, 8, none⟩ = some (.int .i64 (used : Int)) := hw'.cell 8; go_simp) ?_
  go_frame
  refine wpO_pure (v := .pointer (some ⟨b1, 10, none⟩)) (by rfl) (fun w' hw' => by go_simp) ?_
  go_frame
  refine wpO_pure (v := .slice B st.length b) (by rfl) (fun w' hw' => by have hc : w'.cell? ⟨b1, 10, none⟩ = some (.slice B st.length b) := hw'.cell 10; go_simp) ?_
  go_frame
  refine wpO_call (by rfl) (exec_call' 78 _ _ rfl Try.func78 (by kernel_rfl) (by rfl) #[.agg [x0, x1, x2, x3, x4].toArray] (by simp [Act.eval])) ?_
  refine (Hhf.out _ K1.drew).mono ?_
  rintro e w2 ⟨rfl, K2⟩
  refine ⟨_, rfl, .inr (B1.drew.keep K2 id), ?_⟩
  go_frame
  refine wpO_pure (v := .int .i64 ((D.half : Int) - used)) (by rfl) (fun w' hw' => by go_simp; exact wrapII (by omega) (by omega)) ?_
  go_frame
  have K02 : Keep Noth w w2 := K1.drew.trans K2 (fun _ _ h => h)
  refine wpO_call (by rfl) (exec_call' 83 _ _ rfl Try.func83 (by kernel_rfl) (by rfl) #[.slice B st.length b] (by simp [Act.eval])) ?_
  refine (Hmo.out _ K02).mono ?_
  rintro e w' ⟨rfl, rfl⟩
  refine ⟨_, rfl, .inr (B1.drew.keep K2 id), ?_⟩
  go_frame
  refine wpO_pure (v := .int .i64 ((D.half : Int) - used - moreL st)) (by rfl) (fun w' hw' => by go_simp; exact wrapII (by omega) (by omega)) ?_
  go_frame
  refine wpO_run (v := .int .i64 ((D.half : Int) - used - moreL st)) (w1 := w2) (by rfl) (by go_simp) (.inl rfl) (wpO_nil ?_)
  go_frame
  clear B1 K1 K2
  go_wp2_with fail
  go_ret
  exact ⟨rfl, K02⟩
end Go.Proofs.Ytffcglfepobdjaa
/- The frame of the twelve rows: what is handed in reads as before where old memory is as it was; how bytes are opened. -/
set_option linter.unusedVariables false
set_option linter.unusedSimpArgs false
set_option maxRecDepth 100000
namespace Go.Proofs.Ytffcglfepobdjaa
open Go.ChangeShapes Go.WideShapes Go.ChangeAt Go.RowKit

theorem own_knob : ownKnob Try.prog.godebug = none := by kernel_rfl
theorem laid_out : laidOutB Try.prog = true := by kernel_rfl
theorem under4 : Try.prog.underlying 4 = some .bool := Try.underlying4
theorem under33 : Try.prog.underlying 33 = some (.slice 5) := Try.underlying33
theorem under5 : Try.prog.underlying 5 = some (.int .u8) := Try.underlying5
theorem cells5 : Try.prog.cellsOf 5 = 1 := by kernel_rfl

section
variable {H : Type} {enc : TypeId × Value → H} {P : Program}

theorem args_stay (hl0 : laidOutB P = true) {W W' : World} (hk : Below W.heap.size W W') {sp : Nat → Bool} : ∀ {ts : List TypeId} {vs : List Value} {ds : List (DataW H)} {ps : List MemPlace}, (∀ t ∈ ts, P.readableRec t = true ∧ t < P.types.size) →
    DataW.TrodAll enc P W 0 (fun _ => true) true ts vs ds ps → (∀ x ∈ ps, x.block < W.heap.size) → (∀ x ∈ ps, sp x.block = true) → DataW.TrodAll enc P W' 0 sp true ts vs ds ps := by
  intro ts
  induction ts with
  | nil =>
    intro vs ds ps _ h _ _
    obtain ⟨rfl, rfl, rfl⟩ := trodAll_nil h
    exact trodAll_mk0
  | cons t ts ih =>
    intro vs ds ps hr h hl hs
    obtain ⟨v, vs1, d, ds1, a, b, rfl, rfl, rfl, h1, h2⟩ := trodAll_cons h
    have h3 := ih (fun t ht => hr t (List.mem_cons_of_mem _ ht)) h2 (fun x hx => hl x (List.mem_append_right _ hx)) (fun x hx => hs x (List.mem_append_right _ hx))
    have h4 := WideElems.Trod_stays hl0 (hr t List.mem_cons_self).1 (hr t List.mem_cons_self).2 h1 (fun x hx => hk.same (hl x (List.mem_append_left _ hx))) (fun x hx => hs x (List.mem_append_left _ hx))
    exact trodAll_cons_mk h4 h3
end

section
variable {H : Type} {enc : TypeId × Value → H}

/-- The law's end: it returns true, and old memory is as it was. -/
theorem law_post {f : Func} {s : ChangeSpec} {W W' : World} {args : Array Value} {ds gs : List (DataW H)} {before : List MemPlace}
    (hW : DataW.Whole enc Try.prog f.params.toList s.vars false W args.toList ds gs before) (hf : f.resultTypes = #[4]) (hv : s.vars = []) (hr : ∀ t ∈ f.params.toList, Try.prog.readableRec t = true ∧ t < Try.prog.types.size)
    (hres : (s.fn H (ds ++ gs)).results = [.lit (.bool true)]) (hargs : (s.fn H (ds ++ gs)).args = ds) (hvars : (s.fn H (ds ++ gs)).vars = []) (hk : Keep Noth W W') :
    s.post enc Try.prog f false true false false W args (.bool true) W' := by
  have hlt := hW.lt
  have hb := hk.below
  have hW0 := hW
  obtain ⟨p, q, hA, hV, rfl, hz, -⟩ := hW
  rw [hv] at hV
  obtain ⟨rfl, rfl⟩ := trodVars_none hV
  have hstay : ∀ sp : Nat → Bool, (∀ x ∈ p, sp x.block = true) → DataW.TrodAll enc Try.prog W' 0 sp true f.params.toList args.toList (s.fn H (ds ++ [])).args p := fun sp hs => by
    rw [hargs]; exact args_stay laid_out hb hr hA (fun x hx => hlt x (by simp [hx])) hs
  have hresult : ∀ (b : Nat) (sp : Nat → Bool) (hd : Bool), DataW.TrodAll enc Try.prog W' b sp hd f.resultTypes.toList ((Value.bool true).resultList f.resultTypes.size) (s.fn H (ds ++ [])).results [] := fun b sp hd => by
    rw [hres, hf]
    exact trodAll_cons_mk (shut_bool under4 _) trodAll_mk0
  have hV' : ∀ sp : Nat → Bool, DataW.TrodVars enc Try.prog W' sp s.vars (s.fn H (ds ++ [])).vars [] := fun sp => by
    rw [hv, hvars]; rfl
  refine ⟨ds, [], _, [], p, [], hW0, hresult _ _ _, hstay _ (fun x hx => by simpa using hlt x (by simp [hx])), hV' _, hb.frame _, fun _ => ⟨ok_one hf rfl (okWide_bool_mk under4 _), _, _, ([] ++ p) ++ [], ⟨[] ++ p, [], trodAll_append (hstay _ (fun _ _ => rfl)) (hresult _ _ _), hV' _, rfl, ?_, fun h => by cases h⟩, fun x hx _ => by simpa using hx⟩⟩
  intro b off hp
  have hp' : MemPlace.cell b off ∈ p := by simpa using hp
  rw [hb.frozen (p := ⟨b, off, none⟩) (hlt (.cell b off) (by simp [hp']))]
  exact hz b off (by simp [hp'])

/-- A slice of bytes, opened. -/
theorem open_bytes {W : World} {base : Nat} {t : TypeId} {v : Value} {d : DataW H} {ps : List MemPlace} (hu : Try.prog.underlying t = some (.slice 5)) (hval : Value.okWide Try.prog W .any base t v)
    (h : DataW.Trod enc Try.prog W 0 (fun _ => true) true t v d ps) :
    ∃ A c b, v = .slice A (b : List UInt8).length c ∧ Reads W A (bv b) ∧ (A = none → c = 0) ∧ b.length ≤ c ∧ c ≤ maxLen := by
  obtain ⟨n, hn⟩ := h
  obtain ⟨a0, len, cap, rfl⟩ := okWide_slice hu hval
  rcases open_ints hu under5 cells5 hn with ⟨hcs, -⟩ | ⟨a, len', cap', zs, hcs, _, hl, hm, hz, -, hcell, hwz⟩
  · simp [Value.cells] at hcs
    obtain ⟨rfl, rfl, rfl⟩ := hcs
    exact ⟨none, 0, [], rfl, Reads.nil _ _, fun _ => rfl, Nat.le_refl _, Nat.zero_le _⟩
  · simp [Value.cells] at hcs
    obtain ⟨rfl, rfl, rfl⟩ := hcs
    simp only [if_true] at hz
    have hw : ∀ z ∈ zs, 0 ≤ z ∧ z ≤ 255 := fun z hz' => by
      have := hwz z hz'
      simpa [Lit.wf, IntKind.min, IntKind.max, IntKind.signed, IntKind.bits] using this
    refine ⟨some a, cap, (zs.take len).map (fun z => UInt8.ofNat z.toNat), by simp [List.length_map]; omega, ?_, (fun h => by cases h), by simp; omega, hm⟩
    intro j u hu'
    simp only [bv, List.map_map, List.getElem?_map, Option.map_eq_some_iff] at hu'
    obtain ⟨z, hz', rfl⟩ := hu'
    refine ⟨a, rfl, ?_⟩
    rw [List.getElem?_take] at hz'
    split at hz'
    · have hj : j < zs.length := (List.getElem?_eq_some_iff.1 hz').1
      have hzz : zs[j] = z := (List.getElem?_eq_some_iff.1 hz').2
      rw [hcell j hj]
      have h1 := hw z (by rw [← hzz]; exact List.getElem_mem hj)
      have : zs.getD j 0 = z := by rw [List.getD, hz']; rfl
      rw [this]
      simp only [Function.comp, u8, Option.some.injEq, Value.int.injEq, true_and]
      show z = ((UInt8.ofNat z.toNat).toNat : Int)
      rw [UInt8.toNat_ofNat']
      omega
    · cases hz'
end
end Go.Proofs.Ytffcglfepobdjaa
