/- What the blocks, the rolls and the document's rolls do, step by step and as plain data: texts V6 U7 W4h E2 W2; no conditions beside those that each theorem states. -/
import Derived.Test.YtffcglfepobdjaaX5
set_option linter.unusedVariables false
set_option linter.unusedSimpArgs false
set_option maxRecDepth 10000
set_option maxHeartbeats 1500000
namespace Go.Proofs.Ytffcglfepobdjaa
open Go.RowKit
theorem does_calm {S : RS} (h : S.inv) (hc : Calm S.D) (x : ROpC) : (S.does x).inv ∧ Calm (S.does x).D := by
 unfold RS.does
 split
 ·have k := append_calm hc x.b
  exact ⟨(append_after h hc.down x.b).1 k.down, k⟩
 ·split
  ·have k := stage_calm hc x.b
   exact ⟨(stage_after h hc.down x.b []).1 k.down, k⟩
  ·split
   ·have k := seal_calm hc
    exact ⟨(seal_after h hc.down).1 k.down, k⟩
   ·split
    ·have k := reset_calm hc x.l
     exact ⟨(reset_after h hc.down x.l).1 k.down, k⟩
    ·split
     ·rw [h.again]
      exact ⟨h.opened, hc⟩
     ·exact ⟨h, hc⟩
theorem does_grow {S : RS} (h : S.D.ok) (x : ROpC) : (S.does x).D.ops ≤ S.D.ops + 2100 ∧ (S.does x).D.row.length ≤ S.D.row.length + 2100 := by
 unfold RS.does
 split
 ·have k := append_grow S x.b
  exact ⟨by omega, by omega⟩
 ·split
  ·have k := stage_grow (S := S) x.b
   exact ⟨by omega, by omega⟩
  ·split
   ·have k := seal_grow S
    exact ⟨by omega, by omega⟩
   ·split
    ·have k := reset_grow h x.l
     exact ⟨by omega, by omega⟩
    ·split
     ·rw [openS_D]
      exact ⟨by omega, by omega⟩
     ·exact ⟨by omega, by omega⟩
/-- What a call may make of the records in which the device goes down. -/
def RS.turnedTo (S : RS) (x : ROpC) : List (List UInt8) :=
 if x.kind = 0 then S.l ++ S.st ++ [x.b] else if x.kind = 3 then x.l else S.l ++ S.st
theorem does_after {S : RS} (h : S.inv) (hd : S.D.down = false) (x : ROpC) (hk : x.kind = 0 ∨ x.kind = 1 ∨ x.kind = 2 ∨ x.kind = 3) : (S.does x).after S.l (S.turnedTo x) := by
 unfold RS.does RS.turnedTo
 rcases hk with e | e | e | e
 ·rw [if_pos e, if_pos e]; exact append_after h hd x.b
 ·rw [if_neg (by omega), if_pos e, if_neg (by omega), if_neg (by omega)]; exact stage_after h hd x.b _
 ·rw [if_neg (by omega), if_neg (by omega), if_pos e, if_neg (by omega), if_neg (by omega)]; exact seal_after h hd
 ·rw [if_neg (by omega), if_neg (by omega), if_neg (by omega), if_pos e, if_neg (by omega), if_pos e]; exact reset_after h hd x.l
theorem does_un {S : RS} (hs : S.inv) (hd : S.D.down = false) (x : ROpC) (hk : x.kind = 0 ∨ x.kind = 1 ∨ x.kind = 2 ∨ x.kind = 3) (h : (S.does x).D.down = false) : S.un.does x = (S.does x).un := by
 unfold RS.does at h ⊢
 rcases hk with e | e | e | e
 ·rw [if_pos e] at h
  rw [if_pos e, if_pos e, append_un hs hd h]
 ·rw [if_neg (by omega), if_pos e] at h
  rw [if_neg (by omega), if_pos e, if_neg (by omega), if_pos e, stage_un h]
 ·rw [if_neg (by omega), if_neg (by omega), if_pos e] at h
  rw [if_neg (by omega), if_neg (by omega), if_pos e, if_neg (by omega), if_neg (by omega), if_pos e, seal_un h]
 ·rw [if_neg (by omega), if_neg (by omega), if_neg (by omega), if_pos e] at h
  rw [if_neg (by omega), if_neg (by omega), if_neg (by omega), if_pos e, if_neg (by omega), if_neg (by omega), if_neg (by omega), if_pos e, reset_un hd h]
theorem does_good {S : RS} (h : S.good) (x : ROpC) (hk : x.kind = 0 ∨ x.kind = 1 ∨ x.kind = 2 ∨ x.kind = 3) : (S.does x).good := by
 unfold RS.does
 rcases hk with e | e | e | e
 ·rw [if_pos e]; exact append_good h x.b
 ·rw [if_neg (by omega), if_pos e]; exact stage_good h x.b
 ·rw [if_neg (by omega), if_neg (by omega), if_pos e]; exact seal_good h
 ·rw [if_neg (by omega), if_neg (by omega), if_neg (by omega), if_pos e]; exact reset_good h x.l
theorem un_good {S : RS} (h : S.inv) (hd : S.D.down = false) : S.un.good ∧ S.un.more = moreL S.un.st := by
 have ho := h.good.dok
 exact ⟨h.good.withD ⟨ho.l64, ho.row64, ho.one, ho.most, by simp only [DS.un]; omega, by simp only [DS.un]; omega⟩ rfl, h.morem⟩
theorem arm_inv {S : RS} (h : S.inv) (n : Int) (hn : n ≤ 9223372036854775807) : ({ S with D := S.D.arm n } : RS).inv :=
 h.withD (arm_ok h.good.dok n hn) rfl (fun _ _ => rfl) (fun _ _ _ => rfl) h.row
theorem arm_un {S : RS} (h : S.D.fuse = -1) (n : Int) : ({ S with D := S.D.arm n } : RS).un = S := by
 obtain ⟨⟨l, row, ops, fuse, down⟩, own, slot, l', st, more⟩ := S
 simp only [] at h
 subst h
 rfl
end Go.Proofs.Ytffcglfepobdjaa
set_option maxRecDepth 100000
set_option maxHeartbeats 2000000
namespace Go.Proofs.Ytffcglfepobdjaa
open Go.RowKit
theorem refLoose_calls {w : World} {F : Nat → Prop} {vl vr : Value} {D : DS} (H : StAt w F vl vr D) (hok : D.ok) (hr : D.row.length ≤ 1099511627776) (h4 : 4 ≤ D.l.length) :
  Calls Try.prog 51 #[.agg (stv vl vr D).toArray] w (fun e w' => ∃ B : Bool, e = .returned (.bool B) ∧ (B = false → ∀ k, k < 2 → hdOk D (D.at k) = true → (holdsF D k).isSome = true) ∧ Keep Noth w w') := by
 have hhf := fun W (hW : Keep Noth w W) => refHalf_calls (H.keep hW (Dj.noth _)) hok.most
 have hat := fun W (hW : Keep Noth w W) (k : Nat) (hk : k < D.l.length) => refAt_calls (H.keep hW (Dj.noth _)) hok hr k hk
 have hrc := fun W (hW : Keep Noth w W) (area used count : Nat) (ha : area ≤ 1) (hu : used ≤ D.half) (hc : count ≤ 4294967296) => refRecords_calls (H.keep hW (Dj.noth _)) hok hr (by omega) area used count ha hu hc
 obtain ⟨SV, hSV⟩ : ∃ SV, SV = stv vl vr D := ⟨_, rfl⟩
 have hSl : SV.length = 5 := by rw [hSV]; rfl
 have hSo : ∀ u ∈ SV, u.oneCell' = true := by rw [hSV]; exact stv_one D H.l.one_val.1 H.row.one_val.1
 rw [← hSV] at hhf hat hrc ⊢
 have Hhf := hid hhf
 have Hat := hid hat
 have Hrc := hid hrc
 have Hok := hid hok
 have HSl := hid hSl
 have HSo := hid hSo
 have hhl := half_le hok
 have hhp : 1 ≤ D.half := by unfold DS.half; omega
 have hhI : decide ((D.half : Int) > 0) = true := by simp; omega
 clear hhf hat hrc hok H hSV hSl hSo
 go_enter Try.func51, Try.ntmps51
 go_wp2_with (first
  | (guard_target = wpList _ _ _ (Oper.mk _ (Op.box 30 _) _ _ _ _ :: _) _ _; refine wpList_box_v rfl 30 _ rfl SV (by rfl) ?_; intro b1 w1 hb1 B1 K1))
 have hb1w : w.heap.size ≤ b1 := hb1
 go_loopw [3] (fun kv wr => ∃ k : Nat, kv = .int .i64 k ∧ k ≤ 2 ∧ (∀ j, j < k → hdOk D (D.at j) = true → (holdsF D j).isSome = true) ∧ BlockIs wr b1 SV 30 ∧ Keep Noth w wr) (fun kv _ => 2 - (intOf kv).toNat)
 case atStart => exact ⟨0, rfl, by omega, fun j hj => by omega, B1, K1⟩
 case round =>
  obtain ⟨k, rfl, hk, hpre, X1, XK⟩ := hrel
  have Hpre := hid hpre
  clear hpre B1 K1 hb1
  by_cases hlt : k < 2
  ·have hlt' : (k : Int) < 2 := by omega
   have h64 := at_64 Hok.out k (by omega)
   obtain ⟨Bk, hBk⟩ : ∃ Bk, Bk = D.at k := ⟨_, rfl⟩
   rw [← hBk] at h64
   have HBk := hid hBk
   have H64 := hid h64
   have hhf0 := Hhf.out wr XK
   clear hBk h64
   go_wp2_with (first
    | (guard_target = wpList _ _ _ (Oper.mk _ (Op.load 30 _) _ _ _ _ :: _) _ _; refine wpList_loadw_blk (by rfl) 30 _ rfl b1 0 _ SV 30 _ (by rfl) X1 (part0 _) Try.underlying30 rfl (by rw [HSl.out]; exact info30) ?_)
    )
   refine hhf0.mono ?_
   rintro e w0 ⟨rfl, K0⟩
   have X1 := X1.keep K0 id
   have XK := XK.trans K0 (fun _ _ h => h)
   have hat := Hat.out w0 XK k (by omega)
   rw [← HBk.out] at hat
   clear hhf0 K0
   go_wp2_with (first
    | (guard_target = wpList _ _ _ (Oper.mk _ (Op.load 30 _) _ _ _ _ :: _) _ _; refine wpList_loadw_blk (by rfl) 30 _ rfl b1 0 _ SV 30 _ (by rfl) X1 (part0 _) Try.underlying30 rfl (by rw [HSl.out]; exact info30) ?_)
    )
   refine hat.mono ?_
   rintro e wa ⟨g, cb, rfl, hcb, hcm, XBy, Ka⟩
   have XB := Bytes.same_as XBy
   have X1 := X1.keep Ka id
   have HKa := hid (XK.trans Ka (fun _ _ h => h))
   have hcmI : (cb : Int) ≤ 9223372036854775807 := by unfold maxLen at hcm; omega
   have hcbI : (64 : Int) ≤ cb := by omega
   obtain ⟨y, hy⟩ : ∃ y, Bk[8]? = some y := ⟨_, List.getElem?_eq_getElem (by rw [H64.out]; decide)⟩
   have hcell : wa.cell? ⟨g, 8, none⟩ = some (.int .u8 (y.toNat : Int)) := by
    obtain ⟨ad, e, hx⟩ := XB 8 (Go.Proofs.Ytffcglfepobdjaa.u8 y) (by simp [bv, hy])
    injection e with e
    subst e
    rw [Addr.add_mid] at hx
    exact hx
   obtain ⟨h, hh⟩ : ∃ h, h = hdOf Bk := ⟨_, rfl⟩
   have hha : h.area = y.toNat := by rw [hh]; show (Bk.getD 8 0).toNat = y.toNat; rw [List.getD_eq_getElem?_getD, hy]; rfl
   have hhu : h.used = getN ((Bk.drop 9).take 4) := by rw [hh]; rfl
   have hhc : h.count = getN ((Bk.drop 13).take 4) := by rw [hh]; rfl
   have hhs : h.seq = getN (Bk.take 8) := by rw [hh]; rfl
   have hu4 := getN_take_lt (Bk.drop 9)
   have hc4 := getN_take_lt (Bk.drop 13)
   have hn8 := number_calls wa (some ⟨g, 0, none⟩) cb (Bk.take 8) (by have := XB.take 8; rwa [bv_take] at this) (by rw [List.length_take]; omega)
   have hn9 := number_calls wa (some ⟨g, 9, none⟩) (cb - 9) ((Bk.drop 9).take 4) (XB.part 4) (by rw [List.length_take]; omega)
   have hn13 := number_calls wa (some ⟨g, 13, none⟩) (cb - 13) ((Bk.drop 13).take 4) (XB.part 4) (by rw [List.length_take]; omega)
   rw [show (Bk.take 8).length = 8 by rw [List.length_take, H64.out]; rfl] at hn8
   rw [show ((Bk.drop 9).take 4).length = 4 by rw [List.length_take, List.length_drop, H64.out]; rfl, numC_small hu4, ← hhu] at hn9
   rw [show ((Bk.drop 13).take 4).length = 4 by rw [List.length_take, List.length_drop, H64.out]; rfl, numC_small hc4, ← hhc] at hn13
   rw [← hhu] at hu4
   rw [← hhc] at hc4
   obtain ⟨q, hq⟩ : ∃ q, q = numC (Bk.take 8) := ⟨_, rfl⟩
   rw [← hq] at hn8
   have hqle : q ≤ 1099511627776 := by rw [hq]; exact numC_le _
   have hqs : q ≤ h.seq := by rw [hq, hhs]; exact numC_le' _
   have hqe : q < 1099511627776 → q = h.seq := fun e => by rw [hq] at e ⊢; rw [hhs]; exact numC_eq e
   have hay : h.area < 256 := by rw [hha]; exact y.toNat_lt
   have Hhh := hid hh
   have Hhe := hid hqe
   have Hcell := hid hcell
   have Hstep := hid (fun (hno : hdOk D (D.at k) = true → (holdsF D k).isSome = true) j (hj : j < k + 1) => if e : j = k then (by subst e; exact hno) else Hpre.out j (by omega))
   clear hq hhs hhu hhc hh hqe hat Ka XK hcm hcell XBy hy
   go_wp2_with fail
   refine hn8.mono ?_
   rintro e w' ⟨rfl, rfl⟩
   have hcell := Hcell.out
   clear hn8
   go_wp2_with fail
   refine hn9.mono ?_
   rintro e w' ⟨rfl, rfl⟩
   clear hn9 hcell
   go_wp2_with fail
   refine hn13.mono ?_
   rintro e w' ⟨rfl, rfl⟩
   clear hn13
   rw [← hha]
   clear hha Hcell
   go_wp2_with fail
   have KD : Keep Noth wa wa.drew := (Keep.refl Noth wa).drew
   have XBd := XB.keep KD (fun _ _ => id)
   by_cases hc0 : q < 1
   ·have ihc0 : decide ((q : Int) < 1) = true := by simp; omega
    refine wp_region_ordL [(0, true), (1, true), (2, true), (3, true), (4, true), (5, true), (6, true), (7, true), (8, true), (9, true), (10, true), (13, true), (14, true), (11, false), (12, false), (15, true), (16, false)] (fun w' => Reads w' (some ⟨g, 0, none⟩) (bv Bk)) follows_mixed (by kernel_rfl) XBd ?_
    simp only [List.map_cons, List.map_nil, List.getElem?_cons_succ, List.getElem?_cons_zero, Option.getD_some]
    refine wpO_pure (v := .int .i64 (q : Int)) (by rfl) (fun w' hw' => by go_simp) ?_
    go_frame
    refine wpO_pure (v := .bool true) (by rfl) (fun w' hw' => by go_simp) ?_
    go_frame
    refine wpO_pure (v := .bool true) (by rfl) (fun w' hw' => by go_simp) ?_
    go_frame
    refine wpO_skip (by rfl) ?_
    go_frame
    refine wpO_skip (by rfl) ?_
    go_frame
    refine wpO_pure (v := .bool true) (by rfl) (fun w' hw' => by go_simp) ?_
    go_frame
    refine wpO_pure (v := .bool true) (by rfl) (fun w' hw' => by go_simp) ?_
    go_frame
    refine wpO_skip (by rfl) ?_
    go_frame
    refine wpO_skip (by rfl) ?_
    go_frame
    refine wpO_skip (by rfl) ?_
    go_frame
    refine wpO_skip (by rfl) ?_
    go_frame
    refine wpO_skip (by rfl) ?_
    go_frame
    refine wpO_skip (by rfl) ?_
    go_frame
    refine wpO_skipf (by rfl) (.inr XBd) ?_
    go_frame
    refine wpO_skipf (by rfl) (.inr XBd) ?_
    go_frame
    refine wpO_skip (by rfl) ?_
    go_frame
    refine wpO_run (v := .bool true) (w1 := wa.drew) (by rfl) (by go_simp) (.inl rfl) (wpO_nil ?_)
    go_frame
    have hno : hdOk D (D.at k) = false := by
     rw [hdOk_eq, ← HBk.out, ← Hhh.out, decide_eq_false (fun e => by have := Hhe.out (by omega); have := e.1; omega)]; rfl
    have hn5 := Hstep.out (fun e => by rw [hno] at e; cases e)
    have KW := KD
    clear XBd KD hno
    have HN5 := hid hn5
    have HF := hid (show _ ∧ _ from ⟨X1.keep KW id, HKa.out.trans KW (fun _ _ h => h)⟩)
    clear X1 XB KW hn5
    go_wp2_with fail
    go_roundw
    case rel => exact ⟨k + 1, by go_num, by omega, HN5.out, HF.out.1, HF.out.2⟩
    case measure => simp [intOf]; omega
   have ihc0 : decide ((q : Int) < 1) = false := by simp; omega
   by_cases hc1 : 1099511627776 ≤ q
   ·have ihc1 : decide ((q : Int) ≥ 1099511627776) = true := by simp; omega
    refine wp_region_ordL [(0, true), (1, true), (2, true), (3, true), (4, true), (5, true), (6, true), (7, true), (8, true), (9, true), (10, true), (13, true), (14, true), (11, false), (12, false), (15, true), (16, false)] (fun w' => Reads w' (some ⟨g, 0, none⟩) (bv Bk)) follows_mixed (by kernel_rfl) XBd ?_
    simp only [List.map_cons, List.map_nil, List.getElem?_cons_succ, List.getElem?_cons_zero, Option.getD_some]
    refine wpO_pure (v := .int .i64 (q : Int)) (by rfl) (fun w' hw' => by go_simp) ?_
    go_frame
    refine wpO_pure (v := .bool false) (by rfl) (fun w' hw' => by go_simp) ?_
    go_frame
    refine wpO_pure (v := .bool false) (by rfl) (fun w' hw' => by go_simp) ?_
    go_frame
    refine wpO_pure (v := .int .i64 (q : Int)) (by rfl) (fun w' hw' => by go_simp) ?_
    go_frame
    refine wpO_pure (v := .bool true) (by rfl) (fun w' hw' => by go_simp) ?_
    go_frame
    refine wpO_pure (v := .bool true) (by rfl) (fun w' hw' => by go_simp) ?_
    go_frame
    refine wpO_pure (v := .bool true) (by rfl) (fun w' hw' => by go_simp) ?_
    go_frame
    refine wpO_skip (by rfl) ?_
    go_frame
    refine wpO_skip (by rfl) ?_
    go_frame
    refine wpO_skip (by rfl) ?_
    go_frame
    refine wpO_skip (by rfl) ?_
    go_frame
    refine wpO_skip (by rfl) ?_
    go_frame
    refine wpO_skip (by rfl) ?_
    go_frame
    refine wpO_skipf (by rfl) (.inr XBd) ?_
    go_frame
    refine wpO_skipf (by rfl) (.inr XBd) ?_
    go_frame
    refine wpO_skip (by rfl) ?_
    go_frame
    refine wpO_run (v := .bool true) (w1 := wa.drew) (by rfl) (by go_simp) (.inl rfl) (wpO_nil ?_)
    go_frame
    have hno : hdOk D (D.at k) = false := hdOk_no (.inl (by rw [← HBk.out, ← Hhh.out]; omega))
    have hn5 := Hstep.out (fun e => by rw [hno] at e; cases e)
    have KW := KD
    clear XBd KD hno
    have HN5 := hid hn5
    have HF := hid (show _ ∧ _ from ⟨X1.keep KW id, HKa.out.trans KW (fun _ _ h => h)⟩)
    clear X1 XB KW hn5
    go_wp2_with fail
    go_roundw
    case rel => exact ⟨k + 1, by go_num, by omega, HN5.out, HF.out.1, HF.out.2⟩
    case measure => simp [intOf]; omega
   have ihc1 : decide ((q : Int) ≥ 1099511627776) = false := by simp; omega
   refine wp_region_ordL [(0, true), (1, true), (2, true), (3, true), (4, true), (5, true), (6, true), (7, true), (8, true), (9, true), (10, true), (13, true), (14, true), (11, false), (12, false), (15, true), (16, false)] (fun w' => Reads w' (some ⟨g, 0, none⟩) (bv Bk)) follows_mixed (by kernel_rfl) XBd ?_
   simp only [List.map_cons, List.map_nil, List.getElem?_cons_succ, List.getElem?_cons_zero, Option.getD_some]
   refine wpO_pure (v := .int .i64 (q : Int)) (by rfl) (fun w' hw' => by go_simp) ?_
   go_frame
   refine wpO_pure (v := .bool false) (by rfl) (fun w' hw' => by go_simp) ?_
   go_frame
   refine wpO_pure (v := .bool false) (by rfl) (fun w' hw' => by go_simp) ?_
   go_frame
   refine wpO_pure (v := .int .i64 (q : Int)) (by rfl) (fun w' hw' => by go_simp) ?_
   go_frame
   refine wpO_pure (v := .bool false) (by rfl) (fun w' hw' => by go_simp) ?_
   go_frame
   refine wpO_pure (v := .bool false) (by rfl) (fun w' hw' => by go_simp) ?_
   go_frame
   refine wpO_pure (v := .bool false) (by rfl) (fun w' hw' => by go_simp) ?_
   go_frame
   refine wpO_pure (v := .int .i64 (q : Int)) (by rfl) (fun w' hw' => by go_simp) ?_
   go_frame
   refine wpO_pure (v := .int .i64 (h.area : Int)) (by rfl) (fun w' hw' => by go_simp) ?_
   go_frame
   refine wpO_pure (v := .int .i64 (h.used : Int)) (by rfl) (fun w' hw' => by go_simp) ?_
   go_frame
   refine wpO_pure (v := .int .i64 (h.count : Int)) (by rfl) (fun w' hw' => by go_simp) ?_
   go_frame
   refine wpO_pure (v := .slice (some ⟨g, 0, none⟩) 64 cb) (by rfl) (fun w' hw' => by go_simp) ?_
   go_frame
   refine wpO_pure (v := .string ⟨Bk.toArray⟩) (by rfl) (fun w' hw' => by have := run_conv (P := Try.prog) (w := w') 33 5 9 sl33 Try.underlying5 Try.underlying9 (some ⟨g, 0, none⟩) 64 cb Bk H64.out.symm hw'; simp [execOp, Act.eval, this, Result.andThen]) ?_
   go_frame
   refine wpO_call (by rfl) (exec_call' 81 _ _ rfl Try.func81 (by kernel_rfl) (by rfl) #[.int .i64 (q : Int), .int .i64 (h.area : Int), .int .i64 (h.used : Int), .int .i64 (h.count : Int)] (by simp [Act.eval])) ?_
   refine (head_calls wa.drew q h.area h.used h.count (by omega) (by omega) (by omega) (by omega)).mono ?_
   rintro e w10 ⟨gh, ch, rfl, XH, K10⟩
   have ZB := XBd.keep K10 (fun _ _ => id)
   refine ⟨_, rfl, .inr ZB, ?_⟩
   go_frame
   have hcv := run_conv (P := Try.prog) (w := w10) 33 5 9 sl33 Try.underlying5 Try.underlying9 (some ⟨gh, 0, none⟩) 64 ch (headB q h.area h.used h.count) (headB_length _ _ _ _).symm (Bytes.same_as XH)
   refine wpO_run (v := .string ⟨(headB q h.area h.used h.count).toArray⟩) (w1 := w10) (by rfl) (by simp [execOp, Act.eval, hcv, Result.andThen]) (.inr ZB) ?_
   go_frame
   refine wpO_pure (v := .bool (!(headB q h.area h.used h.count == Bk))) (by rfl) (fun w' hw' => by go_simp) ?_
   go_frame
   refine wpO_run (v := .bool (!(headB q h.area h.used h.count == Bk))) (w1 := w10) (by rfl) (by go_simp) (.inl rfl) (wpO_nil ?_)
   go_frame
   have hqe : q = h.seq := Hhe.out (by omega)
   have KW : Keep Noth wa w10 := KD.trans K10 (fun _ _ h => h)
   clear ZB XH hcv XBd KD K10
   cases hqb : (headB q h.area h.used h.count == Bk) with
   | false =>
    simp only [Bool.not_false]
    have hno : hdOk D (D.at k) = false := hdOk_no (.inr (.inr (.inr (by rw [← HBk.out, ← Hhh.out]; show (Bk == headB h.seq h.area h.used h.count) = false; rw [← hqe]; cases hx : (Bk == headB q h.area h.used h.count) with
     | false => rfl
     | true => rw [← eq_of_beq hx] at hqb; simp at hqb))))
    have hn5 := Hstep.out (fun e => by rw [hno] at e; cases e)
    clear hno hqe hqb
    have HN5 := hid hn5
    have HF := hid (show _ ∧ _ from ⟨X1.keep KW id, HKa.out.trans KW (fun _ _ h => h)⟩)
    clear X1 XB KW hn5
    go_wp2_with fail
    go_roundw
    case rel => exact ⟨k + 1, by go_num, by omega, HN5.out, HF.out.1, HF.out.2⟩
    case measure => simp [intOf]; omega
   | true =>
    simp only [Bool.not_true]
    have Hqb := hid hqb
    have X1 := X1.keep KW id
    have K0A : Keep Noth w w10 := HKa.out.trans KW (fun _ _ h => h)
    have hhf9 := Hhf.out w10 K0A
    clear hqb KW XB
    by_cases hc2 : 1 < h.area
    ·have ihc2 : decide ((h.area : Int) > 1) = true := by simp; omega
     go_wp2_with fail
     go_ret
     exact ⟨true, rfl, (fun e => by cases e), K0A⟩
    have ihc2 : decide ((h.area : Int) > 1) = false := by simp; omega
    go_wp2_with (first
     | (guard_target = wpList _ _ _ (Oper.mk _ (Op.load 30 _) _ _ _ _ :: _) _ _; refine wpList_loadw_blk (by rfl) 30 _ rfl b1 0 _ SV 30 _ (by rfl) X1 (part0 _) Try.underlying30 rfl (by rw [HSl.out]; exact info30) ?_)
     )
    refine hhf9.mono ?_
    rintro e w11 ⟨rfl, K11⟩
    have X1 := X1.keep K11 id
    have K0B := K0A.trans K11 (fun _ _ h => h)
    clear hhf9 K11 K0A
    by_cases hc3 : D.half < h.used
    ·have ihc3 : decide ((h.used : Int) > D.half) = true := by simp; omega
     go_wp2_with fail
     go_ret
     exact ⟨true, rfl, (fun e => by cases e), K0B⟩
    have ihc3 : decide ((h.used : Int) > D.half) = false := by simp; omega
    have hrc := Hrc.out w11 K0B h.area h.used h.count (by omega) (by omega) (by omega)
    go_wp2_with (first
     | (guard_target = wpList _ _ _ (Oper.mk _ (Op.load 30 _) _ _ _ _ :: _) _ _; refine wpList_loadw_blk (by rfl) 30 _ rfl b1 0 _ SV 30 _ (by rfl) X1 (part0 _) Try.underlying30 rfl (by rw [HSl.out]; exact info30) ?_)
     )
    refine hrc.mono ?_
    rintro e w12 ⟨v, rfl, ⟨Av, nv, cv, rfl⟩, hRv, K12⟩
    have X1 := X1.keep K12 id
    have K0C := K0B.trans K12 (fun _ _ h => h)
    clear hrc hRv K12 K0B
    cases hrs : recsF D h.area h.used h.count with
    | none =>
     rw [Option.isSome_none]
     clear hrs
     go_wp2_with fail
     go_ret
     exact ⟨true, rfl, (fun e => by cases e), K0C⟩
    | some l =>
     rw [Option.isSome_some]
     have hsome : hdOk D (D.at k) = true → (holdsF D k).isSome = true := fun e => by rw [holdsF_recsF, e, if_pos rfl, ← HBk.out, ← Hhh.out, hrs]; rfl
     have HN5 := hid (Hstep.out hsome)
     have HF := hid (show _ ∧ _ from ⟨X1, K0C⟩)
     clear hsome hrs X1 K0C
     go_wp2_with fail
     go_roundw
     case rel => exact ⟨k + 1, by go_num, by omega, HN5.out, HF.out.1, HF.out.2⟩
     case measure => simp [intOf]; omega
  ·have hge : k = 2 := by omega
   subst hge
   go_wp2_with fail
   go_ret
   exact ⟨false, rfl, fun _ => Hpre.out, XK⟩
theorem ROpC.on.mono {w : World} {G G' : Nat → Prop} {x : ROpC} (h : x.on w G) (hG : ∀ q, G q → G' q) : x.on w G' :=
 ⟨h.b, h.bc, fun hb ad e => hG _ (h.bG hb ad e), h.l.mono hG, h.lc⟩
theorem RScript.mono {w : World} {G G' : Nat → Prop} {A : Option Addr} {xs : List ROpC} (h : RScript w G A xs) (hG : ∀ q, G q → G' q) : RScript w G' A xs :=
 ⟨h.cells, fun x hx => (h.each x hx).mono hG⟩
theorem wx_stv {g r : Nat} {vl vr : Value} {D : DS} (m n p q : Int) (vL vS : Value) : ∀ j v, (stv vl vr D)[j]? = some v → (Value.pointer (some ⟨g, 0, none⟩) :: Value.pointer (some ⟨r, 0, none⟩) :: fsv (stv vl vr D) m n p q vL vS)[2 + j]? = some v := by
 intro j v h
 have := fsv_dev (stv vl vr D) rfl m n p q vL vS j v h
 rw [Nat.zero_add] at this
 rw [Nat.add_comm 2 j]
 exact this
theorem WX.rollx {w0 w : World} {F G : Nat → Prop} {bw g r : Nat} {S R : RS} (h : WX w0 w F G bw g r S R) : ∃ vl vs, RollAt w F g r vl vs S := h.roll
theorem start_facts (im : List UInt8) : ∃ D0, D0 = DS.of (padI im (64 * cntN 16)) ∧ D0.ok ∧ 4 ≤ D0.l.length ∧ D0.row = [] ∧ D0.ops = 0 ∧ Calm D0 := by
 have hc := cntN_bound 16
 exact ⟨_, rfl, of_ok _, by rw [of_len, ofN_pad hc.1 hc.2]; exact hc.1, rfl, rfl, ⟨rfl, rfl⟩⟩
theorem Reads.ints_lt {w : World} {A : Option Addr} {fs : List Int} (h : Reads w A (ints fs)) : ∀ ad, A = some ad → fs ≠ [] → ad.block < w.heap.size := by
 intro ad e hne
 obtain ⟨g, o, e2, -, hg⟩ := h.where (by simp only [ints, List.length_map]; exact List.length_pos_iff.2 hne)
 rw [e] at e2
 injection e2 with e2
 subst e2
 exact hg
end Go.Proofs.Ytffcglfepobdjaa
namespace Go.Proofs.Ytffcglfepobdjaa
open Go.ChangeShapes Go.WideShapes Go.ChangeAt Go.RowKit Go.Deep
theorem open_nums {H : Type} {enc : TypeId × Value → H} {W : World} {base : Nat} {t : TypeId} {v : Value} {d : DataW H} {ps : List MemPlace} (hu : Try.prog.underlying t = some (.slice 3)) (hval : Value.okWide Try.prog W .any base t v)
  (h : DataW.Trod enc Try.prog W 0 (fun _ => true) true t v d ps) :
  ∃ A c fs, v = .slice A (fs : List Int).length c ∧ Reads W A (ints fs) ∧ (∀ z ∈ fs, -9223372036854775808 ≤ z ∧ z ≤ 9223372036854775807) ∧ fs.length + 1 ≤ Rows.uptoBulk d := by
 obtain ⟨fuel, hn⟩ := h
 obtain ⟨a0, len, cap, rfl⟩ := okWide_slice hu hval
 obtain ⟨A, c, fs, hcs, h1, h2, h3⟩ := trod_nums hu hn
 simp [Value.cells] at hcs
 obtain ⟨rfl, rfl, rfl⟩ := hcs
 exact ⟨_, _, fs, rfl, h1, h2, h3⟩
end Go.Proofs.Ytffcglfepobdjaa
namespace Go.Proofs.Ytffcglfepobdjaa
open Go.ChangeShapes Go.WideShapes Go.ChangeAt Go.RowKit Go.Deep
theorem cells63 : Try.prog.cellsOf 63 = 1 := by kernel_rfl
theorem cells88 : Try.prog.cellsOf 88 = 5 := by kernel_rfl
theorem cells84 : Try.prog.cellsOf 84 = 2 := by kernel_rfl
theorem under82 : Try.prog.underlying 82 = some (.slice 88) := Try.underlying82
section
variable {H : Type} {enc : TypeId × Value → H} {W : World} {n : Nat} {cs : List Value} {x : DataW H × List MemPlace}
theorem trod_rop (h : DataW.trod enc Try.prog W 0 (fun _ => true) true n 88 cs = some x) :
  ∃ y : ROpC, cs = y.cells ∧ y.on W (fun q => q < W.heap.size) ∧ y.size + 1 ≤ Rows.uptoBulk x.1 := by
 obtain ⟨xs, m, _, rfl, hl, hlen, hf⟩ := DataW.trod_struct Try.underlying88 h
 rw [cells88] at hl
 match cs, hl with
 | [v0, v1, v2, v3, v4], _ =>
  match xs, hlen with
  | [y0, y1, y2, y3, y4], _ =>
   have h0 := hf 0 _ rfl
   have h1 := hf 1 _ rfl
   have h2 := hf 2 _ rfl
   have h3 := hf 3 _ rfl
   have h4 := hf 4 _ rfl
   simp only [cells3, cells33, cells63, cells34, List.drop_zero, List.take_succ_cons, List.take_zero, List.drop_succ_cons, List.getElem?_cons_zero, List.getElem?_cons_succ] at h0 h1 h2 h3 h4
   obtain ⟨z0, e0, -, w0⟩ := DataW.trod_int under3 h0
   obtain ⟨A1, c1, b, e1, hA, hbl, hbc⟩ := trod_bytesN under33 h1
   obtain ⟨A2, c2, l, e2, hL, hlc, -, hll⟩ := trod_recs under63 h2
   obtain ⟨z3, e3, -, w3⟩ := DataW.trod_int under3 h3
   obtain ⟨A4, c4, fs, e4, hF, hfs, hfl⟩ := trod_nums under34 h4
   injection e0 with e0
   injection e1 with e1
   injection e2 with e2
   injection e3 with e3
   injection e4 with e4
   subst e0 e1 e2 e3 e4
   simp only [List.map_cons, List.map_nil, Rows.uptoBulk, Rows.uptoBulkAll]
   exact ⟨⟨z0, b, l, z3, fs.length, A1, A2, A4, c1, c2, c4⟩, rfl, ⟨hA, hbc, fun hb => hA.nonempty hb, hL, hlc⟩, by show b.length + fs.length + recsBulk l + 1 ≤ _; omega⟩
instance : Inhabited ROpC := ⟨⟨0, [], [], 0, 0, none, none, none, 0, 0, 0⟩⟩
theorem sum_bulkR (f : Nat → ROpC) (D : Nat → DataW H) : ∀ n, (∀ i, i < n → (f i).size + 1 ≤ Rows.uptoBulk (D i)) → rsSize ((List.range n).map f) + n ≤ Rows.uptoBulkAll ((List.range n).map D)
 | 0, _ => by simp [rsSize]
 | n + 1, h => by
  have ih := sum_bulkR f D n (fun i hi => h i (by omega))
  have hn := h n (by omega)
  have happ : ∀ (l r : List (DataW H)), Rows.uptoBulkAll (l ++ r) = Rows.uptoBulkAll l + Rows.uptoBulkAll r := by
   intro l r
   induction l with
   | nil => simp [Rows.uptoBulkAll]
   | cons x l ih => simp only [List.cons_append, Rows.uptoBulkAll, ih]; omega
  rw [List.range_succ, List.map_append, List.map_append, happ]
  unfold rsSize at ih ⊢
  rw [List.map_append, List.sum_append]
  simp only [List.map_cons, List.map_nil, List.sum_cons, List.sum_nil, Rows.uptoBulkAll]
  omega
theorem open_rscript {base : Nat} {v : Value} {d : DataW H} {ps : List MemPlace} (hval : Value.okWide Try.prog W .any base 82 v)
  (h : DataW.Trod enc Try.prog W 0 (fun _ => true) true 82 v d ps) (hb : Rows.uptoBulk d ≤ 1048576) :
  ∃ A c xs, v = .slice A (xs : List ROpC).length c ∧ RScript W (fun q => q < W.heap.size) A xs ∧ rsSize xs + xs.length ≤ 1048576 := by
 obtain ⟨fuel, hn⟩ := h
 obtain ⟨a0, len, cap, rfl⟩ := okWide_slice under82 hval
 rcases open_slice under82 hn with ⟨hcs, -⟩ | ⟨a, len', cap', m, k, D, Pl, hcs, _, hl, hm, hmm, hx, hel⟩
 ·simp [Value.cells] at hcs
  obtain ⟨rfl, rfl, rfl⟩ := hcs
  exact ⟨none, 0, [], rfl, ⟨Reads.nil _ _, fun x hx => (by cases hx)⟩, by simp [rsSize]⟩
 ·simp [Value.cells] at hcs
  obtain ⟨rfl, rfl, rfl⟩ := hcs
  simp only [if_true] at hmm
  subst hmm
  simp only [Prod.mk.injEq] at hx
  obtain ⟨hd, -⟩ := hx
  have hall := bulk_elems ((List.range len).map D) ((List.range (m - len)).map fun j => D (len + j))
  rw [← hd] at hall
  have hone : ∀ i, i < len → ∃ y : ROpC, W.cells? 0 (a.add (i * 5)) 5 = some y.cells ∧ y.on W (fun q => q < W.heap.size) ∧ y.size + 1 ≤ Rows.uptoBulk (D i) := fun i hi => by
   obtain ⟨cs', h1, h2⟩ := hel i (by omega)
   rw [cells88] at h1
   obtain ⟨y, rfl, h3, h4⟩ := trod_rop h2
   exact ⟨y, h1, h3, h4⟩
  obtain ⟨f, hf⟩ := choose_lt (p := fun i (y : ROpC) => W.cells? 0 (a.add (i * 5)) 5 = some y.cells ∧ y.on W (fun q => q < W.heap.size) ∧ y.size + 1 ≤ Rows.uptoBulk (D i)) hone
  have hlen : ((List.range len).map f).length = len := by simp
  have hsum := sum_bulkR f D len (fun i hi => (hf i hi).2.2)
  refine ⟨some a, m, (List.range len).map f, by rw [hlen], ⟨?_, ?_⟩, by rw [hlen]; omega⟩
  ·intro j u hu
   obtain ⟨i, r, hi, hr, rfl, hu'⟩ := flatten_back 5 (by decide) _ j u (rop_each _) hu
   have hi' : i < len := by simpa using hi
   refine ⟨a, rfl, ?_⟩
   obtain ⟨_, _, hc⟩ := World.cells?_some (hf i hi').1
   have h4 := hc r hr
   rw [Go.Deep.add_add] at h4
   rw [h4]
   simpa using hu'
  ·intro x hx
   obtain ⟨i, hi, rfl⟩ := List.mem_map.1 hx
   exact (hf i (List.mem_range.1 hi)).2.1
theorem trod_crash (h : DataW.trod enc Try.prog W 0 (fun _ => true) true n 84 cs = some x) :
  ∃ z A c fs, cs = [.int .i64 z, .slice A (fs : List Int).length c] ∧ Reads W A (ints fs) ∧ (∀ z ∈ fs, -9223372036854775808 ≤ z ∧ z ≤ 9223372036854775807) ∧ fs.length + 1 ≤ Rows.uptoBulk x.1 ∧ z ≤ 9223372036854775807 := by
 obtain ⟨xs, m, _, rfl, hl, hlen, hf⟩ := DataW.trod_struct Try.underlying84 h
 rw [cells84] at hl
 match cs, hl with
 | [v0, v1], _ =>
  match xs, hlen with
  | [y0, y1], _ =>
   have h0 := hf 0 _ rfl
   have h1 := hf 1 _ rfl
   simp only [cells3, cells34, List.drop_zero, List.take_succ_cons, List.take_zero, List.drop_succ_cons, List.getElem?_cons_zero, List.getElem?_cons_succ] at h0 h1
   obtain ⟨z0, e0, -, w0⟩ := DataW.trod_int under3 h0
   obtain ⟨A1, c1, fs, e1, hF, hfs, hfl⟩ := trod_nums under34 h1
   injection e0 with e0
   injection e1 with e1
   subst e0 e1
   simp only [List.map_cons, List.map_nil, Rows.uptoBulk, Rows.uptoBulkAll]
   exact ⟨z0, A1, c1, fs, rfl, hF, hfs, by omega, (int_bounds w0).2⟩
theorem open_crash {base : Nat} {v : Value} {d : DataW H} {ps : List MemPlace} (hval : Value.okWide Try.prog W .any base 84 v)
  (h : DataW.Trod enc Try.prog W 0 (fun _ => true) true 84 v d ps) :
  ∃ z A c fs, v = .agg #[.int .i64 z, .slice A (fs : List Int).length c] ∧ Reads W A (ints fs) ∧ (∀ z ∈ fs, -9223372036854775808 ≤ z ∧ z ≤ 9223372036854775807) ∧ fs.length + 1 ≤ Rows.uptoBulk d ∧ z ≤ 9223372036854775807 := by
 obtain ⟨fuel, hn⟩ := h
 obtain ⟨cs, rfl, -⟩ := okWide_struct Try.underlying84 hval
 obtain ⟨z, A, c, fs, h1, h2, h3, h4, h5⟩ := trod_crash hn
 have e : cs = #[.int .i64 z, .slice A fs.length c] := by
  have : cs.toList = [.int .i64 z, .slice A fs.length c] := h1
  rw [← Array.toArray_toList (xs := cs), this]
 exact ⟨z, A, c, fs, by rw [e], h2, h3, h4, h5⟩
theorem open_im {base : Nat} {t : TypeId} {v : Value} {d : DataW H} {ps : List MemPlace} (hu : Try.prog.underlying t = some (.slice 5)) (hval : Value.okWide Try.prog W .any base t v)
  (h : DataW.Trod enc Try.prog W 0 (fun _ => true) true t v d ps) : ∃ A c b, v = .slice A (b : List UInt8).length c ∧ Reads W A (bv b) ∧ b.length + 1 ≤ Rows.uptoBulk d := by
 obtain ⟨fuel, hn⟩ := h
 obtain ⟨a0, len, cap, rfl⟩ := okWide_slice hu hval
 obtain ⟨A, c, b, h1, h2, h3⟩ := trod_bytes hu hn
 simp [Value.cells] at h1
 obtain ⟨rfl, rfl, rfl⟩ := h1
 exact ⟨_, _, b, rfl, h2, h3⟩
end
end Go.Proofs.Ytffcglfepobdjaa
