/- What the blocks, the rolls and the document's rolls do, step by step and as plain data: texts Q5 Q6 Q7 Q8 Q9 Q10 Q11 T0 N2 N3 V1 V2 V3 V4 V5 U1 U2; no conditions beside those that each theorem states. -/
import Derived.Test.YtffcglfepobdjaaX3
set_option linter.unusedVariables false
set_option linter.unusedSimpArgs false
set_option maxRecDepth 100000
set_option maxHeartbeats 2000000
namespace Go.Proofs.Ytffcglfepobdjaa
open Go.RowKit
theorem recsF_none {D : DS} {area used count f i : Nat} (hf : recsF D area used count = match recsL D f used count with | some (l, a) => if a = used then some l else none | none => none) (hi : i ≤ count) (h : recsL D f used i = none) : recsF D area used count = none := by
 rw [hf, recsL_none h _ hi]
theorem bv_take (b : List UInt8) (n : Nat) : (bv b).take n = bv (b.take n) := by simp [bv, List.map_take]
theorem bv_drop (b : List UInt8) (n : Nat) : (bv b).drop n = bv (b.drop n) := by simp [bv, List.map_drop]
theorem refRecords_calls {w : World} {F : Nat → Prop} {vl vr : Value} {D : DS} (H : StAt w F vl vr D) (hok : D.ok) (hr : D.row.length ≤ 1099511627776) (h4 : 2 ≤ D.l.length) (area used count : Nat) (ha : area ≤ 1) (hu : used ≤ D.half) (hc : count ≤ 4294967296) :
  Calls Try.prog 82 #[.agg (stv vl vr D).toArray, .int .i64 (area : Int), .int .i64 (used : Int), .int .i64 (count : Int)] w (fun e w' => ∃ v, e = .returned (.tuple #[v, .bool (recsF D area used count).isSome]) ∧ (∃ A n c, v = .slice A n c) ∧ (∀ l, recsF D area used count = some l → Recs w' (Fresh w w') v l) ∧ Keep Noth w w') := by
 have hfit := area_fits h4 ha hu
 obtain ⟨f, hf⟩ : ∃ f, f = 2 + area * D.half := ⟨_, rfl⟩
 have hrf : recsF D area used count = match recsL D f used count with | some (l, a) => if a = used then some l else none | none => none := by rw [hf]; rfl
 rw [← hf] at hfit
 have hhl := half_le hok
 have hmost := hok.most
 have hhf := fun W (hW : Keep Noth w W) => refHalf_calls (H.keep hW (Dj.noth _)) hmost
 have hat := fun W (hW : Keep Noth w W) (k : Nat) (hk : k < D.l.length) => refAt_calls (H.keep hW (Dj.noth _)) hok hr k hk
 obtain ⟨Al, cl, rfl⟩ := H.l.valm
 obtain ⟨Ar, cr, rfl⟩ := H.row.valm
 obtain ⟨SV, hSV⟩ : ∃ SV, SV = stv (.slice Al D.l.length cl) (.slice Ar D.row.length cr) D := ⟨_, rfl⟩
 have hSl : SV.length = 5 := by rw [hSV]; rfl
 rw [← hSV] at hhf hat ⊢
 obtain ⟨m, hm⟩ : ∃ m, m = area * D.half := ⟨_, rfl⟩
 have hmle : m ≤ 2047 := by rw [hm]; rcases (show area = 0 ∨ area = 1 by omega) with e | e <;> rw [e] <;> omega
 rw [← hm] at hf
 have hf2 : IntKind.i64.wrap ((area : Int) * (D.half : Int)) = (m : Int) := by
  rw [hm, Int.natCast_mul]; exact wrapI (by omega) (by rw [← Int.natCast_mul, ← hm]; omega)
 have hf3 : IntKind.i64.wrap (2 + (m : Int)) = (f : Int) := by rw [hf, Int.natCast_add]; exact wrapI (by omega) (by omega)
 have hfle : f ≤ 2049 := by omega
 have Hhf := hid hhf
 have Hat := hid hat
 have Hf2 := hid hf2
 have Hf3 := hid hf3
 have Hrf := hid hrf
 have Hok := hid hok
 have HSl := hid hSl
 have huI : (used : Int) ≤ 4096 := by omega
 have hcI : (count : Int) ≤ 4294967296 := by omega
 clear hhf hat hf2 hf3 hrf H hok hSV hSl hf hm
 go_enter Try.func82, Try.ntmps82
 go_wp2_with (first
  | (guard_target = wpList _ _ _ (Oper.mk _ (Op.box 30 _) _ _ _ _ :: _) _ _; refine wpList_box_v rfl 30 _ rfl SV (by rfl) ?_; intro b4 w1 hb4 B4 K1))
 go_loopw [11, 10] (fun kv v wr => ∃ k : Nat, kv = .int .i64 k ∧ k ≤ used ∧ Bytes wr (Fresh w wr) v (recB D f k) ∧ BlockIs wr b4 SV 30 ∧ Keep Noth w wr) (fun kv _ _ => used - (intOf kv).toNat)
 case atStart => exact ⟨0, rfl, Nat.zero_le _, Rows.nil _ _ _ _, B4, K1⟩
 case round =>
  obtain ⟨k, rfl, hk, HB, BX, HK⟩ := hrel
  by_cases hlt : k < used
  ·have hlt' : (k : Int) < used := by omega
   have hrl := recB_length Hok.out f k (by omega)
   have hrs := recB_succ D f k
   have h64 := at_64 Hok.out (f + k) (by omega)
   obtain ⟨Ab, cb, rfl⟩ := HB.val2
   have hs0 := HK.size
   have Hrl := hid hrl
   have Hrs := hid hrs
   have H64 := hid h64
   have HB' := hid HB
   clear hrl hrs h64 HB
   go_wp2_with fail
   refine wp_region_ordL [(0, true), (1, true), (2, true), (3, true), (7, true), (4, false), (5, true), (6, true), (8, true), (9, false), (10, false), (11, false)] (fun w' => BlockIs w' b4 SV 30) follows_mixed (by kernel_rfl) BX.drew ?_
   simp only [List.map_cons, List.map_nil, List.getElem?_cons_succ, List.getElem?_cons_zero, Option.getD_some]
   refine wpO_pure (v := .slice Ab (recB D f k).length cb) (by rfl) (fun w' hw' => by go_simp) ?_
   go_frame
   refine wpO_pure (v := .agg SV.toArray) (by rfl) (fun w' hw' => by exact exec_load_blk 30 _ rfl b4 0 SV SV 30 _ (by rfl) hw' (part0 _) Try.underlying30 rfl (by rw [HSl.out]; exact info30)) ?_
   go_frame
   refine wpO_pure (v := .int .i64 (area : Int)) (by rfl) (fun w' hw' => by go_simp) ?_
   go_frame
   refine wpO_pure (v := .agg SV.toArray) (by rfl) (fun w' hw' => by exact exec_load_blk 30 _ rfl b4 0 SV SV 30 _ (by rfl) hw' (part0 _) Try.underlying30 rfl (by rw [HSl.out]; exact info30)) ?_
   go_frame
   refine wpO_pure (v := .int .i64 (k : Int)) (by rfl) (fun w' hw' => by go_simp) ?_
   go_frame
   refine wpO_call (by rfl) (exec_call' 78 _ _ rfl Try.func78 (by kernel_rfl) (by rfl) #[.agg SV.toArray] (by simp [Act.eval])) ?_
   refine (Hhf.out _ HK.drew).mono ?_
   rintro e w2 ⟨rfl, K2⟩
   refine ⟨_, rfl, .inr (BX.drew.keep K2 id), ?_⟩
   go_frame
   refine wpO_pure (v := .int .i64 (m : Int)) (by rfl) (fun w' hw' => by go_simp; exact Hf2.out) ?_
   go_frame
   refine wpO_pure (v := .int .i64 (f : Int)) (by rfl) (fun w' hw' => by go_simp; exact Hf3.out) ?_
   go_frame
   refine wpO_pure (v := .int .i64 ((f + k : Nat) : Int)) (by rfl) (fun w' hw' => by go_simp; exact wrapI (by omega) (by omega)) ?_
   go_frame
   have K02 : Keep Noth w w2 := HK.drew.trans K2 (fun _ _ h => h)
   refine wpO_call (by rfl) (exec_call' 79 _ _ rfl Try.func79 (by kernel_rfl) (by rfl) #[.agg SV.toArray, .int .i64 ((f + k : Nat) : Int)] (by simp [Act.eval])) ?_
   refine (Hat.out _ K02 (f + k) (by omega)).mono ?_
   rintro e w3 ⟨g3, c3, rfl, -, -, HB3, K3⟩
   refine ⟨_, rfl, .inr ((BX.drew.keep K2 id).keep K3 id), ?_⟩
   go_frame
   refine wpO_append_bytes (by rfl) _ _ rfl (l := recB D f k) (m := D.at (f + k)) (K02.trans K3 (fun _ _ h => h)) (by rfl) ((HB'.out.fresh ((Keep.refl Noth wr).drew.trans K2 (fun _ _ h => h))).fresh K3) (by rfl) (by rw [H64.out]) (fun e => by cases e) (Bytes.same_as HB3) (by rw [Hrl.out, H64.out]; omega) ?_
   intro v4 w4 HB4 K04 K4
   have BX4 : BlockIs w4 b4 SV 30 := ((BX.drew.keep K2 id).keep K3 id).keep K4 (fun e => (Rows.ne HB'.out BX (by decide)) e)
   refine ⟨.inr BX4, ?_⟩
   rw [← Hrs.out] at HB4
   have HB4' := hid HB4
   clear HB4 K2 K3 K4 HB3 K02
   go_frame
   refine wpO_run (v := v4) (w1 := w4) (by rfl) (by go_simp) (.inl rfl) (wpO_nil ?_)
   go_frame
   go_wp2_with fail
   go_roundw
   case rel => exact ⟨k + 1, by go_num, hlt, HB4'.out, BX4, K04⟩
   case measure => simp [intOf]; omega
  ·have hge : k = used := by omega
   subst hge
   obtain ⟨Ab, cb, rfl⟩ := HB.val2
   have hcb := HB.cap_le
   have hrl := recB_length Hok.out f k hfit
   rw [u1_length, hrl] at hcb
   have HRd := Bytes.same_as HB
   rw [hrl]
   have HRd' := hid HRd
   have Hcb := hid hcb
   have hcm : cb ≤ maxLen := by
    rcases HB.own.2 with ⟨h1, -⟩ | ⟨g', cap', cur', h1, -, -, -, h2, -, -⟩
    ·injection h1 with _ _ h1; subst h1; exact Nat.zero_le _
    ·injection h1 with _ _ h1; subst h1; exact h2
   obtain ⟨i5, hi5, -⟩ := info_parts info5
   have Hi5 := hid hi5
   obtain ⟨ws, hws⟩ : ∃ ws, ws = wr := ⟨_, rfl⟩
   subst hws
   have HKs := hid HK
   clear HB HRd hrl hlt hk hcb BX hi5 HK
   go_wp2_with fail
   go_loopw [13, 10, 12] (fun iv xv ov w2 => ∃ (i : Nat) (l : List (List UInt8)) (a : Nat) (A : Option Addr) (c : Nat), iv = .int .i64 i ∧ i ≤ count ∧ recsL D f k i = some (l, a) ∧ a ≤ k ∧ xv = .slice A (64 * (k - a)) c ∧ 64 * (k - a) ≤ c ∧ c ≤ maxLen ∧ Reads ws A (bv (recB D (f + a) (k - a))) ∧ Recs w2 (Fresh ws w2) ov l ∧ Keep Noth ws w2) (fun iv _ _ _ => count - (intOf iv).toNat)
   case atStart => exact ⟨0, [], 0, Ab, cb, rfl, Nat.zero_le _, rfl, Nat.zero_le _, rfl, Hcb.out, hcm, HRd'.out, Recs.nil _ _, Keep.refl _ _⟩
   case round =>
    obtain ⟨i, l, a, A, c, rfl, hi, hrl, hak, rfl, hLc, hcm2, hRd, hRs, hK2⟩ := hrel
    obtain ⟨B, hB⟩ : ∃ B, B = recB D (f + a) (k - a) := ⟨_, rfl⟩
    obtain ⟨L, hL⟩ : ∃ L, L = 64 * (k - a) := ⟨_, rfl⟩
    have hBl := recB_length Hok.out (f + a) (k - a) (by omega)
    have hrr := recF_ref Hok.out (k := f + a) (left := k - a) (by omega)
    rw [← hB] at hRd hrr hBl
    rw [← hL] at hLc hBl ⊢
    have hcmI : (c : Int) ≤ 9223372036854775807 := by unfold maxLen at hcm2; omega
    have hLcI : (L : Int) ≤ c := by omega
    have hlc := (recsL_le Hok.out (show f + k ≤ D.l.length from hfit) i l a hrl).2.1
    have Hrr := hid hrr
    have Hrl := hid hrl
    have HRd2 := hid hRd
    have HRs := hid hRs
    have HB := hid hB
    have HL := hid hL
    have HBl := hid hBl
    have HK2 := hid hK2
    have Hlc := hid hlc
    clear hrr hrl hRd hRs hB hL hBl hK2 hlc hcm2 hLc
    by_cases hlt : i < count
    ·have hlt' : (i : Int) < count := by omega
     have hno : ∀ (wx : World), recF D (f + a) (k - a) = none → recsF D area k count = none := fun wx h => recsF_none Hrf.out hlt (recsL_no Hrl.out h)
     have Hno := hid hno
     clear hno
     by_cases hz : L = 0
     ·have hLz : (L : Int) = 0 := by omega
      have hnone := Hno.out w (by rw [Hrr.out]; unfold refRec; rw [if_pos (by rw [HBl.out]; exact hz)])
      have Hnone := hid hnone
      clear hz hnone
      go_wp2_with fail
      go_ret2
      rw [Hnone.out]
      exact ⟨_, rfl, ⟨_, _, _, rfl⟩, (fun l h => by cases h), HKs.out.trans HK2.out (fun _ _ h => h)⟩
     ·have hLz : ((L : Int) == 0) = false := by simp; omega
      have hL2 : (2 : Int) ≤ c := by have := HL.out; omega
      have hL64 : 64 ≤ L := by have := HL.out; omega
      obtain ⟨gA, oA, rfl, hra, hga⟩ := HRd2.out.where (by rw [bv_length, HBl.out]; omega)
      obtain ⟨n, hn⟩ : ∃ n, n = getN (B.take 2) := ⟨_, rfl⟩
      have hB2 : (B.take 2).length = 2 := by rw [List.length_take, HBl.out]; omega
      have hn6 : n < 65536 := by rw [hn]; have := getN_lt (B.take 2); rw [hB2] at this; omega
      have hnc : numC (B.take 2) = n := by unfold numC; rw [← hn]; exact Nat.min_eq_left (by omega)
      have hnum := number_calls wr (some ⟨gA, oA, none⟩) c (B.take 2) (by have := (HRd2.out.keep HK2.out (fun _ _ => id)).take 2; rwa [bv_take] at this) (by rw [hB2]; decide)
      rw [hB2, hnc] at hnum
      have hrr := Hrr.out
      unfold refRec at hrr
      rw [if_neg (by rw [HBl.out]; exact hz), HBl.out, ← hn] at hrr
      have Hrr2 := hid hrr
      have hnI : (n : Int) < 65536 := by omega
      have HBt := hid hB2
      clear hra hn hB2 hnc hrr Hrr hz
      go_wp2_with fail
      refine hnum.mono ?_
      rintro e w' ⟨rfl, rfl⟩
      clear hnum
      by_cases hbad : 4000 < n ∨ L < n + 2
      ·have hnone := Hno.out wr (by rw [Hrr2.out, if_pos hbad])
       have Hnone := hid hnone
       by_cases hn4 : 4000 < n
       ·have hn4' : decide ((n : Int) > 4000) = true := by simp; omega
        clear hnone hbad hn4
        go_wp2_with fail
        go_ret2
        rw [Hnone.out]
        exact ⟨_, rfl, ⟨_, _, _, rfl⟩, (fun l h => by cases h), HKs.out.trans HK2.out (fun _ _ h => h)⟩
       ·have hn4' : decide ((n : Int) > 4000) = false := by simp; omega
        have hns : decide ((n : Int) + 2 > L) = true := by simp; omega
        clear hnone hbad hn4
        go_wp2_with fail
        go_ret2
        rw [Hnone.out]
        exact ⟨_, rfl, ⟨_, _, _, rfl⟩, (fun l h => by cases h), HKs.out.trans HK2.out (fun _ _ h => h)⟩
      ·have hn4' : decide ((n : Int) > 4000) = false := by simp; omega
       have hns : decide ((n : Int) + 2 > L) = false := by simp; omega
       have hn4 : n ≤ 4000 := by omega
       have hnL : n + 2 ≤ L := by omega
       have hrr := Hrr2.out
       rw [if_neg hbad] at hrr
       obtain ⟨rec, hrec⟩ : ∃ rec, rec = (B.drop 2).take n := ⟨_, rfl⟩
       rw [← hrec] at hrr
       have hrcl : rec.length = n := by rw [hrec, List.length_take, List.length_drop, HBl.out]; omega
       obtain ⟨a2, hc2, hr2⟩ := cut_lh (P := Try.prog) 33 5 .i64 .i64 sl33 info5 ⟨gA, oA, none⟩ L c 2 (n + 2) (by omega) (by omega)
       have hR2 := hr2 wr _ (by rw [bv_length, HBl.out]; omega) (HRd2.out.keep HK2.out (fun _ _ => id))
       have hR2' := hR2.take n
       rw [bv_drop, bv_take, ← hrec] at hR2'
       have hn2 : ((n + 2 : Nat) : Int) = 2 + (n : Int) := by push_cast; omega
       rw [hn2, show n + 2 - 2 = n by omega] at hc2
       have Hc2 := hid hc2
       have HR2 := hid hR2'
       have Hrr3 := hid hrr
       have Hrec := hid hrec
       have Hrcl := hid hrcl
       clear hbad hrr hrec hrcl hc2 hr2 hR2 hR2' hn2 Hrr2
       go_wp2_with (first
        | (guard_target = wpList _ _ _ (Oper.mk _ (Op.buildSlice _ _ _) _ _ _ _ :: _) _ _; refine wpList_slice0_v rfl 33 5 1 rfl sl33 Hi5.out ?_; intro b6 w5 hb6 R6 K5)
        | (guard_target = wpList _ _ _ (Oper.mk _ (Op.slice _ _ _ _ _) _ _ _ _ :: _) _ _; refine wpList_run rfl _ _ (exec_sliceAt 33 _ _ _ rfl (by rfl) (by rfl) (by rfl) (Hc2.out w5)) ?_)
        | (at_builtin; refine wpList_append_bytes (by rfl) _ _ rfl (l := []) (m := rec) (HK2.out.trans K5 (fun _ _ h => h)) (by rfl) (Rows.mono R6 (fun q hq => ⟨by have := HK2.out.size; rw [hq]; omega, by have := R6.ownlt q (by rw [hq]; rfl); exact this⟩)) (by rfl) Hrcl.out.symm (fun e => by cases e) (HR2.out.keep K5 (fun _ _ => id)) (by rw [Hrcl.out]; show 0 + n ≤ _; omega) ?_; intro v7 w7 X7 K07 K7))
       rw [List.nil_append] at X7
       obtain ⟨A7, c7, hv7⟩ := X7.val2
       subst hv7
       have hx7 := Bytes.same_as X7
       have hc7 := Rows.none_cap X7
       have hpk := pack_calls w7.drew A7 c7 rec (hx7.keep (Keep.refl Noth w7).drew (fun _ _ => id)) hc7 (by rw [Hrcl.out]; omega)
       have hKr7 : Keep Noth wr w7 := by
        refine (K5.trans K7 (fun i hi e => ?_))
        have : i = b6 := R6.foot i e
        omega
       have hRA7 := HRd2.out.keep (HK2.out.trans hKr7 (fun _ _ h => h)) (fun _ _ => id)
       have HX7 := hid X7
       have HRA7 := hid hRA7
       have HK07 := hid K07
       have HKr7 := hid hKr7
       clear K5 K7 R6 hx7 X7 hRA7 K07 hKr7 HK2 HR2
       refine wp_region_ph [[(0, true), (3, true), (4, true), (1, false)], [(2, true), (5, false), (6, true), (7, true), (8, true), (9, false)]] follows_mixed (by kernel_rfl) ?_
       refine ⟨fun _ => True, fun _ _ => trivial, trivial, ?_⟩
       simp only [List.map_cons, List.map_nil, List.toList_toArray, List.getElem?_cons_succ, List.getElem?_cons_zero, Option.getD_some]
       refine wpO_pure (v := .slice A7 rec.length c7) (by rfl) (fun w' hw' => by go_simp) ?_
       go_frame
       refine wpO_pure (v := .slice (some ⟨gA, oA, none⟩) L c) (by rfl) (fun w' hw' => by go_simp) ?_
       go_frame
       refine wpO_pure (v := .slice A7 rec.length c7) (by rfl) (fun w' hw' => by go_simp) ?_
       go_frame
       refine wpO_call (by rfl) (exec_call' 100 _ _ rfl Try.func100 (by kernel_rfl) (by rfl) #[.slice A7 rec.length c7] (by simp [Act.eval])) ?_
       refine hpk.mono ?_
       rintro e w8 ⟨gp, cp, rfl, XP, K8⟩
       refine ⟨_, rfl, .inr trivial, ?_⟩
       refine wpO_nil ⟨trivial, ?_⟩
       go_frame
       have K78 : Keep Noth w7 w8 := (Keep.refl Noth w7).drew.trans K8 (fun _ _ h => h)
       have hbl : 64 * blocksN rec ≤ L := by unfold blocksN; rw [Hrcl.out]; have := HL.out; omega
       obtain ⟨bl, hbe⟩ : ∃ bl, bl = blocksN rec := ⟨_, rfl⟩
       have hbk := fun W => refBlocks_calls W A7 c7 rec (by rw [Hrcl.out]; omega)
       rw [← hbe] at hbl hbk
       have Hbe := hid hbe
       clear hbe
       have hBt : (B.take (64 * bl)).length = 64 * bl := by rw [List.length_take, HBl.out]; omega
       have hcv1 := fun W (hW : Keep Noth w8 W) => run_conv (P := Try.prog) (w := W) 33 5 9 sl33 Try.underlying5 Try.underlying9 (some ⟨gp, 0, none⟩) (packB rec).length cp (packB rec) rfl ((Bytes.same_as XP).keep hW (fun _ _ => id))
       have hcv2 := fun W (hW : Keep Noth w8 W) => run_conv (P := Try.prog) (w := W) 33 5 9 sl33 Try.underlying5 Try.underlying9 (some ⟨gA, oA, none⟩) (64 * bl) c (B.take (64 * bl)) hBt.symm (by
        have h := (HRA7.out.keep (K78.trans hW (fun _ _ h => h)) (fun _ _ => id)).take (64 * bl)
        rwa [bv_take] at h)
       have hbI : (64 : Int) * bl ≤ L := by omega
       refine ⟨fun W => Keep Noth w8 W, fun _ _ => trivial, Keep.refl Noth w8, ?_⟩
       simp only [List.map_cons, List.map_nil, List.toList_toArray, List.getElem?_cons_succ, List.getElem?_cons_zero, Option.getD_some]
       refine wpO_pure (v := .string ⟨(packB rec).toArray⟩) (by rfl) (fun w' hw' => by have := hcv1 w' hw'; simp [execOp, Act.eval, this, Result.andThen]) ?_
       go_frame
       refine wpO_call (by rfl) (exec_call' 101 _ _ rfl Try.func101 (by kernel_rfl) (by rfl) #[.slice A7 rec.length c7] (by simp [Act.eval])) ?_
       refine (hbk w8).mono ?_
       rintro e w' ⟨rfl, rfl⟩
       refine ⟨_, rfl, .inr (Keep.refl Noth w8), ?_⟩
       go_frame
       refine wpO_pure (v := .int .i64 ((64 : Int) * bl)) (by rfl) (fun w' hw' => by go_simp; exact wrapI (by omega) (by omega)) ?_
       go_frame
       refine wpO_pure (v := .slice (some ⟨gA, oA, none⟩) (64 * bl) c) (by rfl) (fun w' hw' => by go_simp; rw [if_pos ⟨by omega, by omega⟩, show ((64 : Int) * bl).toNat = 64 * bl by omega]) ?_
       go_frame
       refine wpO_pure (v := .string ⟨(B.take (64 * bl)).toArray⟩) (by rfl) (fun w' hw' => by have := hcv2 w' hw'; simp [execOp, Act.eval, this, Result.andThen]) ?_
       go_frame
       refine wpO_run (v := .bool (!(packB rec == B.take (64 * bl)))) (w1 := w8) (by rfl) (by go_simp) (.inl rfl) (wpO_nil ⟨Keep.refl _ _, wpPh_nil ?_⟩)
       go_frame
       have HK78 := hid K78
       have HbI := hid hbI
       have hlim := Hbe.out
       clear hpk hcv1 hcv2 XP K8 hBt K78 hlim
       cases hq : (packB rec == B.take (64 * bl)) with
       | false =>
        simp only [Bool.not_false]
        have hnone := Hno.out wr (by rw [Hrr3.out, ← Hbe.out, if_neg (fun e => by rw [e] at hq; simp at hq)])
        have Hnone := hid hnone
        clear hnone hq hbk
        go_wp2_with fail
        go_ret2
        rw [Hnone.out]
        exact ⟨_, rfl, ⟨_, _, _, rfl⟩, (fun l h => by cases h), HKs.out.trans (HK07.out.trans HK78.out (fun _ _ h => h)) (fun _ _ h => h)⟩
       | true =>
        simp only [Bool.not_true]
        have hr1 : recF D (f + a) (k - a) = some rec := by rw [Hrr3.out, ← Hbe.out, if_pos (by simpa using hq)]
        have hrs := recsL_some Hrl.out hr1
        rw [← Hbe.out] at hrs
        have Hrs := hid hrs
        have hb1 : 1 ≤ bl := by rw [Hbe.out]; exact blocksN_pos rec
        obtain ⟨a3, hc3, hr3⟩ := cut_lo (P := Try.prog) 33 5 .i64 sl33 info5 ⟨gA, oA, none⟩ L c (64 * bl) hbl
        have hRn := hr3 ws _ (by rw [bv_length, HBl.out]; omega) HRd2.out
        have hbk2 : bl ≤ k - a := by have := HL.out; omega
        rw [bv_drop] at hRn
        have hBd : B.drop (64 * bl) = recB D (f + (a + bl)) (k - (a + bl)) := by
         have := recB_drop Hok.out (k := f + a) (i := bl) (j := k - a - bl) (by omega)
         rw [show bl + (k - a - bl) = k - a by omega, ← HB.out] at this
         rw [this, Nat.add_assoc, Nat.sub_sub]
        rw [hBd] at hRn
        have HRn := hid hRn
        have hLn : L - 64 * bl = 64 * (k - (a + bl)) := by have := HL.out; omega
        have HLn := hid hLn
        have hcn : 64 * (k - (a + bl)) ≤ c - 64 * bl := by have := HL.out; omega
        have hcx : c - 64 * bl ≤ maxLen := by unfold maxLen; omega
        have hnat : ((64 * bl : Nat) : Int) = 64 * (bl : Int) := by push_cast; rfl
        rw [hnat] at hc3
        have Hc3 := hid hc3
        have hX8 := HX7.out.fresh HK78.out
        have HX8 := hid hX8
        have hR8 : Recs w8 (Fresh ws w8) u12 l := (HRs.out.keep (HKr7.out.trans HK78.out (fun _ _ h => h)) (Dj.noth _)).mono (fun q hq => ⟨hq.1, by have := hq.2; have := HKr7.out.size; have := HK78.out.size; omega⟩)
        have HR8 := hid hR8
        have HK08 := hid (HK07.out.trans HK78.out (fun _ _ h => h))
        have Hbk := hid hbk
        clear hq hr1 hrs hc3 hr3 hRn hBd hLn hnat hX8 hR8 hbk
        go_wp2_with (first
         | (guard_target = wpList _ _ _ (Oper.mk _ (Op.buildSlice 63 _ _) _ _ _ _ :: _) _ _; refine wpList_slice1_v rfl 63 33 _ rfl sl63 [.slice A7 rec.length c7] (.slice none 0 0) info33 rfl (by decide) (by decide) (by rfl) rfl ?_; intro b9 w9 hb9 B9 K9)
         | (at_builtin; refine wpList_append_rec sl63 info33 rfl _ _ rfl (Fresh ws w8) (Fresh ws w8) _ (.slice A7 rec.length c7) l rec (by rfl) (HR8.out.keep K9 (Dj.noth _)) b9 (by rfl) B9 (HX8.out.keep K9 (Dj.noth _)) (by rw [Hlc.out]; omega) ?_; intro v10 w10 HR10 K10 hF10))
        have hs9 := K9.size
        have hs10 := K10.size
        have hs08 := HK08.out.size
        have HR11 : Recs w10 (Fresh ws w10) v10 (l ++ [rec]) := HR10.mono (fun q hq => by
         rcases hq with hq | hq | hq
         ·exact ⟨hq.1, by have := hq.2; omega⟩
         ·exact ⟨hq.1, by have := hq.2; omega⟩
         ·exact ⟨by omega, hq.2⟩)
        have K010 : Keep Noth ws w10 := (HK08.out.trans K9 (fun _ _ h => h)).own K10 (fun q e => (hF10 q e).1)
        have HR11h := hid HR11
        have HK010 := hid K010
        clear HR10 K10 K9 B9 HR11 K010 hF10
        refine (Hbk.out w10).mono ?_
        rintro e w' ⟨rfl, rfl⟩
        have hbI := HbI.out
        go_wp2_with (first
         | (guard_target = wpList _ _ _ (Oper.mk _ (Op.slice _ _ _ _ _) _ _ _ _ :: _) _ _; refine wpList_run rfl _ _ (exec_sliceAt 33 _ _ _ rfl (by rfl) (by rfl) (by rfl) (Hc3.out w10)) ?_))
        go_roundw
        case rel => exact ⟨i + 1, l ++ [rec], a + bl, some a3, c - 64 * bl, by go_num, hlt, Hrs.out, by omega, by rw [HLn.out], hcn, hcx, HRn.out, HR11h.out, HK010.out⟩
        case measure => simp [intOf]; omega
    ·have hic : i = count := by omega
     subst hic
     have hrx : recsF D area k i = if a = k then some l else none := by rw [Hrf.out, Hrl.out]
     have Hrx := hid hrx
     obtain ⟨A5, n5, hv5⟩ := HRs.out.val
     subst hv5
     have hfr := HRs.out
     have hRf : Recs wr (Fresh w wr) (.slice A5 l.length n5) l := hfr.mono (fun q hq => ⟨by have := hq.1; have := HKs.out.size; omega, hq.2⟩)
     have HRf := hid hRf
     have Hfin := hid (HKs.out.trans HK2.out (fun _ _ h => h))
     clear hlt hrx hfr hRf
     go_wp2_with fail
     go_ret2
     rw [Hrx.out]
     have hLk := HL.out
     refine ⟨.slice A5 l.length n5, ?_, ⟨_, _, _, rfl⟩, fun l' e => ?_, Hfin.out⟩
     ·show Ending.returned (.tuple #[.slice A5 l.length n5, .bool ((L : Int) == 0)]) = _
      by_cases hau : a = k
      ·subst hau
       have : L = 0 := by omega
       simp [this]
      ·rw [if_neg hau]
       have : ¬ (L = 0) := by omega
       simp [this]
     ·split at e
      ·injection e with e
       subst e
       exact HRf.out
      ·cases e
end Go.Proofs.Ytffcglfepobdjaa
set_option maxRecDepth 10000
set_option maxHeartbeats 1500000
namespace Go.Proofs.Ytffcglfepobdjaa
open Go.RowKit
/-- The cells of the document's state. -/
def fsv (SV : List Value) (seq : Int) (slot : Int) (area used : Int) (vL vS : Value) : List Value := SV ++ [.int .i64 seq, .int .i64 slot, .int .i64 area, .int .i64 used, vL, vS]
def stz5 : List Value := [.slice none 0 0, .slice none 0 0, .int .i64 0, .int .i64 0, .bool false]
def zfs : List Value := fsv stz5 0 0 0 0 (.slice none 0 0) (.slice none 0 0)
theorem info68 : (Try.prog.info? 68).map (fun i => (i.zero, i.size, i.bytes)) = some (some (.agg zfs.toArray), 11, 152) := by kernel_rfl
theorem zfs_cells : (Value.agg zfs.toArray).cells = zfs.toArray := rfl
theorem built68 (parts : List (Nat × Value)) : Try.prog.built 68 parts = Instr.fill (#[(0, 5), (5, 1), (6, 1), (7, 1), (8, 1), (9, 1), (10, 1)][·]?) zfs.toArray parts := by kernel_rfl
theorem build68a (a b c d e : Value) (W : World) : (Instr.build 68 #[(0, .agg [a, b, c, d, e].toArray)]).run Try.prog W = .ok (.agg (fsv [a, b, c, d, e] 0 0 0 0 (.slice none 0 0) (.slice none 0 0)).toArray) W := by
 refine run_build W 68 _ _ ?_
 rw [built68]
 show Instr.fill _ _ [(0, .agg [a, b, c, d, e].toArray)] = _
 rw [fill_cons _ _ 0 0 5 _ [a, b, c, d, e] _ rfl rfl rfl (by simp [zfs, fsv, stz5])]
 rfl
theorem build68b (a b c d e : Value) (n : Int) (W : World) : (Instr.build 68 #[(0, .agg [a, b, c, d, e].toArray), (2, .int .i64 n)]).run Try.prog W = .ok (.agg (fsv [a, b, c, d, e] 0 n 0 0 (.slice none 0 0) (.slice none 0 0)).toArray) W := by
 refine run_build W 68 _ _ ?_
 rw [built68]
 show Instr.fill _ _ [(0, .agg [a, b, c, d, e].toArray), (2, .int .i64 n)] = _
 rw [fill_cons _ _ 0 0 5 _ [a, b, c, d, e] _ rfl rfl rfl (by simp [zfs, fsv, stz5])]
 rw [fill_cons _ _ 2 6 1 _ [.int .i64 n] _ rfl rfl rfl (by simp [zfs, fsv, stz5, splice])]
 rfl
theorem build68c (a b c d e : Value) (m n p q : Int) (A : Option Addr) (k l : Nat) (W : World) : (Instr.build 68 #[(0, .agg [a, b, c, d, e].toArray), (1, .int .i64 m), (2, .int .i64 n), (3, .int .i64 p), (4, .int .i64 q), (5, .slice A k l)]).run Try.prog W = .ok (.agg (fsv [a, b, c, d, e] m n p q (.slice A k l) (.slice none 0 0)).toArray) W := by
 refine run_build W 68 _ _ ?_
 rw [built68]
 show Instr.fill _ _ [(0, .agg [a, b, c, d, e].toArray), (1, .int .i64 m), (2, .int .i64 n), (3, .int .i64 p), (4, .int .i64 q), (5, .slice A k l)] = _
 rw [fill_cons _ _ 0 0 5 _ [a, b, c, d, e] _ rfl rfl rfl (by simp [zfs, fsv, stz5])]
 rw [fill_cons _ _ 1 5 1 _ [.int .i64 m] _ rfl rfl rfl (by simp [zfs, fsv, stz5, splice])]
 rw [fill_cons _ _ 2 6 1 _ [.int .i64 n] _ rfl rfl rfl (by simp [zfs, fsv, stz5, splice])]
 rw [fill_cons _ _ 3 7 1 _ [.int .i64 p] _ rfl rfl rfl (by simp [zfs, fsv, stz5, splice])]
 rw [fill_cons _ _ 4 8 1 _ [.int .i64 q] _ rfl rfl rfl (by simp [zfs, fsv, stz5, splice])]
 rw [fill_cons _ _ 5 9 1 _ [.slice A k l] _ rfl rfl rfl (by simp [zfs, fsv, stz5, splice])]
 rfl
theorem fsv_length (a b c d e : Value) (m n p q : Int) (vL vS : Value) : (fsv [a, b, c, d, e] m n p q vL vS).length = 11 := rfl
theorem fsv_one {a b c d e vL vS : Value} (m n p q : Int) (h : ∀ u ∈ [a, b, c, d, e], u.oneCell' = true) (hL : vL.oneCell' = true) (hS : vS.oneCell' = true) : ∀ u ∈ fsv [a, b, c, d, e] m n p q vL vS, u.oneCell' = true := by
 intro u hu
 rcases List.mem_append.1 hu with hu | hu
 ·exact h u hu
 ·simp only [List.mem_cons, List.not_mem_nil, or_false] at hu
  rcases hu with rfl | rfl | rfl | rfl | rfl | rfl <;> first | rfl | exact hL | exact hS
theorem hdOk_eq (D : DS) (b : Bk) : hdOk D b = (decide (1 ≤ (hdOf b).seq ∧ (hdOf b).seq < 1099511627776 ∧ (hdOf b).area ≤ 1 ∧ (hdOf b).used ≤ D.half) && (b == (hdOf b).bytes)) := rfl
theorem openP_skip {D : DS} {k : Nat} (h : hdOk D (D.at k) = false ∨ (hdOf (D.at k)).seq ≤ (openP D k).own.seq) : openP D (k + 1) = openP D k := by
 rcases h with h | h
 ·refine openP_none ?_
  rw [holdsF_recsF, h]; rfl
 ·cases he : holdsF D k with
  | none => exact openP_none he
  | some p =>
   obtain ⟨hd, l⟩ := p
   rw [openP_some he]
   have : hd = hdOf (D.at k) := by
    rw [holdsF_recsF] at he
    split at he
    ·cases hr : recsF D (hdOf (D.at k)).area (hdOf (D.at k)).used (hdOf (D.at k)).count with
     | none => rw [hr] at he; cases he
     | some l' => rw [hr] at he; injection he with he; injection he with e1 e2; exact e1.symm
    ·cases he
   rw [if_neg (by rw [this]; omega)]
theorem openP_take {D : DS} {k : Nat} (h : hdOk D (D.at k) = true) (hs : (openP D k).own.seq < (hdOf (D.at k)).seq) :
  openP D (k + 1) = match recsF D (hdOf (D.at k)).area (hdOf (D.at k)).used (hdOf (D.at k)).count with
   | some l => ⟨D, hdOf (D.at k), (k : Int), l, [], 0⟩
   | none => openP D k := by
 have he := holdsF_recsF D k
 rw [if_pos h] at he
 cases hr : recsF D (hdOf (D.at k)).area (hdOf (D.at k)).used (hdOf (D.at k)).count with
 | none => rw [hr] at he; rw [openP_none he]
 | some l => rw [hr] at he; rw [openP_some he, if_pos hs]
theorem openP_good {D : DS} (hok : D.ok) (h4 : 4 ≤ D.l.length) : ∀ k, k ≤ 2 → (openP D k).good := by
 intro k
 induction k with
 | zero =>
  intro _
  exact ⟨hok, h4, Nat.zero_le _, Nat.zero_le _, (show (0 : Nat) < 1099511627776 by decide), (show (0 : Nat) < 4294967296 by decide), (show (-1 : Int) ≤ -1 ∧ (-1 : Int) ≤ 1 by decide), Nat.zero_le _, Nat.zero_le _, fun b hb => (by cases hb), fun b hb => (by cases hb)⟩
 | succ k ih =>
  intro hk
  have ih := ih (by omega)
  cases he : holdsF D k with
  | none => rw [openP_none he]; exact ih
  | some p =>
   obtain ⟨h, l⟩ := p
   rw [openP_some he]
   split
   ·obtain ⟨q1, q2, q3, q4, q5, q6, q7, q8⟩ := holdsF_good hok h4 (show k < 2 by omega) he
    exact ⟨hok, h4, q1, by show h.used + 0 ≤ D.half; omega, q3, q4, (show (-1 : Int) ≤ (k : Int) ∧ (k : Int) ≤ 1 from ⟨by omega, by omega⟩), q5, Nat.le_refl _, q6, fun b hb => by cases hb⟩
   ·exact ih
end Go.Proofs.Ytffcglfepobdjaa
set_option maxRecDepth 100000
set_option maxHeartbeats 2000000
namespace Go.Proofs.Ytffcglfepobdjaa
open Go.RowKit
theorem Reads.part {w : World} {g o : Nat} {b : List UInt8} (n : Nat) (h : Reads w (some ⟨g, 0, none⟩) (bv b)) : Reads w (some ⟨g, o, none⟩) (bv ((b.drop o).take n)) := by
 intro j u hu
 rw [← bv_take, ← bv_drop, List.getElem?_take] at hu
 split at hu
 ·rw [List.getElem?_drop] at hu
  obtain ⟨ad, e, hx⟩ := h _ u hu
  injection e with e
  subst e
  exact ⟨_, rfl, by rw [Addr.add_mid] at hx ⊢; rw [Nat.zero_add] at hx; exact hx⟩
 ·cases hu
theorem getN_take_lt (b : List UInt8) : getN (b.take 4) < 4294967296 := by
 have h := getN_lt (b.take 4)
 have h4 : (b.take 4).length ≤ 4 := by rw [List.length_take]; omega
 have : (256 : Nat) ^ (b.take 4).length ≤ 256 ^ 4 := Nat.pow_le_pow_right (by decide) h4
 omega
theorem numC_small {b : List UInt8} (h : getN b < 4294967296) : numC b = getN b := by unfold numC; exact Nat.min_eq_left (by omega)
theorem numC_le (b : List UInt8) : numC b ≤ 1099511627776 := Nat.min_le_right _ _
theorem numC_le' (b : List UInt8) : numC b ≤ getN b := Nat.min_le_left _ _
theorem numC_eq {b : List UInt8} (h : numC b < 1099511627776) : numC b = getN b := by
 unfold numC at h ⊢
 rcases Nat.le_total (getN b) 1099511627776 with e | e
 ·exact Nat.min_eq_left e
 ·rw [Nat.min_eq_right e] at h; exact absurd h (Nat.lt_irrefl _)
theorem hdOk_no {D : DS} {b : Bk} (h : 1099511627776 ≤ (hdOf b).seq ∨ 1 < (hdOf b).area ∨ D.half < (hdOf b).used ∨ (b == (hdOf b).bytes) = false) : hdOk D b = false := by
 rw [hdOk_eq]
 rcases h with h | h | h | h
 ·rw [decide_eq_false (fun e => absurd e.2.1 (Nat.not_lt.2 h))]; rfl
 ·rw [decide_eq_false (fun e => absurd e.2.2.1 (Nat.not_le.2 h))]; rfl
 ·rw [decide_eq_false (fun e => absurd e.2.2.2 (Nat.not_le.2 h))]; rfl
 ·rw [h, Bool.and_false]
theorem refOpen_ok {w : World} {F : Nat → Prop} {vl vr : Value} {D : DS} (H : StAt w F vl vr D) (hok : D.ok) (hr : D.row.length ≤ 1099511627776) (hd : D.down = false) (h4 : 4 ≤ D.l.length) :
  Calls Try.prog 48 #[.agg (stv vl vr D).toArray] w (fun e w' => ∃ A c, e = .returned (.tuple #[.agg (fsv (stv vl vr D) (openS D).own.seq (openS D).slot (openS D).own.area (openS D).own.used (.slice A (openS D).l.length c) (.slice none 0 0)).toArray, .int .i64 0]) ∧ Recs w' (Fresh w w') (.slice A (openS D).l.length c) (openS D).l ∧ Keep Noth w w') := by
 have hone := H.l.one_val.1
 have hone2 := H.row.one_val.1
 have hhf := fun W (hW : Keep Noth w W) => refHalf_calls (H.keep hW (Dj.noth _)) hok.most
 have hat := fun W (hW : Keep Noth w W) (k : Nat) (hk : k < D.l.length) => refAt_calls (H.keep hW (Dj.noth _)) hok hr k hk
 have hrc := fun W (hW : Keep Noth w W) (area used count : Nat) (ha : area ≤ 1) (hu : used ≤ D.half) (hc : count ≤ 4294967296) => refRecords_calls (H.keep hW (Dj.noth _)) hok hr (by omega) area used count ha hu hc
 obtain ⟨x0, x1, x2, x3, hSV, hx0⟩ : ∃ x0 x1 x2 x3, stv vl vr D = [x0, x1, x2, x3, .bool false] ∧ ∀ u ∈ [x0, x1, x2, x3, Value.bool false], u.oneCell' = true := ⟨vl, vr, _, _, by unfold stv; rw [hd], by
  intro u hu
  simp only [List.mem_cons, List.not_mem_nil, or_false] at hu
  rcases hu with rfl | rfl | rfl | rfl | rfl <;> first | exact hone | exact hone2 | rfl⟩
 rw [hSV] at hhf hat hrc ⊢
 have Hhf := hid hhf
 have Hat := hid hat
 have Hrc := hid hrc
 have Hok := hid hok
 have hhl := half_le hok
 have hhp : 1 ≤ D.half := by unfold DS.half; omega
 have Hx0 := hid hx0
 clear hhf hat hrc hok H hone hone2 hSV hx0
 go_enter Try.func48, Try.ntmps48
 go_wp2_with (first
  | (guard_target = wpList _ _ _ (Oper.mk _ (Op.box 30 _) _ _ _ _ :: _) _ _; refine wpList_box_v rfl 30 _ rfl [x0, x1, x2, x3, .bool false] (by rfl) ?_; intro b1 w1 hb1 B1 K1)
  | (guard_target = wpList _ _ _ (Oper.mk _ (Op.alloc 68) _ _ _ _ :: _) _ _; refine wpList_alloc_v rfl 68 rfl (.agg zfs.toArray) info68 zfs zfs_cells ?_; intro b2 w2 hb2 B2 K2; have B12 := B1.keep K2 id; have c4 := B12.cell 4; simp only [List.getElem?_cons_zero, List.getElem?_cons_succ] at c4)
  | (guard_target = wpList _ _ _ (Oper.mk _ (Op.load 30 _) _ _ _ _ :: _) _ _; refine wpList_load_blk rfl 30 _ rfl b1 0 _ [x0, x1, x2, x3, .bool false] 30 _ (by rfl) B12 (part0 _) Try.underlying30 rfl info30 ?_))
 have K02 : Keep Noth w w2 := K1.trans K2 (fun _ _ h => h)
 refine (Hhf.out w2 K02).mono ?_
 rintro e w3 ⟨rfl, K3⟩
 have K03 : Keep Noth w w3 := K02.trans K3 (fun _ _ h => h)
 have B13 := B12.keep K3 id
 have B23 := B2.keep K3 id
 have hb2w : w.heap.size ≤ b2 := by have := K1.size; omega
 clear B12 B1 B2 c4 K1 K2 K02 K3 hb1 hb2
 have hhI : ¬ ((D.half : Int) < 1) := by omega
 go_wp2_with (first
  | (guard_target = wpList _ _ _ (Oper.mk _ (Op.load 30 _) _ _ _ _ :: _) _ _; refine wpList_load_blk rfl 30 _ rfl b1 0 _ [x0, x1, x2, x3, .bool false] 30 _ (by rfl) B13 (part0 _) Try.underlying30 rfl info30 ?_)
  | (guard_target = wpList _ _ _ (Oper.mk _ (Op.build 68 _) _ _ _ _ :: _) _ _; refine wpList_run rfl _ _ (build68b x0 x1 x2 x3 (.bool false) (-1) _) ?_)
  | (guard_target = wpList _ _ _ (Oper.mk _ (Op.alloc 68) _ _ _ _ :: _) _ _; refine wpList_alloc_v rfl 68 rfl (.agg zfs.toArray) info68 zfs zfs_cells ?_; intro b4 w4 hb4 B4 K4)
  | (guard_target = wpList _ _ _ (Oper.mk _ (Op.store 68 _ _) _ _ _ _ :: _) _ _; refine wpList_store_whole rfl 68 _ _ rfl b4 _ (fsv [x0, x1, x2, x3, .bool false] 0 (-1) 0 0 (.slice none 0 0) (.slice none 0 0)) 68 (by rfl) (by rfl) B4 rfl info68 (fsv_one 0 (-1) 0 0 Hx0.out rfl rfl) ?_; intro w5 B5 K5))
 have hne : b2 ≠ b4 := by have := B23.lt; omega
 have hne1 : b1 ≠ b4 := by have := B13.lt; omega
 have hb4w : w.heap.size ≤ b4 := by have := K03.size; omega
 have B15 := (B13.keep K4 id).keep K5 (fun e => hne1 e)
 have B25 := (B23.keep K4 id).keep K5 (fun e => hne e)
 have K05 : Keep Noth w w5 := (K03.trans K4 (fun _ _ h => h)).own K5 (fun q e => by unfold Only at e; subst e; exact hb4w)
 clear B13 B23 B4 K4 K5 K03 hb4
 go_loopw [5] (fun kv wr => ∃ (k : Nat) (A : Option Addr) (c : Nat), kv = .int .i64 k ∧ k ≤ 2 ∧ BlockIs wr b4 (fsv [x0, x1, x2, x3, .bool false] (openP D k).own.seq (openP D k).slot (openP D k).own.area (openP D k).own.used (.slice A (openP D k).l.length c) (.slice none 0 0)) 68 ∧ Recs wr (Fresh w wr) (.slice A (openP D k).l.length c) (openP D k).l ∧ BlockIs wr b1 [x0, x1, x2, x3, .bool false] 30 ∧ BlockIs wr b2 zfs 68 ∧ Keep Noth w wr) (fun kv _ => 2 - (intOf kv).toNat)
 case atStart => exact ⟨0, none, 0, rfl, by omega, B5, Recs.nil _ _, B15, B25, K05⟩
 case round =>
  obtain ⟨k, A, c, rfl, hk, X4, XR, X1, X2, XK⟩ := hrel
  have hSg := openP_good Hok.out h4 k hk
  obtain ⟨Sk, hSk⟩ : ∃ Sk, Sk = openP D k := ⟨_, rfl⟩
  rw [← hSk] at X4 XR hSg
  have HSk := hid hSk
  have hoseq := hSg.seq
  clear B5 B15 B25 K05 hSk hSg
  by_cases hlt : k < 2
  ·have hlt' : (k : Int) < 2 := by omega
   have h64 := at_64 Hok.out k (by omega)
   obtain ⟨Bk, hBk⟩ : ∃ Bk, Bk = D.at k := ⟨_, rfl⟩
   rw [← hBk] at h64
   have hat := Hat.out wr XK k (by omega)
   rw [← hBk] at hat
   have HBk := hid hBk
   have H64 := hid h64
   clear hBk h64
   go_wp2_with (first
    | (guard_target = wpList _ _ _ (Oper.mk _ (Op.load 30 _) _ _ _ _ :: _) _ _; refine wpList_load_blk rfl 30 _ rfl b1 0 _ [x0, x1, x2, x3, .bool false] 30 _ (by rfl) X1 (part0 _) Try.underlying30 rfl info30 ?_))
   refine hat.mono ?_
   rintro e wa ⟨g, cb, rfl, hcb, hcm, XBy, Ka⟩
   have XB := Bytes.same_as XBy
   have X4 := X4.keep Ka id
   have X1 := X1.keep Ka id
   have X2 := X2.keep Ka id
   have XR : Recs wa (Fresh w wa) (.slice A Sk.l.length c) Sk.l := (XR.keep Ka (Dj.noth _)).mono (fun x hx => ⟨hx.1, by have := hx.2; have := Ka.size; omega⟩)
   have HKa := hid (XK.trans Ka (fun _ _ h => h))
   have hcmI : (cb : Int) ≤ 9223372036854775807 := by unfold maxLen at hcm; omega
   have hcbI : (64 : Int) ≤ cb := by omega
   obtain ⟨y, hy⟩ : ∃ y, Bk[8]? = some y := ⟨_, List.getElem?_eq_getElem (by rw [H64.out]; decide)⟩
   have hcell : wa.cell? ⟨g, 8, none⟩ = some (.int .u8 (y.toNat : Int)) := by
    obtain ⟨ad, e, hx⟩ := XB 8 (Go.Proofs.Ytffcglfepobdjaa.u8 y) (by simp [bv, hy])
    injection e with e
    subst e
    rw [Addr.add_mid] at hx
    exact hx
   obtain ⟨h, hh⟩ : ∃ h, h = hdOf Bk := ⟨_, rfl⟩
   have hha : h.area = y.toNat := by rw [hh]; show (Bk.getD 8 0).toNat = y.toNat; rw [List.getD_eq_getElem?_getD, hy]; rfl
   have hhu : h.used = getN ((Bk.drop 9).take 4) := by rw [hh]; rfl
   have hhc : h.count = getN ((Bk.drop 13).take 4) := by rw [hh]; rfl
   have hhs : h.seq = getN (Bk.take 8) := by rw [hh]; rfl
   have hu4 := getN_take_lt (Bk.drop 9)
   have hc4 := getN_take_lt (Bk.drop 13)
   have hn8 := number_calls wa (some ⟨g, 0, none⟩) cb (Bk.take 8) (by have := XB.take 8; rwa [bv_take] at this) (by rw [List.length_take]; omega)
   have hn9 := number_calls wa (some ⟨g, 9, none⟩) (cb - 9) ((Bk.drop 9).take 4) (XB.part 4) (by rw [List.length_take]; omega)
   have hn13 := number_calls wa (some ⟨g, 13, none⟩) (cb - 13) ((Bk.drop 13).take 4) (XB.part 4) (by rw [List.length_take]; omega)
   rw [show (Bk.take 8).length = 8 by rw [List.length_take, H64.out]; rfl] at hn8
   rw [show ((Bk.drop 9).take 4).length = 4 by rw [List.length_take, List.length_drop, H64.out]; rfl, numC_small hu4, ← hhu] at hn9
   rw [show ((Bk.drop 13).take 4).length = 4 by rw [List.length_take, List.length_drop, H64.out]; rfl, numC_small hc4, ← hhc] at hn13
   rw [← hhu] at hu4
   rw [← hhc] at hc4
   obtain ⟨q, hq⟩ : ∃ q, q = numC (Bk.take 8) := ⟨_, rfl⟩
   rw [← hq] at hn8
   have hqle : q ≤ 1099511627776 := by rw [hq]; exact numC_le _
   have hqs : q ≤ h.seq := by rw [hq, hhs]; exact numC_le' _
   have hqe : q < 1099511627776 → q = h.seq := fun e => by rw [hq] at e ⊢; rw [hhs]; exact numC_eq e
   have hay : h.area < 256 := by rw [hha]; exact y.toNat_lt
   have Hhh := hid hh
   have Hhe := hid hqe
   have Hcell := hid hcell
   clear hq hhs hhu hhc hh hqe hat Ka XK hcm hcell XBy hy
   go_wp2_with fail
   refine hn8.mono ?_
   rintro e w' ⟨rfl, rfl⟩
   have hcell := Hcell.out
   clear hn8
   go_wp2_with fail
   refine hn9.mono ?_
   rintro e w' ⟨rfl, rfl⟩
   clear hn9 hcell
   go_wp2_with fail
   refine hn13.mono ?_
   rintro e w' ⟨rfl, rfl⟩
   clear hn13
   rw [← hha]
   clear hha Hcell
   go_wp2_with fail
   by_cases hc0 : q ≤ Sk.own.seq
   ·have ihc0 : (q : Int) ≤ Sk.own.seq := by omega
    refine wp_region_ordL [(0, true), (1, true), (2, true), (3, true), (4, true), (5, true), (6, true), (7, true), (8, true), (9, true), (10, true), (11, true), (12, true), (13, true), (14, true), (15, false), (16, true), (17, true), (18, true), (19, true), (20, true), (21, true), (22, true), (25, true), (26, true), (23, false), (24, false), (27, true), (28, false)] (fun w' => BlockIs w' b1 [x0, x1, x2, x3, .bool false] 30 ∧ BlockIs w' b4 (fsv [x0, x1, x2, x3, .bool false] Sk.own.seq Sk.slot Sk.own.area Sk.own.used (.slice A Sk.l.length c) (.slice none 0 0)) 68 ∧ Reads w' (some ⟨g, 0, none⟩) (bv Bk)) follows_mixed (by kernel_rfl) ⟨X1.drew, X4.drew, XB.keep (Keep.refl Noth wa).drew (fun _ _ => id)⟩ ?_
    simp only [List.map_cons, List.map_nil, List.getElem?_cons_succ, List.getElem?_cons_zero, Option.getD_some]
    refine wpO_pure (v := .int .i64 (q : Int)) (by rfl) (fun w' hw' => by go_simp) ?_
    go_frame
    refine wpO_pure (v := .pointer (some ⟨b4, 5, none⟩)) (by rfl) (fun w' hw' => by go_simp) ?_
    go_frame
    refine wpO_pure (v := .int .i64 (Sk.own.seq : Int)) (by rfl) (fun w' hw' => by have hc : w'.cell? ⟨b4, 5, none⟩ = some (.int .i64 (Sk.own.seq : Int)) := hw'.2.1.cell 5; go_simp) ?_
    go_frame
    refine wpO_pure (v := .bool true) (by rfl) (fun w' hw' => by go_simp) ?_
    go_frame
    refine wpO_pure (v := .bool true) (by rfl) (fun w' hw' => by go_simp) ?_
    go_frame
    refine wpO_skip (by rfl) ?_
    go_frame
    refine wpO_skip (by rfl) ?_
    go_frame
    refine wpO_pure (v := .bool true) (by rfl) (fun w' hw' => by go_simp) ?_
    go_frame
    refine wpO_pure (v := .bool true) (by rfl) (fun w' hw' => by go_simp) ?_
    go_frame
    refine wpO_skip (by rfl) ?_
    go_frame
    refine wpO_skip (by rfl) ?_
    go_frame
    refine wpO_pure (v := .bool true) (by rfl) (fun w' hw' => by go_simp) ?_
    go_frame
    refine wpO_pure (v := .bool true) (by rfl) (fun w' hw' => by go_simp) ?_
    go_frame
    refine wpO_skip (by rfl) ?_
    go_frame
    refine wpO_skip (by rfl) ?_
    go_frame
    refine wpO_skipf (by rfl) (.inr ⟨X1.drew, X4.drew, XB.keep (Keep.refl Noth wa).drew (fun _ _ => id)⟩) ?_
    go_frame
    refine wpO_skip (by rfl) ?_
    go_frame
    refine wpO_pure (v := .bool true) (by rfl) (fun w' hw' => by go_simp) ?_
    go_frame
    refine wpO_pure (v := .bool true) (by rfl) (fun w' hw' => by go_simp) ?_
    go_frame
    refine wpO_skip (by rfl) ?_
    go_frame
    refine wpO_skip (by rfl) ?_
    go_frame
    refine wpO_skip (by rfl) ?_
    go_frame
    refine wpO_skip (by rfl) ?_
    go_frame
    refine wpO_skip (by rfl) ?_
    go_frame
    refine wpO_skip (by rfl) ?_
    go_frame
    refine wpO_skipf (by rfl) (.inr ⟨X1.drew, X4.drew, XB.keep (Keep.refl Noth wa).drew (fun _ _ => id)⟩) ?_
    go_frame
    refine wpO_skipf (by rfl) (.inr ⟨X1.drew, X4.drew, XB.keep (Keep.refl Noth wa).drew (fun _ _ => id)⟩) ?_
    go_frame
    refine wpO_skip (by rfl) ?_
    go_frame
    refine wpO_run (v := .bool true) (w1 := wa.drew) (by rfl) (by go_simp) (.inl rfl) (wpO_nil ?_)
    go_frame
    have HF := hid (show BlockIs wa.drew b4 _ 68 from X4.drew)
    have HG := hid (show Keep Noth wa wa.drew from (Keep.refl Noth wa).drew)
    have hskip := openP_skip (D := D) (k := k) (by
     rcases Nat.lt_or_ge q 1099511627776 with e | e
     ·have := Hhe.out e; exact .inr (by rw [← HSk.out, ← HBk.out, ← Hhh.out]; omega)
     ·exact .inl (hdOk_no (.inl (by rw [← HBk.out, ← Hhh.out]; omega))))
    rw [← HSk.out] at hskip
    have Hskip := hid hskip
    have HX1 := hid (X1.keep HG.out id)
    have HX2 := hid (X2.keep HG.out id)
    have HXR := hid ((XR.keep HG.out (Dj.noth _)).mono (fun x hx => (⟨hx.1, by have := hx.2; have := HG.out.size; omega⟩ : Fresh w wa.drew x)))
    have HXK := hid (HKa.out.trans HG.out (fun _ _ h => h))
    clear hskip X1 X2 X4 XB XR
    go_wp2_with fail
    go_roundw
    case rel => exact ⟨k + 1, A, c, by go_num, by omega, by rw [Hskip.out]; exact HF.out, by rw [Hskip.out]; exact HXR.out, HX1.out, HX2.out, HXK.out⟩
    case measure => simp [intOf]; omega
   have ihc0 : ¬ ((q : Int) ≤ Sk.own.seq) := by omega
   by_cases hc1 : 1099511627776 ≤ q
   ·have ihc1 : (1099511627776 : Int) ≤ q := by omega
    refine wp_region_ordL [(0, true), (1, true), (2, true), (3, true), (4, true), (5, true), (6, true), (7, true), (8, true), (9, true), (10, true), (11, true), (12, true), (13, true), (14, true), (15, false), (16, true), (17, true), (18, true), (19, true), (20, true), (21, true), (22, true), (25, true), (26, true), (23, false), (24, false), (27, true), (28, false)] (fun w' => BlockIs w' b1 [x0, x1, x2, x3, .bool false] 30 ∧ BlockIs w' b4 (fsv [x0, x1, x2, x3, .bool false] Sk.own.seq Sk.slot Sk.own.area Sk.own.used (.slice A Sk.l.length c) (.slice none 0 0)) 68 ∧ Reads w' (some ⟨g, 0, none⟩) (bv Bk)) follows_mixed (by kernel_rfl) ⟨X1.drew, X4.drew, XB.keep (Keep.refl Noth wa).drew (fun _ _ => id)⟩ ?_
    simp only [List.map_cons, List.map_nil, List.getElem?_cons_succ, List.getElem?_cons_zero, Option.getD_some]
    refine wpO_pure (v := .int .i64 (q : Int)) (by rfl) (fun w' hw' => by go_simp) ?_
    go_frame
    refine wpO_pure (v := .pointer (some ⟨b4, 5, none⟩)) (by rfl) (fun w' hw' => by go_simp) ?_
    go_frame
    refine wpO_pure (v := .int .i64 (Sk.own.seq : Int)) (by rfl) (fun w' hw' => by have hc : w'.cell? ⟨b4, 5, none⟩ = some (.int .i64 (Sk.own.seq : Int)) := hw'.2.1.cell 5; go_simp) ?_
    go_frame
    refine wpO_pure (v := .bool false) (by rfl) (fun w' hw' => by go_simp) ?_
    go_frame
    refine wpO_pure (v := .bool false) (by rfl) (fun w' hw' => by go_simp) ?_
    go_frame
    refine wpO_pure (v := .int .i64 (q : Int)) (by rfl) (fun w' hw' => by go_simp) ?_
    go_frame
    refine wpO_pure (v := .bool true) (by rfl) (fun w' hw' => by go_simp) ?_
    go_frame
    refine wpO_pure (v := .bool true) (by rfl) (fun w' hw' => by go_simp) ?_
    go_frame
    refine wpO_pure (v := .bool true) (by rfl) (fun w' hw' => by go_simp) ?_
    go_frame
    refine wpO_skip (by rfl) ?_
    go_frame
    refine wpO_skip (by rfl) ?_
    go_frame
    refine wpO_pure (v := .bool true) (by rfl) (fun w' hw' => by go_simp) ?_
    go_frame
    refine wpO_pure (v := .bool true) (by rfl) (fun w' hw' => by go_simp) ?_
    go_frame
    refine wpO_skip (by rfl) ?_
    go_frame
    refine wpO_skip (by rfl) ?_
    go_frame
    refine wpO_skipf (by rfl) (.inr ⟨X1.drew, X4.drew, XB.keep (Keep.refl Noth wa).drew (fun _ _ => id)⟩) ?_
    go_frame
    refine wpO_skip (by rfl) ?_
    go_frame
    refine wpO_pure (v := .bool true) (by rfl) (fun w' hw' => by go_simp) ?_
    go_frame
    refine wpO_pure (v := .bool true) (by rfl) (fun w' hw' => by go_simp) ?_
    go_frame
    refine wpO_skip (by rfl) ?_
    go_frame
    refine wpO_skip (by rfl) ?_
    go_frame
    refine wpO_skip (by rfl) ?_
    go_frame
    refine wpO_skip (by rfl) ?_
    go_frame
    refine wpO_skip (by rfl) ?_
    go_frame
    refine wpO_skip (by rfl) ?_
    go_frame
    refine wpO_skipf (by rfl) (.inr ⟨X1.drew, X4.drew, XB.keep (Keep.refl Noth wa).drew (fun _ _ => id)⟩) ?_
    go_frame
    refine wpO_skipf (by rfl) (.inr ⟨X1.drew, X4.drew, XB.keep (Keep.refl Noth wa).drew (fun _ _ => id)⟩) ?_
    go_frame
    refine wpO_skip (by rfl) ?_
    go_frame
    refine wpO_run (v := .bool true) (w1 := wa.drew) (by rfl) (by go_simp) (.inl rfl) (wpO_nil ?_)
    go_frame
    have HF := hid (show BlockIs wa.drew b4 _ 68 from X4.drew)
    have HG := hid (show Keep Noth wa wa.drew from (Keep.refl Noth wa).drew)
    have hskip := openP_skip (D := D) (k := k) (.inl (hdOk_no (.inl (by rw [← HBk.out, ← Hhh.out]; omega))))
    rw [← HSk.out] at hskip
    have Hskip := hid hskip
    have HX1 := hid (X1.keep HG.out id)
    have HX2 := hid (X2.keep HG.out id)
    have HXR := hid ((XR.keep HG.out (Dj.noth _)).mono (fun x hx => (⟨hx.1, by have := hx.2; have := HG.out.size; omega⟩ : Fresh w wa.drew x)))
    have HXK := hid (HKa.out.trans HG.out (fun _ _ h => h))
    clear hskip X1 X2 X4 XB XR
    go_wp2_with fail
    go_roundw
    case rel => exact ⟨k + 1, A, c, by go_num, by omega, by rw [Hskip.out]; exact HF.out, by rw [Hskip.out]; exact HXR.out, HX1.out, HX2.out, HXK.out⟩
    case measure => simp [intOf]; omega
   have ihc1 : ¬ ((1099511627776 : Int) ≤ q) := by omega
   by_cases hc2 : 1 < h.area
   ·have ihc2 : (1 : Int) < h.area := by omega
    refine wp_region_ordL [(0, true), (1, true), (2, true), (3, true), (4, true), (5, true), (6, true), (7, true), (8, true), (9, true), (10, true), (11, true), (12, true), (13, true), (14, true), (15, false), (16, true), (17, true), (18, true), (19, true), (20, true), (21, true), (22, true), (25, true), (26, true), (23, false), (24, false), (27, true), (28, false)] (fun w' => BlockIs w' b1 [x0, x1, x2, x3, .bool false] 30 ∧ BlockIs w' b4 (fsv [x0, x1, x2, x3, .bool false] Sk.own.seq Sk.slot Sk.own.area Sk.own.used (.slice A Sk.l.length c) (.slice none 0 0)) 68 ∧ Reads w' (some ⟨g, 0, none⟩) (bv Bk)) follows_mixed (by kernel_rfl) ⟨X1.drew, X4.drew, XB.keep (Keep.refl Noth wa).drew (fun _ _ => id)⟩ ?_
    simp only [List.map_cons, List.map_nil, List.getElem?_cons_succ, List.getElem?_cons_zero, Option.getD_some]
    refine wpO_pure (v := .int .i64 (q : Int)) (by rfl) (fun w' hw' => by go_simp) ?_
    go_frame
    refine wpO_pure (v := .pointer (some ⟨b4, 5, none⟩)) (by rfl) (fun w' hw' => by go_simp) ?_
    go_frame
    refine wpO_pure (v := .int .i64 (Sk.own.seq : Int)) (by rfl) (fun w' hw' => by have hc : w'.cell? ⟨b4, 5, none⟩ = some (.int .i64 (Sk.own.seq : Int)) := hw'.2.1.cell 5; go_simp) ?_
    go_frame
    refine wpO_pure (v := .bool false) (by rfl) (fun w' hw' => by go_simp) ?_
    go_frame
    refine wpO_pure (v := .bool false) (by rfl) (fun w' hw' => by go_simp) ?_
    go_frame
    refine wpO_pure (v := .int .i64 (q : Int)) (by rfl) (fun w' hw' => by go_simp) ?_
    go_frame
    refine wpO_pure (v := .bool false) (by rfl) (fun w' hw' => by go_simp) ?_
    go_frame
    refine wpO_pure (v := .bool false) (by rfl) (fun w' hw' => by go_simp) ?_
    go_frame
    refine wpO_pure (v := .bool false) (by rfl) (fun w' hw' => by go_simp) ?_
    go_frame
    refine wpO_pure (v := .int .i64 (h.area : Int)) (by rfl) (fun w' hw' => by go_simp) ?_
    go_frame
    refine wpO_pure (v := .bool true) (by rfl) (fun w' hw' => by go_simp) ?_
    go_frame
    refine wpO_pure (v := .bool true) (by rfl) (fun w' hw' => by go_simp) ?_
    go_frame
    refine wpO_pure (v := .bool true) (by rfl) (fun w' hw' => by go_simp) ?_
    go_frame
    refine wpO_skip (by rfl) ?_
    go_frame
    refine wpO_skip (by rfl) ?_
    go_frame
    refine wpO_skipf (by rfl) (.inr ⟨X1.drew, X4.drew, XB.keep (Keep.refl Noth wa).drew (fun _ _ => id)⟩) ?_
    go_frame
    refine wpO_skip (by rfl) ?_
    go_frame
    refine wpO_pure (v := .bool true) (by rfl) (fun w' hw' => by go_simp) ?_
    go_frame
    refine wpO_pure (v := .bool true) (by rfl) (fun w' hw' => by go_simp) ?_
    go_frame
    refine wpO_skip (by rfl) ?_
    go_frame
    refine wpO_skip (by rfl) ?_
    go_frame
    refine wpO_skip (by rfl) ?_
    go_frame
    refine wpO_skip (by rfl) ?_
    go_frame
    refine wpO_skip (by rfl) ?_
    go_frame
    refine wpO_skip (by rfl) ?_
    go_frame
    refine wpO_skipf (by rfl) (.inr ⟨X1.drew, X4.drew, XB.keep (Keep.refl Noth wa).drew (fun _ _ => id)⟩) ?_
    go_frame
    refine wpO_skipf (by rfl) (.inr ⟨X1.drew, X4.drew, XB.keep (Keep.refl Noth wa).drew (fun _ _ => id)⟩) ?_
    go_frame
    refine wpO_skip (by rfl) ?_
    go_frame
    refine wpO_run (v := .bool true) (w1 := wa.drew) (by rfl) (by go_simp) (.inl rfl) (wpO_nil ?_)
    go_frame
    have HF := hid (show BlockIs wa.drew b4 _ 68 from X4.drew)
    have HG := hid (show Keep Noth wa wa.drew from (Keep.refl Noth wa).drew)
    have hskip := openP_skip (D := D) (k := k) (.inl (hdOk_no (.inr (.inl (by rw [← HBk.out, ← Hhh.out]; omega)))))
    rw [← HSk.out] at hskip
    have Hskip := hid hskip
    have HX1 := hid (X1.keep HG.out id)
    have HX2 := hid (X2.keep HG.out id)
    have HXR := hid ((XR.keep HG.out (Dj.noth _)).mono (fun x hx => (⟨hx.1, by have := hx.2; have := HG.out.size; omega⟩ : Fresh w wa.drew x)))
    have HXK := hid (HKa.out.trans HG.out (fun _ _ h => h))
    clear hskip X1 X2 X4 XB XR
    go_wp2_with fail
    go_roundw
    case rel => exact ⟨k + 1, A, c, by go_num, by omega, by rw [Hskip.out]; exact HF.out, by rw [Hskip.out]; exact HXR.out, HX1.out, HX2.out, HXK.out⟩
    case measure => simp [intOf]; omega
   have ihc2 : ¬ ((1 : Int) < h.area) := by omega
   by_cases hc3 : D.half < h.used
   ·have ihc3 : (D.half : Int) < h.used := by omega
    refine wp_region_ordL [(0, true), (1, true), (2, true), (3, true), (4, true), (5, true), (6, true), (7, true), (8, true), (9, true), (10, true), (11, true), (12, true), (13, true), (14, true), (15, false), (16, true), (17, true), (18, true), (19, true), (20, true), (21, true), (22, true), (25, true), (26, true), (23, false), (24, false), (27, true), (28, false)] (fun w' => BlockIs w' b1 [x0, x1, x2, x3, .bool false] 30 ∧ BlockIs w' b4 (fsv [x0, x1, x2, x3, .bool false] Sk.own.seq Sk.slot Sk.own.area Sk.own.used (.slice A Sk.l.length c) (.slice none 0 0)) 68 ∧ Reads w' (some ⟨g, 0, none⟩) (bv Bk)) follows_mixed (by kernel_rfl) ⟨X1.drew, X4.drew, XB.keep (Keep.refl Noth wa).drew (fun _ _ => id)⟩ ?_
    simp only [List.map_cons, List.map_nil, List.getElem?_cons_succ, List.getElem?_cons_zero, Option.getD_some]
    refine wpO_pure (v := .int .i64 (q : Int)) (by rfl) (fun w' hw' => by go_simp) ?_
    go_frame
    refine wpO_pure (v := .pointer (some ⟨b4, 5, none⟩)) (by rfl) (fun w' hw' => by go_simp) ?_
    go_frame
    refine wpO_pure (v := .int .i64 (Sk.own.seq : Int)) (by rfl) (fun w' hw' => by have hc : w'.cell? ⟨b4, 5, none⟩ = some (.int .i64 (Sk.own.seq : Int)) := hw'.2.1.cell 5; go_simp) ?_
    go_frame
    refine wpO_pure (v := .bool false) (by rfl) (fun w' hw' => by go_simp) ?_
    go_frame
    refine wpO_pure (v := .bool false) (by rfl) (fun w' hw' => by go_simp) ?_
    go_frame
    refine wpO_pure (v := .int .i64 (q : Int)) (by rfl) (fun w' hw' => by go_simp) ?_
    go_frame
    refine wpO_pure (v := .bool false) (by rfl) (fun w' hw' => by go_simp) ?_
    go_frame
    refine wpO_pure (v := .bool false) (by rfl) (fun w' hw' => by go_simp) ?_
    go_frame
    refine wpO_pure (v := .bool false) (by rfl) (fun w' hw' => by go_simp) ?_
    go_frame
    refine wpO_pure (v := .int .i64 (h.area : Int)) (by rfl) (fun w' hw' => by go_simp) ?_
    go_frame
    refine wpO_pure (v := .bool false) (by rfl) (fun w' hw' => by go_simp) ?_
    go_frame
    refine wpO_pure (v := .bool false) (by rfl) (fun w' hw' => by go_simp) ?_
    go_frame
    refine wpO_pure (v := .bool false) (by rfl) (fun w' hw' => by go_simp) ?_
    go_frame
    refine wpO_pure (v := .int .i64 (h.used : Int)) (by rfl) (fun w' hw' => by go_simp) ?_
    go_frame
    refine wpO_pure (v := .agg [x0, x1, x2, x3, .bool false].toArray) (by rfl) (fun w' hw' => by exact exec_load_blk 30 _ rfl b1 0 _ [x0, x1, x2, x3, .bool false] 30 _ (by rfl) hw'.1 (part0 _) Try.underlying30 rfl info30) ?_
    go_frame
    refine wpO_call (by rfl) (exec_call' 78 _ _ rfl Try.func78 (by kernel_rfl) (by rfl) #[.agg [x0, x1, x2, x3, .bool false].toArray] (by simp [Act.eval])) ?_
    refine (Hhf.out _ HKa.out.drew).mono ?_
    rintro e w9 ⟨rfl, K9⟩
    have KD9 : Keep Noth wa w9 := (Keep.refl Noth wa).drew.trans K9 (fun _ _ h => h)
    have Y1 := X1.keep KD9 id
    have Y4 := X4.keep KD9 id
    have YB := XB.keep KD9 (fun _ _ => id)
    refine ⟨_, rfl, .inr ⟨Y1, Y4, YB⟩, ?_⟩
    go_frame
    refine wpO_pure (v := .bool true) (by rfl) (fun w' hw' => by go_simp) ?_
    go_frame
    refine wpO_pure (v := .bool true) (by rfl) (fun w' hw' => by go_simp) ?_
    go_frame
    refine wpO_pure (v := .bool true) (by rfl) (fun w' hw' => by go_simp) ?_
    go_frame
    refine wpO_skip (by rfl) ?_
    go_frame
    refine wpO_skip (by rfl) ?_
    go_frame
    refine wpO_skip (by rfl) ?_
    go_frame
    refine wpO_skip (by rfl) ?_
    go_frame
    refine wpO_skip (by rfl) ?_
    go_frame
    refine wpO_skip (by rfl) ?_
    go_frame
    refine wpO_skipf (by rfl) (.inr ⟨Y1, Y4, YB⟩) ?_
    go_frame
    refine wpO_skipf (by rfl) (.inr ⟨Y1, Y4, YB⟩) ?_
    go_frame
    refine wpO_skip (by rfl) ?_
    go_frame
    refine wpO_run (v := .bool true) (w1 := w9) (by rfl) (by go_simp) (.inl rfl) (wpO_nil ?_)
    go_frame
    have HF := hid Y4
    have HG := hid KD9
    clear Y1 Y4 YB KD9 K9
    have hskip := openP_skip (D := D) (k := k) (.inl (hdOk_no (.inr (.inr (.inl (by rw [← HBk.out, ← Hhh.out]; omega))))))
    rw [← HSk.out] at hskip
    have Hskip := hid hskip
    have HX1 := hid (X1.keep HG.out id)
    have HX2 := hid (X2.keep HG.out id)
    have HXR := hid ((XR.keep HG.out (Dj.noth _)).mono (fun x hx => (⟨hx.1, by have := hx.2; have := HG.out.size; omega⟩ : Fresh w w9 x)))
    have HXK := hid (HKa.out.trans HG.out (fun _ _ h => h))
    clear hskip X1 X2 X4 XB XR
    go_wp2_with fail
    go_roundw
    case rel => exact ⟨k + 1, A, c, by go_num, by omega, by rw [Hskip.out]; exact HF.out, by rw [Hskip.out]; exact HXR.out, HX1.out, HX2.out, HXK.out⟩
    case measure => simp [intOf]; omega
   have ihc3 : ¬ ((D.half : Int) < h.used) := by omega
   refine wp_region_ordL [(0, true), (1, true), (2, true), (3, true), (4, true), (5, true), (6, true), (7, true), (8, true), (9, true), (10, true), (11, true), (12, true), (13, true), (14, true), (15, false), (16, true), (17, true), (18, true), (19, true), (20, true), (21, true), (22, true), (25, true), (26, true), (23, false), (24, false), (27, true), (28, false)] (fun w' => BlockIs w' b1 [x0, x1, x2, x3, .bool false] 30 ∧ BlockIs w' b4 (fsv [x0, x1, x2, x3, .bool false] Sk.own.seq Sk.slot Sk.own.area Sk.own.used (.slice A Sk.l.length c) (.slice none 0 0)) 68 ∧ Reads w' (some ⟨g, 0, none⟩) (bv Bk)) follows_mixed (by kernel_rfl) ⟨X1.drew, X4.drew, XB.keep (Keep.refl Noth wa).drew (fun _ _ => id)⟩ ?_
   simp only [List.map_cons, List.map_nil, List.getElem?_cons_succ, List.getElem?_cons_zero, Option.getD_some]
   refine wpO_pure (v := .int .i64 (q : Int)) (by rfl) (fun w' hw' => by go_simp) ?_
   go_frame
   refine wpO_pure (v := .pointer (some ⟨b4, 5, none⟩)) (by rfl) (fun w' hw' => by go_simp) ?_
   go_frame
   refine wpO_pure (v := .int .i64 (Sk.own.seq : Int)) (by rfl) (fun w' hw' => by have hc : w'.cell? ⟨b4, 5, none⟩ = some (.int .i64 (Sk.own.seq : Int)) := hw'.2.1.cell 5; go_simp) ?_
   go_frame
   refine wpO_pure (v := .bool false) (by rfl) (fun w' hw' => by go_simp) ?_
   go_frame
   refine wpO_pure (v := .bool false) (by rfl) (fun w' hw' => by go_simp) ?_
   go_frame
   refine wpO_pure (v := .int .i64 (q : Int)) (by rfl) (fun w' hw' => by go_simp) ?_
   go_frame
   refine wpO_pure (v := .bool false) (by rfl) (fun w' hw' => by go_simp) ?_
   go_frame
   refine wpO_pure (v := .bool false) (by rfl) (fun w' hw' => by go_simp) ?_
   go_frame
   refine wpO_pure (v := .bool false) (by rfl) (fun w' hw' => by go_simp) ?_
   go_frame
   refine wpO_pure (v := .int .i64 (h.area : Int)) (by rfl) (fun w' hw' => by go_simp) ?_
   go_frame
   refine wpO_pure (v := .bool false) (by rfl) (fun w' hw' => by go_simp) ?_
   go_frame
   refine wpO_pure (v := .bool false) (by rfl) (fun w' hw' => by go_simp) ?_
   go_frame
   refine wpO_pure (v := .bool false) (by rfl) (fun w' hw' => by go_simp) ?_
   go_frame
   refine wpO_pure (v := .int .i64 (h.used : Int)) (by rfl) (fun w' hw' => by go_simp) ?_
   go_frame
   refine wpO_pure (v := .agg [x0, x1, x2, x3, .bool false].toArray) (by rfl) (fun w' hw' => by exact exec_load_blk 30 _ rfl b1 0 _ [x0, x1, x2, x3, .bool false] 30 _ (by rfl) hw'.1 (part0 _) Try.underlying30 rfl info30) ?_
   go_frame
   refine wpO_call (by rfl) (exec_call' 78 _ _ rfl Try.func78 (by kernel_rfl) (by rfl) #[.agg [x0, x1, x2, x3, .bool false].toArray] (by simp [Act.eval])) ?_
   refine (Hhf.out _ HKa.out.drew).mono ?_
   rintro e w9 ⟨rfl, K9⟩
   have KD9 : Keep Noth wa w9 := (Keep.refl Noth wa).drew.trans K9 (fun _ _ h => h)
   have Y1 := X1.keep KD9 id
   have Y4 := X4.keep KD9 id
   have YB := XB.keep KD9 (fun _ _ => id)
   refine ⟨_, rfl, .inr ⟨Y1, Y4, YB⟩, ?_⟩
   go_frame
   refine wpO_pure (v := .bool false) (by rfl) (fun w' hw' => by go_simp) ?_
   go_frame
   refine wpO_pure (v := .bool false) (by rfl) (fun w' hw' => by go_simp) ?_
   go_frame
   refine wpO_pure (v := .bool false) (by rfl) (fun w' hw' => by go_simp) ?_
   go_frame
   refine wpO_pure (v := .int .i64 (q : Int)) (by rfl) (fun w' hw' => by go_simp) ?_
   go_frame
   refine wpO_pure (v := .int .i64 (h.area : Int)) (by rfl) (fun w' hw' => by go_simp) ?_
   go_frame
   refine wpO_pure (v := .int .i64 (h.used : Int)) (by rfl) (fun w' hw' => by go_simp) ?_
   go_frame
   refine wpO_pure (v := .int .i64 (h.count : Int)) (by rfl) (fun w' hw' => by go_simp) ?_
   go_frame
   refine wpO_pure (v := .slice (some ⟨g, 0, none⟩) 64 cb) (by rfl) (fun w' hw' => by go_simp) ?_
   go_frame
   refine wpO_pure (v := .string ⟨Bk.toArray⟩) (by rfl) (fun w' hw' => by have := run_conv (P := Try.prog) (w := w') 33 5 9 sl33 Try.underlying5 Try.underlying9 (some ⟨g, 0, none⟩) 64 cb Bk H64.out.symm hw'.2.2; simp [execOp, Act.eval, this, Result.andThen]) ?_
   go_frame
   refine wpO_call (by rfl) (exec_call' 81 _ _ rfl Try.func81 (by kernel_rfl) (by rfl) #[.int .i64 (q : Int), .int .i64 (h.area : Int), .int .i64 (h.used : Int), .int .i64 (h.count : Int)] (by simp [Act.eval])) ?_
   refine (head_calls w9 q h.area h.used h.count (by omega) (by omega) (by omega) (by omega)).mono ?_
   rintro e w10 ⟨gh, ch, rfl, XH, K10⟩
   have Z1 := Y1.keep K10 id
   have Z4 := Y4.keep K10 id
   have ZB := YB.keep K10 (fun _ _ => id)
   refine ⟨_, rfl, .inr ⟨Z1, Z4, ZB⟩, ?_⟩
   go_frame
   have hcv := run_conv (P := Try.prog) (w := w10) 33 5 9 sl33 Try.underlying5 Try.underlying9 (some ⟨gh, 0, none⟩) 64 ch (headB q h.area h.used h.count) (headB_length _ _ _ _).symm (Bytes.same_as XH)
   refine wpO_run (v := .string ⟨(headB q h.area h.used h.count).toArray⟩) (w1 := w10) (by rfl) (by simp [execOp, Act.eval, hcv, Result.andThen]) (.inr ⟨Z1, Z4, ZB⟩) ?_
   go_frame
   refine wpO_pure (v := .bool (!(headB q h.area h.used h.count == Bk))) (by rfl) (fun w' hw' => by go_simp) ?_
   go_frame
   refine wpO_run (v := .bool (!(headB q h.area h.used h.count == Bk))) (w1 := w10) (by rfl) (by go_simp) (.inl rfl) (wpO_nil ?_)
   go_frame
   have hqe : q = h.seq := Hhe.out (by omega)
   cases hqb : (headB q h.area h.used h.count == Bk) with
   | false =>
    simp only [Bool.not_false]
    have HF := hid Z4
    have HG := hid (KD9.trans K10 (fun _ _ h => h))
    clear Z1 Z4 ZB hcv XH K10
    clear Y1 Y4 YB KD9 K9
    have hskip := openP_skip (D := D) (k := k) (.inl (hdOk_no (.inr (.inr (.inr (by rw [← HBk.out, ← Hhh.out]; show (Bk == headB h.seq h.area h.used h.count) = false; rw [← hqe]; cases hx : (Bk == headB q h.area h.used h.count) with
     | false => rfl
     | true => rw [← eq_of_beq hx] at hqb; simp at hqb))))))
    rw [← HSk.out] at hskip
    have Hskip := hid hskip
    have HX1 := hid (X1.keep HG.out id)
    have HX2 := hid (X2.keep HG.out id)
    have HXR := hid ((XR.keep HG.out (Dj.noth _)).mono (fun x hx => (⟨hx.1, by have := hx.2; have := HG.out.size; omega⟩ : Fresh w w10 x)))
    have HXK := hid (HKa.out.trans HG.out (fun _ _ h => h))
    clear hskip X1 X2 X4 XB XR
    go_wp2_with fail
    go_roundw
    case rel => exact ⟨k + 1, A, c, by go_num, by omega, by rw [Hskip.out]; exact HF.out, by rw [Hskip.out]; exact HXR.out, HX1.out, HX2.out, HXK.out⟩
    case measure => simp [intOf]; omega
   | true =>
    simp only [Bool.not_true]
    have hdk : hdOk D (D.at k) = true := by
     rw [hdOk_eq, ← HBk.out, ← Hhh.out, decide_eq_true (by omega)]
     show (Bk == headB h.seq h.area h.used h.count) = true
     rw [← hqe, eq_of_beq hqb]; simp
    have htake := openP_take (D := D) (k := k) hdk (by rw [← HSk.out, ← HBk.out, ← Hhh.out]; omega)
    rw [← HBk.out, ← Hhh.out, ← HSk.out] at htake
    have KA : Keep Noth wa w10 := KD9.trans K10 (fun _ _ h => h)
    have K0A : Keep Noth w w10 := HKa.out.trans KA (fun _ _ h => h)
    have hrc := Hrc.out w10 K0A h.area h.used h.count (by omega) (by omega) (by omega)
    have Htake := hid htake
    have HK0A := hid K0A
    have V2 := X2.keep KA id
    have VR : Recs w10 (Fresh w w10) (.slice A Sk.l.length c) Sk.l := (XR.keep KA (Dj.noth _)).mono (fun x hx => ⟨hx.1, by have := hx.2; have := KA.size; omega⟩)
    clear X1 X2 X4 XB XR Y1 Y4 YB KD9 K9 ZB hcv XH K10 KA K0A hdk htake hqb
    go_wp2_with (first
     | (guard_target = wpList _ _ _ (Oper.mk _ (Op.load 30 _) _ _ _ _ :: _) _ _; refine wpList_load_blk rfl 30 _ rfl b1 0 _ [x0, x1, x2, x3, .bool false] 30 _ (by rfl) Z1 (part0 _) Try.underlying30 rfl info30 ?_))
    refine hrc.mono ?_
    rintro e w11 ⟨v, rfl, ⟨Av, nv, cv, rfl⟩, hRv, K11⟩
    have V1 := Z1.keep K11 id
    have V4 := Z4.keep K11 id
    have V2 := V2.keep K11 id
    have VR : Recs w11 (Fresh w w11) (.slice A Sk.l.length c) Sk.l := (VR.keep K11 (Dj.noth _)).mono (fun x hx => ⟨hx.1, by have := hx.2; have := K11.size; omega⟩)
    have K0B : Keep Noth w w11 := HK0A.out.trans K11 (fun _ _ h => h)
    cases hrs : recsF D h.area h.used h.count with
    | none =>
     have hn : openP D (k + 1) = Sk := by rw [Htake.out, hrs]
     have Hn := hid hn
     rw [Option.isSome_none]
     have HV := hid (show _ ∧ _ ∧ _ ∧ _ ∧ _ from ⟨V4, VR, V1, V2, K0B⟩)
     clear hn hrs hrc hRv V1 V2 V4 VR K0B K11 Z1 Z4
     go_wp2_with fail
     go_roundw
     case rel => exact ⟨k + 1, A, c, by go_num, by omega, by rw [Hn.out]; exact HV.out.1, by rw [Hn.out]; exact HV.out.2.1, HV.out.2.2.1, HV.out.2.2.2.1, HV.out.2.2.2.2⟩
     case measure => simp [intOf]; omega
    | some l =>
     have hn : openP D (k + 1) = ⟨D, h, (k : Int), l, [], 0⟩ := by rw [Htake.out, hrs]
     have hRl := hRv l hrs
     have hRl2 : Recs w11 (Fresh w w11) (.slice Av nv cv) l := hRl.mono (fun x hx => ⟨by have := hx.1; have := HK0A.out.size; omega, hx.2⟩)
     obtain ⟨Ax, cx, hvx⟩ := hRl2.val
     injection hvx with e1 e2 e3
     subst e1
     subst e2
     subst e3
     have Hn := hid hn
     have HRl := hid hRl2
     rw [Option.isSome_some]
     clear hn hrs hrc hRv hRl hRl2 VR K11 Z1 Z4
     clear hqe
     go_wp2_with (first
      | (guard_target = wpList _ _ _ (Oper.mk _ (Op.load 30 _) _ _ _ _ :: _) _ _; refine wpList_load_blk rfl 30 _ rfl b1 0 _ [x0, x1, x2, x3, .bool false] 30 _ (by rfl) V1 (part0 _) Try.underlying30 rfl info30 ?_)
      | (guard_target = wpList _ _ _ (Oper.mk _ (Op.build 68 _) _ _ _ _ :: _) _ _; refine wpList_run rfl _ _ (build68c x0 x1 x2 x3 (.bool false) (h.seq : Int) (k : Int) (h.area : Int) (h.used : Int) _ _ _ _) ?_)
      | (guard_target = wpList _ _ _ (Oper.mk _ (Op.store 68 _ _) _ _ _ _ :: _) _ _; refine wpList_store_whole rfl 68 _ _ rfl b4 _ (fsv [x0, x1, x2, x3, .bool false] (h.seq : Int) (k : Int) (h.area : Int) (h.used : Int) (.slice Av l.length cv) (.slice none 0 0)) 68 (by rfl) (by rfl) V4 rfl info68 (fsv_one _ _ _ _ Hx0.out rfl rfl) ?_; intro w12 B12 K12))
     have HV1 := hid (V1.keep K12 (fun e => hne1 e))
     have HV2 := hid (V2.keep K12 (fun e => hne e))
     have HB12 := hid B12
     have HR12 := hid ((HRl.out.stay V4 (by decide) (by decide) K12).mono (fun x hx => (⟨hx.1, by have := hx.2; have := K12.size; omega⟩ : Fresh w w12 x)))
     have HK12 := hid (K0B.own K12 (fun x e => by unfold Only at e; subst e; exact hb4w))
     clear V1 V2 V4 B12 K12 K0B
     go_roundw
     case rel => exact ⟨k + 1, Av, cv, by go_num, by omega, by rw [Hn.out]; exact HB12.out, by rw [Hn.out]; exact HR12.out, HV1.out, HV2.out, HK12.out⟩
     case measure => simp [intOf]; omega
  ·have hge : k = 2 := by omega
   subst hge
   have HSk' : Sk = openS D := HSk.out
   clear HSk hlt hk
   subst HSk'
   go_wp2_with (first
    | (guard_target = wpList _ _ _ (Oper.mk _ (Op.load 68 _) _ _ _ _ :: _) _ _; refine wpList_load_blk rfl 68 _ rfl b4 0 _ (fsv [x0, x1, x2, x3, .bool false] (openS D).own.seq (openS D).slot (openS D).own.area (openS D).own.used (.slice A (openS D).l.length c) (.slice none 0 0)) 68 _ (by rfl) X4 (part0 _) Try.underlying68 rfl info68 ?_)
    | (guard_target = wpList _ _ _ (Oper.mk _ (Op.store 68 _ _) _ _ _ _ :: _) _ _; refine wpList_store_whole rfl 68 _ _ rfl b2 _ (fsv [x0, x1, x2, x3, .bool false] (openS D).own.seq (openS D).slot (openS D).own.area (openS D).own.used (.slice A (openS D).l.length c) (.slice none 0 0)) 68 (by rfl) (by rfl) X2 rfl info68 (fsv_one _ _ _ _ Hx0.out rfl rfl) ?_; intro w12 B12 K12))
   refine ret_cell_tmp rfl b2 _ 68 _ (.int .i64 0) (by rfl) (by rfl) B12 Try.underlying68 rfl info68 rfl ?_
   exact ⟨A, c, rfl, (XR.stay X2 (by decide) (by decide) K12).mono (fun x hx => ⟨hx.1, by have := hx.2; have := K12.size; omega⟩), XK.own K12 (fun x e => by unfold Only at e; subst e; exact hb2w)⟩
theorem same_calls (w : World) (G H : Nat → Prop) (A B : Option Addr) (c d : Nat) (l m : List (List UInt8)) (hA : ReadsL w G A l) (hB : ReadsL w H B m) (hl : l.length ≤ 1099511627776) :
  Calls Try.prog 41 #[.slice A l.length c, .slice B m.length d] w (fun e w' => e = .returned (.bool (l == m)) ∧ Keep Noth w w') := by
 have hl' : (l.length : Int) ≤ 1099511627776 := by omega
 by_cases hlm : l.length = m.length
 case neg =>
  have hne : ((l.length : Int) != (m.length : Int)) = true := by simp; omega
  have hf : (l == m) = false := by
   cases h : l == m with
   | false => rfl
   | true => exact absurd (congrArg List.length (eq_of_beq h)) hlm
  rw [hf]
  clear hf hlm hA hB
  go_enter Try.func41, Try.ntmps41
  go_wp2_with fail
  go_ret
  exact ⟨rfl, Keep.refl _ _⟩
 have hne : ((l.length : Int) != (m.length : Int)) = false := by rw [hlm]; simp
 have HA := hid hA
 have HB := hid hB
 have Hl := hid hlm
 clear hA hB hlm
 go_enter Try.func41, Try.ntmps41
 go_wp2_with fail
 clear hne
 go_loopw [5] (fun i wr => (∃ k : Nat, i = .int .i64 k ∧ k ≤ l.length ∧ l.take k = m.take k) ∧ Keep Noth w wr) (fun i _ => l.length - (intOf i).toNat)
 case atStart => exact ⟨⟨0, rfl, Nat.zero_le _, rfl⟩, Keep.refl _ _⟩
 case round =>
  obtain ⟨⟨k, rfl, hk, hz⟩, HK⟩ := hrel
  by_cases hlt : k < l.length
  ·have hlt' : (k : Int) < l.length := by omega
   have hlt2 : (k : Int) < m.length := by have := Hl.out; omega
   obtain ⟨x, hx⟩ : ∃ x, l[k]? = some x := ⟨_, List.getElem?_eq_getElem hlt⟩
   obtain ⟨y, hy⟩ : ∃ y, m[k]? = some y := ⟨_, List.getElem?_eq_getElem (by rw [← Hl.out]; exact hlt)⟩
   obtain ⟨gA, oA, rfl, Bx, cx, hcx, hRx, -, -⟩ := (HA.out.keep HK (Dj.noth _)).at k x hx
   obtain ⟨gB, oB, rfl, By, cy, hcy, hRy, -, -⟩ := (HB.out.keep HK (Dj.noth _)).at k y hy
   have Hcx := hid hcx
   have Hcy := hid hcy
   have Hx := hid hx
   have Hy := hid hy
   have HRx := hid hRx
   have HRy := hid hRy
   have Hz := hid hz
   have HK' := hid HK
   clear hcx hcy hx hy hRx hRy hz HK
   go_wp2_with fail
   refine wp_region_ordQ [(0, true), (1, true), (2, true), (3, true), (4, true), (5, true), (6, true), (7, true), (8, true), (9, true), (10, true)] (fun W => Keep Noth wr W) follows_mixed (by kernel_rfl) (Keep.refl Noth wr).drew ?_
   simp only [List.map_cons, List.map_nil, List.getElem?_cons_succ, List.getElem?_cons_zero, Option.getD_some]
   refine wpO_pure (v := .slice (some ⟨gA, oA, none⟩) l.length c) (by rfl) (fun w' hw' => by go_simp) ?_
   go_frame
   refine wpO_pure (v := .int .i64 (k : Int)) (by rfl) (fun w' hw' => by go_simp) ?_
   go_frame
   refine wpO_pure (v := .pointer (some ⟨gA, oA + k, none⟩)) (by rfl) (fun w' hw' => by go_simp) ?_
   go_frame
   refine wpO_pure (v := .slice Bx x.length cx) (by rfl) (fun w' hw' => by have hc := Keep.cellAt hw' id Hcx.out; go_simp) ?_
   go_frame
   refine wpO_pure (v := .string ⟨x.toArray⟩) (by rfl) (fun w' hw' => by have := run_conv (P := Try.prog) (w := w') 33 5 9 sl33 Try.underlying5 Try.underlying9 Bx x.length cx x rfl (HRx.out.keep hw' (fun _ _ => id)); simp [execOp, Act.eval, this, Result.andThen]) ?_
   go_frame
   refine wpO_pure (v := .slice (some ⟨gB, oB, none⟩) m.length d) (by rfl) (fun w' hw' => by go_simp) ?_
   go_frame
   refine wpO_pure (v := .int .i64 (k : Int)) (by rfl) (fun w' hw' => by go_simp) ?_
   go_frame
   refine wpO_pure (v := .pointer (some ⟨gB, oB + k, none⟩)) (by rfl) (fun w' hw' => by go_simp) ?_
   go_frame
   refine wpO_pure (v := .slice By y.length cy) (by rfl) (fun w' hw' => by have hc := Keep.cellAt hw' id Hcy.out; go_simp) ?_
   go_frame
   refine wpO_pure (v := .string ⟨y.toArray⟩) (by rfl) (fun w' hw' => by have := run_conv (P := Try.prog) (w := w') 33 5 9 sl33 Try.underlying5 Try.underlying9 By y.length cy y rfl (HRy.out.keep hw' (fun _ _ => id)); simp [execOp, Act.eval, this, Result.andThen]) ?_
   go_frame
   refine wpO_pure (v := .bool (!(x == y))) (by rfl) (fun w' hw' => by go_simp) (wpO_nil ?_)
   go_frame
   have HKd := hid HK'.out.drew
   cases hq : (x == y) with
   | false =>
    have hf : (l == m) = false := by
     cases h : l == m with
     | false => rfl
     | true => rw [eq_of_beq h, Hy.out] at Hx; have e := Hx.out; injection e with e; rw [e] at hq; simp at hq
    simp only [Bool.not_false]
    have Hf := hid hf
    clear hq hf
    go_wp2_with fail
    go_ret
    exact ⟨by rw [Hf.out]; rfl, HKd.out⟩
   | true =>
    simp only [Bool.not_true]
    have ht : l.take (k + 1) = m.take (k + 1) := by rw [List.take_add_one, List.take_add_one, Hz.out, Hx.out, Hy.out, eq_of_beq hq]
    have Ht := hid ht
    clear hq ht
    go_wp2_with fail
    go_roundw
    case rel => exact ⟨⟨k + 1, by go_num, hlt, Ht.out⟩, HKd.out⟩
    case measure => simp [intOf]; omega
  ·have hge : k = l.length := by omega
   subst hge
   have ht : (l == m) = true := by
    have h2 : m.take l.length = m := by rw [Hl.out, List.take_length]
    rw [List.take_length, h2] at hz
    rw [hz]; simp
   have Ht := hid ht
   clear hz ht
   go_wp2_with fail
   go_ret
   exact ⟨by rw [Ht.out]; rfl, HK⟩
theorem more_calls (w : World) (G : Nat → Prop) (A : Option Addr) (c : Nat) (l : List (List UInt8)) (hA : ReadsL w G A l) (hl : l.length ≤ 1099511627776) (hb : ∀ b ∈ l, b.length ≤ 1099511627776) (hm : moreL l ≤ 1099511627776) :
  Calls Try.prog 83 #[.slice A l.length c] w (fun e w' => e = .returned (.int .i64 (moreL l : Int)) ∧ w = w') := by
 have hl' : (l.length : Int) ≤ 1099511627776 := by omega
 have HA := hid hA
 have Hb := hid hb
 clear hA hb
 go_enter Try.func83, Try.ntmps83
 go_wp2_with fail
 go_loopw [4, 3] (fun i s wr => (∃ k : Nat, i = .int .i64 k ∧ k ≤ l.length ∧ s = .int .i64 (moreL (l.take k) : Int)) ∧ w = wr) (fun i _ _ => l.length - (intOf i).toNat)
 case atStart => exact ⟨⟨0, rfl, Nat.zero_le _, rfl⟩, rfl⟩
 case round =>
  obtain ⟨⟨k, rfl, hk, rfl⟩, rfl⟩ := hrel
  by_cases hlt : k < l.length
  ·have hlt' : (k : Int) < l.length := by omega
   obtain ⟨b, hb⟩ : ∃ b, l[k]? = some b := ⟨_, List.getElem?_eq_getElem hlt⟩
   obtain ⟨gA, oA, rfl, B, c', hcell, hB', hBc, hBG⟩ := HA.out.at k b hb
   have hmk := moreL_take l k b hb
   have hmk1 := moreL_le l (k + 1)
   have hbl := refBlocks_calls w B c' b (by have := Hb.out b (List.mem_of_getElem? hb); omega)
   have Hmk := hid (show (moreL (l.take k) + blocksN b = moreL (l.take (k + 1))) ∧ moreL (l.take k) + blocksN b ≤ 1099511627776 from ⟨hmk.symm, by omega⟩)
   have hs1 : (moreL (l.take k) : Int) + blocksN b ≤ 1099511627776 := by have := Hmk.out.2; omega
   clear hB' hb hmk hmk1
   go_wp2_with fail
   refine hbl.mono ?_
   rintro e w' ⟨rfl, rfl⟩
   clear hbl
   go_wp2_with fail
   go_roundw
   case rel => exact ⟨⟨k + 1, by go_num, hlt, by rw [← Hmk.out.1]; first | rfl | (congr 1)⟩, trivial⟩
   case measure => simp [intOf]; omega
  ·have hge : k = l.length := by omega
   subst hge
   rw [List.take_length]
   go_wp2_with fail
   go_ret
   exact ⟨rfl, rfl⟩
theorem wopen_calls {w : World} {F G : Nat → Prop} {bw g : Nat} {rv : Value} {vl vr : Value} {D : DS} {tail : List Value} (hD : DevIs w F g D) (hS : StAt w G vl vr D) (hW : BlockIs w bw (.pointer (some ⟨g, 0, none⟩) :: rv :: (stv vl vr D ++ tail)) 70) (htl : tail.length = 6)
  (hok : D.ok) (hr : D.row.length ≤ 1099511627776) (hd : D.down = false) (h4 : 4 ≤ D.l.length) (hbF : ¬ F bw) (hbG : ¬ G bw) :
  Calls Try.prog 63 #[.pointer (some ⟨bw, 0, none⟩)] w (fun e w' => e = .returned (.bool true) ∧ ∃ F' G' r A c, (∀ q, F' q → F q ∨ (w.heap.size ≤ q ∧ q < w'.heap.size)) ∧ (∀ q, G' q → w.heap.size ≤ q ∧ q < w'.heap.size) ∧ Dj G' F' ∧ RollIs w' F' g r (openS D) ∧ StAt w' G vl vr D ∧ ReadsL w' G' A (openS D).l ∧ (A = none → c = 0) ∧
   BlockIs w' bw (.pointer (some ⟨g, 0, none⟩) :: .pointer (some ⟨r, 0, none⟩) :: fsv (stv vl vr D) (openS D).own.seq (openS D).slot (openS D).own.area (openS D).own.used (.slice A (openS D).l.length c) (.slice none 0 0)) 70 ∧ Keep (Only bw) w w') := by
 have hone := hS.l.one_val.1
 have hone2 := hS.row.one_val.1
 obtain ⟨x0, x1, x2, x3, x4, hSV, hx0⟩ : ∃ x0 x1 x2 x3 x4, stv vl vr D = [x0, x1, x2, x3, x4] ∧ ∀ u ∈ [x0, x1, x2, x3, x4], u.oneCell' = true := ⟨vl, vr, _, _, _, rfl, by
  intro u hu
  simp only [List.mem_cons, List.not_mem_nil, or_false] at hu
  rcases hu with rfl | rfl | rfl | rfl | rfl <;> first | exact hone | exact hone2 | rfl⟩
 have hro := fun W (hW : Keep Noth w W) => refOpen_ok (hS.keep hW (Dj.noth _)) hok hr hd h4
 rw [hSV] at hW hro ⊢
 obtain ⟨va, vb, hDv⟩ := hD
 have hop := open_ok hDv hd hok hr h4
 have c0 : w.cell? ⟨bw, 0, none⟩ = some (.pointer (some ⟨g, 0, none⟩)) := hW.cell 0
 have f0 := hW.frozen 0
 obtain ⟨WC, hWC⟩ : ∃ WC, WC = Value.pointer (some ⟨g, 0, none⟩) :: rv :: ([x0, x1, x2, x3, x4] ++ tail) := ⟨_, rfl⟩
 have hWl : WC.length = 13 := by rw [hWC]; simp [htl]
 have hWp : ∀ j v, [x0, x1, x2, x3, x4][j]? = some v → WC[2 + j]? = some v := by
  intro j v hj
  rw [hWC, Nat.add_comm 2 j, List.getElem?_cons_succ, List.getElem?_cons_succ, List.getElem?_append_left (List.getElem?_eq_some_iff.1 hj).1]
  exact hj
 have hW0 : WC.take 1 = [.pointer (some ⟨g, 0, none⟩)] := by rw [hWC]; rfl
 rw [← hWC] at hW
 have HWp := hid hWp
 have HWl := hid hWl
 have HW0 := hid hW0
 have HS := hid hS
 have Hro := hid hro
 have Hx0 := hid hx0
 have HB := hid hW
 have Hlt := hid hDv.lt
 clear hro hx0 hWp hWl hW0 hWC hS hok hd hone hone2 hSV hW hDv htl
 go_enter Try.func63, Try.ntmps63
 go_wp2_with fail
 refine hop.mono ?_
 rintro e w1 ⟨r, rfl, hr1, ⟨vl1, vs1, R1⟩, K1⟩
 have B1 := HB.out.keep K1 id
 have R1h := hid R1
 have K1h := hid K1
 clear hop c0 f0 R1 K1
 go_wp2_with (first
  | (guard_target = wpList _ _ _ (Oper.mk _ (Op.load 30 _) _ _ _ _ :: _) _ _; refine wpList_load_blk rfl 30 _ rfl bw 2 _ [x0, x1, x2, x3, x4] 70 _ (by rfl) B1 HWp.out Try.underlying30 rfl info30 ?_))
 refine (Hro.out w1 K1h.out).mono ?_
 rintro e w2 ⟨A, c, rfl, HR2, K2⟩
 have B2 := B1.keep K2 id
 have hnc : A = none → c = 0 := by
  obtain ⟨es, e1, e2, e3⟩ := HR2
  exact e2.none_cap
 obtain ⟨FV, hFV⟩ : ∃ FV, FV = fsv [x0, x1, x2, x3, x4] (openS D).own.seq (openS D).slot (openS D).own.area (openS D).own.used (.slice A (openS D).l.length c) (.slice none 0 0) := ⟨_, rfl⟩
 have hFl : FV.length = 11 := by rw [hFV]; rfl
 have hFo : ∀ u ∈ FV, u.oneCell' = true := by rw [hFV]; exact fsv_one _ _ _ _ Hx0.out rfl rfl
 rw [← hFV]
 have HFV := hid hFV
 have HFl := hid hFl
 have HFo := hid hFo
 clear hFV hFl hFo B1 hr1
 go_wp2_with (first
  | (guard_target = wpList _ _ _ (Oper.mk _ (Op.alloc 68) _ _ _ _ :: _) _ _; refine wpList_alloc_v rfl 68 rfl (.agg zfs.toArray) info68 zfs zfs_cells ?_; intro b5 w3 hb5 B5 K3)
  | (guard_target = wpList _ _ _ (Oper.mk _ (Op.store 68 _ _) _ _ _ _ :: _) _ _; refine wpList_store_whole rfl 68 _ _ rfl b5 _ FV 68 (by rfl) (by rfl) B5 (by rw [HFl.out]; rfl) (by rw [HFl.out]; exact info68) HFo.out ?_; intro w4 B6 K4))
 have hbw := HB.out.lt
 have hs1 := K1h.out.size
 have hs2 := K2.size
 have hs3 := K3.size
 have hs4 := K4.size
 have hne : bw ≠ b5 := by omega
 have K14 : Keep Noth w1 w4 := ((K2.trans K3 (fun _ _ h => h)).own K4 (fun q e => by unfold Only at e; subst e; omega))
 have K24 : Keep Noth w2 w4 := (K3.own K4 (fun q e => by unfold Only at e; subst e; omega))
 have B4 := B2.keep K24 id
 have R4 := hid (R1h.out.keep K14 (Dj.noth _))
 have HR4 := hid (HR2.keep K24 (Dj.noth _))
 have HS4 := hid ((HS.out.keep K1h.out (Dj.noth _)).keep K14 (Dj.noth _))
 have HK4 := hid (K1h.out.trans K14 (fun _ _ h => h))
 clear B5 K3 K4 K2 K14 K24 HR2 B2 R1h
 refine wp_region_ordL [(0, true), (1, true), (2, true), (3, true), (4, true), (5, true), (6, false), (7, true), (8, true), (9, false)] (fun W => BlockIs W b5 FV 68) follows_mixed (by kernel_rfl) B6.drew ?_
 simp only [List.map_cons, List.map_nil, List.getElem?_cons_succ, List.getElem?_cons_zero, Option.getD_some]
 refine wpO_pure (v := .pointer (some ⟨bw, 0, none⟩)) (by rfl) (fun w' hw' => by go_simp) ?_
 go_frame
 refine wpO_pure (v := .pointer (some ⟨bw, 0, none⟩)) (by rfl) (fun w' hw' => by go_simp) ?_
 go_frame
 refine wpO_pure (v := .pointer (some ⟨r, 0, none⟩)) (by rfl) (fun w' hw' => by go_simp) ?_
 go_frame
 refine wpO_pure (v := .agg FV.toArray) (by rfl) (fun w' hw' => by exact exec_load_blk 68 _ rfl b5 0 FV FV 68 _ (by rfl) hw' (part0 _) Try.underlying68 rfl (by rw [HFl.out]; exact info68)) ?_
 go_frame
 refine wpO_pure (v := .pointer (some ⟨bw, 0, none⟩)) (by rfl) (fun w' hw' => by go_simp) ?_
 go_frame
 refine wpO_pure (v := .pointer (some ⟨bw, 1, none⟩)) (by rfl) (fun w' hw' => by go_simp) ?_
 go_frame
 refine wpO_store_cell (by rfl) 66 _ _ rfl bw 1 _ 70 (.pointer (some ⟨r, 0, none⟩)) (by rfl) (by rfl) B4.drew (by rw [HWl.out]; decide) rfl rfl info66 ?_
 intro w5 B7 K5
 refine ⟨.inr (B6.drew.keep K5 (fun e => hne e.symm)), ?_⟩
 go_frame
 refine wpO_pure (v := .pointer (some ⟨bw, 0, none⟩)) (by rfl) (fun w' hw' => by go_simp) ?_
 go_frame
 refine wpO_pure (v := .pointer (some ⟨bw, 2, none⟩)) (by rfl) (fun w' hw' => by go_simp) ?_
 go_frame
 refine wpO_store_part (by rfl) 68 _ _ rfl bw 2 _ FV 70 (by rfl) (by rfl) B7 (by rw [List.length_set, HWl.out, HFl.out]; decide) (by rw [HFl.out]; exact info68) HFo.out ?_
 intro w6 B8 K6
 refine ⟨.inl rfl, wpO_nil ?_⟩
 go_frame
 have hcells : splice (WC.set 1 (.pointer (some ⟨r, 0, none⟩))) 2 FV = .pointer (some ⟨g, 0, none⟩) :: .pointer (some ⟨r, 0, none⟩) :: FV := by
  have hl := HWl.out
  have h0 := HW0.out
  match WC, hl, h0 with
  | a :: b :: t, hl, h0 =>
   simp only [List.take_succ_cons, List.take_zero, List.cons.injEq, and_true] at h0
   subst h0
   simp only [splice, List.set_cons_succ, List.set_cons_zero, List.take_succ_cons, List.take_zero, List.cons_append, List.nil_append]
   rw [List.drop_eq_nil_of_le (by rw [HFl.out]; simp at hl ⊢; omega), List.append_nil]
 rw [hcells] at B8
 have KB : Keep (Only bw) w4 w6 := (Keep.refl _ w4).drew.trans (K5.trans K6 (fun _ _ h => h)) (fun _ _ h => h)
 have HB8 := hid B8
 have HKB := hid KB
 have HB4 := hid B4
 clear B4 B6 B7 B8 K5 K6 hcells KB
 go_wp2_with fail
 go_ret
 have hs6 := HKB.out.size
 have hs0 := HK4.out.size
 have hnF : ¬ grow F w w1 bw := fun e => e.elim hbF (fun e => by omega)
 refine ⟨rfl, grow F w w1, Fresh w1 w2, r, A, c, fun q hq => hq.imp id (fun e => ⟨e.1, by have := e.2; omega⟩), fun q hq => ⟨by have := hq.1; omega, by have := hq.2; omega⟩, fun q a b => ?_, ?_, ?_, ?_, hnc, ?_, ?_⟩
 ·rcases b with b | b
  ·have h1 := Hlt.out q b; have h2 := a.1; omega
  ·have h1 := b.2; have h2 := a.1; omega
 ·exact ⟨_, _, R4.out.keep HKB.out (fun q a e => hnF (by unfold Only at e; subst e; exact a))⟩
 ·exact HS4.out.keep HKB.out (fun q a e => hbG (by unfold Only at e; subst e; exact a))
 ·exact HR4.out.reads.keep HKB.out (fun q a e => by unfold Only at e; subst e; have := a.1; omega)
 ·rw [HFV.out] at HB8
  exact HB8.out
 ·exact (HK4.out.mono (fun _ _ e => e.elim)).trans HKB.out (fun _ _ e => e)
theorem openS_st (D : DS) : (openS D).st = [] := (openP_st D 2).1
/-- A world of the laws: a device, its roll, and the document's state. -/
structure WX (w0 w : World) (F G : Nat → Prop) (bw g r : Nat) (S R : RS) : Prop where
 roll : RollIs w F g r S
 ref : ∃ vl vr A a B b, StAt w G vl vr R.D ∧ ReadsL w G A R.l ∧ ReadsL w G B R.st ∧ (A = none → a = 0) ∧ (B = none → b = 0) ∧
  BlockIs w bw (.pointer (some ⟨g, 0, none⟩) :: .pointer (some ⟨r, 0, none⟩) :: fsv (stv vl vr R.D) R.own.seq R.slot R.own.area R.own.used (.slice A R.l.length a) (.slice B R.st.length b)) 70
 low : ∀ q, F q → w0.heap.size ≤ q
 off : Dj G F
 nbF : ¬ F bw
 nbG : ¬ G bw
 wlow : w0.heap.size ≤ bw
 glt : Lt G w
 old : ∀ q, q < w0.heap.size → G q
 kept : Keep Noth w0 w
def zwd : List Value := .pointer none :: .pointer none :: zfs
theorem built70 (parts : List (Nat × Value)) : Try.prog.built 70 parts = Instr.fill (#[(0, 1), (1, 1), (2, 11)][·]?) zwd.toArray parts := by kernel_rfl
theorem build70 (p : Option Addr) (cs : List Value) (hl : cs.length = 11) (W : World) : (Instr.build 70 #[(0, .pointer p), (2, .agg cs.toArray)]).run Try.prog W = .ok (.agg (.pointer p :: .pointer none :: cs).toArray) W := by
 refine run_build W 70 _ _ ?_
 rw [built70]
 show Instr.fill _ _ [(0, .pointer p), (2, .agg cs.toArray)] = _
 rw [fill_cons _ _ 0 0 1 _ [.pointer p] _ rfl rfl rfl (by simp [zwd, zfs, fsv, stz5])]
 rw [fill_cons _ _ 2 2 11 _ cs _ rfl rfl hl (by simp [zwd, zfs, fsv, stz5, splice])]
 rw [Instr.fill]
 simp [splice, zwd, zfs, fsv, stz5, hl]
/-- The image of a world. -/
def padI (im : List UInt8) (N : Nat) : List UInt8 := splice (List.replicate N 0) 0 (im.take N)
theorem padI_length (im : List UInt8) (N : Nat) : (padI im N).length = N := by
 unfold padI; rw [length_splice _ _ _ (by rw [List.length_take, List.length_replicate]; omega), List.length_replicate]
def cntN (count : Int) : Nat := (max (min count 40) 4).toNat
theorem cntN_bound (count : Int) : 4 ≤ cntN count ∧ cntN count ≤ 40 := by unfold cntN; omega
theorem ofN_pad {im : List UInt8} {k : Nat} (h1 : 4 ≤ k) (h2 : k ≤ 40) : ofN (padI im (64 * k)) = k := by
 unfold ofN clampN; rw [padI_length]; omega
theorem wpList_make_bytes' {ops : Array Oper} {rest : List Oper} {o : Oper} {a : Act} {w : World} {Q : Exit → Act → World → Prop} (hw : Region.wanted o (yielded ops a.tmps) = true) (l c : Operand) (ho : o.op = Op.makeSlice 33 l c) (n : Nat) (L C : Int) (hl : a.eval l = .int .i64 L) (hc : a.eval c = .int .i64 C) (hL : L = n) (hC : C = n) (hn : n ≤ 140737488351232)
  (h : ∀ b w1, w.heap.size ≤ b → Bytes w1 (fun q => q = b) (.slice (some ⟨b, 0, none⟩) n n) (List.replicate n 0) → Keep Noth w w1 → wpList Try.prog ops Q rest (a.put o.dst (.slice (some ⟨b, 0, none⟩) n n)) w1) : wpList Try.prog ops Q (o :: rest) a w := by
 subst hL
 subst hC
 exact wpList_make_bytes hw l c ho n hl hc hn h
theorem begin_calls (w : World) (A : Option Addr) (c : Nat) (im : List UInt8) (hA : Reads w A (bv im)) (hil : im.length ≤ 1099511627776) (count : Int) :
  Calls Try.prog 38 #[.slice A im.length c, .int .i64 count] w (fun e w' => ∃ bw g r F G, e = .returned (.pointer (some ⟨bw, 0, none⟩)) ∧ WX w w' F G bw g r (openS (DS.of (padI im (64 * cntN count)))) (openS (DS.of (padI im (64 * cntN count))))) := by
 have HA := hid hA
 clear hA
 have hilI : (im.length : Int) ≤ 1099511627776 := by omega
 have hcn := cntN_bound count
 obtain ⟨N, hNe⟩ : ∃ N, N = 64 * cntN count := ⟨_, rfl⟩
 obtain ⟨k, hk⟩ : ∃ k, k = cntN count := ⟨_, rfl⟩
 rw [← hk] at hNe hcn ⊢
 have hN : N = 64 * k := hNe
 rw [← hNe]
 unfold cntN at hk
 by_cases h1 : count < 4
 ·have hk4 : k = 4 := by omega
  have h2 : ¬ ((40 : Int) < count) := by omega
  have h3 : (count : Int) ≤ 40 := by omega
  have h4 : ((4 : Int) > count) := by omega
  clear hk hNe
  have HN := hid hN
  have Hk4 := hid hk4
  have Hcn := hid hcn
  clear hN hk4 hcn
  go_enter Try.func38, Try.ntmps38
  go_wp2_with (first
   | (guard_target = wpList _ _ _ (Oper.mk _ (Op.makeSlice _ _ _) _ _ _ _ :: _) _ _; refine wpList_make_bytes' (by rfl) _ _ rfl N _ _ (by rfl) (by rfl) (by have := HN.out; have := Hk4.out; omega) (by have := HN.out; have := Hk4.out; omega) (by have := HN.out; have := Hcn.out; omega) ?_; intro b5 w1 hb5 B5 K1)
   | (guard_target = wpList _ _ _ (Oper.mk _ (Op.call _) _ _ _ _ :: _) _ _; refine wpList_copy_bytes rfl _ _ 33 33 rfl sl33 size5 _ b5 N N _ B5 0 N N A im.length c (by rfl) (by rfl) (im.take N) (by rw [List.length_take]; exact Nat.min_comm _ _) (by have h := (HA.out.keep K1 (fun _ _ => id)).take N; rwa [bv_take] at h) (by rw [List.length_take, List.length_replicate]; omega) ?_; intro w2 B6 K2))
  have K02 : Keep Noth w w2 := K1.own K2 (fun q e => by unfold Only at e; subst e; exact hb5)
  have hpd : Reads w2 (some ⟨b5, 0, none⟩) (bv (padI im N)) := Bytes.same_as B6
  have hdo := of_calls0 w2 (some ⟨b5, 0, none⟩) N (padI im N) hpd (by rw [padI_length]; have := HN.out; have := Hcn.out; omega) (by rw [padI_length]; exact Nat.le_refl _)
  rw [padI_length] at hdo
  have Hpd := hid hpd
  have HK02 := hid K02
  clear B5 B6 K1 K2 K02 hpd hb5
  refine hdo.mono ?_
  rintro e w3 ⟨g, rfl, hD3, K3⟩
  have hso := st_of w3 (some ⟨b5, 0, none⟩) N (padI im N) (Hpd.out.keep K3 (fun _ _ => id)) (by rw [padI_length]; have := HN.out; have := Hcn.out; omega)
  rw [padI_length] at hso
  clear hdo
  go_wp2_with fail
  refine hso.mono ?_
  rintro e w4 ⟨vl, rfl, hS4, K4⟩
  clear hso
  have hone := hS4.l.one_val.1
  obtain ⟨x0, x1, x2, x3, x4, hSV, hx0⟩ : ∃ x0 x1 x2 x3 x4, stv vl (.slice none 0 0) (DS.of (padI im N)) = [x0, x1, x2, x3, x4] ∧ ∀ u ∈ [x0, x1, x2, x3, x4], u.oneCell' = true := ⟨vl, _, _, _, _, rfl, by
   intro u hu
   simp only [List.mem_cons, List.not_mem_nil, or_false] at hu
   rcases hu with rfl | rfl | rfl | rfl | rfl <;> first | exact hone | rfl⟩
  rw [hSV]
  have hs4 := K4.size
  have hs3 := K3.size
  have hs2 := HK02.out.size
  go_wp2_with (first
   | (guard_target = wpList _ _ _ (Oper.mk _ (Op.build 68 _) _ _ _ _ :: _) _ _; refine wpList_run rfl _ _ (build68a x0 x1 x2 x3 x4 _) ?_)
   | (guard_target = wpList _ _ _ (Oper.mk _ (Op.build 70 _) _ _ _ _ :: _) _ _; refine wpList_run rfl _ _ (build70 _ _ (fsv_length _ _ _ _ _ _ _ _ _ _ _) _) ?_)
   | (guard_target = wpList _ _ _ (Oper.mk _ (Op.box 70 _) _ _ _ _ :: _) _ _; refine wpList_box_v rfl 70 _ rfl (.pointer (some ⟨g, 0, none⟩) :: .pointer none :: fsv [x0, x1, x2, x3, x4] 0 0 0 0 (.slice none 0 0) (.slice none 0 0)) (by rfl) ?_; intro bw w5 hbw BW K5; have c0 := BW.cell 0; simp only [List.getElem?_cons_zero] at c0; have f0 := BW.frozen 0))
  have hwo := wopen_calls (w := w5) (F := Fresh w2 w3) (G := Fresh w3 w4) (bw := bw) (g := g) (rv := .pointer none) (vl := vl) (vr := .slice none 0 0) (D := DS.of (padI im N)) (tail := [.int .i64 0, .int .i64 0, .int .i64 0, .int .i64 0, .slice none 0 0, .slice none 0 0]) ((hD3.keep K4 (Dj.noth _)).keep K5 (Dj.noth _)) (hS4.keep K5 (Dj.noth _)) (by rw [hSV]; exact BW) rfl (of_ok _) (by show (0 : Nat) ≤ _; omega) rfl (by rw [of_len, HN.out, ofN_pad Hcn.out.1 Hcn.out.2]; exact Hcn.out.1) (fun e => by have := e.2; omega) (fun e => by have := e.2; omega)
  have hs5 := K5.size
  have HK5 := hid (((HK02.out.trans K3 (fun _ _ h => h)).trans K4 (fun _ _ h => h)).trans K5 (fun _ _ h => h))
  have hbl := BW.lt
  clear hD3 hS4 K3 K4 K5 BW hSV hx0 c0 f0 hone
  refine hwo.mono ?_
  rintro e w6 ⟨rfl, F', G', r, A', c', hF', hG', hdj, hR, hS, hL, hnc, hB, hK⟩
  have HFIN := hid (show _ ∧ _ ∧ _ ∧ _ ∧ _ ∧ _ ∧ _ ∧ _ ∧ _ from ⟨hF', hG', hdj, hR, hS, hL, hnc, hB, hK⟩)
  clear hwo hF' hG' hdj hR hS hL hnc hB hK
  go_wp2_with fail
  go_ret
  obtain ⟨hF', hG', hdj, hR, hS, hL, hnc, hB, hK⟩ := HFIN.out
  have hs6 := hK.size
  have hlw : w.heap.size ≤ w2.heap.size := hs2
  have hF2 : ∀ q, F' q → w2.heap.size ≤ q := fun q hq => (hF' q hq).elim (fun e => e.1) (fun e => by have := e.1; omega)
  refine ⟨bw, g, r, F', (fun q => q < w.heap.size ∨ Fresh w3 w4 q ∨ G' q), rfl, hR, ⟨vl, .slice none 0 0, A', c', none, 0, ?_, ?_, ?_, hnc, fun _ => rfl, ?_⟩, ?_, ?_, ?_, ?_, by omega, ?_, fun q hq => .inl hq, HK5.out.own hK (fun q e => by unfold Only at e; subst e; omega)⟩
  ·rw [openS_D]; exact hS.mono (fun q hq => .inr (.inl hq))
  ·exact hL.mono (fun q hq => .inr (.inr hq))
  ·rw [openS_st]; exact ⟨⟨[], rfl, Reads.nil _ _, fun i v b e => by simp at e⟩, fun h => absurd rfl h⟩
  ·rw [openS_D, openS_st]
   exact hB
  ·exact fun q hq => by have := hF2 q hq; omega
  ·intro q a b
   rcases a with a | a | a
   ·have := hF2 q b; omega
   ·rcases hF' q b with e | e
    ·have h1 := a.1; have h2 := e.2; omega
    ·have h1 := a.2; have h2 := e.1; omega
   ·exact hdj q a b
  ·intro e
   rcases hF' bw e with e | e
   ·have := e.2; omega
   ·have := e.1; omega
  ·intro e
   rcases e with e | e | e
   ·omega
   ·have := e.2; omega
   ·have := (hG' bw e).1; omega
  ·intro q a
   rcases a with a | a | a
   ·omega
   ·have := a.2; omega
   ·exact (hG' q a).2
 ·by_cases h5 : 40 < count
  ·have hk4 : k = 40 := by omega
   have h2 : ((40 : Int) < count) := by omega
   clear hk hNe h1
   have HN := hid hN
   have Hk4 := hid hk4
   have Hcn := hid hcn
   clear hN hk4 hcn
   go_enter Try.func38, Try.ntmps38
   go_wp2_with (first
    | (guard_target = wpList _ _ _ (Oper.mk _ (Op.makeSlice _ _ _) _ _ _ _ :: _) _ _; refine wpList_make_bytes' (by rfl) _ _ rfl N _ _ (by rfl) (by rfl) (by have := HN.out; have := Hk4.out; omega) (by have := HN.out; have := Hk4.out; omega) (by have := HN.out; have := Hcn.out; omega) ?_; intro b5 w1 hb5 B5 K1)
    | (guard_target = wpList _ _ _ (Oper.mk _ (Op.call _) _ _ _ _ :: _) _ _; refine wpList_copy_bytes rfl _ _ 33 33 rfl sl33 size5 _ b5 N N _ B5 0 N N A im.length c (by rfl) (by rfl) (im.take N) (by rw [List.length_take]; exact Nat.min_comm _ _) (by have h := (HA.out.keep K1 (fun _ _ => id)).take N; rwa [bv_take] at h) (by rw [List.length_take, List.length_replicate]; omega) ?_; intro w2 B6 K2))
   have K02 : Keep Noth w w2 := K1.own K2 (fun q e => by unfold Only at e; subst e; exact hb5)
   have hpd : Reads w2 (some ⟨b5, 0, none⟩) (bv (padI im N)) := Bytes.same_as B6
   have hdo := of_calls0 w2 (some ⟨b5, 0, none⟩) N (padI im N) hpd (by rw [padI_length]; have := HN.out; have := Hcn.out; omega) (by rw [padI_length]; exact Nat.le_refl _)
   rw [padI_length] at hdo
   have Hpd := hid hpd
   have HK02 := hid K02
   clear B5 B6 K1 K2 K02 hpd hb5
   refine hdo.mono ?_
   rintro e w3 ⟨g, rfl, hD3, K3⟩
   have hso := st_of w3 (some ⟨b5, 0, none⟩) N (padI im N) (Hpd.out.keep K3 (fun _ _ => id)) (by rw [padI_length]; have := HN.out; have := Hcn.out; omega)
   rw [padI_length] at hso
   clear hdo
   go_wp2_with fail
   refine hso.mono ?_
   rintro e w4 ⟨vl, rfl, hS4, K4⟩
   clear hso
   have hone := hS4.l.one_val.1
   obtain ⟨x0, x1, x2, x3, x4, hSV, hx0⟩ : ∃ x0 x1 x2 x3 x4, stv vl (.slice none 0 0) (DS.of (padI im N)) = [x0, x1, x2, x3, x4] ∧ ∀ u ∈ [x0, x1, x2, x3, x4], u.oneCell' = true := ⟨vl, _, _, _, _, rfl, by
    intro u hu
    simp only [List.mem_cons, List.not_mem_nil, or_false] at hu
    rcases hu with rfl | rfl | rfl | rfl | rfl <;> first | exact hone | rfl⟩
   rw [hSV]
   have hs4 := K4.size
   have hs3 := K3.size
   have hs2 := HK02.out.size
   go_wp2_with (first
    | (guard_target = wpList _ _ _ (Oper.mk _ (Op.build 68 _) _ _ _ _ :: _) _ _; refine wpList_run rfl _ _ (build68a x0 x1 x2 x3 x4 _) ?_)
    | (guard_target = wpList _ _ _ (Oper.mk _ (Op.build 70 _) _ _ _ _ :: _) _ _; refine wpList_run rfl _ _ (build70 _ _ (fsv_length _ _ _ _ _ _ _ _ _ _ _) _) ?_)
    | (guard_target = wpList _ _ _ (Oper.mk _ (Op.box 70 _) _ _ _ _ :: _) _ _; refine wpList_box_v rfl 70 _ rfl (.pointer (some ⟨g, 0, none⟩) :: .pointer none :: fsv [x0, x1, x2, x3, x4] 0 0 0 0 (.slice none 0 0) (.slice none 0 0)) (by rfl) ?_; intro bw w5 hbw BW K5; have c0 := BW.cell 0; simp only [List.getElem?_cons_zero] at c0; have f0 := BW.frozen 0))
   have hwo := wopen_calls (w := w5) (F := Fresh w2 w3) (G := Fresh w3 w4) (bw := bw) (g := g) (rv := .pointer none) (vl := vl) (vr := .slice none 0 0) (D := DS.of (padI im N)) (tail := [.int .i64 0, .int .i64 0, .int .i64 0, .int .i64 0, .slice none 0 0, .slice none 0 0]) ((hD3.keep K4 (Dj.noth _)).keep K5 (Dj.noth _)) (hS4.keep K5 (Dj.noth _)) (by rw [hSV]; exact BW) rfl (of_ok _) (by show (0 : Nat) ≤ _; omega) rfl (by rw [of_len, HN.out, ofN_pad Hcn.out.1 Hcn.out.2]; exact Hcn.out.1) (fun e => by have := e.2; omega) (fun e => by have := e.2; omega)
   have hs5 := K5.size
   have HK5 := hid (((HK02.out.trans K3 (fun _ _ h => h)).trans K4 (fun _ _ h => h)).trans K5 (fun _ _ h => h))
   have hbl := BW.lt
   clear hD3 hS4 K3 K4 K5 BW hSV hx0 c0 f0 hone
   refine hwo.mono ?_
   rintro e w6 ⟨rfl, F', G', r, A', c', hF', hG', hdj, hR, hS, hL, hnc, hB, hK⟩
   have HFIN := hid (show _ ∧ _ ∧ _ ∧ _ ∧ _ ∧ _ ∧ _ ∧ _ ∧ _ from ⟨hF', hG', hdj, hR, hS, hL, hnc, hB, hK⟩)
   clear hwo hF' hG' hdj hR hS hL hnc hB hK
   go_wp2_with fail
   go_ret
   obtain ⟨hF', hG', hdj, hR, hS, hL, hnc, hB, hK⟩ := HFIN.out
   have hs6 := hK.size
   have hlw : w.heap.size ≤ w2.heap.size := hs2
   have hF2 : ∀ q, F' q → w2.heap.size ≤ q := fun q hq => (hF' q hq).elim (fun e => e.1) (fun e => by have := e.1; omega)
   refine ⟨bw, g, r, F', (fun q => q < w.heap.size ∨ Fresh w3 w4 q ∨ G' q), rfl, hR, ⟨vl, .slice none 0 0, A', c', none, 0, ?_, ?_, ?_, hnc, fun _ => rfl, ?_⟩, ?_, ?_, ?_, ?_, by omega, ?_, fun q hq => .inl hq, HK5.out.own hK (fun q e => by unfold Only at e; subst e; omega)⟩
   ·rw [openS_D]; exact hS.mono (fun q hq => .inr (.inl hq))
   ·exact hL.mono (fun q hq => .inr (.inr hq))
   ·rw [openS_st]; exact ⟨⟨[], rfl, Reads.nil _ _, fun i v b e => by simp at e⟩, fun h => absurd rfl h⟩
   ·rw [openS_D, openS_st]
    exact hB
   ·exact fun q hq => by have := hF2 q hq; omega
   ·intro q a b
    rcases a with a | a | a
    ·have := hF2 q b; omega
    ·rcases hF' q b with e | e
     ·have h1 := a.1; have h2 := e.2; omega
     ·have h1 := a.2; have h2 := e.1; omega
    ·exact hdj q a b
   ·intro e
    rcases hF' bw e with e | e
    ·have := e.2; omega
    ·have := e.1; omega
   ·intro e
    rcases e with e | e | e
    ·omega
    ·have := e.2; omega
    ·have := (hG' bw e).1; omega
   ·intro q a
    rcases a with a | a | a
    ·omega
    ·have := a.2; omega
    ·exact (hG' q a).2
  ·have hk4 : (k : Int) = count := by omega
   have h2 : ¬ ((40 : Int) < count) := by omega
   have h3 : (count : Int) ≤ 40 := by omega
   have h4 : ¬ ((4 : Int) > count) := by omega
   have h6 : (4 : Int) ≤ count := by omega
   clear hk hNe h1 h5
   have HN := hid hN
   have Hk4 := hid hk4
   have Hcn := hid hcn
   clear hN hk4 hcn
   go_enter Try.func38, Try.ntmps38
   go_wp2_with (first
    | (guard_target = wpList _ _ _ (Oper.mk _ (Op.makeSlice _ _ _) _ _ _ _ :: _) _ _; refine wpList_make_bytes' (by rfl) _ _ rfl N _ _ (by rfl) (by rfl) (by have := HN.out; have := Hk4.out; omega) (by have := HN.out; have := Hk4.out; omega) (by have := HN.out; have := Hcn.out; omega) ?_; intro b5 w1 hb5 B5 K1)
    | (guard_target = wpList _ _ _ (Oper.mk _ (Op.call _) _ _ _ _ :: _) _ _; refine wpList_copy_bytes rfl _ _ 33 33 rfl sl33 size5 _ b5 N N _ B5 0 N N A im.length c (by rfl) (by rfl) (im.take N) (by rw [List.length_take]; exact Nat.min_comm _ _) (by have h := (HA.out.keep K1 (fun _ _ => id)).take N; rwa [bv_take] at h) (by rw [List.length_take, List.length_replicate]; omega) ?_; intro w2 B6 K2))
   have K02 : Keep Noth w w2 := K1.own K2 (fun q e => by unfold Only at e; subst e; exact hb5)
   have hpd : Reads w2 (some ⟨b5, 0, none⟩) (bv (padI im N)) := Bytes.same_as B6
   have hdo := of_calls0 w2 (some ⟨b5, 0, none⟩) N (padI im N) hpd (by rw [padI_length]; have := HN.out; have := Hcn.out; omega) (by rw [padI_length]; exact Nat.le_refl _)
   rw [padI_length] at hdo
   have Hpd := hid hpd
   have HK02 := hid K02
   clear B5 B6 K1 K2 K02 hpd hb5
   refine hdo.mono ?_
   rintro e w3 ⟨g, rfl, hD3, K3⟩
   have hso := st_of w3 (some ⟨b5, 0, none⟩) N (padI im N) (Hpd.out.keep K3 (fun _ _ => id)) (by rw [padI_length]; have := HN.out; have := Hcn.out; omega)
   rw [padI_length] at hso
   clear hdo
   go_wp2_with fail
   refine hso.mono ?_
   rintro e w4 ⟨vl, rfl, hS4, K4⟩
   clear hso
   have hone := hS4.l.one_val.1
   obtain ⟨x0, x1, x2, x3, x4, hSV, hx0⟩ : ∃ x0 x1 x2 x3 x4, stv vl (.slice none 0 0) (DS.of (padI im N)) = [x0, x1, x2, x3, x4] ∧ ∀ u ∈ [x0, x1, x2, x3, x4], u.oneCell' = true := ⟨vl, _, _, _, _, rfl, by
    intro u hu
    simp only [List.mem_cons, List.not_mem_nil, or_false] at hu
    rcases hu with rfl | rfl | rfl | rfl | rfl <;> first | exact hone | rfl⟩
   rw [hSV]
   have hs4 := K4.size
   have hs3 := K3.size
   have hs2 := HK02.out.size
   go_wp2_with (first
    | (guard_target = wpList _ _ _ (Oper.mk _ (Op.build 68 _) _ _ _ _ :: _) _ _; refine wpList_run rfl _ _ (build68a x0 x1 x2 x3 x4 _) ?_)
    | (guard_target = wpList _ _ _ (Oper.mk _ (Op.build 70 _) _ _ _ _ :: _) _ _; refine wpList_run rfl _ _ (build70 _ _ (fsv_length _ _ _ _ _ _ _ _ _ _ _) _) ?_)
    | (guard_target = wpList _ _ _ (Oper.mk _ (Op.box 70 _) _ _ _ _ :: _) _ _; refine wpList_box_v rfl 70 _ rfl (.pointer (some ⟨g, 0, none⟩) :: .pointer none :: fsv [x0, x1, x2, x3, x4] 0 0 0 0 (.slice none 0 0) (.slice none 0 0)) (by rfl) ?_; intro bw w5 hbw BW K5; have c0 := BW.cell 0; simp only [List.getElem?_cons_zero] at c0; have f0 := BW.frozen 0))
   have hwo := wopen_calls (w := w5) (F := Fresh w2 w3) (G := Fresh w3 w4) (bw := bw) (g := g) (rv := .pointer none) (vl := vl) (vr := .slice none 0 0) (D := DS.of (padI im N)) (tail := [.int .i64 0, .int .i64 0, .int .i64 0, .int .i64 0, .slice none 0 0, .slice none 0 0]) ((hD3.keep K4 (Dj.noth _)).keep K5 (Dj.noth _)) (hS4.keep K5 (Dj.noth _)) (by rw [hSV]; exact BW) rfl (of_ok _) (by show (0 : Nat) ≤ _; omega) rfl (by rw [of_len, HN.out, ofN_pad Hcn.out.1 Hcn.out.2]; exact Hcn.out.1) (fun e => by have := e.2; omega) (fun e => by have := e.2; omega)
   have hs5 := K5.size
   have HK5 := hid (((HK02.out.trans K3 (fun _ _ h => h)).trans K4 (fun _ _ h => h)).trans K5 (fun _ _ h => h))
   have hbl := BW.lt
   clear hD3 hS4 K3 K4 K5 BW hSV hx0 c0 f0 hone
   refine hwo.mono ?_
   rintro e w6 ⟨rfl, F', G', r, A', c', hF', hG', hdj, hR, hS, hL, hnc, hB, hK⟩
   have HFIN := hid (show _ ∧ _ ∧ _ ∧ _ ∧ _ ∧ _ ∧ _ ∧ _ ∧ _ from ⟨hF', hG', hdj, hR, hS, hL, hnc, hB, hK⟩)
   clear hwo hF' hG' hdj hR hS hL hnc hB hK
   go_wp2_with fail
   go_ret
   obtain ⟨hF', hG', hdj, hR, hS, hL, hnc, hB, hK⟩ := HFIN.out
   have hs6 := hK.size
   have hlw : w.heap.size ≤ w2.heap.size := hs2
   have hF2 : ∀ q, F' q → w2.heap.size ≤ q := fun q hq => (hF' q hq).elim (fun e => e.1) (fun e => by have := e.1; omega)
   refine ⟨bw, g, r, F', (fun q => q < w.heap.size ∨ Fresh w3 w4 q ∨ G' q), rfl, hR, ⟨vl, .slice none 0 0, A', c', none, 0, ?_, ?_, ?_, hnc, fun _ => rfl, ?_⟩, ?_, ?_, ?_, ?_, by omega, ?_, fun q hq => .inl hq, HK5.out.own hK (fun q e => by unfold Only at e; subst e; omega)⟩
   ·rw [openS_D]; exact hS.mono (fun q hq => .inr (.inl hq))
   ·exact hL.mono (fun q hq => .inr (.inr hq))
   ·rw [openS_st]; exact ⟨⟨[], rfl, Reads.nil _ _, fun i v b e => by simp at e⟩, fun h => absurd rfl h⟩
   ·rw [openS_D, openS_st]
    exact hB
   ·exact fun q hq => by have := hF2 q hq; omega
   ·intro q a b
    rcases a with a | a | a
    ·have := hF2 q b; omega
    ·rcases hF' q b with e | e
     ·have h1 := a.1; have h2 := e.2; omega
     ·have h1 := a.2; have h2 := e.1; omega
    ·exact hdj q a b
   ·intro e
    rcases hF' bw e with e | e
    ·have := e.2; omega
    ·have := e.1; omega
   ·intro e
    rcases e with e | e | e
    ·omega
    ·have := e.2; omega
    ·have := (hG' bw e).1; omega
   ·intro q a
    rcases a with a | a | a
    ·omega
    ·have := a.2; omega
    ·exact (hG' q a).2
theorem wrapII {n : Int} (h0 : -9223372036854775808 ≤ n) (h1 : n ≤ 9223372036854775807) : IntKind.i64.wrap n = n := by
 rw [IntKind.wrap_i64]; omega
/-- Parts of the document's state. -/
theorem fsv_dev (SV : List Value) (h : SV.length = 5) (m n p q : Int) (vL vS : Value) : ∀ j v, SV[j]? = some v → (fsv SV m n p q vL vS)[0 + j]? = some v := by
 intro j v hj
 rw [Nat.zero_add]
 unfold fsv
 rw [List.getElem?_append_left (List.getElem?_eq_some_iff.1 hj).1]
 exact hj
theorem refRoom_calls {w : World} {F G : Nat → Prop} {vl vr vL : Value} {D : DS} (H : StAt w F vl vr D) (hok : D.ok) (seq slot : Int) (area used : Nat) (B : Option Addr) (b : Nat) (st : List (List UInt8)) (hS : ReadsL w G B st) (h4 : ∀ x ∈ st, x.length ≤ 4000) (hl : st.length ≤ 1048576) (hm : moreL st ≤ 1099511627776) (hu : used ≤ 1099511627776) :
  Calls Try.prog 49 #[.agg (fsv (stv vl vr D) seq slot (area : Int) (used : Int) vL (.slice B st.length b)).toArray] w (fun e w' => e = .returned (.int .i64 ((D.half : Int) - used - moreL st)) ∧ Keep Noth w w') := by
 have hhf := fun W (hW : Keep Noth w W) => refHalf_calls (H.keep hW (Dj.noth _)) hok.most
 have hmo := fun W (hW : Keep Noth w W) => more_calls W G B b st (hS.keep hW (Dj.noth _)) (by omega) (fun x hx => by have := h4 x hx; omega) hm
 have hhl := half_le hok
 obtain ⟨SV, hSV⟩ : ∃ SV, SV = stv vl vr D := ⟨_, rfl⟩
 have hSl : SV.length = 5 := by rw [hSV]; rfl
 rw [← hSV] at hhf ⊢
 obtain ⟨x0, x1, x2, x3, x4, rfl⟩ : ∃ x0 x1 x2 x3 x4, SV = [x0, x1, x2, x3, x4] := ⟨_, _, _, _, _, hSV⟩
 have Hhf := hid hhf
 have Hmo := hid hmo
 clear hhf hmo H hS h4 hok hSV hSl
 go_enter Try.func49, Try.ntmps49
 go_wp2_with (first
  | (guard_target = wpList _ _ _ (Oper.mk _ (Op.box 68 _) _ _ _ _ :: _) _ _; refine wpList_box_v rfl 68 _ rfl (fsv [x0, x1, x2, x3, x4] seq slot (area : Int) (used : Int) vL (.slice B st.length b)) (by rfl) ?_; intro b1 w1 hb1 B1 K1))
 refine wp_region_ordL [(0, true), (1, true), (3, true), (4, true), (6, true), (7, true), (2, false), (5, true), (8, false), (9, true), (10, false)] (fun W => BlockIs W b1 (fsv [x0, x1, x2, x3, x4] seq slot (area : Int) (used : Int) vL (.slice B st.length b)) 68) follows_mixed (by kernel_rfl) B1.drew ?_
 simp only [List.map_cons, List.map_nil, List.getElem?_cons_succ, List.getElem?_cons_zero, Option.getD_some]
 refine wpO_pure (v := .pointer (some ⟨b1, 0, none⟩)) (by rfl) (fun w' hw' => by go_simp) ?_
 go_frame
 refine wpO_pure (v := .agg [x0, x1, x2, x3, x4].toArray) (by rfl) (fun w' hw' => by exact exec_load_blk 30 _ rfl b1 0 _ [x0, x1, x2, x3, x4] 68 _ (by rfl) hw' (fsv_dev _ rfl _ _ _ _ _ _) Try.underlying30 rfl info30) ?_
 go_frame
 refine wpO_pure (v := .pointer (some ⟨b1, 8, none⟩)) (by rfl) (fun w' hw' => by go_simp) ?_
 go_frame
 refine wpO_pure (v := .int .i64 (used : Int)) (by rfl) (fun w' hw' => by have hc : w'.cell? ⟨b1, 8, none⟩ = some (.int .i64 (used : Int)) := hw'.cell 8; go_simp) ?_
 go_frame
 refine wpO_pure (v := .pointer (some ⟨b1, 10, none⟩)) (by rfl) (fun w' hw' => by go_simp) ?_
 go_frame
 refine wpO_pure (v := .slice B st.length b) (by rfl) (fun w' hw' => by have hc : w'.cell? ⟨b1, 10, none⟩ = some (.slice B st.length b) := hw'.cell 10; go_simp) ?_
 go_frame
 refine wpO_call (by rfl) (exec_call' 78 _ _ rfl Try.func78 (by kernel_rfl) (by rfl) #[.agg [x0, x1, x2, x3, x4].toArray] (by simp [Act.eval])) ?_
 refine (Hhf.out _ K1.drew).mono ?_
 rintro e w2 ⟨rfl, K2⟩
 refine ⟨_, rfl, .inr (B1.drew.keep K2 id), ?_⟩
 go_frame
 refine wpO_pure (v := .int .i64 ((D.half : Int) - used)) (by rfl) (fun w' hw' => by go_simp; exact wrapII (by omega) (by omega)) ?_
 go_frame
 have K02 : Keep Noth w w2 := K1.drew.trans K2 (fun _ _ h => h)
 refine wpO_call (by rfl) (exec_call' 83 _ _ rfl Try.func83 (by kernel_rfl) (by rfl) #[.slice B st.length b] (by simp [Act.eval])) ?_
 refine (Hmo.out _ K02).mono ?_
 rintro e w' ⟨rfl, rfl⟩
 refine ⟨_, rfl, .inr (B1.drew.keep K2 id), ?_⟩
 go_frame
 refine wpO_pure (v := .int .i64 ((D.half : Int) - used - moreL st)) (by rfl) (fun w' hw' => by go_simp; exact wrapII (by omega) (by omega)) ?_
 go_frame
 refine wpO_run (v := .int .i64 ((D.half : Int) - used - moreL st)) (w1 := w2) (by rfl) (by go_simp) (.inl rfl) (wpO_nil ?_)
 go_frame
 clear B1 K1 K2
 go_wp2_with fail
 go_ret
 exact ⟨rfl, K02⟩
end Go.Proofs.Ytffcglfepobdjaa
set_option maxRecDepth 10000
set_option maxHeartbeats 1500000
namespace Go.Proofs.Ytffcglfepobdjaa
open Go.RowKit
/-- A row of one's own, of slices of bytes that are read. -/
def RowsL (w : World) (F G : Nat → Prop) (v : Value) (l : List (List UInt8)) : Prop :=
 ∃ vs : List Value, vs.length = l.length ∧ Rows w F 33 1 v (vs.map fun x => [x]) ∧ ∀ (i : Nat) (x : Value) (b : List UInt8), vs[i]? = some x → l[i]? = some b → RecVal w G x b
theorem RowsL.nil (w : World) (F G : Nat → Prop) : RowsL w F G (.slice none 0 0) [] := ⟨[], rfl, Rows.nil _ _ _ _, fun i x b h => by simp at h⟩
theorem RowsL.keep {w w' : World} {F G H : Nat → Prop} {v : Value} {l : List (List UInt8)} (h : RowsL w F G v l) (hk : Keep H w w') (hF : Dj F H) (hG : Dj G H) : RowsL w' F G v l := by
 obtain ⟨vs, h1, h2, h3⟩ := h
 exact ⟨vs, h1, h2.keep hk hF, fun i x b e1 e2 => (h3 i x b e1 e2).keep hk hG⟩
theorem RecVal.mono {w : World} {G G' : Nat → Prop} {v : Value} {b : List UInt8} (h : RecVal w G v b) (hG : ∀ q, G q → G' q) : RecVal w G' v b := by
 obtain ⟨B, c, h1, h2, h3, h4⟩ := h
 exact ⟨B, c, h1, h2, h3, fun hb ad e => hG _ (h4 hb ad e)⟩
theorem RowsL.mono {w : World} {F F' G G' : Nat → Prop} {v : Value} {l : List (List UInt8)} (h : RowsL w F G v l) (hF : ∀ q, F q → F' q) (hG : ∀ q, G q → G' q) : RowsL w F' G' v l := by
 obtain ⟨vs, h1, h2, h3⟩ := h
 exact ⟨vs, h1, h2.mono hF, fun i x b e1 e2 => (h3 i x b e1 e2).mono hG⟩
theorem RowsL.val {w : World} {F G : Nat → Prop} {v : Value} {l : List (List UInt8)} (h : RowsL w F G v l) : ∃ A c, v = .slice A l.length c ∧ (A = none → c = 0) := by
 obtain ⟨vs, h1, h2, h3⟩ := h
 obtain ⟨A, c, hv⟩ := h2.valm
 subst hv
 exact ⟨A, c, by rw [h1], h2.none_cap⟩
theorem RowsL.own {w : World} {F G : Nat → Prop} {v : Value} {l : List (List UInt8)} (h : RowsL w F G v l) (q : Nat) (hq : v.ownBlock = some q) : F q ∧ q < w.heap.size := by
 obtain ⟨vs, h1, h2, h3⟩ := h
 exact ⟨h2.foot q hq, h2.ownlt q hq⟩
theorem RowsL.reads {w : World} {F G : Nat → Prop} {A : Option Addr} {n c : Nat} {l : List (List UInt8)} (h : RowsL w F G (.slice A n c) l) : ReadsL w (fun q => F q ∨ G q) A l := by
 obtain ⟨vs, h1, h2, h3⟩ := h
 refine ⟨⟨vs, h1, ?_, fun i x b e1 e2 => (h3 i x b e1 e2).mono (fun q hq => .inr hq)⟩, fun _ ad e => .inl (h2.fst.2 ad e)⟩
 have := rd_of_own h2
 rwa [flat_one] at this
theorem ReadsL.parts {w : World} {G : Nat → Prop} {A : Option Addr} {l : List (List UInt8)} (h : ReadsL w G A l) : ∃ vs : List Value, vs.length = l.length ∧ Reads w A vs ∧ ∀ (i : Nat) (x : Value) (b : List UInt8), vs[i]? = some x → l[i]? = some b → RecVal w G x b := h.ex
theorem Recs.rowsL {w : World} {F : Nat → Prop} {v : Value} {l : List (List UInt8)} (h : Recs w F v l) : RowsL w F F v l := by
 obtain ⟨es, h1, h2, h3⟩ := h
 refine ⟨es.map (·.1), by rw [List.length_map, h1, List.length_map], by rw [List.map_map]; exact h2, fun i x b e1 e2 => ?_⟩
 rw [h1, List.getElem?_map] at e2
 rw [List.getElem?_map] at e1
 cases hx : es[i]? with
 | none => rw [hx] at e1; cases e1
 | some y =>
  rw [hx] at e1 e2
  simp only [Option.map_some, Option.some.injEq] at e1 e2
  subst e1
  subst e2
  have hB := h3 y (List.mem_of_getElem? hx)
  obtain ⟨B, c', hv⟩ := hB.valm
  rw [hv] at hB ⊢
  exact ⟨B, c', rfl, Bytes.same_as hB, hB.fst.1, fun _ => hB.fst.2⟩
section
variable {ops : Array Oper} {o : Oper} {a : Act} {w : World}
/-- Slices of bytes that are read are appended to such a row. -/
theorem exec_appendL (s x : Operand) (ho : o.op = .call { callee := .builtin .append, args := #[s, x], argTypes := #[63, 63] }) {F G : Nat → Prop} {v : Value} {l m : List (List UInt8)} (hs : a.eval s = v) (H : RowsL w F G v l)
  {A : Option Addr} {n c : Nat} (hx : a.eval x = .slice A n c) (hn : n = m.length) (hA : A = none → c = 0) (vs2 : List Value) (h2 : vs2.length = m.length) (hR : Reads w A vs2) (hE : ∀ (i : Nat) (x : Value) (b : List UInt8), vs2[i]? = some x → m[i]? = some b → RecVal w G x b) (hl : l.length + m.length ≤ 1099511627776)
  (hd : ∀ q, v.ownBlock = some q → ¬ G q) :
  ∃ v' w', (execOp a.eval o).run Try.prog w = .ok (.value v') w' ∧ RowsL w' (fun k => v.ownBlock = some k ∨ (w.heap.size ≤ k ∧ k < w'.heap.size)) G v' (l ++ m) ∧ Keep (fun k => v.ownBlock = some k) w w' := by
 obtain ⟨vs, k1, k2, k3⟩ := H
 have hone : ∀ u ∈ (vs2.map fun x => [x]).flatten, u.oneCell' = true := by
  rw [flat_one]
  intro u hu
  obtain ⟨i, hi⟩ := List.mem_iff_getElem?.1 hu
  have hlt := (List.getElem?_eq_some_iff.1 hi).1
  obtain ⟨B, c', e, -⟩ := hE i u m[i] hi (List.getElem?_eq_getElem (by omega))
  rw [e]; rfl
 obtain ⟨v', w', hr, R, K⟩ := run_append_rows (P := Try.prog) (w := w) 63 o.type 33 (.slice none 0 0) 1 24 sl63 info33 rfl (by decide) (by decide) F v (vs.map fun x => [x]) (vs2.map fun x => [x]) k2 A n c (by rw [List.length_map, h2, hn]) hA (by simp) (by rw [flat_one]; exact hR) hone (by rw [List.length_map, k1, hn]; omega)
 have hG : Dj G (fun k => v.ownBlock = some k) := fun q g e => hd q e g
 refine ⟨v', w', exec_append s x 63 ho hs hx hr, ⟨vs ++ vs2, by rw [List.length_append, List.length_append, k1, h2], by rw [List.map_append]; exact R, fun i y b e1 e2 => ?_⟩, K⟩
 rcases Nat.lt_or_ge i vs.length with hlt | hge
 ·rw [List.getElem?_append_left hlt] at e1
  rw [List.getElem?_append_left (by omega)] at e2
  exact (k3 i y b e1 e2).keep K hG
 ·rw [List.getElem?_append_right hge] at e1
  rw [List.getElem?_append_right (by omega), ← k1] at e2
  exact (hE _ y b e1 e2).keep K hG
theorem wpList_appendL {rest : List Oper} {Q : Exit → Act → World → Prop} (hw : Region.wanted o (yielded ops a.tmps) = true) (s x : Operand) (ho : o.op = .call { callee := .builtin .append, args := #[s, x], argTypes := #[63, 63] }) {F G : Nat → Prop} {v : Value} {l m : List (List UInt8)} (hs : a.eval s = v) (H : RowsL w F G v l)
  {A : Option Addr} {n c : Nat} (hx : a.eval x = .slice A n c) (hn : n = m.length) (hA : A = none → c = 0) (vs2 : List Value) (h2 : vs2.length = m.length) (hR : Reads w A vs2) (hE : ∀ (i : Nat) (x : Value) (b : List UInt8), vs2[i]? = some x → m[i]? = some b → RecVal w G x b) (hl : l.length + m.length ≤ 1099511627776)
  (hd : ∀ q, v.ownBlock = some q → ¬ G q)
  (h : ∀ v' w', RowsL w' (fun k => v.ownBlock = some k ∨ (w.heap.size ≤ k ∧ k < w'.heap.size)) G v' (l ++ m) → Keep (fun k => v.ownBlock = some k) w w' → wpList Try.prog ops Q rest (a.put o.dst v') w') : wpList Try.prog ops Q (o :: rest) a w := by
 obtain ⟨v', w', e1, e2, e3⟩ := exec_appendL s x ho hs H hx hn hA vs2 h2 hR hE hl hd
 exact wpList_run_w hw v' w' e1 (h v' w' e2 e3)
end
theorem one_vs {w : World} {G : Nat → Prop} {x : Value} {b : List UInt8} (h : RecVal w G x b) : ∀ (i : Nat) (y : Value) (c : List UInt8), [x][i]? = some y → [b][i]? = some c → RecVal w G y c := by
 intro i y c e1 e2
 match i with
 | 0 =>
  simp only [List.getElem?_cons_zero, Option.some.injEq] at e1 e2
  subst e1; subst e2; exact h
 | n + 1 => simp at e1
theorem WX.rlt {w0 w : World} {F G : Nat → Prop} {bw g r : Nat} {S R : RS} (h : WX w0 w F G bw g r S R) : Lt F w := by
 obtain ⟨vl, vs, hr⟩ := h.roll
 exact hr.lt
theorem WX.wlt {w0 w : World} {F G : Nat → Prop} {bw g r : Nat} {S R : RS} (h : WX w0 w F G bw g r S R) : bw < w.heap.size := by
 obtain ⟨vl, vr, A, a, B, b, -, -, -, -, -, hB⟩ := h.ref
 exact hB.lt
theorem WX.cells {w0 w : World} {F G : Nat → Prop} {bw g r : Nat} {S R : RS} (h : WX w0 w F G bw g r S R) : w.cell? ⟨bw, 0, none⟩ = some (.pointer (some ⟨g, 0, none⟩)) ∧ w.cell? ⟨bw, 1, none⟩ = some (.pointer (some ⟨r, 0, none⟩)) := by
 obtain ⟨vl, vr, A, a, B, b, -, -, -, -, -, hB⟩ := h.ref
 exact ⟨hB.cell 0, hB.cell 1⟩
/-- Behind a step that turns neither the roll nor the document's. -/
theorem WX.apart {w0 w w' : World} {F G H : Nat → Prop} {bw g r : Nat} {S R : RS} (h : WX w0 w F G bw g r S R) (k : Keep H w w') (hF : Dj F H) (hG : Dj G H) (hb : ¬ H bw) : WX w0 w' F G bw g r S R := by
 obtain ⟨vl, vr, A, a, B, b, h1, h2, h3, h4, h5, h6⟩ := h.ref
 refine ⟨h.roll.keep k hF, ⟨vl, vr, A, a, B, b, h1.keep k hG, h2.keep k hG, h3.keep k hG, h4, h5, h6.keep k hb⟩, h.low, h.off, h.nbF, h.nbG, h.wlow, h.glt.up k.size, h.old, h.kept.own k (fun q e => ?_)⟩
 rcases Nat.lt_or_ge q w0.heap.size with hq | hq
 ·exact absurd e (hG q (h.old q hq))
 ·exact hq
theorem WX.keep {w0 w w' : World} {F G : Nat → Prop} {bw g r : Nat} {S R : RS} (h : WX w0 w F G bw g r S R) (k : Keep Noth w w') : WX w0 w' F G bw g r S R :=
 h.apart k (Dj.noth _) (Dj.noth _) id
/-- Behind a call of the roll. -/
theorem WX.prog {w0 w w' : World} {F G : Nat → Prop} {bw g r : Nat} {S S' R : RS} (h : WX w0 w F G bw g r S R) (hr : RollIs w' (grow F w w') g r S') (k : Keep F w w') : WX w0 w' (grow F w w') G bw g r S' R := by
 obtain ⟨vl, vr, A, a, B, b, h1, h2, h3, h4, h5, h6⟩ := h.ref
 exact ⟨hr, ⟨vl, vr, A, a, B, b, h1.keep k h.off, h2.keep k h.off, h3.keep k h.off, h4, h5, h6.keep k h.nbF⟩, low_grow h.low h.kept.size, h.off.grow h.glt, fun e => e.elim h.nbF (fun e => by have := h.wlt; omega), h.nbG, h.wlow, h.glt.up k.size, h.old, h.kept.own k h.low⟩
theorem at_put {D : DS} (k : Nat) (b : List UInt8) (j : Nat) (hj : j < D.l.length) : (D.put k b).at j = if k = j then fillz b else D.at j := by
 unfold DS.at DS.all DS.put
 exact putAll_at_snoc D.l D.row (k, fillz b) j hj
theorem at_tick (D : DS) (j : Nat) : D.tick.at j = D.at j := rfl
theorem at_flushed (D : DS) (j : Nat) : D.flushed.at j = D.at j := rfl
/-- A write that is in its place. -/
theorem write_in {D : DS} (hd : D.down = false) {k : Nat} (hk : k < D.l.length) {b : List UInt8} (hb : b.length ≤ 64) : D.write (k : Int) b = ((D.put k b).tick, if D.fuse == 0 then 100 else 0) := by
 unfold DS.write
 rw [if_neg (by rw [hd]; decide), if_neg (by omega)]
 rfl
theorem write_row {D : DS} (k : Nat) (b : List UInt8) : (D.put k b).tick.row = D.row ++ [(k, fillz b)] := rfl
/-- What writes in their places make: the blocks that are written before the device goes down. -/
theorem writes_in : ∀ (l : List Bk) (D : DS) (k : Nat), D.down = false → (∀ x ∈ l, x.length = 64) → k + l.length ≤ D.l.length →
  ∃ m, m ≤ l.length ∧ (D.writes (k : Int) l).1.l = D.l ∧ (D.writes (k : Int) l).1.row = D.row ++ ((l.take m).zipIdx k).map (fun p => (p.2, p.1)) ∧
   (((D.writes (k : Int) l).2 = 0 ∧ m = l.length ∧ (D.writes (k : Int) l).1.down = false) ∨ ((D.writes (k : Int) l).2 = 100 ∧ (D.writes (k : Int) l).1.down = true))
 | [], D, k, hd, _, _ => ⟨0, Nat.le_refl _, rfl, by simp [DS.writes], .inl ⟨rfl, rfl, hd⟩⟩
 | x :: l, D, k, hd, h64, hk => by
  have hx := h64 x (by simp)
  have hw := write_in hd (k := k) (b := x) (by simp at hk; omega) (by omega)
  have hfx : fillz x = x := fillz_full x hx
  by_cases hf : D.fuse = 0
  ·have he : D.writes (k : Int) (x :: l) = ((D.put k x).tick, 100) := by
    rw [writes_cons_no (by rw [hw, hf]; show (if ((0 : Int) == 0) = true then (100 : Int) else 0) ≠ 0; decide), hw, hf]; rfl
   rw [he]
   refine ⟨1, by simp, rfl, by rw [write_row, hfx]; simp, .inr ⟨rfl, ?_⟩⟩
   show (D.fuse == 0) = true
   rw [hf]; rfl
  ·have hf' : (D.fuse == 0) = false := by simpa using hf
   have he : D.writes (k : Int) (x :: l) = (D.put k x).tick.writes ((k + 1 : Nat) : Int) l := by
    rw [writes_cons_ok (by rw [hw, hf']; rfl), hw]; rfl
   rw [he]
   obtain ⟨m, h1, h2, h3, h4⟩ := writes_in l (D.put k x).tick (k + 1) hf' (fun y hy => h64 y (by simp [hy])) (by show k + 1 + l.length ≤ D.l.length; simp at hk; omega)
   refine ⟨m + 1, by simp; exact h1, h2, ?_, ?_⟩
   ·rw [h3, write_row, hfx]
    simp [List.zipIdx_cons]
   ·rcases h4 with ⟨a, b, c⟩ | h
    ·exact .inl ⟨a, by rw [b]; simp, c⟩
    ·exact .inr h
/-- The blocks as they are read. -/
theorem writes_at : ∀ (l : List Bk) (D : DS) (k : Nat), D.down = false → (∀ x ∈ l, x.length = 64) → k + l.length ≤ D.l.length → (D.writes (k : Int) l).2 = 0 →
  ∀ j, j < D.l.length → (D.writes (k : Int) l).1.at j = if k ≤ j ∧ j < k + l.length then l.getD (j - k) [] else D.at j
 | [], D, k, _, _, _, _, j, hj => by rw [if_neg (by simp only [List.length_nil]; omega)]; rfl
 | x :: l, D, k, hd, h64, hk, he, j, hj => by
  have hx := h64 x (by simp)
  have hw := write_in hd (k := k) (b := x) (by simp at hk; omega) (by omega)
  have hfx : fillz x = x := fillz_full x hx
  by_cases hf : D.fuse = 0
  ·rw [writes_cons_no (by rw [hw, hf]; show (if ((0 : Int) == 0) = true then (100 : Int) else 0) ≠ 0; decide), hw, hf] at he
   cases he
  ·have hf' : (D.fuse == 0) = false := by simpa using hf
   have hc : D.writes (k : Int) (x :: l) = (D.put k x).tick.writes ((k + 1 : Nat) : Int) l := by
    rw [writes_cons_ok (by rw [hw, hf']; rfl), hw]; rfl
   rw [hc] at he ⊢
   rw [writes_at l (D.put k x).tick (k + 1) hf' (fun y hy => h64 y (by simp [hy])) (by show k + 1 + l.length ≤ D.l.length; simp at hk; omega) he j hj, at_tick, at_put k x j hj, hfx]
   by_cases h1 : k + 1 ≤ j ∧ j < k + 1 + l.length
   ·rw [if_pos h1, if_pos ⟨by omega, by simp; omega⟩, show j - k = (j - (k + 1)) + 1 by omega]
    rfl
   ·rw [if_neg h1]
    by_cases h2 : k = j
    ·subst h2
     rw [if_pos rfl, if_pos ⟨Nat.le_refl _, by simp⟩, Nat.sub_self]
     rfl
    ·rw [if_neg h2, if_neg (by simp; omega)]
theorem getN_putB (n : Nat) : ∀ many, getN (putB many n) = n % 256 ^ many
 | 0 => by simp [putB, getN, Nat.mod_one]
 | k + 1 => by
  rw [putB_succ, getN_snoc, getN_putB n k, putB_length, UInt8.toNat_ofNat', show n % 256 ^ (k + 1) = n % 256 ^ k + 256 ^ k * (n / 256 ^ k % 256) from Nat.mod_pow_succ, show (2 : Nat) ^ (8 * k) = 256 ^ k by rw [Nat.pow_mul]]
theorem headB_t8 (seq area used count : Nat) : (headB seq area used count).take 8 = putB 8 seq := by rfl
theorem headB_d32 (seq area used count : Nat) : ((headB seq area used count).drop 32).take 8 = putB 8 seq := by rfl
theorem hdOf_headB {seq area used count : Nat} (h1 : seq < 18446744073709551616) (h2 : area < 256) (h3 : used < 4294967296) (h4 : count < 4294967296) : hdOf (headB seq area used count) = ⟨seq, area, used, count⟩ := by
 have e1 : getN ((headB seq area used count).take 8) = seq := by rw [headB_t8, getN_putB]; exact Nat.mod_eq_of_lt (by simpa using h1)
 have e3 : getN (((headB seq area used count).drop 9).take 4) = used := by
  rw [show ((headB seq area used count).drop 9).take 4 = putB 4 used by rfl, getN_putB]; exact Nat.mod_eq_of_lt (by simpa using h3)
 have e4 : getN (((headB seq area used count).drop 13).take 4) = count := by
  rw [show ((headB seq area used count).drop 13).take 4 = putB 4 count by rfl, getN_putB]; exact Nat.mod_eq_of_lt (by simpa using h4)
 have e2 : ((headB seq area used count).getD 8 0).toNat = area := by
  rw [show (headB seq area used count).getD 8 0 = UInt8.ofNat area by rfl, UInt8.toNat_ofNat']; exact Nat.mod_eq_of_lt h2
 unfold hdOf
 rw [e1, e2, e3, e4]
theorem nextF_congr {D E : DS} (h : ∀ j, j < 2 → E.at j = D.at j) : nextF E = nextF D := by
 unfold nextF seqsOf
 rw [h 0 (by decide), h 1 (by decide)]
theorem maxF_ge (l : List Nat) : ∀ (n : Nat), n ≤ maxF n l := by
 induction l with
 | nil => intro n; exact Nat.le_refl _
 | cons x l ih =>
  intro n
  show n ≤ maxF (if x < 1099511627776 then max n x else n) l
  refine Nat.le_trans ?_ (ih _)
  split
  ·exact Nat.le_max_left _ _
  ·exact Nat.le_refl _
theorem maxF_mem {l : List Nat} {x : Nat} (hx : x ∈ l) (h : x < 1099511627776) : ∀ n, x ≤ maxF n l := by
 induction l with
 | nil => cases hx
 | cons y l ih =>
  intro n
  show x ≤ maxF (if y < 1099511627776 then max n y else n) l
  rcases List.mem_cons.1 hx with e | e
  ·subst e
   refine Nat.le_trans ?_ (maxF_ge l _)
   rw [if_pos h]; exact Nat.le_max_right _ _
  ·exact ih e _
theorem nextF_maxF (D : DS) : nextF D = maxF 0 (seqsOf D) + 1 := rfl
/-- A number that stands at a head is no number of the next one. -/
theorem nextF_gt {D : DS} {x : Nat} (hx : x ∈ seqsOf D) (h : x < 1099511627776) : x < nextF D := by
 rw [nextF_maxF]; have := maxF_mem hx h 0; omega
theorem seqs_mem (D : DS) {j : Nat} (hj : j < 2) : getN ((D.at j).take 8) ∈ seqsOf D ∧ getN (((D.at j).drop 32).take 8) ∈ seqsOf D := by
 rcases (show j = 0 ∨ j = 1 by omega) with e | e <;> subst e <;> simp [seqsOf]
theorem RS.good.first {S : RS} (h : S.good) : 2 + S.own.area * S.D.half + S.D.half ≤ S.D.l.length :=
 area_fits (by have := h.four; omega) h.area (Nat.le_refl _)
theorem RS.good.other {S : RS} (h : S.good) : 2 + (1 - S.own.area) * S.D.half + S.D.half ≤ S.D.l.length :=
 area_fits (by have := h.four; omega) (by omega) (Nat.le_refl _)
theorem nslot_nat (S : RS) : ∃ s : Nat, s < 2 ∧ S.nslot = (s : Int) := by
 unfold RS.nslot
 split
 ·exact ⟨1, by decide, rfl⟩
 ·exact ⟨0, by decide, rfl⟩
/-- The bytes of records, as they stand. -/
def packsL (l : List (List UInt8)) : List UInt8 := (l.map packB).flatten
theorem packsL_append (l m : List (List UInt8)) : packsL (l ++ m) = packsL l ++ packsL m := by simp [packsL]
theorem packsL_one (b : List UInt8) : packsL [b] = packB b := by simp [packsL]
theorem packsL_length : ∀ l : List (List UInt8), (packsL l).length = 64 * moreL l
 | [] => rfl
 | b :: l => by
  show (packB b ++ packsL l).length = 64 * (blocksN b + moreL l)
  rw [List.length_append, packB_length, packsL_length l, Nat.mul_add]
theorem refRec_pack {r rest : List UInt8} (h : r.length ≤ 4000) : refRec (packB r ++ rest) = some r := by
 have hb := blocksN_bound r
 have hl := packB_length r
 have h2 : (packB r ++ rest).take 2 = putB 2 r.length := by
  rw [List.take_append_of_le_length (by omega), packB_parts, List.append_assoc, List.take_append_of_le_length (by rw [putB_length]; exact Nat.le_refl _), List.take_of_length_le (by rw [putB_length]; exact Nat.le_refl _)]
 have hn : getN ((packB r ++ rest).take 2) = r.length := by
  rw [h2, getN_putB]; exact Nat.mod_eq_of_lt (by simp; omega)
 have hd : ((packB r ++ rest).drop 2).take r.length = r := by
  rw [packB_parts, List.append_assoc, List.append_assoc, List.drop_append_of_le_length (by rw [putB_length]; exact Nat.le_refl _), List.drop_of_length_le (by rw [putB_length]; exact Nat.le_refl _), List.nil_append, List.take_append_of_le_length (Nat.le_refl _), List.take_length]
 unfold refRec
 rw [hn, hd]
 rw [if_neg (by rw [List.length_append]; omega), if_neg (by rw [List.length_append]; omega), if_pos (by rw [List.take_append_of_le_length (by omega), ← hl, List.take_length])]
theorem recB_congr {D E : DS} {f : Nat} : ∀ j, (∀ i, i < j → E.at (f + i) = D.at (f + i)) → recB E f j = recB D f j
 | 0, _ => rfl
 | j + 1, h => by rw [recB_succ, recB_succ, recB_congr j (fun i hi => h i (by omega)), h j (by omega)]
theorem moreL_take_le (l : List (List UInt8)) (c : Nat) : moreL (l.take c) ≤ moreL l := by
 conv => rhs; rw [← List.take_append_drop c l]
 rw [moreL_append]; omega
/-- Records that stand are read. -/
theorem recsL_of {D : DS} (hok : D.ok) {f : Nat} {l : List (List UInt8)} (hf : f + moreL l ≤ D.l.length) (h4 : ∀ b ∈ l, b.length ≤ 4000) (hs : recB D f (moreL l) = packsL l) : ∀ c, c ≤ l.length → recsL D f (moreL l) c = some (l.take c, moreL (l.take c))
 | 0, _ => by simp [recsL, moreL]
 | c + 1, h => by
  have ih := recsL_of hok hf h4 hs c (by omega)
  obtain ⟨b, hb⟩ : ∃ b, l[c]? = some b := ⟨_, List.getElem?_eq_getElem (by omega)⟩
  have htk : l.take (c + 1) = l.take c ++ [b] := by rw [List.take_add_one, hb]; rfl
  have hsp : l = l.take c ++ (b :: l.drop (c + 1)) := by
   conv => lhs; rw [← List.take_append_drop (c + 1) l, htk]
   simp
  obtain ⟨a, ha⟩ : ∃ a, a = moreL (l.take c) := ⟨_, rfl⟩
  obtain ⟨r, hr⟩ : ∃ r, moreL l = a + r := ⟨moreL l - a, by have := moreL_take_le l c; omega⟩
  have hrb : recB D (f + a) r = packB b ++ packsL (l.drop (c + 1)) := by
   have h1 := recB_drop hok (k := f) (i := a) (j := r) (by omega)
   rw [← h1, ← hr, hs]
   conv => lhs; rw [hsp]
   rw [packsL_append, List.drop_append_of_le_length (by rw [packsL_length, ha]; exact Nat.le_refl _), List.drop_of_length_le (by rw [packsL_length, ha]; exact Nat.le_refl _), List.nil_append]
   rfl
  have hrf : recF D (f + a) (moreL l - a) = some b := by
   rw [show moreL l - a = r by omega, recF_ref hok (by omega), hrb]
   exact refRec_pack (h4 b (List.mem_of_getElem? hb))
  simp only [recsL, ih]
  rw [← ha, hrf]
  simp only []
  rw [htk, moreL_append, ← ha]
  simp [moreL]
theorem refRec_some {b r : List UInt8} (h : refRec b = some r) : packB r = b.take (64 * blocksN r) := by
 unfold refRec at h
 split at h
 ·cases h
 ·split at h
  ·cases h
  ·split at h
   ·rename_i e; injection h with h; rw [h] at e; exact e
   ·cases h
/-- Records that are read stand. -/
theorem recsL_stands {D : DS} (hok : D.ok) {f used : Nat} (hf : f + used ≤ D.l.length) : ∀ c l a, recsL D f used c = some (l, a) → a = moreL l ∧ a ≤ used ∧ recB D f a = packsL l
 | 0, l, a, h => by
  simp only [recsL, Option.some.injEq, Prod.mk.injEq] at h
  obtain ⟨rfl, rfl⟩ := h
  exact ⟨rfl, Nat.zero_le _, rfl⟩
 | c + 1, l, a, h => by
  simp only [recsL] at h
  split at h
  ·cases h
  ·rename_i l1 a1 h1
   obtain ⟨e1, e2, e3⟩ := recsL_stands hok hf c l1 a1 h1
   split at h
   ·cases h
   ·rename_i r hr
    simp only [Option.some.injEq, Prod.mk.injEq] at h
    obtain ⟨rfl, rfl⟩ := h
    obtain ⟨q1, q2, q3⟩ := recF_blocks hok (by omega) hr
    rw [recF_ref hok (by omega)] at hr
    have hp := refRec_some hr
    obtain ⟨m, hm⟩ : ∃ m, used - a1 = blocksN r + m := ⟨used - a1 - blocksN r, by omega⟩
    rw [hm, recB_take hok (by omega)] at hp
    refine ⟨by rw [moreL_append, ← e1]; simp [moreL], by omega, ?_⟩
    rw [recB_add, e3, ← hp, packsL_append, packsL_one]
theorem half_two {D : DS} (h : 2 ≤ D.l.length) : 2 + D.half * 2 ≤ D.l.length := by unfold DS.half; omega
/-- A head that stands, and its records. -/
theorem holdsF_of {D : DS} (hok : D.ok) (h4 : 4 ≤ D.l.length) {k : Nat} {h : Hd} {l : List (List UInt8)} (hat : D.at k = h.bytes) (hs : 1 ≤ h.seq ∧ h.seq < 1099511627776) (ha : h.area ≤ 1) (hu : h.used ≤ D.half) (hc : h.count < 4294967296)
  (hm : h.used = moreL l) (hcl : h.count = l.length) (hl : ∀ b ∈ l, b.length ≤ 4000) (hst : recB D (2 + h.area * D.half) (moreL l) = packsL l) : holdsF D k = some (h, l) := by
 have hhl := half_le hok
 have hof : hdOf (D.at k) = h := by rw [hat]; exact hdOf_headB (by omega) (by omega) (by omega) hc
 have hok' : hdOk D (D.at k) = true := by
  unfold hdOk
  rw [hof, hat, decide_eq_true ⟨hs.1, hs.2, ha, hu⟩]
  simp
 have hfit : 2 + h.area * D.half + moreL l ≤ D.l.length := by
  have := half_two (D := D) (by omega)
  have : h.area * D.half ≤ D.half := by rcases (show h.area = 0 ∨ h.area = 1 by omega) with e | e <;> rw [e] <;> omega
  rcases (show h.area = 0 ∨ h.area = 1 by omega) with e | e <;> rw [e] <;> omega
 unfold holdsF
 rw [if_pos hok', hof, hm, hcl, recsL_of hok hfit hl hst l.length (Nat.le_refl _), List.take_length]
 simp only [if_true]
theorem openS_0 {D : DS} {h : Hd} {l : List (List UInt8)} (h0 : holdsF D 0 = some (h, l)) (hs : 1 ≤ h.seq) (h1 : hdOk D (D.at 1) = true → (hdOf (D.at 1)).seq ≤ h.seq) : openS D = ⟨D, h, 0, l, [], 0⟩ := by
 have e1 : openP D 1 = ⟨D, h, 0, l, [], 0⟩ := by
  rw [openP_some h0, if_pos (show (openP D 0).own.seq < h.seq from hs)]; rfl
 unfold openS
 rw [openP_skip (k := 1) ?_, e1]
 cases hd : hdOk D (D.at 1) with
 | false => exact .inl rfl
 | true => exact .inr (by rw [e1]; exact h1 hd)
theorem openS_1 {D : DS} {h : Hd} {l : List (List UInt8)} (h0 : holdsF D 1 = some (h, l)) (hs : 1 ≤ h.seq) (h1 : hdOk D (D.at 0) = true → (hdOf (D.at 0)).seq < h.seq) : openS D = ⟨D, h, 1, l, [], 0⟩ := by
 have e1 : (openP D 1).own.seq < h.seq := by
  cases hd : hdOk D (D.at 0) with
  | false => rw [openP_skip (.inl hd)]; exact hs
  | true =>
   by_cases hlt : (openP D 0).own.seq < (hdOf (D.at 0)).seq
   ·rw [openP_take hd hlt]
    split
    ·exact h1 hd
    ·exact hs
   ·rw [openP_skip (.inr (by omega))]; exact hs
 unfold openS
 rw [openP_some h0, if_pos e1]; rfl
theorem openS_no {D : DS} (h0 : hdOk D (D.at 0) = false) (h1 : hdOk D (D.at 1) = false) : openS D = ⟨D, ⟨0, 0, 0, 0⟩, -1, [], [], 0⟩ := by
 unfold openS
 rw [openP_skip (.inl h1), openP_skip (.inl h0)]; rfl
/-- The first block of the own area. -/
def RS.base (S : RS) : Nat := 2 + S.own.area * S.D.half
/-- A roll's head, on a device. -/
def headOn (D : DS) (own : Hd) (slot : Int) (l : List (List UInt8)) : Prop :=
 (slot = -1 ∧ l = [] ∧ own = ⟨0, 0, 0, 0⟩ ∧ hdOk D (D.at 0) = false ∧ hdOk D (D.at 1) = false) ∨
 (slot = 0 ∧ D.at 0 = own.bytes ∧ 1 ≤ own.seq ∧ own.count = l.length ∧ (hdOk D (D.at 1) = true → (hdOf (D.at 1)).seq ≤ own.seq)) ∨
 (slot = 1 ∧ D.at 1 = own.bytes ∧ 1 ≤ own.seq ∧ own.count = l.length ∧ (hdOk D (D.at 0) = true → (hdOf (D.at 0)).seq < own.seq))
structure RS.inv (S : RS) : Prop where
 good : S.good
 usedm : S.own.used = moreL S.l
 morem : S.more = moreL S.st
 stands : recB S.D S.base (moreL S.l + moreL S.st) = packsL (S.l ++ S.st)
 row : ∀ p ∈ S.D.row, 2 ≤ p.1 ∧ (p.1 < S.base ∨ S.base + S.own.used ≤ p.1)
 head : headOn S.D S.own S.slot S.l
theorem hdOk_half {D E : DS} (h : E.half = D.half) (b : Bk) : hdOk E b = hdOk D b := by unfold hdOk; rw [h]
theorem headOn_congr {D E : DS} (hl : E.l.length = D.l.length) (h : ∀ j, j < 2 → E.at j = D.at j) {own : Hd} {slot : Int} {l : List (List UInt8)} (H : headOn D own slot l) : headOn E own slot l := by
 unfold headOn at H ⊢
 rw [h 0 (by decide), h 1 (by decide), hdOk_half (half_eq hl), hdOk_half (half_eq hl)]
 exact H
/-- What is read of a device that has the roll's head and its records. -/
theorem openS_of {D : DS} (hok : D.ok) (h4 : 4 ≤ D.l.length) {own : Hd} {slot : Int} {l : List (List UInt8)} (H : headOn D own slot l) (hs : own.seq < 1099511627776) (ha : own.area ≤ 1) (hu : own.used ≤ D.half) (hc : own.count < 4294967296) (hm : own.used = moreL l) (h40 : ∀ b ∈ l, b.length ≤ 4000)
  (hst : recB D (2 + own.area * D.half) (moreL l) = packsL l) : openS D = ⟨D, own, slot, l, [], 0⟩ := by
 rcases H with ⟨rfl, rfl, rfl, h0, h1⟩ | ⟨rfl, h0, h1, h2, h3⟩ | ⟨rfl, h0, h1, h2, h3⟩
 ·exact openS_no h0 h1
 ·exact openS_0 (holdsF_of hok h4 h0 ⟨h1, hs⟩ ha hu hc hm h2 h40 hst) h1 h3
 ·exact openS_1 (holdsF_of hok h4 h0 ⟨h1, hs⟩ ha hu hc hm h2 h40 hst) h1 h3
theorem RS.inv.own_stands {S : RS} (h : S.inv) : recB S.D S.base (moreL S.l) = packsL S.l := by
 have hg := h.good
 have hf := hg.first
 have hu := hg.used
 have h1 := h.usedm
 have h2 := h.morem
 have ht := recB_take hg.dok (k := S.base) (i := moreL S.l) (j := moreL S.st) (by unfold RS.base; omega)
 rw [← ht, h.stands, packsL_append, List.take_append_of_le_length (by rw [packsL_length]; exact Nat.le_refl _), List.take_of_length_le (by rw [packsL_length]; exact Nat.le_refl _)]
/-- What is read of a device on which the heads and the own records stand as they stood. -/
theorem RS.inv.reopen {S : RS} (h : S.inv) {E : DS} (hok : E.ok) (hl : E.l.length = S.D.l.length) (hh : ∀ j, j < 2 → E.at j = S.D.at j) (hr : ∀ j, S.base ≤ j → j < S.base + S.own.used → E.at j = S.D.at j) : openS E = ⟨E, S.own, S.slot, S.l, [], 0⟩ := by
 have hg := h.good
 have hu := hg.used
 refine openS_of hok (by rw [hl]; exact hg.four) (headOn_congr hl hh h.head) hg.seq hg.area (by rw [half_eq hl]; omega) hg.count h.usedm hg.l4 ?_
 rw [half_eq hl]
 have := h.own_stands
 rw [← this]
 exact recB_congr _ (fun i hi => hr _ (by unfold RS.base; omega) (by unfold RS.base; have := h.usedm; omega))
theorem putAll_else : ∀ (r : List (Nat × Bk)) (l : List Bk) (j : Nat), (∀ p ∈ r, p.1 ≠ j) → (putAll l r).getD j [] = l.getD j []
 | [], l, j, _ => rfl
 | p :: r, l, j, h => by
  show (putAll (l.set p.1 p.2) r).getD j [] = _
  rw [putAll_else r _ j (fun q hq => h q (by simp [hq])), List.getD_eq_getElem?_getD, List.getD_eq_getElem?_getD, List.getElem?_set_ne (h p (by simp))]
theorem at_else {D : DS} {j : Nat} (h : ∀ p ∈ D.row, p.1 ≠ j) : D.at j = D.l.getD j [] := putAll_else _ _ _ h
theorem crash_len (D : DS) (fs : List Int) : (D.crash fs).l.length = D.l.length := crashK_length _ _ _ _
/-- Behind a crash. -/
theorem RS.inv.crash {S : RS} (h : S.inv) (fs : List Int) : openS (S.D.crash fs) = ⟨S.D.crash fs, S.own, S.slot, S.l, [], 0⟩ := by
 refine h.reopen (crash_ok h.good.dok fs) (crash_len _ _) (fun j hj => ?_) (fun j h1 h2 => ?_)
 ·have hn : ∀ p ∈ S.D.row, p.1 ≠ j := fun p hp => by have := (h.row p hp).1; omega
  rw [crash_at_else fs hn, at_else hn]
 ·have hn : ∀ p ∈ S.D.row, p.1 ≠ j := fun p hp => by have := (h.row p hp).2; omega
  rw [crash_at_else fs hn, at_else hn]
theorem RS.inv.again {S : RS} (h : S.inv) : openS S.D = ⟨S.D, S.own, S.slot, S.l, [], 0⟩ := h.reopen h.good.dok rfl (fun _ _ => rfl) (fun _ _ _ => rfl)
theorem RS.inv.opened {S : RS} (h : S.inv) : (⟨S.D, S.own, S.slot, S.l, [], 0⟩ : RS).inv := by
 have hg := h.good
 have := hg.used
 refine ⟨⟨hg.dok, hg.four, hg.area, by show S.own.used + 0 ≤ S.D.half; omega, hg.seq, hg.count, hg.slot, hg.ll, Nat.le_refl _, hg.l4, fun b hb => by cases hb⟩, h.usedm, rfl, ?_, h.row, h.head⟩
 show recB S.D S.base (moreL S.l + 0) = packsL (S.l ++ [])
 rw [List.append_nil]
 exact h.own_stands
/-- At the start: no head is whole that does not hold. -/
theorem inv_start {D : DS} (hok : D.ok) (h4 : 4 ≤ D.l.length) (hrow : D.row = []) (hnl : ∀ k, k < 2 → hdOk D (D.at k) = true → (holdsF D k).isSome = true) : (openS D).inv := by
 have hg := openS_good hok h4
 have key : ∀ (k : Nat) (h : Hd) (l : List (List UInt8)), k < 2 → holdsF D k = some (h, l) → D.at k = h.bytes ∧ 1 ≤ h.seq ∧ h.count = l.length ∧ h.used = moreL l ∧ recB D (2 + h.area * D.half) (moreL l) = packsL l ∧ h = hdOf (D.at k) := by
  intro k h l hk e
  obtain ⟨q1, q2, q3, q4, q5, q6, q7, q8⟩ := holdsF_good hok h4 hk e
  unfold holdsF at e
  split at e
  ·rename_i hd
   split at e
   ·rename_i l0 a0 hr
    split at e
    ·rename_i ha
     injection e with e
     injection e with e1 e2
     subst e2
     subst e1
     have hfit : 2 + (hdOf (D.at k)).area * D.half + (hdOf (D.at k)).used ≤ D.l.length := area_fits (by omega) q1 q2
     obtain ⟨s1, s2, s3⟩ := recsL_stands hok hfit _ _ _ hr
     refine ⟨?_, q7, q8.symm, by rw [← ha, s1], by rw [← s1]; exact s3, rfl⟩
     unfold hdOk at hd
     simp only [Bool.and_eq_true, beq_iff_eq] at hd
     exact hd.2
    ·cases e
   ·cases e
  ·cases e
 have mk : ∀ (h : Hd) (slot : Int) (l : List (List UInt8)), openS D = ⟨D, h, slot, l, [], 0⟩ → h.used = moreL l → recB D (2 + h.area * D.half) (moreL l) = packsL l → headOn D h slot l → (openS D).inv := by
  intro h slot l e hu hs hh
  rw [e] at hg ⊢
  refine ⟨hg, hu, rfl, ?_, fun p hp => ?_, hh⟩
  ·show recB D (2 + h.area * D.half) (moreL l + 0) = packsL (l ++ [])
   rw [List.append_nil]; exact hs
  ·change p ∈ D.row at hp
   rw [hrow] at hp; cases hp
 cases e0 : holdsF D 0 with
 | none =>
  have d0 : hdOk D (D.at 0) = false := by
   cases hd : hdOk D (D.at 0) with
   | false => rfl
   | true => have := hnl 0 (by decide) hd; rw [e0] at this; cases this
  cases e1 : holdsF D 1 with
  | none =>
   have d1 : hdOk D (D.at 1) = false := by
    cases hd : hdOk D (D.at 1) with
    | false => rfl
    | true => have := hnl 1 (by decide) hd; rw [e1] at this; cases this
   exact mk _ _ _ (openS_no d0 d1) rfl rfl (.inl ⟨rfl, rfl, rfl, d0, d1⟩)
  | some p =>
   obtain ⟨h, l⟩ := p
   obtain ⟨k1, k2, k3, k4, k5, k6⟩ := key 1 h l (by decide) e1
   have hno : hdOk D (D.at 0) = true → (hdOf (D.at 0)).seq < h.seq := fun e => by rw [d0] at e; cases e
   exact mk _ _ _ (openS_1 e1 k2 hno) k4 k5 (.inr (.inr ⟨rfl, k1, k2, k3, hno⟩))
 | some p0 =>
  obtain ⟨h0, l0⟩ := p0
  obtain ⟨k1, k2, k3, k4, k5, k6⟩ := key 0 h0 l0 (by decide) e0
  cases e1 : holdsF D 1 with
  | none =>
   have d1 : hdOk D (D.at 1) = false := by
    cases hd : hdOk D (D.at 1) with
    | false => rfl
    | true => have := hnl 1 (by decide) hd; rw [e1] at this; cases this
   have hno : hdOk D (D.at 1) = true → (hdOf (D.at 1)).seq ≤ h0.seq := fun e => by rw [d1] at e; cases e
   exact mk _ _ _ (openS_0 e0 k2 hno) k4 k5 (.inr (.inl ⟨rfl, k1, k2, k3, hno⟩))
  | some p =>
   obtain ⟨h, l⟩ := p
   obtain ⟨j1, j2, j3, j4, j5, j6⟩ := key 1 h l (by decide) e1
   by_cases hlt : h0.seq < h.seq
   ·have hno : hdOk D (D.at 0) = true → (hdOf (D.at 0)).seq < h.seq := fun _ => by rw [← k6]; exact hlt
    exact mk _ _ _ (openS_1 e1 j2 hno) j4 j5 (.inr (.inr ⟨rfl, j1, j2, j3, hno⟩))
   ·have hno : hdOk D (D.at 1) = true → (hdOf (D.at 1)).seq ≤ h0.seq := fun _ => by rw [← j6]; omega
    exact mk _ _ _ (openS_0 e0 k2 hno) k4 k5 (.inr (.inl ⟨rfl, k1, k2, k3, hno⟩))
theorem putAll_app (l : List Bk) (r s : List (Nat × Bk)) : putAll l (r ++ s) = putAll (putAll l r) s := by simp [putAll]
theorem at_more {D E : DS} {new : List (Nat × Bk)} (hl : E.l = D.l) (hr : E.row = D.row ++ new) {j : Nat} (h : ∀ p ∈ new, p.1 ≠ j) : E.at j = D.at j := by
 show (putAll E.l E.row).getD j [] = (putAll D.l D.row).getD j []
 rw [hl, hr, putAll_app, putAll_else _ _ _ h]
theorem zip_mem {l : List Bk} {k : Nat} {p : Nat × Bk} (h : p ∈ ((l.zipIdx k).map (fun p => (p.2, p.1)))) : k ≤ p.1 ∧ p.1 < k + l.length := by
 obtain ⟨q, hq, rfl⟩ := List.mem_map.1 h
 obtain ⟨h1, h2, -⟩ := List.mem_zipIdx hq
 exact ⟨h1, by show q.2 < _; omega⟩
/-- What writes leave as it was: flushed blocks; blocks that they do not write. -/
theorem writes_keep {l : List Bk} {D : DS} {k : Nat} (hd : D.down = false) (h64 : ∀ x ∈ l, x.length = 64) (hk : k + l.length ≤ D.l.length) :
  (D.writes (k : Int) l).1.l = D.l ∧ (∀ p ∈ (D.writes (k : Int) l).1.row, p ∈ D.row ∨ (k ≤ p.1 ∧ p.1 < k + l.length)) ∧ (∀ j, (j < k ∨ k + l.length ≤ j) → (D.writes (k : Int) l).1.at j = D.at j) ∧ ((D.writes (k : Int) l).2 ≠ 0 → (D.writes (k : Int) l).1.down = true) ∧ ((D.writes (k : Int) l).2 = 0 → (D.writes (k : Int) l).1.down = false) := by
 obtain ⟨m, hm, h1, h2, h3⟩ := writes_in l D k hd h64 hk
 have hml : (l.take m).length = m := by rw [List.length_take]; omega
 refine ⟨h1, fun p hp => ?_, fun j hj => ?_, fun he => ?_, fun he => ?_⟩
 ·rw [h2] at hp
  rcases List.mem_append.1 hp with hp | hp
  ·exact .inl hp
  ·have := zip_mem hp
   rw [hml] at this
   exact .inr ⟨this.1, by omega⟩
 ·refine at_more h1 h2 (fun p hp => ?_)
  have := zip_mem hp
  rw [hml] at this
  omega
 ·rcases h3 with ⟨a, -, -⟩ | ⟨-, b⟩
  ·exact absurd a he
  ·exact b
 ·rcases h3 with ⟨-, -, c⟩ | ⟨a, -⟩
  ·exact c
  ·rw [a] at he; exact absurd he (by decide)
theorem flatten_getD : ∀ (l : List Bk) (k : Nat), l.flatten = ((List.range l.length).map fun i => l.getD i []).flatten := by
 intro l k
 congr 1
 apply List.ext_getElem?
 intro i
 rw [List.getElem?_map]
 rcases Nat.lt_or_ge i l.length with h | h
 ·rw [List.getElem?_range h, List.getElem?_eq_getElem h]
  simp [List.getD_eq_getElem?_getD, h]
 ·have e1 : (List.range l.length)[i]? = none := List.getElem?_eq_none (by rw [List.length_range]; exact h)
  rw [e1, List.getElem?_eq_none h]; rfl
theorem packs_flatten (b : List UInt8) : (packs b).flatten = packB b := by
 have hl := packB_length b
 unfold packs
 have : ∀ n, n ≤ blocksN b → ((List.range n).map fun j => ((packB b).drop (64 * j)).take 64).flatten = (packB b).take (64 * n) := by
  intro n
  induction n with
  | zero => intro _; simp
  | succ n ih =>
   intro h
   rw [List.range_succ, List.map_append, List.flatten_append, ih (by omega)]
   simp only [List.map_cons, List.map_nil, List.flatten_cons, List.flatten_nil, List.append_nil]
   rw [show 64 * (n + 1) = 64 * n + 64 by omega, List.take_add]
 rw [this _ (Nat.le_refl _), ← hl, List.take_length]
theorem writes_stand {b : List UInt8} {D : DS} {k : Nat} (hd : D.down = false) (hk : k + blocksN b ≤ D.l.length) (he : (D.writes (k : Int) (packs b)).2 = 0) : recB (D.writes (k : Int) (packs b)).1 k (blocksN b) = packB b := by
 have hpl := packs_length b
 rw [← packs_flatten, flatten_getD (packs b) 0, hpl]
 unfold recB
 congr 1
 apply List.map_congr_left
 intro i hi
 have hi : i < blocksN b := List.mem_range.1 hi
 rw [writes_at (packs b) D k hd (packs_64 b) (by rw [hpl]; exact hk) he (k + i) (by omega), hpl, if_pos ⟨by omega, by omega⟩, Nat.add_sub_cancel_left]
/-- The device is turned for another one that has the heads and the own records. -/
theorem RS.inv.withD {S : RS} (h : S.inv) {D' : DS} (hok : D'.ok) (hl : D'.l.length = S.D.l.length) (hh : ∀ j, j < 2 → D'.at j = S.D.at j) (hs : ∀ j, S.base ≤ j → j < S.base + (moreL S.l + moreL S.st) → D'.at j = S.D.at j) (hr : ∀ p ∈ D'.row, 2 ≤ p.1 ∧ (p.1 < S.base ∨ S.base + S.own.used ≤ p.1)) : ({ S with D := D' } : RS).inv := by
 have hb : ({ S with D := D' } : RS).base = S.base := by unfold RS.base; rw [show ({ S with D := D' } : RS).D = D' from rfl, half_eq hl]
 refine ⟨h.good.withD hok hl, h.usedm, h.morem, ?_, fun p hp => ?_, headOn_congr hl hh h.head⟩
 ·rw [hb, ← show recB S.D S.base (moreL S.l + moreL S.st) = packsL (S.l ++ S.st) from h.stands]
  exact recB_congr _ (fun i hi => hs _ (by omega) (by have hi : i < moreL S.l + moreL S.st := hi; omega))
 ·rw [hb]; exact hr p hp
theorem RS.inv.fits {S : RS} (h : S.inv) : S.base + S.D.half ≤ S.D.l.length := h.good.first
/-- Stage. -/
theorem stage_inv {S : RS} (h : S.inv) (hd : S.D.down = false) (b : List UInt8) : (S.stage b).1.inv ∧ (S.stage b).1.l = S.l := by
 have hg := h.good
 have hf := h.fits
 have hu := hg.used
 have hum := h.usedm
 have hmm := h.morem
 have hgs := stage_good hg b
 unfold RS.stage at hgs ⊢
 split
 ·exact ⟨h, rfl⟩
 ·rename_i h40
  split
  ·exact ⟨h, rfl⟩
  ·rename_i hroom
   rw [if_neg h40, if_neg hroom] at hgs
   have hro : S.own.used + S.more + blocksN b ≤ S.D.half := by unfold RS.room at hroom; omega
   have hb2 : 2 ≤ S.base := by unfold RS.base; omega
   obtain ⟨k, hk⟩ : ∃ k, k = 2 + S.own.area * S.D.half + S.own.used + S.more := ⟨_, rfl⟩
   have hkb : k = S.base + (moreL S.l + moreL S.st) := by rw [hk]; unfold RS.base; omega
   rw [← hk] at hgs ⊢
   have hpl := packs_length b
   have hfit : k + (packs b).length ≤ S.D.l.length := by rw [hpl]; omega
   obtain ⟨w1, w2, w3, w4, w5⟩ := writes_keep (l := packs b) (k := k) hd (packs_64 b) hfit
   have hgr := writes_grow (packs b) S.D (k : Int)
   have hko := writes_ok' (packs b) hg.dok (k : Int)
   have hw := h.withD hko hgr.2.2 (fun j hj => w3 j (.inl (by omega))) (fun j h1 h2 => w3 j (.inl (by omega))) (fun p hp => by
    rcases w2 p hp with hp | hp
    ·exact h.row p hp
    ·exact ⟨by omega, .inr (by omega)⟩)
   simp only [] at hgs ⊢
   split
   ·rename_i he
    rw [if_pos he] at hgs
    refine ⟨⟨hgs, h.usedm, ?_, ?_, hw.row, hw.head⟩, rfl⟩
    ·show S.more + blocksN b = moreL (S.st ++ [b])
     rw [moreL_append, ← hmm]; simp [moreL]
    ·have hbs : ({ S with D := (S.D.writes (k : Int) (packs b)).1, st := S.st ++ [b], more := S.more + blocksN b } : RS).base = S.base := by
      show 2 + S.own.area * (S.D.writes (k : Int) (packs b)).1.half = _
      rw [half_eq hgr.2.2]; rfl
     rw [hbs]
     show recB (S.D.writes (k : Int) (packs b)).1 S.base (moreL S.l + moreL (S.st ++ [b])) = packsL (S.l ++ (S.st ++ [b]))
     have hs1 := hw.stands
     rw [show ({ S with D := (S.D.writes (k : Int) (packs b)).1 } : RS).base = S.base by show 2 + S.own.area * (S.D.writes (k : Int) (packs b)).1.half = _; rw [half_eq hgr.2.2]; rfl] at hs1
     rw [moreL_append, show moreL [b] = blocksN b by simp [moreL], ← Nat.add_assoc, recB_add, hs1, ← hkb, writes_stand hd (by rw [hpl] at hfit; exact hfit) he, ← List.append_assoc, packsL_append (S.l ++ S.st) [b], packsL_one]
   ·exact ⟨hw, rfl⟩
/-- What a turn makes of a device. -/
theorem turn_cases {D : DS} (hd : D.down = false) {s : Nat} (hs : s < D.l.length) {b : List UInt8} (hb : b.length = 64) :
  ((D.turn (s : Int) b).2 = 100 ∧ (D.turn (s : Int) b).1.down = true ∧ (D.turn (s : Int) b).1.l = D.l ∧ (D.turn (s : Int) b).1.row = D.row) ∨
  ((D.turn (s : Int) b).2 = 100 ∧ (D.turn (s : Int) b).1.down = true ∧ (D.turn (s : Int) b).1.l = D.all ∧ (D.turn (s : Int) b).1.row = [(s, b)]) ∨
  ((D.turn (s : Int) b).2 = 0 ∧ (D.turn (s : Int) b).1.down = false ∧ (D.turn (s : Int) b).1.row = [] ∧ ∀ j, j < D.l.length → (D.turn (s : Int) b).1.at j = if s = j then b else D.at j) := by
 have hfb := fillz_full b hb
 unfold DS.turn
 by_cases h1 : D.fuse = 0
 ·have e1 : D.flush = (D.tick, 100) := by unfold DS.flush; rw [if_neg (by rw [hd]; decide), if_pos h1]
  rw [e1]
  rw [if_neg (show ¬ ((100 : Int) = 0) by decide)]
  exact .inl ⟨rfl, by show (D.fuse == 0) = true; rw [h1]; rfl, rfl, rfl⟩
 ·have e1 : D.flush = (D.flushed, 0) := by unfold DS.flush; rw [if_neg (by rw [hd]; decide), if_neg h1]
  have hfd : D.flushed.down = false := by show (D.fuse == 0) = false; simpa using h1
  have hlen : D.flushed.l.length = D.l.length := all_length D
  have e2 := write_in hfd (k := s) (b := b) (by rw [hlen]; exact hs) (by omega)
  rw [e1]
  simp only [if_true]
  rw [e2]
  by_cases h2 : D.flushed.fuse = 0
  ·rw [h2]
   rw [if_neg (show ¬ ((if ((0 : Int) == 0) = true then (100 : Int) else 0) = 0) by decide)]
   refine .inr (.inl ⟨rfl, by show (D.flushed.fuse == 0) = true; rw [h2]; rfl, rfl, ?_⟩)
   show D.flushed.row ++ [(s, fillz b)] = _
   rw [hfb]; rfl
  ·have h2' : (D.flushed.fuse == 0) = false := by simpa using h2
   rw [h2']
   simp only [if_true, Bool.false_eq_true, if_false]
   have hwd : (D.flushed.put s b).tick.down = false := h2'
   by_cases h3 : (D.flushed.put s b).tick.fuse = 0
   ·have e3 : (D.flushed.put s b).tick.flush = ((D.flushed.put s b).tick.tick, 100) := by unfold DS.flush; rw [if_neg (by rw [hwd]; decide), if_pos h3]
    rw [e3]
    refine .inr (.inl ⟨rfl, by show ((D.flushed.put s b).tick.fuse == 0) = true; rw [h3]; rfl, rfl, ?_⟩)
    show D.flushed.row ++ [(s, fillz b)] = _
    rw [hfb]; rfl
   ·have e3 : (D.flushed.put s b).tick.flush = ((D.flushed.put s b).tick.flushed, 0) := by unfold DS.flush; rw [if_neg (by rw [hwd]; decide), if_neg h3]
    rw [e3]
    refine .inr (.inr ⟨rfl, by show ((D.flushed.put s b).tick.fuse == 0) = false; simpa using h3, rfl, fun j hj => ?_⟩)
    show ((D.flushed.put s b).tick.flushed).at j = _
    rw [at_flushed, at_tick, at_put s b j (by rw [hlen]; exact hj), at_flushed, hfb]
/-- Behind a call: it goes on; or what is read behind a crash is one of two. -/
def RS.after (S : RS) (was next : List (List UInt8)) : Prop :=
 (S.D.down = false → S.inv) ∧ (S.D.down = true → ∀ fs, (openS (S.D.crash fs)).l = was ∨ (openS (S.D.crash fs)).l = next)
theorem hdOk_seq {D : DS} {x : Bk} (h : hdOk D x = true) : (hdOf x).seq < 1099511627776 ∧ x = (hdOf x).bytes := by
 unfold hdOk at h
 simp only [Bool.and_eq_true, decide_eq_true_eq, beq_iff_eq] at h
 exact ⟨h.1.2.1, h.2⟩
theorem getN_put8 {n : Nat} (h : n < 1099511627776) : getN (putB 8 n) = n := by rw [getN_putB]; exact Nat.mod_eq_of_lt (by omega)
theorem hdOk_twice {D : DS} {x : Bk} (h : hdOk D x = true) : getN (x.take 8) < 1099511627776 ∧ getN ((x.drop 32).take 8) = getN (x.take 8) := by
 obtain ⟨h1, h2⟩ := hdOk_seq h
 have h3 : (hdOf x).seq = getN (x.take 8) := rfl
 refine ⟨by rw [← h3]; exact h1, ?_⟩
 have h4 : (x.drop 32).take 8 = putB 8 (hdOf x).seq := by
  conv => lhs; rw [h2]
  exact headB_d32 _ _ _ _
 rw [h4, getN_put8 h1, h3]
/-- A torn head is not whole. -/
theorem torn_no {D E : DS} {s : Nat} (hs : s < 2) (hok : D.ok) (h4 : 4 ≤ D.l.length) {a u c f : Nat} (hn : nextF D < 1099511627776) (hf : f = 2 ∨ f = 3) : hdOk E (mix f (D.at s) (headB (nextF D) a u c)) = false := by
 have h64 := at_64 hok s (by omega)
 have hl := headB_length (nextF D) a u c
 have hm := seqs_mem D hs
 have h8 : (headB (nextF D) a u c).take 8 = putB 8 (nextF D) := headB_t8 _ _ _ _
 have h32 : ((headB (nextF D) a u c).drop 32).take 8 = putB 8 (nextF D) := headB_d32 _ _ _ _
 generalize headB (nextF D) a u c = hb at hl h8 h32 ⊢
 cases hx : hdOk E (mix f (D.at s) hb) with
 | false => rfl
 | true =>
  exfalso
  obtain ⟨t1, t2⟩ := hdOk_twice hx
  rcases hf with rfl | rfl
  ·have e : mix 2 (D.at s) hb = hb.take 32 ++ (D.at s).drop 32 := by unfold mix; rw [if_pos (.inr rfl), if_neg (by decide)]
   rw [e] at t1 t2
   have e1 : (hb.take 32 ++ (D.at s).drop 32).take 8 = putB 8 (nextF D) := by
    rw [List.take_append_of_le_length (by rw [List.length_take]; omega), List.take_take, ← h8]; rfl
   have e2 : ((hb.take 32 ++ (D.at s).drop 32).drop 32).take 8 = ((D.at s).drop 32).take 8 := by
    rw [List.drop_append_of_le_length (by rw [List.length_take]; omega), List.drop_of_length_le (by rw [List.length_take]; omega), List.nil_append]
   rw [e1, e2, getN_put8 hn] at t2
   have := nextF_gt hm.2 (by rw [t2]; exact hn)
   omega
  ·have e : mix 3 (D.at s) hb = (D.at s).take 32 ++ hb.drop 32 := by unfold mix; rw [if_neg (by decide), if_pos (.inr rfl)]
   rw [e] at t1 t2
   have e1 : ((D.at s).take 32 ++ hb.drop 32).take 8 = (D.at s).take 8 := by
    rw [List.take_append_of_le_length (by rw [List.length_take]; omega), List.take_take]; rfl
   have e2 : (((D.at s).take 32 ++ hb.drop 32).drop 32).take 8 = putB 8 (nextF D) := by
    rw [List.drop_append_of_le_length (by rw [List.length_take]; omega), List.drop_of_length_le (by rw [List.length_take]; omega), List.nil_append, h32]
   rw [e1] at t1
   rw [e1, e2, getN_put8 hn] at t2
   have := nextF_gt hm.1 t1
   omega
theorem crash_one {D : DS} {s : Nat} {b : Bk} (h : D.row = [(s, b)]) (hs : s < D.l.length) (fs : List Int) : (D.crash fs).at s = mix (formOf fs 0) (D.l.getD s []) b := by
 show (crashK fs D.l D.row D.row.length).getD s [] = _
 rw [h]
 show (D.l.set s (mix (formOf fs 0) (D.l.getD s []) b)).getD s [] = _
 rw [List.getD_eq_getElem?_getD, List.getElem?_set_self hs]; rfl
theorem mix_0 {a b : Bk} (h : a.length = 64) : mix 0 a b = a := by unfold mix; rw [if_neg (by decide), if_neg (by decide), List.take_append_drop]
theorem mix_1 {a b : Bk} : mix 1 a b = b := by unfold mix; rw [if_pos (.inl rfl), if_pos (.inl rfl), List.take_append_drop]
/-- A turn. -/
theorem turned {S : RS} (h : S.inv) (hd : S.D.down = false) {hd' : Hd} {l : List (List UInt8)} (hsq : hd'.seq = nextF S.D) (hn : nextF S.D < 1099511627776) (ha : hd'.area ≤ 1) (hu : hd'.used = moreL l) (hu2 : moreL l ≤ S.D.half) (hc : hd'.count = l.length) (h40 : ∀ b ∈ l, b.length ≤ 4000)
  (hst : recB S.D (2 + hd'.area * S.D.half) (moreL l) = packsL l) : (S.turns hd' l).1.after S.l l := by
 have hg := h.good
 have h4 := hg.four
 have hhl := half_le hg.dok
 have hml := moreL_length l
 have hnx : 1 ≤ nextF S.D := by rw [nextF_maxF]; omega
 have hgt := turns_good hg ha (by rw [hu]; exact hu2) (by rw [hsq]; exact hn) (by rw [hc]; omega) (by rw [hu]; exact hml) h40
 obtain ⟨s, hs2, hse⟩ := nslot_nat S
 have hbl := hd_bytes_length hd'
 have hbe : hd'.bytes = headB (nextF S.D) hd'.area hd'.used hd'.count := by rw [← hsq]; rfl
 have hcs := turn_cases hd (s := s) (by omega) hbl
 have hko := turn_ok hg.dok (s : Int) hd'.bytes
 have hgr := turn_grow S.D (s : Int) hd'.bytes
 have hoff : S.slot ≠ (s : Int) := by
  unfold RS.nslot at hse
  split at hse
  ·rename_i e; omega
  ·rename_i e; omega
 have hs0 : S.slot = -1 → s = 0 := by
  intro e; unfold RS.nslot at hse; rw [e] at hse; have : (0 : Int) = s := hse; omega
 -- the new head, on a device that has it
 have newOn : ∀ E : DS, E.l.length = S.D.l.length → E.at s = hd'.bytes → (∀ j, j < 2 → j ≠ s → E.at j = S.D.at j) → headOn E hd' (s : Int) l := by
  intro E hE e1 e2
  have seqlt : ∀ j, j < 2 → j ≠ s → hdOk E (E.at j) = true → (hdOf (E.at j)).seq < hd'.seq := by
   intro j hj hne hx
   rw [e2 j hj hne] at hx ⊢
   rw [hsq]
   exact nextF_gt (seqs_mem S.D hj).1 (hdOk_seq hx).1
  rcases (show s = 0 ∨ s = 1 by omega) with rfl | rfl
  ·exact .inr (.inl ⟨rfl, e1, by omega, hc, fun hx => Nat.le_of_lt (seqlt 1 (by decide) (by decide) hx)⟩)
  ·exact .inr (.inr ⟨rfl, e1, by omega, hc, fun hx => seqlt 0 (by decide) (by decide) hx⟩)
 unfold RS.turns at hgt ⊢
 rw [hse] at hgt ⊢
 simp only [] at hgt ⊢
 rcases hcs with ⟨c1, c2, c3, c4⟩ | ⟨c1, c2, c3, c4⟩ | ⟨c1, c2, c3, c4⟩
 ·rw [if_neg (by rw [c1]; decide)]
  have hat : ∀ j, (S.D.turn (s : Int) hd'.bytes).1.at j = S.D.at j := fun j => by
   show (putAll (S.D.turn (s : Int) hd'.bytes).1.l (S.D.turn (s : Int) hd'.bytes).1.row).getD j [] = _
   rw [c3, c4]; rfl
  have hw := h.withD hko hgr.2.2 (fun j _ => hat j) (fun j _ _ => hat j) (fun p hp => h.row p (by rw [c4] at hp; exact hp))
  exact ⟨fun _ => hw, fun _ fs => .inl (by rw [show ({ S with D := (S.D.turn (s : Int) hd'.bytes).1 } : RS).D.crash fs = ({ S with D := (S.D.turn (s : Int) hd'.bytes).1 } : RS).D.crash fs from rfl, hw.crash fs])⟩
 ·rw [if_neg (by rw [c1]; decide)]
  refine ⟨fun e => ?_, fun _ fs => ?_⟩
  ·have e : (S.D.turn (s : Int) hd'.bytes).1.down = false := e
   rw [c2] at e; cases e
  ·show (openS ((S.D.turn (s : Int) hd'.bytes).1.crash fs)).l = S.l ∨ (openS ((S.D.turn (s : Int) hd'.bytes).1.crash fs)).l = l
   obtain ⟨T, hT⟩ : ∃ T, T = (S.D.turn (s : Int) hd'.bytes).1 := ⟨_, rfl⟩
   rw [← hT] at c3 c4 hko hgr ⊢
   have hEok := crash_ok hko fs
   have hEl : (T.crash fs).l.length = S.D.l.length := by rw [crash_len, hgr.2.2]
   have hEj : ∀ j, j ≠ s → (T.crash fs).at j = S.D.at j := fun j hne => by
    rw [crash_at_else fs (fun p hp => by rw [c4] at hp; rw [List.mem_singleton.1 hp]; exact fun e => hne e.symm), c3]; rfl
   have hEs : (T.crash fs).at s = mix (formOf fs 0) (S.D.at s) hd'.bytes := by
    rw [crash_one c4 (by rw [hgr.2.2]; omega) fs, c3]; rfl
   obtain ⟨f, hf⟩ : ∃ f, f = formOf fs 0 := ⟨_, rfl⟩
   have hf4 : f < 4 := by rw [hf]; exact formOf_lt _ _
   rw [← hf] at hEs
   obtain ⟨E, hE⟩ : ∃ E, E = T.crash fs := ⟨_, rfl⟩
   rw [← hE] at hEok hEl hEj hEs ⊢
   have hb2 : 2 ≤ S.base := by unfold RS.base; omega
   by_cases f0 : f = 0
   ·subst f0
    rw [mix_0 (at_64 hg.dok s (by omega))] at hEs
    have hall : ∀ j, E.at j = S.D.at j := fun j => by
     by_cases e : j = s
     ·rw [e, hEs]
     ·exact hEj j e
    exact .inl (by rw [h.reopen hEok hEl (fun j _ => hall j) (fun j _ _ => hall j)])
   by_cases f1 : f = 1
   ·subst f1
    rw [mix_1] at hEs
    refine .inr ?_
    rw [openS_of hEok (by rw [hEl]; exact h4) (newOn E hEl hEs (fun j _ hne => hEj j hne)) (by rw [hsq]; exact hn) ha (by rw [hu, half_eq hEl]; exact hu2) (by rw [hc]; omega) hu h40 ?_]
    rw [half_eq hEl, ← hst]
    exact recB_congr _ (fun i hi => hEj _ (by omega))
   ·have hno : hdOk E (E.at s) = false := by
     rw [hEs, hbe]
     exact torn_no hs2 hg.dok h4 hn (by omega)
    refine .inl ?_
    have hon : headOn E S.own S.slot S.l := by
     rcases h.head with ⟨q1, q2, q3, q4, q5⟩ | ⟨q1, q2, q3, q4, q5⟩ | ⟨q1, q2, q3, q4, q5⟩
     ·obtain rfl := hs0 q1
      refine .inl ⟨q1, q2, q3, hno, ?_⟩
      rw [hEj 1 (by decide), hdOk_half (half_eq hEl)]; exact q5
     ·have hs1 : s = 1 := by omega
      subst hs1
      exact .inr (.inl ⟨q1, by rw [hEj 0 (by decide)]; exact q2, q3, q4, fun e => by rw [hno] at e; cases e⟩)
     ·have hs1 : s = 0 := by omega
      subst hs1
      exact .inr (.inr ⟨q1, by rw [hEj 1 (by decide)]; exact q2, q3, q4, fun e => by rw [hno] at e; cases e⟩)
    have hus := hg.used
    rw [openS_of hEok (by rw [hEl]; exact h4) hon hg.seq hg.area (by rw [half_eq hEl]; omega) hg.count h.usedm hg.l4 ?_]
    have ho := h.own_stands
    unfold RS.base at ho hb2
    rw [half_eq hEl, ← ho]
    exact recB_congr _ (fun i hi => hEj _ (by omega))
 ·rw [if_pos c1] at hgt ⊢
  refine ⟨fun _ => ⟨hgt, hu, rfl, ?_, fun p hp => ?_, ?_⟩, fun e => ?_⟩
  ·show recB (S.D.turn (s : Int) hd'.bytes).1 (2 + hd'.area * (S.D.turn (s : Int) hd'.bytes).1.half) (moreL l + 0) = packsL (l ++ [])
   have hfit : 2 + hd'.area * S.D.half + moreL l ≤ S.D.l.length := area_fits (by omega) ha hu2
   rw [List.append_nil, Nat.add_zero, half_eq hgr.2.2, ← hst]
   exact recB_congr _ (fun i hi => by rw [c4 _ (by omega), if_neg (by omega)])
  ·change p ∈ (S.D.turn (s : Int) hd'.bytes).1.row at hp
   rw [c3] at hp; cases hp
  ·exact newOn _ hgr.2.2 (by rw [c4 _ (by omega), if_pos rfl]) (fun j hj hne => by rw [c4 _ (by omega), if_neg (fun e => hne e.symm)])
  ·have e : (S.D.turn (s : Int) hd'.bytes).1.down = true := e
   rw [c2] at e; cases e
/-- Seal. -/
theorem seal_after {S : RS} (h : S.inv) (hd : S.D.down = false) : S.sealz.1.after S.l (S.l ++ S.st) := by
 have hg := h.good
 have same : S.after S.l (S.l ++ S.st) := ⟨fun _ => h, fun e => by rw [hd] at e; cases e⟩
 unfold RS.sealz
 split
 ·exact same
 ·split
  ·exact same
  ·split
   ·exact same
   ·rename_i hf
    refine turned h hd (hd' := S.sealHd) rfl (by omega) hg.area ?_ ?_ (by show S.l.length + S.st.length = _; rw [List.length_append]) (fun b hb => (List.mem_append.1 hb).elim (hg.l4 b) (hg.st4 b)) ?_
    ·show S.own.used + S.more = _
     rw [moreL_append, h.usedm, h.morem]
    ·have := hg.used; rw [moreL_append, ← h.usedm, ← h.morem]; exact this
    ·rw [moreL_append]; exact h.stands
theorem stage_down {S : RS} (h : S.inv) (hd : S.D.down = false) (b : List UInt8) (he : (S.stage b).2 = 0) : (S.stage b).1.D.down = false ∧ (S.stage b).1.st = S.st ++ [b] := by
 have hf := h.fits
 unfold RS.stage at he ⊢
 split
 ·rename_i e; rw [if_pos e] at he; exact absurd he (by show ¬ ((110 : Int) = 0); decide)
 ·rename_i e1
  rw [if_neg e1] at he
  split
  ·rename_i e; rw [if_pos e] at he; exact absurd he (by show ¬ ((111 : Int) = 0); decide)
  ·rename_i e2
   rw [if_neg e2] at he
   have hro : S.own.used + S.more + blocksN b ≤ S.D.half := by unfold RS.room at e2; omega
   obtain ⟨-, -, -, -, w5⟩ := writes_keep (l := packs b) (k := 2 + S.own.area * S.D.half + S.own.used + S.more) hd (packs_64 b) (by rw [packs_length]; unfold RS.base at hf; omega)
   simp only [] at he ⊢
   split
   ·rename_i e3; exact ⟨w5 e3, rfl⟩
   ·rename_i e3; rw [if_neg e3] at he; exact absurd he e3
/-- Append. -/
theorem append_after {S : RS} (h : S.inv) (hd : S.D.down = false) (b : List UInt8) : (S.append b).1.after S.l (S.l ++ S.st ++ [b]) := by
 obtain ⟨h1, h2⟩ := stage_inv h hd b
 unfold RS.append
 split
 ·rename_i he
  obtain ⟨d1, d2⟩ := stage_down h hd b he
  have := seal_after h1 d1
  rw [h2, d2, ← List.append_assoc] at this
  exact this
 ·exact ⟨fun _ => h1, fun _ fs => .inl (by rw [h1.crash fs]; exact h2)⟩
theorem stage_after {S : RS} (h : S.inv) (hd : S.D.down = false) (b : List UInt8) (next : List (List UInt8)) : (S.stage b).1.after S.l next := by
 obtain ⟨h1, h2⟩ := stage_inv h hd b
 exact ⟨fun _ => h1, fun _ fs => .inl (by rw [h1.crash fs]; exact h2)⟩
theorem writesL_keep : ∀ (l : List (List UInt8)) (D : DS) (k : Nat), D.down = false → k + moreL l ≤ D.l.length →
  (∀ p ∈ (D.writesL (k : Int) l).1.row, p ∈ D.row ∨ (k ≤ p.1 ∧ p.1 < k + moreL l)) ∧ (∀ j, (j < k ∨ k + moreL l ≤ j) → (D.writesL (k : Int) l).1.at j = D.at j) ∧ ((D.writesL (k : Int) l).2 = 0 → (D.writesL (k : Int) l).1.down = false ∧ recB (D.writesL (k : Int) l).1 k (moreL l) = packsL l)
 | [], D, k, hd, _ => ⟨fun p hp => .inl hp, fun _ _ => rfl, fun _ => ⟨hd, rfl⟩⟩
 | b :: l, D, k, hd, hk => by
  have hm : moreL (b :: l) = blocksN b + moreL l := by simp [moreL]
  have hpl := packs_length b
  obtain ⟨w1, w2, w3, w4, w5⟩ := writes_keep (l := packs b) (k := k) hd (packs_64 b) (by rw [hpl]; omega)
  rw [hpl] at w2 w3
  have hgr := writes_grow (packs b) D (k : Int)
  by_cases he : (D.writes (k : Int) (packs b)).2 = 0
  ·have e : D.writesL (k : Int) (b :: l) = (D.writes (k : Int) (packs b)).1.writesL ((k + blocksN b : Nat) : Int) l := by
    simp only [DS.writesL]
    rw [if_pos he, Int.natCast_add]
   rw [e]
   obtain ⟨i1, i2, i3⟩ := writesL_keep l (D.writes (k : Int) (packs b)).1 (k + blocksN b) (w5 he) (by rw [hgr.2.2]; omega)
   refine ⟨fun p hp => ?_, fun j hj => ?_, fun h0 => ?_⟩
   ·rcases i1 p hp with hp | hp
    ·rcases w2 p hp with hp | hp
     ·exact .inl hp
     ·exact .inr ⟨by omega, by omega⟩
    ·exact .inr ⟨by omega, by omega⟩
   ·rw [i2 j (by omega), w3 j (by omega)]
   ·obtain ⟨j1, j2⟩ := i3 h0
    refine ⟨j1, ?_⟩
    rw [hm, recB_add, j2, recB_congr (D := (D.writes (k : Int) (packs b)).1) (blocksN b) (fun i hi => i2 _ (.inl (by omega))), writes_stand hd (by omega) he]
    rfl
  ·have e : D.writesL (k : Int) (b :: l) = D.writes (k : Int) (packs b) := by
    simp only [DS.writesL]
    rw [if_neg he]
   rw [e]
   exact ⟨fun p hp => (w2 p hp).imp id (fun h => ⟨by omega, by omega⟩), fun j hj => w3 j (by omega), fun h0 => absurd h0 he⟩
/-- Reset. -/
theorem reset_after {S : RS} (h : S.inv) (hd : S.D.down = false) (l : List (List UInt8)) : (S.reset l).1.after S.l l := by
 have hg := h.good
 have hoth := hg.other
 have hus := hg.used
 have same : S.after S.l l := ⟨fun _ => h, fun e => by rw [hd] at e; cases e⟩
 unfold RS.reset
 split
 ·exact same
 ·rename_i hlong
  split
  ·exact same
  ·split
   ·exact same
   ·rename_i hf
    have hml : moreL l ≤ S.D.half := by omega
    obtain ⟨k, hk⟩ : ∃ k, k = 2 + (1 - S.own.area) * S.D.half := ⟨_, rfl⟩
    rw [← hk] at hoth ⊢
    obtain ⟨w1, w2, w3⟩ := writesL_keep l S.D k hd (by omega)
    have hgr := writesL_grow l S.D (k : Int)
    have hko := writesL_ok l hg.dok (k : Int)
    have hapart : k + S.D.half ≤ S.base ∨ S.base + S.D.half ≤ k := by
     unfold RS.base
     have := hg.area
     rcases (show S.own.area = 0 ∨ S.own.area = 1 by omega) with e | e <;> rw [e] at hk ⊢ <;> omega
    have hw : ({ S with D := (S.D.writesL (k : Int) l).1 } : RS).inv := h.withD hko hgr.2.2 (fun j hj => w2 j (.inl (by omega))) (fun j h1 h2 => w2 j (by have := h.usedm; have := h.morem; omega)) (fun p hp => by
     rcases w1 p hp with hp | hp
     ·exact h.row p hp
     ·exact ⟨by omega, by omega⟩)
    split
    ·rename_i he
     obtain ⟨d1, d2⟩ := w3 he
     have hnx : nextF (S.D.writesL (k : Int) l).1 = nextF S.D := nextF_congr (fun j hj => w2 j (.inl (by omega)))
     have hhf : (S.D.writesL (k : Int) l).1.half = S.D.half := half_eq hgr.2.2
     refine turned hw d1 (hd' := S.resetHd l) hnx.symm (by show nextF (S.D.writesL (k : Int) l).1 < _; rw [hnx]; omega) (by show 1 - S.own.area ≤ 1; omega) rfl (by show moreL l ≤ (S.D.writesL (k : Int) l).1.half; rw [hhf]; exact hml) rfl (long_4000 (by simpa using hlong)) ?_
     show recB (S.D.writesL (k : Int) l).1 (2 + (1 - S.own.area) * (S.D.writesL (k : Int) l).1.half) (moreL l) = packsL l
     rw [hhf, ← hk]; exact d2
    ·exact ⟨fun _ => hw, fun _ fs => .inl (by rw [show ({ S with D := (S.D.writesL (k : Int) l).1 } : RS).D.crash fs = ({ S with D := (S.D.writesL (k : Int) l).1 } : RS).D.crash fs from rfl, hw.crash fs])⟩
theorem write_calm {D : DS} (h : Calm D) (k : Int) (b : List UInt8) : Calm (D.write k b).1 := by
 unfold DS.write
 split
 ·exact h
 ·split
  ·exact h
  ·exact calm_tick (calm_put h _ b)
theorem flush_calm {D : DS} (h : Calm D) : Calm D.flush.1 := by
 obtain ⟨e, c⟩ := calm_flush h
 rw [e]; exact c
theorem writes_calm : ∀ (l : List Bk) {D : DS} (h : Calm D) (k : Int), Calm (D.writes k l).1
 | [], D, h, k => h
 | x :: l, D, h, k => by
  simp only [DS.writes]
  split
  ·exact writes_calm l (write_calm h k x) _
  ·exact write_calm h k x
theorem writesL_calm : ∀ (l : List (List UInt8)) {D : DS} (h : Calm D) (k : Int), Calm (D.writesL k l).1
 | [], D, h, k => h
 | x :: l, D, h, k => by
  simp only [DS.writesL]
  split
  ·exact writesL_calm l (writes_calm _ h k) _
  ·exact writes_calm _ h k
theorem turn_calm {D : DS} (h : Calm D) (k : Int) (b : List UInt8) : Calm (D.turn k b).1 := by
 unfold DS.turn
 split
 ·split
  ·exact flush_calm (write_calm (flush_calm h) k b)
  ·exact write_calm (flush_calm h) k b
 ·exact flush_calm h
theorem stage_calm {S : RS} (h : Calm S.D) (b : List UInt8) : Calm (S.stage b).1.D := by
 unfold RS.stage
 split
 ·exact h
 ·split
  ·exact h
  ·simp only []
   split <;> exact writes_calm _ h _
theorem turns_calm {S : RS} (h : Calm S.D) (hd : Hd) (l : List (List UInt8)) : Calm (S.turns hd l).1.D := by
 rw [turns_D]; exact turn_calm h _ _
theorem seal_calm {S : RS} (h : Calm S.D) : Calm S.sealz.1.D := by
 unfold RS.sealz
 split
 ·exact h
 ·split
  ·exact h
  ·split
   ·exact h
   ·exact turns_calm h _ _
theorem append_calm {S : RS} (h : Calm S.D) (b : List UInt8) : Calm (S.append b).1.D := by
 unfold RS.append
 split
 ·exact seal_calm (stage_calm h b)
 ·exact stage_calm h b
theorem reset_calm {S : RS} (h : Calm S.D) (l : List (List UInt8)) : Calm (S.reset l).1.D := by
 unfold RS.reset
 split
 ·exact h
 ·split
  ·exact h
  ·split
   ·exact h
   ·split
    ·exact turns_calm (S := { S with D := (S.D.writesL ((2 + (1 - S.own.area) * S.D.half : Nat) : Int) l).1 }) (writesL_calm l h _) _ _
    ·exact writesL_calm l h _
def DS.un (D : DS) : DS := { D with fuse := -1 }
def RS.un (S : RS) : RS := { S with D := S.D.un }
theorem tick_un {D : DS} (h : D.tick.down = false) : D.un.tick = D.tick.un := by
 have h : (D.fuse == 0) = false := h
 unfold DS.un DS.tick
 simp only [h]
 rfl
theorem write_un {D : DS} {k : Int} {b : List UInt8} (h : (D.write k b).1.down = false) : D.un.write k b = ((D.write k b).1.un, (D.write k b).2) := by
 unfold DS.write at h ⊢
 by_cases hd : D.down = true
 ·rw [if_pos hd] at h; rw [hd] at h; cases h
 ·rw [if_neg hd] at h ⊢
  rw [if_neg (show ¬ D.un.down = true from hd)]
  by_cases hk : k < 0 ∨ (D.l.length : Int) ≤ k ∨ 64 < b.length
  ·rw [if_pos hk, if_pos (show k < 0 ∨ (D.un.l.length : Int) ≤ k ∨ 64 < b.length from hk)]
  ·rw [if_neg hk] at h ⊢
   rw [if_neg (show ¬ (k < 0 ∨ (D.un.l.length : Int) ≤ k ∨ 64 < b.length) from hk)]
   have hf : (D.fuse == 0) = false := h
   have := tick_un (D := D.put k.toNat b) h
   refine Prod.ext this ?_
   show (if (D.un.fuse == 0) = true then (100 : Int) else 0) = if (D.fuse == 0) = true then 100 else 0
   rw [hf]; rfl
theorem flush_un {D : DS} (h : D.flush.1.down = false) : D.un.flush = (D.flush.1.un, D.flush.2) := by
 unfold DS.flush at h ⊢
 by_cases hd : D.down = true
 ·rw [if_pos hd] at h; rw [hd] at h; cases h
 ·rw [if_neg hd] at h ⊢
  rw [if_neg (show ¬ D.un.down = true from hd), if_neg (show ¬ D.un.fuse = 0 by show ¬ ((-1 : Int) = 0); decide)]
  by_cases hf : D.fuse = 0
  ·rw [if_pos hf] at h
   have h : (D.fuse == 0) = false := h
   rw [hf] at h; cases h
  ·rw [if_neg hf] at h ⊢
   refine Prod.ext ?_ rfl
   have h1 : (D.fuse == 0) = false := h
   show D.un.flushed = D.flushed.un
   unfold DS.flushed
   have := tick_un (D := D) h1
   show ({ D.un.tick with l := D.all, row := [] } : DS) = _
   rw [this]; rfl
theorem write_err {D : DS} {k : Int} {b : List UInt8} (h : (D.write k b).2 = 0) : (D.write k b).1.down = false := by
 unfold DS.write at h ⊢
 split
 ·rename_i e; rw [if_pos e] at h; exact absurd h (by show ¬ ((100 : Int) = 0); decide)
 ·rename_i e
  rw [if_neg e] at h
  split
  ·rename_i e2; rw [if_pos e2] at h; exact absurd h (by show ¬ ((101 : Int) = 0); decide)
  ·rename_i e2
   rw [if_neg e2] at h
   show (D.fuse == 0) = false
   cases hf : (D.fuse == 0) with
   | false => rfl
   | true =>
    have h : (if (D.fuse == 0) = true then (100 : Int) else 0) = 0 := h
    rw [hf] at h
    exact absurd h (by decide)
theorem flush_err {D : DS} (h : D.flush.2 = 0) : D.flush.1.down = false := by
 unfold DS.flush at h ⊢
 split
 ·rename_i e; rw [if_pos e] at h; exact absurd h (by show ¬ ((100 : Int) = 0); decide)
 ·rename_i e
  rw [if_neg e] at h
  split
  ·rename_i e2; rw [if_pos e2] at h; exact absurd h (by show ¬ ((100 : Int) = 0); decide)
  ·rename_i e2
   show (D.fuse == 0) = false
   simpa using e2
theorem writes_un : ∀ (l : List Bk) {D : DS} {k : Int}, (D.writes k l).1.down = false → D.un.writes k l = ((D.writes k l).1.un, (D.writes k l).2)
 | [], D, k, h => rfl
 | x :: l, D, k, h => by
  simp only [DS.writes] at h ⊢
  split at h
  ·rename_i e
   have hw := write_un (write_err e)
   rw [hw, if_pos e, if_pos e]
   exact writes_un l h
  ·rename_i e
   have hw := write_un h
   rw [hw, if_neg e, if_neg e]
theorem writes_err : ∀ (l : List Bk) {D : DS} {k : Int}, D.down = false → (D.writes k l).2 = 0 → (D.writes k l).1.down = false
 | [], D, k, hd, h => hd
 | x :: l, D, k, hd, h => by
  simp only [DS.writes] at h ⊢
  split at h
  ·rename_i e; rw [if_pos e]; exact writes_err l (write_err e) h
  ·rename_i e; exact absurd h e
theorem writesL_un : ∀ (l : List (List UInt8)) {D : DS} {k : Int}, D.down = false → (D.writesL k l).1.down = false → D.un.writesL k l = ((D.writesL k l).1.un, (D.writesL k l).2)
 | [], D, k, hd, h => rfl
 | x :: l, D, k, hd, h => by
  simp only [DS.writesL] at h ⊢
  split at h
  ·rename_i e
   have hw := writes_un _ (writes_err _ hd e)
   rw [hw, if_pos e, if_pos e]
   exact writesL_un l (writes_err _ hd e) h
  ·rename_i e
   have hw := writes_un _ h
   rw [hw, if_neg e, if_neg e]
theorem writesL_err : ∀ (l : List (List UInt8)) {D : DS} {k : Int}, D.down = false → (D.writesL k l).2 = 0 → (D.writesL k l).1.down = false
 | [], D, k, hd, h => hd
 | x :: l, D, k, hd, h => by
  simp only [DS.writesL] at h ⊢
  split at h
  ·rename_i e; rw [if_pos e]; exact writesL_err l (writes_err _ hd e) h
  ·rename_i e; exact absurd h e
theorem turn_un {D : DS} {k : Int} {b : List UInt8} (h : (D.turn k b).1.down = false) : D.un.turn k b = ((D.turn k b).1.un, (D.turn k b).2) := by
 unfold DS.turn at h ⊢
 split at h
 ·rename_i e1
  have f1 := flush_un (flush_err e1)
  rw [f1, if_pos e1, if_pos e1]
  split at h
  ·rename_i e2
   have f2 := write_un (write_err e2)
   rw [f2, if_pos e2, if_pos e2]
   exact flush_un h
  ·rename_i e2
   have f2 := write_un h
   rw [f2, if_neg e2, if_neg e2]
 ·rename_i e1
  have f1 := flush_un h
  rw [f1, if_neg e1, if_neg e1]
theorem stage_un {S : RS} {b : List UInt8} (h : (S.stage b).1.D.down = false) : S.un.stage b = ((S.stage b).1.un, (S.stage b).2) := by
 unfold RS.stage at h ⊢
 by_cases h1 : 4000 < b.length
 ·rw [if_pos h1, if_pos h1]
 ·rw [if_neg h1] at h ⊢
  rw [if_neg h1]
  by_cases h2 : S.room < blocksN b
  ·rw [if_pos h2, if_pos (show S.un.room < blocksN b from h2)]
  ·rw [if_neg h2] at h ⊢
   rw [if_neg (show ¬ S.un.room < blocksN b from h2)]
   simp only [] at h ⊢
   have hw : (S.D.writes ((2 + S.own.area * S.D.half + S.own.used + S.more : Nat) : Int) (packs b)).1.down = false := by
    split at h <;> exact h
   obtain ⟨W, hW⟩ : ∃ W, W = S.D.writes ((2 + S.own.area * S.D.half + S.own.used + S.more : Nat) : Int) (packs b) := ⟨_, rfl⟩
   rw [← hW] at h hw ⊢
   have hu : S.un.D.writes ((2 + S.un.own.area * S.un.D.half + S.un.own.used + S.un.more : Nat) : Int) (packs b) = (W.1.un, W.2) := by
    rw [hW] at hw ⊢; exact writes_un (packs b) (D := S.D) hw
   rw [hu]
   by_cases e : W.2 = 0
   ·rw [if_pos e, if_pos (show (W.1.un, W.2).2 = 0 from e)]; rfl
   ·rw [if_neg e, if_neg (show ¬ (W.1.un, W.2).2 = 0 from e)]; rfl
theorem turns_un {S : RS} {hd : Hd} {l : List (List UInt8)} (h : (S.turns hd l).1.D.down = false) : S.un.turns hd l = ((S.turns hd l).1.un, (S.turns hd l).2) := by
 rw [turns_D] at h
 unfold RS.turns
 obtain ⟨W, hW⟩ : ∃ W, W = S.D.turn S.nslot hd.bytes := ⟨_, rfl⟩
 rw [← hW] at h ⊢
 have hu : S.un.D.turn S.un.nslot hd.bytes = (W.1.un, W.2) := by
  rw [hW] at h ⊢; exact turn_un (D := S.D) h
 rw [hu]
 simp only []
 by_cases e : W.2 = 0
 ·rw [if_pos e, if_pos e]; rfl
 ·rw [if_neg e, if_neg e]; rfl
theorem seal_un {S : RS} (h : S.sealz.1.D.down = false) : S.un.sealz = (S.sealz.1.un, S.sealz.2) := by
 unfold RS.sealz at h ⊢
 by_cases h1 : S.st = []
 ·rw [if_pos h1, if_pos (show S.un.st = [] from h1)]
 ·rw [if_neg h1] at h ⊢
  rw [if_neg (show ¬ S.un.st = [] from h1)]
  by_cases h2 : S.D.down = true
  ·rw [if_pos h2, if_pos (show S.un.D.down = true from h2)]
  ·rw [if_neg h2] at h ⊢
   rw [if_neg (show ¬ S.un.D.down = true from h2)]
   by_cases h3 : 1099511627776 ≤ nextF S.D
   ·rw [if_pos h3, if_pos (show 1099511627776 ≤ nextF S.un.D from h3)]
   ·rw [if_neg h3] at h ⊢
    rw [if_neg (show ¬ 1099511627776 ≤ nextF S.un.D from h3)]
    exact turns_un h
theorem append_un {S : RS} {b : List UInt8} (hs : S.inv) (hd : S.D.down = false) (h : (S.append b).1.D.down = false) : S.un.append b = ((S.append b).1.un, (S.append b).2) := by
 unfold RS.append at h ⊢
 by_cases h1 : (S.stage b).2 = 0
 ·rw [if_pos h1] at h ⊢
  have e := stage_un (stage_down hs hd b h1).1
  rw [e, if_pos h1]
  exact seal_un h
 ·rw [if_neg h1] at h ⊢
  have e := stage_un h
  rw [e, if_neg h1]
theorem reset_un {S : RS} {l : List (List UInt8)} (hd : S.D.down = false) (h : (S.reset l).1.D.down = false) : S.un.reset l = ((S.reset l).1.un, (S.reset l).2) := by
 unfold RS.reset at h ⊢
 by_cases h1 : l.any longB = true
 ·rw [if_pos h1, if_pos h1]
 ·rw [if_neg h1] at h ⊢
  rw [if_neg h1]
  rw [if_neg (show ¬ S.D.down = true by rw [hd]; decide)] at h ⊢
  rw [if_neg (show ¬ S.un.D.down = true by show ¬ S.D.down = true; rw [hd]; decide)]
  by_cases h3 : S.D.half < moreL l ∨ 1099511627776 ≤ nextF S.D
  ·rw [if_pos h3, if_pos (show S.un.D.half < moreL l ∨ 1099511627776 ≤ nextF S.un.D from h3)]
  ·rw [if_neg h3] at h ⊢
   rw [if_neg (show ¬ (S.un.D.half < moreL l ∨ 1099511627776 ≤ nextF S.un.D) from h3)]
   obtain ⟨W, hW⟩ : ∃ W, W = S.D.writesL ((2 + (1 - S.own.area) * S.D.half : Nat) : Int) l := ⟨_, rfl⟩
   rw [← hW] at h ⊢
   have hw : W.1.down = false := by
    by_cases e : W.2 = 0
    ·rw [hW] at e ⊢; exact writesL_err l hd e
    ·rw [if_neg e] at h; exact h
   have hu : S.un.D.writesL ((2 + (1 - S.un.own.area) * S.un.D.half : Nat) : Int) l = (W.1.un, W.2) := by
    rw [hW] at hw ⊢; exact writesL_un l (D := S.D) hd hw
   rw [hu]
   by_cases e : W.2 = 0
   ·rw [if_pos e] at h ⊢
    rw [if_pos (show (W.1.un, W.2).2 = 0 from e)]
    exact turns_un (S := { S with D := W.1 }) h
   ·rw [if_neg e, if_neg (show ¬ (W.1.un, W.2).2 = 0 from e)]; rfl
end Go.Proofs.Ytffcglfepobdjaa
set_option maxRecDepth 100000
set_option maxHeartbeats 2000000
namespace Go.Proofs.Ytffcglfepobdjaa
open Go.RowKit
theorem build36b (b : Int) (A : Option Addr) (n c : Nat) (W : World) : (Instr.build 36 #[(1, .int .i64 b), (2, .slice A n c)]).run Try.prog W = .ok (.agg [.int .i64 0, .int .i64 b, .slice A n c, .slice none 0 0].toArray) W := by kernel_rfl
theorem exec_build36b {a : Act} {w : World} {o : Oper} (y z : Operand) (ho : o.op = .build 36 #[(1, y), (2, z)]) (j : Int) (A : Option Addr) (n c : Nat) (hy : a.eval y = .int .i64 j) (hz : a.eval z = .slice A n c) :
  (execOp a.eval o).run Try.prog w = .ok (.value (.agg [.int .i64 0, .int .i64 j, .slice A n c, .slice none 0 0].toArray)) w := by
 unfold execOp
 simp only [ho, List.map_toArray, List.map_cons, List.map_nil, hy, hz, Sem.run_bind, Sem.run_pure, Result.andThen_ok, build36b j A n c]
theorem fsv_len {SV : List Value} (h : SV.length = 5) (m n p q : Int) (vL vS : Value) : (fsv SV m n p q vL vS).length = 11 := by unfold fsv; rw [List.length_append, h]; rfl
theorem fsv_ones {SV : List Value} {vL vS : Value} (m n p q : Int) (h : ∀ u ∈ SV, u.oneCell' = true) (hL : vL.oneCell' = true) (hS : vS.oneCell' = true) : ∀ u ∈ fsv SV m n p q vL vS, u.oneCell' = true := by
 intro u hu
 rcases List.mem_append.1 hu with hu | hu
 ·exact h u hu
 ·simp only [List.mem_cons, List.not_mem_nil, or_false] at hu
  rcases hu with rfl | rfl | rfl | rfl | rfl | rfl <;> first | rfl | exact hL | exact hS
theorem fsv_splice {SV SV' : List Value} (h : SV.length = 5) (h' : SV'.length = 5) (m n p q : Int) (vL vS : Value) : splice (fsv SV m n p q vL vS) 0 SV' = fsv SV' m n p q vL vS := by
 unfold splice fsv
 rw [List.take_zero, List.nil_append, h', Nat.zero_add, List.drop_append_of_le_length (by omega), List.drop_eq_nil_of_le (by omega), List.nil_append]
theorem StAt.ones {w : World} {F : Nat → Prop} {vl vr : Value} {D : DS} (h : StAt w F vl vr D) : ∀ u ∈ stv vl vr D, u.oneCell' = true := stv_one D h.l.one_val.1 h.row.one_val.1
theorem writes_take_stop {D : DS} {k : Int} {l : List Bk} {j : Nat} (h : (D.writes k (l.take j)).2 ≠ 0) : D.writes k l = D.writes k (l.take j) := by
 conv => lhs; rw [← List.take_append_drop j l]
 exact writes_stop _ _ _ _ h
theorem packs_at (b : List UInt8) {j : Nat} (hj : j < blocksN b) : (packs b)[j]? = some (((packB b).drop (64 * j)).take 64) := by
 unfold packs
 rw [List.getElem?_map, List.getElem?_range hj]; rfl
theorem write_doOp (D : DS) (k : Int) (b : List UInt8) : D.doOp ⟨0, k, b, []⟩ = D.write k b := rfl
theorem opvok {k : Int} {b : List UInt8} (hk : -10000 ≤ k ∧ k ≤ 20000) (hb : b.length ≤ 64) : (⟨0, k, b, []⟩ : OpV).ok := ⟨⟨by show (-9223372036854775808 : Int) ≤ 0; decide, by show (0 : Int) ≤ 9223372036854775807; decide⟩, ⟨by show _ ≤ k; omega, by show k ≤ _; omega⟩, by show b.length ≤ _; omega, by show (0 : Nat) ≤ _; omega, fun x hx => by cases hx⟩
theorem StAt.stay {w w' : World} {F : Nat → Prop} {vl vr : Value} {D : DS} {b : Nat} {cs : List Value} {t : TypeId} (h : StAt w F vl vr D) (B : BlockIs w b cs t) (h1 : (52 : TypeId) ≠ t) (h2 : (54 : TypeId) ≠ t) (K : Keep (Only b) w w') : StAt w' F vl vr D :=
 ⟨h.l.stay K (fun q hq e => h.l.ne B h1 (by unfold Only at e; rw [hq, e])), h.row.stay K (fun q hq e => h.row.ne B h2 (by unfold Only at e; rw [hq, e]))⟩
theorem StAt.grown {w w1 w2 : World} {F : Nat → Prop} {vl vr : Value} {D : DS} (h : StAt w2 (grow (grow F w w1) w1 w2) vl vr D) (h1 : w.heap.size ≤ w1.heap.size) (h2 : w1.heap.size ≤ w2.heap.size) : StAt w2 (grow F w w2) vl vr D := h.mono (grow_grow h1 h2)
theorem StAt.later {w w1 w2 : World} {F : Nat → Prop} {vl vr : Value} {D : DS} (h : StAt w2 (grow F w w1) vl vr D) (h2 : w1.heap.size ≤ w2.heap.size) : StAt w2 (grow F w w2) vl vr D := h.mono (fun q hq => hq.imp id (fun e => ⟨e.1, by have := e.2; omega⟩))
theorem cut_lo2 {P : Program} (t e : TypeId) (kl : IntKind) {z : Option Value} {bytes : Nat} (ht : P.underlying t = some (.slice e)) (hi : (P.info? e).map (fun i => (i.zero, i.size, i.bytes)) = some (z, 1, bytes)) (ad : Addr) (n c l : Nat) (hl : l ≤ n) :
  ∃ ad' : Addr, ad'.block = ad.block ∧ (∀ W : World, (Instr.sliceAt t (.slice (some ad) n c) (some (.int kl (l : Int))) none none).run P W = .ok (.slice (some ad') (n - l) (c - l)) W) ∧
   ∀ (w : World) (cs : List Value), cs.length ≤ c → Reads w (some ad) cs → Reads w (some ad') (cs.drop l) := by
 refine ⟨if c = l then ad else ad.add l, by split <;> first | rfl | (unfold Addr.add; split <;> rfl), fun W => ?_, fun w cs hc h => ?_⟩
 ·have hel : P.elem t = e := by simp [Program.elem, ht]
  have hu : P.underlying t = some (.slice (P.elem t)) := by rw [hel]; exact ht
  cases hq : P.info? e with
  | none => simp [hq] at hi
  | some i =>
   have hs : i.size = 1 := by simp [hq] at hi; exact hi.2.1
   rw [run_sliceAt_slice W t _ _ _ _ hu, run_slice_l W t (some ad) n c hu kl (l : Int) (Int.natCast_nonneg _) (by omega), hel]
   simp [sizeOf, typeInfo, hq, hs, sliced, Result.andThen]
   split <;> rfl
 ·have := h.drop c l hc
  split <;> simp_all
theorem opv_write (k : Int) (x : List UInt8) (h : x.length = 64) (A : Option Addr) (c : Nat) : opv ⟨0, k, x, []⟩ A none c 0 = [.int .i64 0, .int .i64 k, .slice A 64 c, .slice none 0 0] := by unfold opv; rw [h]; rfl
def lenV : Value → Nat
 | .slice _ n _ => n
 | _ => 0
theorem refWrite_calls {w : World} {F : Nat → Prop} {vl vr : Value} {D : DS} (H : StAt w F vl vr D) (hok : D.ok) (ho : D.ops ≤ 1000000) (hr : D.row.length ≤ 1000000) (seq slot area used : Int) (vL vS : Value) (hL : vL.oneCell' = true) (hS : vS.oneCell' = true)
  (A : Option Addr) (c : Nat) (b : List UInt8) (hA : Reads w A (bv b)) (hAc : A = none → c = 0) (h4 : b.length ≤ 4000) (k0 : Int) (hk : -10000 ≤ k0 ∧ k0 ≤ 10000) :
  Calls Try.prog 102 #[.agg (fsv (stv vl vr D) seq slot area used vL vS).toArray, .slice A b.length c, .int .i64 k0] w (fun e w' => ∃ vl' vr', e = .returned (.tuple #[.agg (fsv (stv vl' vr' (D.writes k0 (packs b)).1) seq slot area used vL vS).toArray, .int .i64 (D.writes k0 (packs b)).2]) ∧ StAt w' (grow F w w') vl' vr' (D.writes k0 (packs b)).1 ∧ Keep Noth w w') := by
 have hbb := blocksN_bound b
 have hbl := blocksN_le h4
 obtain ⟨m, hm⟩ : ∃ m, m = blocksN b := ⟨_, rfl⟩
 have hpl := packB_length b
 rw [← hm] at hpl hbb hbl
 have hpk := fun W (hW : Keep Noth w W) => pack_calls W A c b (hA.keep hW (fun _ _ => id)) hAc (by omega)
 have HH := hid H
 have Hpk := hid hpk
 have Hpl := hid hpl
 have Hm := hid hm
 have Hok := hid hok
 clear H hA hpk hpl hm hok
 go_enter Try.func102, Try.ntmps102
 go_wp2_with (first
  | (guard_target = wpList _ _ _ (Oper.mk _ (Op.box 68 _) _ _ _ _ :: _) _ _; refine wpList_box_v rfl 68 _ rfl (fsv (stv vl vr D) seq slot area used vL vS) (by rfl) ?_; intro b3 w1 hb3 B3 K1)
  | (guard_target = wpList _ _ _ (Oper.mk _ (Op.alloc 68) _ _ _ _ :: _) _ _; refine wpList_alloc_v rfl 68 rfl (.agg zfs.toArray) info68 zfs zfs_cells ?_; intro b6 w2 hb6 B6 K2))
 have K02 : Keep Noth w w2 := K1.trans K2 (fun _ _ h => h)
 refine (Hpk.out w2 K02).mono ?_
 rintro e w3 ⟨gp, cp, rfl, XP, K3⟩
 have hne : b3 ≠ b6 := by have := B3.lt; omega
 have hgp : gp ≠ b3 := by
  have h1 : w2.heap.size ≤ gp := (XP.foot _ rfl).1
  have := B3.lt
  have := K2.size
  omega
 have hb3w : w.heap.size ≤ b3 := hb3
 have hb6w : w.heap.size ≤ b6 := by have := K1.size; omega
 have B33 := (B3.keep K2 id).keep K3 id
 have B63 := B6.keep K3 id
 have K03 := K02.trans K3 (fun _ _ h => h)
 have hcp := XP.cap_le
 rw [u1_length, Hpl.out] at hcp
 have hcpm : cp ≤ maxLen := by
  rcases XP.own.2 with ⟨h1, -⟩ | ⟨g', cap', cur', h1, -, -, -, h2, -, -⟩
  ·cases h1
  ·injection h1 with _ _ h1; subst h1; exact h2
 have hRP := Bytes.same_as XP
 rw [Hpl.out]
 have hS3 := HH.out.keep K03 (Dj.noth _)
 clear B3 B6 K1 K2 K3 K02 XP hb3 hb6
 have HRP := hid hRP
 have HK03 := hid K03
 clear hRP K03
 go_wp2_with fail
 go_loopw [2, 8] (fun kv xv wr => ∃ (j : Nat) (Dk : DS) (vlj vrj : Value) (ad : Addr) (cb : Nat), kv = .int .i64 (k0 + j) ∧ j ≤ m ∧ D.writes k0 ((packs b).take j) = (Dk, 0) ∧ xv = .slice (some ad) (64 * (m - j)) cb ∧ (64 * (m - j) ≤ cb ∧ cb ≤ maxLen ∧ ad.block = gp) ∧ Reads wr (some ad) (bv ((packB b).drop (64 * j))) ∧ BlockIs wr b3 (fsv (stv vlj vrj Dk) seq slot area used vL vS) 68 ∧ BlockIs wr b6 zfs 68 ∧ StAt wr (grow F w wr) vlj vrj Dk ∧ Keep Noth w wr) (fun _ xv _ => lenV xv)
 case atStart => exact ⟨0, D, vl, vr, ⟨gp, 0, none⟩, cp, by simp, Nat.zero_le _, rfl, by simp, ⟨by simp; omega, hcpm, rfl⟩, by simpa using HRP.out, B33, B63, hS3.mono (fun q hq => .inl hq), HK03.out⟩
 case round =>
  obtain ⟨j, Dk, vlj, vrj, ad, cb, rfl, hj, hw, rfl, ⟨hcb, hcbm, hadb⟩, hRb, B3, B6, hSr, K0r⟩ := hrel
  have hgr := writes_grow ((packs b).take j) D k0
  have hkok := writes_ok' ((packs b).take j) Hok.out k0
  rw [hw] at hgr hkok
  have hgr : Dk.ops ≤ D.ops + ((packs b).take j).length ∧ Dk.row.length ≤ D.row.length + ((packs b).take j).length ∧ Dk.l.length = D.l.length := hgr
  have hlt0 : ((packs b).take j).length ≤ m := by rw [List.length_take, packs_length, ← Hm.out]; omega
  have Hw := hid hw
  clear hw B33 B63 hS3
  by_cases hjm : j < m
  ·have Hx := hid (packs_at b (j := j) (by rw [← Hm.out]; exact hjm))
   obtain ⟨x, hx⟩ : ∃ x, x = ((packB b).drop (64 * j)).take 64 := ⟨_, rfl⟩
   rw [← hx] at Hx
   have hx64 : x.length = 64 := by rw [hx, List.length_take, List.length_drop, Hpl.out]; omega
   obtain ⟨L, hL'⟩ : ∃ L, L = 64 * (m - j) := ⟨_, rfl⟩
   rw [← hL'] at hcb ⊢
   have hRx := hRb.take 64
   rw [bv_take, ← hx] at hRx
   have hdo := fun W (hW : Keep Noth wr W) => do_calls (hSr.keep hW (Dj.noth _)) hkok (by omega) (by omega) ⟨0, k0 + j, x, []⟩ (opvok (by omega) (by omega)) (some ad) none cb 0 ⟨hRx.keep hW (fun _ _ => id), Reads.nil _ _⟩
   rw [opv_write (k0 + j) x hx64] at hdo
   obtain ⟨a3, hab, hc3, hr3⟩ := cut_lo2 (P := Try.prog) 33 5 .i64 sl33 info5 ad L cb 64 (by omega)
   have hln : L - 64 = 64 * (m - (j + 1)) := by omega
   have HLn := hid hln
   have Hcn := hid (show 64 * (m - (j + 1)) ≤ cb - 64 ∧ cb - 64 ≤ maxLen ∧ a3.block = gp from ⟨by omega, by unfold maxLen at hcbm ⊢; omega, hab.trans hadb⟩)
   have hRn := hr3 wr _ (by rw [bv_length, List.length_drop, Hpl.out]; omega) hRb
   rw [bv_drop, List.drop_drop, show 64 * j + 64 = 64 * (j + 1) by omega] at hRn
   have hgt : decide ((L : Int) > 0) = true := by simp; omega
   have hcbI : (64 : Int) ≤ cb := by omega
   have hLI : (64 : Int) ≤ L := by omega
   have hkI : -10000 ≤ k0 + j ∧ k0 + j ≤ 11000 := by omega
   obtain ⟨hkI1, hkI2⟩ := hkI
   have Hdo := hid hdo
   have Hc3 := hid hc3
   have HRn0 := hid hRn
   have HSr := hid hSr
   have HK0r := hid K0r
   have HL' := hid hL'
   clear hdo hc3 hr3 hRn hRx hRb hx hx64 hab hadb hln hSr K0r hL' hcb hcbm
   go_wp2_with fail
   refine wp_region_ordF [(0, true), (1, true), (2, true), (3, true), (4, true), (5, true)] 6 10 [(7, true), (8, true), (9, true), (10, false), (11, false), (12, false)] [(6, false), (7, true), (8, true), (9, true), (11, false), (12, false)] (fun W => BlockIs W b3 (fsv (stv vlj vrj Dk) seq slot area used vL vS) 68) follows_mixed (by kernel_rfl) B3.drew ?_
   simp only [List.map_cons, List.map_nil, List.getElem?_cons_succ, List.getElem?_cons_zero, Option.getD_some]
   refine wpO_pure (v := .pointer (some ⟨b3, 0, none⟩)) (by rfl) (fun w' hw' => by go_simp) ?_
   go_frame
   refine wpO_pure (v := .agg (stv vlj vrj Dk).toArray) (by rfl) (fun w' hw' => by exact exec_load_blk 30 _ rfl b3 0 _ (stv vlj vrj Dk) 68 _ (by rfl) hw' (fsv_dev _ rfl _ _ _ _ _ _) Try.underlying30 rfl info30) ?_
   go_frame
   refine wpO_pure (v := .int .i64 (k0 + j)) (by rfl) (fun w' hw' => by go_simp) ?_
   go_frame
   refine wpO_pure (v := .slice (some ad) L cb) (by rfl) (fun w' hw' => by go_simp) ?_
   go_frame
   refine wpO_pure (v := .slice (some ad) 64 cb) (by rfl) (fun w' hw' => by go_simp) ?_
   go_frame
   refine wpO_pure (v := .agg [.int .i64 0, .int .i64 (k0 + j), .slice (some ad) 64 cb, .slice none 0 0].toArray) (by rfl) (fun w' hw' => by exact exec_build36b _ _ rfl _ _ _ _ (by rfl) (by rfl)) (wpO_nil ?_)
   go_frame
   have Kd := (Keep.refl Noth wr).drew
   constructor
   ·refine wpO_call (by rfl) (exec_call' 20 _ _ rfl Try.func20 (by kernel_rfl) (by rfl) #[.agg (stv vlj vrj Dk).toArray, .agg [.int .i64 0, .int .i64 (k0 + j), .slice (some ad) 64 cb, .slice none 0 0].toArray] (by simp [Act.eval])) ?_
    refine (Hdo.out _ Kd).mono ?_
    rintro e w5 ⟨vl6, vr6, rfl, S5, K5⟩
    rw [write_doOp] at S5 ⊢
    have KA := Kd.trans K5 (fun _ _ h => h)
    refine ⟨_, rfl, .inr (B3.keep KA id), ?_⟩
    go_frame
    refine wpO_pure (v := .tuple #[.agg (stv vl6 vr6 (Dk.write (k0 + j) x).1).toArray, .int .i64 (Dk.write (k0 + j) x).2]) (by rfl) (fun w' hw' => by go_simp) ?_
    go_frame
    refine wpO_pure (v := .agg (stv vl6 vr6 (Dk.write (k0 + j) x).1).toArray) (by rfl) (fun w' hw' => by go_simp) ?_
    go_frame
    refine wpO_pure (v := .int .i64 (Dk.write (k0 + j) x).2) (by rfl) (fun w' hw' => by go_simp) ?_
    go_frame
    refine wpO_alloc_v (by rfl) 30 rfl zst info30 stz zst_cells ?_
    intro b9 w6 hb9 Bz K6
    have KB := KA.trans K6 (fun _ _ h => h)
    refine ⟨.inr (B3.keep KB id), ?_⟩
    go_frame
    refine wpO_store_blk (by rfl) 30 _ _ rfl b9 _ (stv vl6 vr6 (Dk.write (k0 + j) x).1) 30 (by rfl) (by rfl) Bz rfl info30 S5.ones ?_
    intro w7 B9 K7
    have hsr := HK0r.out.size
    have hsA := KA.size
    have hsB := KB.size
    have hs7 := K7.size
    have hb9r : wr.heap.size ≤ b9 := by omega
    have KC : Keep Noth wr w7 := KB.own K7 (fun q e => by unfold Only at e; subst e; exact hb9r)
    refine ⟨.inr (B3.keep KC id), ?_⟩
    go_frame
    have S6 : StAt w7 (grow F w w7) vl6 vr6 (Dk.write (k0 + j) x).1 := (((S5.mono (G := grow (grow F w wr) wr w5) (fun q hq => hq)).grown hsr hsA).keep K6 (Dj.noth _)).stay Bz (by decide) (by decide) K7 |>.later (by have := K6.size; omega)
    have KK := HK0r.out.trans KC (fun _ _ h => h)
    have HRn := hid (HRn0.out.keep KC (fun _ _ => id))
    have B3 := B3.keep KC id
    have B6 := B6.keep KC id
    clear K5 K6 K7 KA KB KC S5 Bz Kd hb9
    refine wpO_run (v := .int .i64 (Dk.write (k0 + j) x).2) (w1 := w7) (by rfl) (by go_simp) (.inl rfl) (wpO_nil ?_)
    go_frame
    obtain ⟨D2, E2, hDE⟩ : ∃ D2 E2, Dk.write (k0 + j) x = (D2, E2) := ⟨_, _, rfl⟩
    rw [hDE] at S6 B9 ⊢
    have HDE := hid hDE
    have HB3 := hid B3
    have HB6 := hid B6
    have HB9 := hid B9
    have HS := hid S6
    have HKK := hid KK
    clear hDE B3 B6 B9 S6 KK
    simp only [] at HS HB9 ⊢
    have hwn : (Dk.writes (k0 + j) [x]) = (D2, E2) := by
     simp only [DS.writes, HDE.out]
     split
     ·rename_i h; rw [h]
     ·rfl
    have htk : (packs b).take (j + 1) = (packs b).take j ++ [x] := by rw [List.take_add_one, Hx.out]; rfl
    have hw2 : D.writes k0 ((packs b).take (j + 1)) = (D2, E2) := by
     rw [htk, writes_snoc _ _ _ _ (by rw [Hw.out]), Hw.out, List.length_take, Nat.min_eq_left (by rw [packs_length, ← Hm.out]; omega)]
     exact HDE.out
    have Hw2 := hid hw2
    clear hwn htk hw2
    by_cases hez : E2 = 0
    ·have hezb : (E2 == 0) = true := by simpa using hez
     have Hez := hid hez
     clear hez
     go_wp2_with (first
      | (guard_target = wpList _ _ _ (Oper.mk _ (Op.load 30 _) _ _ _ _ :: _) _ _; refine wpList_load_blk rfl 30 _ rfl b9 0 _ (stv vl6 vr6 D2) 30 _ (by rfl) HB9.out (part0 _) Try.underlying30 rfl info30 ?_)
      | (guard_target = wpList _ _ _ (Oper.mk _ (Op.store 30 _ _) _ _ _ _ :: _) _ _; refine wpList_store_part rfl 30 _ _ rfl b3 0 _ (stv vl6 vr6 D2) 68 (by rfl) (by rfl) HB3.out (by rw [fsv_len rfl]; show 0 + 5 ≤ 11; decide) info30 HS.out.ones ?_; intro w8 B8 K8; rw [fsv_splice rfl rfl] at B8)
      | (guard_target = wpList _ _ _ (Oper.mk _ (Op.slice _ _ _ _ _) _ _ _ _ :: _) _ _; refine wpList_run rfl _ _ (exec_sliceAt 33 _ _ _ rfl (by rfl) (by rfl) (by rfl) (Hc3.out _)) ?_))
     have hsz := K8.size
     have hB6' := HB6.out.keep K8 (fun e => hne e.symm)
     have hS8 := (HS.out.stay HB3.out (by decide) (by decide) K8).later hsz
     have hK8 := HKK.out.own K8 (fun q e => by unfold Only at e; subst e; exact hb3w)
     have HF := hid (show _ ∧ _ ∧ _ ∧ _ from ⟨B8, hB6', hS8, hK8⟩)
     have HRn8 := hid (HRn.out.keep K8 (fun ad e hq => by injection e with e; subst e; unfold Only at hq; exact hgp (by rw [← Hcn.out.2.2, hq])))
     clear B8 hB6' hS8 hK8 K8
     go_roundw
     case rel => exact ⟨j + 1, D2, vl6, vr6, a3, cb - 64, by first | rfl | (congr 1; push_cast; omega), by omega, by rw [Hw2.out, Hez.out], by rw [HLn.out], Hcn.out, HRn8.out, HF.out.1, HF.out.2.1, HF.out.2.2.1, HF.out.2.2.2⟩
     case measure => simp [lenV]; omega
    ·have hezb : (E2 == 0) = false := by simpa using hez
     have hfin : D.writes k0 (packs b) = (D2, E2) := by rw [writes_take_stop (j := j + 1) (by rw [Hw2.out]; exact hez), Hw2.out]
     have Hfin := hid hfin
     clear hez hfin
     go_wp2_with (first
      | (guard_target = wpList _ _ _ (Oper.mk _ (Op.load 30 _) _ _ _ _ :: _) _ _; refine wpList_load_blk rfl 30 _ rfl b9 0 _ (stv vl6 vr6 D2) 30 _ (by rfl) HB9.out (part0 _) Try.underlying30 rfl info30 ?_)
      | (guard_target = wpList _ _ _ (Oper.mk _ (Op.store 30 _ _) _ _ _ _ :: _) _ _; refine wpList_store_part rfl 30 _ _ rfl b3 0 _ (stv vl6 vr6 D2) 68 (by rfl) (by rfl) HB3.out (by rw [fsv_len rfl]; show 0 + 5 ≤ 11; decide) info30 HS.out.ones ?_; intro w8 B8 K8; rw [fsv_splice rfl rfl] at B8; have B68 := HB6.out.keep K8 (fun e => hne e.symm))
      | (guard_target = wpList _ _ _ (Oper.mk _ (Op.load 68 _) _ _ _ _ :: _) _ _; refine wpList_load_blk rfl 68 _ rfl b3 0 _ (fsv (stv vl6 vr6 D2) seq slot area used vL vS) 68 _ (by rfl) B8 (part0 _) Try.underlying68 rfl (by rw [fsv_len rfl]; exact info68) ?_)
      | (guard_target = wpList _ _ _ (Oper.mk _ (Op.store 68 _ _) _ _ _ _ :: _) _ _; refine wpList_store_whole rfl 68 _ _ rfl b6 _ (fsv (stv vl6 vr6 D2) seq slot area used vL vS) 68 (by rfl) (by rfl) B68 (by rw [fsv_len rfl]; rfl) (by rw [fsv_len rfl]; exact info68) (fsv_ones _ _ _ _ HS.out.ones hL hS) ?_; intro w9 B99 K9))
     refine ret_cell_tmp rfl b6 _ 68 _ (.int .i64 E2) (by rfl) (by rfl) B99 Try.underlying68 rfl (by rw [fsv_len rfl]; exact info68) rfl ?_
     have hsz := K8.size
     have hsz9 := K9.size
     rw [Hfin.out]
     exact ⟨vl6, vr6, rfl, ((HS.out.stay HB3.out (by decide) (by decide) K8).stay B68 (by decide) (by decide) K9).later (by omega), (HKK.out.own K8 (fun q e => by unfold Only at e; subst e; exact hb3w)).own K9 (fun q e => by unfold Only at e; subst e; exact hb6w)⟩
   ·refine wpO_alloc_v (by rfl) 30 rfl zst info30 stz zst_cells ?_
    intro b9 w6 hb9 Bz K6
    have KB := Kd.trans K6 (fun _ _ h => h)
    refine ⟨.inr (B3.keep KB id), ?_⟩
    go_frame
    refine wpO_call (by rfl) (exec_call' 20 _ _ rfl Try.func20 (by kernel_rfl) (by rfl) #[.agg (stv vlj vrj Dk).toArray, .agg [.int .i64 0, .int .i64 (k0 + j), .slice (some ad) 64 cb, .slice none 0 0].toArray] (by simp [Act.eval])) ?_
    refine (Hdo.out _ KB).mono ?_
    rintro e w5 ⟨vl6, vr6, rfl, S5, K5⟩
    rw [write_doOp] at S5 ⊢
    have KA := KB.trans K5 (fun _ _ h => h)
    refine ⟨_, rfl, .inr (B3.keep KA id), ?_⟩
    go_frame
    refine wpO_pure (v := .tuple #[.agg (stv vl6 vr6 (Dk.write (k0 + j) x).1).toArray, .int .i64 (Dk.write (k0 + j) x).2]) (by rfl) (fun w' hw' => by go_simp) ?_
    go_frame
    refine wpO_pure (v := .agg (stv vl6 vr6 (Dk.write (k0 + j) x).1).toArray) (by rfl) (fun w' hw' => by go_simp) ?_
    go_frame
    refine wpO_pure (v := .int .i64 (Dk.write (k0 + j) x).2) (by rfl) (fun w' hw' => by go_simp) ?_
    go_frame
    have Bz5 := Bz.keep K5 id
    refine wpO_store_blk (by rfl) 30 _ _ rfl b9 _ (stv vl6 vr6 (Dk.write (k0 + j) x).1) 30 (by rfl) (by rfl) Bz5 rfl info30 S5.ones ?_
    intro w7 B9 K7
    have hsr := HK0r.out.size
    have hsA := KA.size
    have hsB := KB.size
    have hs5 := K5.size
    have hs7 := K7.size
    have hb9r : wr.heap.size ≤ b9 := by have e : wr.drew.heap.size = wr.heap.size := rfl; omega
    have KC : Keep Noth wr w7 := KA.own K7 (fun q e => by unfold Only at e; subst e; exact hb9r)
    refine ⟨.inr (B3.keep KC id), ?_⟩
    go_frame
    have S6 : StAt w7 (grow F w w7) vl6 vr6 (Dk.write (k0 + j) x).1 := ((S5.mono (G := grow F w w5) (fun q hq => by
     rcases hq with (hq | hq) | hq
     ·exact .inl hq
     ·exact .inr ⟨hq.1, by have := hq.2; omega⟩
     ·exact .inr ⟨by have := hq.1; omega, hq.2⟩)).stay Bz5 (by decide) (by decide) K7).later hs7
    have KK := HK0r.out.trans KC (fun _ _ h => h)
    have HRn := hid (HRn0.out.keep KC (fun _ _ => id))
    have B3 := B3.keep KC id
    have B6 := B6.keep KC id
    clear K5 K6 K7 KA KB KC S5 Bz Bz5 Kd hb9
    refine wpO_run (v := .int .i64 (Dk.write (k0 + j) x).2) (w1 := w7) (by rfl) (by go_simp) (.inl rfl) (wpO_nil ?_)
    go_frame
    obtain ⟨D2, E2, hDE⟩ : ∃ D2 E2, Dk.write (k0 + j) x = (D2, E2) := ⟨_, _, rfl⟩
    rw [hDE] at S6 B9 ⊢
    have HDE := hid hDE
    have HB3 := hid B3
    have HB6 := hid B6
    have HB9 := hid B9
    have HS := hid S6
    have HKK := hid KK
    clear hDE B3 B6 B9 S6 KK
    simp only [] at HS HB9 ⊢
    have hwn : (Dk.writes (k0 + j) [x]) = (D2, E2) := by
     simp only [DS.writes, HDE.out]
     split
     ·rename_i h; rw [h]
     ·rfl
    have htk : (packs b).take (j + 1) = (packs b).take j ++ [x] := by rw [List.take_add_one, Hx.out]; rfl
    have hw2 : D.writes k0 ((packs b).take (j + 1)) = (D2, E2) := by
     rw [htk, writes_snoc _ _ _ _ (by rw [Hw.out]), Hw.out, List.length_take, Nat.min_eq_left (by rw [packs_length, ← Hm.out]; omega)]
     exact HDE.out
    have Hw2 := hid hw2
    clear hwn htk hw2
    by_cases hez : E2 = 0
    ·have hezb : (E2 == 0) = true := by simpa using hez
     have Hez := hid hez
     clear hez
     go_wp2_with (first
      | (guard_target = wpList _ _ _ (Oper.mk _ (Op.load 30 _) _ _ _ _ :: _) _ _; refine wpList_load_blk rfl 30 _ rfl b9 0 _ (stv vl6 vr6 D2) 30 _ (by rfl) HB9.out (part0 _) Try.underlying30 rfl info30 ?_)
      | (guard_target = wpList _ _ _ (Oper.mk _ (Op.store 30 _ _) _ _ _ _ :: _) _ _; refine wpList_store_part rfl 30 _ _ rfl b3 0 _ (stv vl6 vr6 D2) 68 (by rfl) (by rfl) HB3.out (by rw [fsv_len rfl]; show 0 + 5 ≤ 11; decide) info30 HS.out.ones ?_; intro w8 B8 K8; rw [fsv_splice rfl rfl] at B8)
      | (guard_target = wpList _ _ _ (Oper.mk _ (Op.slice _ _ _ _ _) _ _ _ _ :: _) _ _; refine wpList_run rfl _ _ (exec_sliceAt 33 _ _ _ rfl (by rfl) (by rfl) (by rfl) (Hc3.out _)) ?_))
     have hsz := K8.size
     have hB6' := HB6.out.keep K8 (fun e => hne e.symm)
     have hS8 := (HS.out.stay HB3.out (by decide) (by decide) K8).later hsz
     have hK8 := HKK.out.own K8 (fun q e => by unfold Only at e; subst e; exact hb3w)
     have HF := hid (show _ ∧ _ ∧ _ ∧ _ from ⟨B8, hB6', hS8, hK8⟩)
     have HRn8 := hid (HRn.out.keep K8 (fun ad e hq => by injection e with e; subst e; unfold Only at hq; exact hgp (by rw [← Hcn.out.2.2, hq])))
     clear B8 hB6' hS8 hK8 K8
     go_roundw
     case rel => exact ⟨j + 1, D2, vl6, vr6, a3, cb - 64, by first | rfl | (congr 1; push_cast; omega), by omega, by rw [Hw2.out, Hez.out], by rw [HLn.out], Hcn.out, HRn8.out, HF.out.1, HF.out.2.1, HF.out.2.2.1, HF.out.2.2.2⟩
     case measure => simp [lenV]; omega
    ·have hezb : (E2 == 0) = false := by simpa using hez
     have hfin : D.writes k0 (packs b) = (D2, E2) := by rw [writes_take_stop (j := j + 1) (by rw [Hw2.out]; exact hez), Hw2.out]
     have Hfin := hid hfin
     clear hez hfin
     go_wp2_with (first
      | (guard_target = wpList _ _ _ (Oper.mk _ (Op.load 30 _) _ _ _ _ :: _) _ _; refine wpList_load_blk rfl 30 _ rfl b9 0 _ (stv vl6 vr6 D2) 30 _ (by rfl) HB9.out (part0 _) Try.underlying30 rfl info30 ?_)
      | (guard_target = wpList _ _ _ (Oper.mk _ (Op.store 30 _ _) _ _ _ _ :: _) _ _; refine wpList_store_part rfl 30 _ _ rfl b3 0 _ (stv vl6 vr6 D2) 68 (by rfl) (by rfl) HB3.out (by rw [fsv_len rfl]; show 0 + 5 ≤ 11; decide) info30 HS.out.ones ?_; intro w8 B8 K8; rw [fsv_splice rfl rfl] at B8; have B68 := HB6.out.keep K8 (fun e => hne e.symm))
      | (guard_target = wpList _ _ _ (Oper.mk _ (Op.load 68 _) _ _ _ _ :: _) _ _; refine wpList_load_blk rfl 68 _ rfl b3 0 _ (fsv (stv vl6 vr6 D2) seq slot area used vL vS) 68 _ (by rfl) B8 (part0 _) Try.underlying68 rfl (by rw [fsv_len rfl]; exact info68) ?_)
      | (guard_target = wpList _ _ _ (Oper.mk _ (Op.store 68 _ _) _ _ _ _ :: _) _ _; refine wpList_store_whole rfl 68 _ _ rfl b6 _ (fsv (stv vl6 vr6 D2) seq slot area used vL vS) 68 (by rfl) (by rfl) B68 (by rw [fsv_len rfl]; rfl) (by rw [fsv_len rfl]; exact info68) (fsv_ones _ _ _ _ HS.out.ones hL hS) ?_; intro w9 B99 K9))
     refine ret_cell_tmp rfl b6 _ 68 _ (.int .i64 E2) (by rfl) (by rfl) B99 Try.underlying68 rfl (by rw [fsv_len rfl]; exact info68) rfl ?_
     have hsz := K8.size
     have hsz9 := K9.size
     rw [Hfin.out]
     exact ⟨vl6, vr6, rfl, ((HS.out.stay HB3.out (by decide) (by decide) K8).stay B68 (by decide) (by decide) K9).later (by omega), (HKK.out.own K8 (fun q e => by unfold Only at e; subst e; exact hb3w)).own K9 (fun q e => by unfold Only at e; subst e; exact hb6w)⟩
  ·have hjm' : j = m := by omega
   subst hjm'
   have hz : decide (((64 * (j - j) : Nat) : Int) > 0) = false := by simp
   have hfin : D.writes k0 (packs b) = (Dk, 0) := by
    have := Hw.out
    rwa [List.take_of_length_le (by rw [packs_length, ← Hm.out]; exact Nat.le_refl _)] at this
   have Hfin := hid hfin
   rw [show 64 * (j - j) = 0 by omega]
   have HSr := hid hSr
   have HK0r := hid K0r
   clear hfin hz hRb hSr K0r hcb hcbm hadb
   go_wp2_with (first
    | (guard_target = wpList _ _ _ (Oper.mk _ (Op.load 68 _) _ _ _ _ :: _) _ _; refine wpList_load_blk rfl 68 _ rfl b3 0 _ (fsv (stv vlj vrj Dk) seq slot area used vL vS) 68 _ (by rfl) B3 (part0 _) Try.underlying68 rfl (by rw [fsv_len rfl]; exact info68) ?_)
    | (guard_target = wpList _ _ _ (Oper.mk _ (Op.store 68 _ _) _ _ _ _ :: _) _ _; refine wpList_store_whole rfl 68 _ _ rfl b6 _ (fsv (stv vlj vrj Dk) seq slot area used vL vS) 68 (by rfl) (by rfl) B6 (by rw [fsv_len rfl]; rfl) (by rw [fsv_len rfl]; exact info68) (fsv_ones _ _ _ _ HSr.out.ones hL hS) ?_; intro w9 B99 K9))
   refine ret_cell_tmp rfl b6 _ 68 _ (.int .i64 0) (by rfl) (by rfl) B99 Try.underlying68 rfl (by rw [fsv_len rfl]; exact info68) rfl ?_
   rw [Hfin.out]
   exact ⟨vlj, vrj, rfl, (HSr.out.stay B6 (by decide) (by decide) K9).later K9.size, HK0r.out.own K9 (fun q e => by unfold Only at e; subst e; exact hb6w)⟩
theorem numC_small' {b : List UInt8} (h : getN b < 1099511627776) : numC b = getN b := Nat.min_eq_left (by omega)
theorem numC_big' {b : List UInt8} (h : ¬ getN b < 1099511627776) : numC b = 1099511627776 := Nat.min_eq_right (by omega)
theorem maxF_num (n : Nat) (b : List UInt8) : maxF n [getN b] = if n < numC b ∧ numC b < 1099511627776 then numC b else n := by
 show (if getN b < 1099511627776 then max n (getN b) else n) = _
 by_cases h : getN b < 1099511627776
 ·rw [if_pos h, numC_small' h]
  split
  ·exact Nat.max_eq_right (by omega)
  ·exact Nat.max_eq_left (by omega)
 ·rw [if_neg h, if_neg (by rw [numC_big' h]; omega)]
theorem refNext_calls {w : World} {F : Nat → Prop} {vl vr : Value} {D : DS} (H : StAt w F vl vr D) (hok : D.ok) (hr : D.row.length ≤ 1099511627776) (h4 : 2 ≤ D.l.length) (seq slot area used : Int) (vL vS : Value) :
  Calls Try.prog 103 #[.agg (fsv (stv vl vr D) seq slot area used vL vS).toArray] w (fun e w' => e = .returned (.int .i64 (nextF D : Int)) ∧ Keep Noth w w') := by
 have hat := fun W (hW : Keep Noth w W) (k : Nat) (hk : k < D.l.length) => refAt_calls (H.keep hW (Dj.noth _)) hok hr k hk
 obtain ⟨SV, hSV⟩ : ∃ SV, SV = stv vl vr D := ⟨_, rfl⟩
 have hSl : SV.length = 5 := by rw [hSV]; rfl
 rw [← hSV] at hat ⊢
 obtain ⟨x0, x1, x2, x3, x4, rfl⟩ : ∃ x0 x1 x2 x3 x4, SV = [x0, x1, x2, x3, x4] := ⟨_, _, _, _, _, hSV⟩
 have Hat := hid hat
 have Hok := hid hok
 clear hat H hSV hSl hok
 go_enter Try.func103, Try.ntmps103
 go_wp2_with (first
  | (guard_target = wpList _ _ _ (Oper.mk _ (Op.box 68 _) _ _ _ _ :: _) _ _; refine wpList_box_v rfl 68 _ rfl (fsv [x0, x1, x2, x3, x4] seq slot area used vL vS) (by rfl) ?_; intro b1 w1 hb1 B1 K1))
 clear hb1
 go_loopw [3, 4] (fun nv kv wr => ∃ k : Nat, kv = .int .i64 k ∧ k ≤ 2 ∧ nv = .int .i64 (maxF 0 (pairs D k) : Int) ∧ BlockIs wr b1 (fsv [x0, x1, x2, x3, x4] seq slot area used vL vS) 68 ∧ Keep Noth w wr) (fun _ kv _ => 2 - (intOf kv).toNat)
 case atStart => exact ⟨0, rfl, by omega, rfl, B1, K1⟩
 case round =>
  obtain ⟨k, rfl, hk, rfl, X1, XK⟩ := hrel
  clear B1 K1
  by_cases hlt : k < 2
  ·have hlt' : (k : Int) < 2 := by omega
   have h64 := at_64 Hok.out k (by omega)
   have hps := pairs_succ D k
   obtain ⟨Bk, hBk⟩ : ∃ Bk, Bk = D.at k := ⟨_, rfl⟩
   rw [← hBk] at h64 hps
   have hat := Hat.out wr XK k (by omega)
   rw [← hBk] at hat
   obtain ⟨m0, hm0⟩ : ∃ m0, m0 = maxF 0 (pairs D k) := ⟨_, rfl⟩
   have hm0l : m0 < 1099511627776 := by rw [hm0]; exact maxF_lt _ _ (by decide)
   obtain ⟨m2, hm2⟩ : ∃ m2, m2 = maxF (maxF m0 [getN (Bk.take 8)]) [getN ((Bk.drop 32).take 8)] := ⟨_, rfl⟩
   have hps2 : maxF 0 (pairs D (k + 1)) = m2 := by rw [hps, maxF_app, ← hm0, hm2, ← maxF_app]; rfl
   obtain ⟨m1, hm1⟩ : ∃ m1, m1 = maxF m0 [getN (Bk.take 8)] := ⟨_, rfl⟩
   rw [← hm1] at hm2
   rw [maxF_num] at hm1 hm2
   obtain ⟨q1, hq1⟩ : ∃ q1, q1 = numC (Bk.take 8) := ⟨_, rfl⟩
   obtain ⟨q2, hq2⟩ : ∃ q2, q2 = numC ((Bk.drop 32).take 8) := ⟨_, rfl⟩
   have hq1l : q1 ≤ 1099511627776 := by rw [hq1]; exact numC_le _
   have hq2l : q2 ≤ 1099511627776 := by rw [hq2]; exact numC_le _
   rw [← hq1] at hm1
   rw [← hq2] at hm2
   rw [← hm0]
   have H64 := hid h64
   have Hps := hid hps2
   have Hq1 := hid hq1
   have Hq2 := hid hq2
   clear hps hps2 hBk hm0 h64 hq1 hq2
   have HM2 := hid hm2
   have HM1 := hid hm1
   clear hm2 hm1
   go_wp2_with (first
    | (guard_target = wpList _ _ _ (Oper.mk _ (Op.load 30 _) _ _ _ _ :: _) _ _; refine wpList_load_blk rfl 30 _ rfl b1 0 _ [x0, x1, x2, x3, x4] 68 _ (by rfl) X1 (fsv_dev _ rfl _ _ _ _ _ _) Try.underlying30 rfl info30 ?_))
   refine hat.mono ?_
   rintro e wa ⟨g, cb, rfl, hcb, hcm, XBy, Ka⟩
   clear hat
   have XB := Bytes.same_as XBy
   have HX1 := hid (X1.keep Ka id)
   have HK := hid (XK.trans Ka (fun _ _ h => h))
   have hcmI : (cb : Int) ≤ 9223372036854775807 := by unfold maxLen at hcm; omega
   have hcbI : (64 : Int) ≤ cb := by omega
   have hn8 := number_calls wa (some ⟨g, 0, none⟩) cb (Bk.take 8) (by have := XB.take 8; rwa [bv_take] at this) (by rw [List.length_take]; omega)
   have hn32 := number_calls wa (some ⟨g, 32, none⟩) (cb - 32) ((Bk.drop 32).take 8) (XB.part 8) (by rw [List.length_take]; omega)
   rw [show (Bk.take 8).length = 8 by rw [List.length_take, H64.out]; rfl, ← Hq1.out] at hn8
   rw [show ((Bk.drop 32).take 8).length = 8 by rw [List.length_take, List.length_drop, H64.out]; rfl, ← Hq2.out] at hn32
   clear X1 XK Ka XB XBy hcm
   go_wp2_with fail
   refine hn8.mono ?_
   rintro e w' ⟨rfl, rfl⟩
   clear hn8
   go_wp2_with fail
   refine hn32.mono ?_
   rintro e w' ⟨rfl, rfl⟩
   clear hn32
   have hm2 := HM2.out
   have hm1 := HM1.out
   clear HM2 HM1
   by_cases hn1 : m0 < q1
   ·by_cases hf1 : q1 < 1099511627776
    ·rw [if_pos ⟨hn1, hf1⟩] at hm1
     have hn1' : (m0 : Int) < q1 := by omega
     have hf1' : (q1 : Int) < 1099511627776 := by omega
     subst hm1
     by_cases hn2 : m1 < q2
     ·by_cases hf2 : q2 < 1099511627776
      ·rw [if_pos ⟨hn2, hf2⟩] at hm2
       have Hm2 := hid hm2
       clear hm2
       have hn2' : (m1 : Int) < q2 := by omega
       have hf2' : (q2 : Int) < 1099511627776 := by omega
       go_wp2_with fail
       go_roundw
       case rel => exact ⟨k + 1, by go_num, by omega, by rw [Hps.out, Hm2.out], HX1.out, HK.out⟩
       case measure => simp [intOf]; omega
      ·rw [if_neg (fun e => hf2 e.2)] at hm2
       have Hm2 := hid hm2
       clear hm2
       have hn2' : (m1 : Int) < q2 := by omega
       have hf2' : decide ((q2 : Int) < 1099511627776) = false := by simp; omega
       clear hf2
       go_wp2_with fail
       go_roundw
       case rel => exact ⟨k + 1, by go_num, by omega, by rw [Hps.out, Hm2.out], HX1.out, HK.out⟩
       case measure => simp [intOf]; omega
     ·rw [if_neg (fun e => hn2 e.1)] at hm2
      have Hm2 := hid hm2
      clear hm2
      have hn2' : ¬ ((m1 : Int) < q2) := by omega
      go_wp2_with fail
      go_roundw
      case rel => exact ⟨k + 1, by go_num, by omega, by rw [Hps.out, Hm2.out], HX1.out, HK.out⟩
      case measure => simp [intOf]; omega
    ·rw [if_neg (fun e => hf1 e.2)] at hm1
     have hn1' : (m0 : Int) < q1 := by omega
     have hf1' : decide ((q1 : Int) < 1099511627776) = false := by simp; omega
     clear hf1
     subst hm1
     by_cases hn2 : m1 < q2
     ·by_cases hf2 : q2 < 1099511627776
      ·rw [if_pos ⟨hn2, hf2⟩] at hm2
       have Hm2 := hid hm2
       clear hm2
       have hn2' : (m1 : Int) < q2 := by omega
       have hf2' : (q2 : Int) < 1099511627776 := by omega
       go_wp2_with fail
       go_roundw
       case rel => exact ⟨k + 1, by go_num, by omega, by rw [Hps.out, Hm2.out], HX1.out, HK.out⟩
       case measure => simp [intOf]; omega
      ·rw [if_neg (fun e => hf2 e.2)] at hm2
       have Hm2 := hid hm2
       clear hm2
       have hn2' : (m1 : Int) < q2 := by omega
       have hf2' : decide ((q2 : Int) < 1099511627776) = false := by simp; omega
       clear hf2
       go_wp2_with fail
       go_roundw
       case rel => exact ⟨k + 1, by go_num, by omega, by rw [Hps.out, Hm2.out], HX1.out, HK.out⟩
       case measure => simp [intOf]; omega
     ·rw [if_neg (fun e => hn2 e.1)] at hm2
      have Hm2 := hid hm2
      clear hm2
      have hn2' : ¬ ((m1 : Int) < q2) := by omega
      go_wp2_with fail
      go_roundw
      case rel => exact ⟨k + 1, by go_num, by omega, by rw [Hps.out, Hm2.out], HX1.out, HK.out⟩
      case measure => simp [intOf]; omega
   ·rw [if_neg (fun e => hn1 e.1)] at hm1
    have hn1' : ¬ ((m0 : Int) < q1) := by omega
    subst hm1
    by_cases hn2 : m1 < q2
    ·by_cases hf2 : q2 < 1099511627776
     ·rw [if_pos ⟨hn2, hf2⟩] at hm2
      have Hm2 := hid hm2
      clear hm2
      have hn2' : (m1 : Int) < q2 := by omega
      have hf2' : (q2 : Int) < 1099511627776 := by omega
      go_wp2_with fail
      go_roundw
      case rel => exact ⟨k + 1, by go_num, by omega, by rw [Hps.out, Hm2.out], HX1.out, HK.out⟩
      case measure => simp [intOf]; omega
     ·rw [if_neg (fun e => hf2 e.2)] at hm2
      have Hm2 := hid hm2
      clear hm2
      have hn2' : (m1 : Int) < q2 := by omega
      have hf2' : decide ((q2 : Int) < 1099511627776) = false := by simp; omega
      clear hf2
      go_wp2_with fail
      go_roundw
      case rel => exact ⟨k + 1, by go_num, by omega, by rw [Hps.out, Hm2.out], HX1.out, HK.out⟩
      case measure => simp [intOf]; omega
    ·rw [if_neg (fun e => hn2 e.1)] at hm2
     have Hm2 := hid hm2
     clear hm2
     have hn2' : ¬ ((m1 : Int) < q2) := by omega
     go_wp2_with fail
     go_roundw
     case rel => exact ⟨k + 1, by go_num, by omega, by rw [Hps.out, Hm2.out], HX1.out, HK.out⟩
     case measure => simp [intOf]; omega
  ·obtain rfl : k = 2 := by omega
   have hnp := nextF_pairs D
   obtain ⟨m, hm⟩ : ∃ m, m = maxF 0 (pairs D 2) := ⟨_, rfl⟩
   have hml : m < 1099511627776 := by rw [hm]; exact maxF_lt _ _ (by decide)
   rw [← hm] at hnp ⊢
   have Hnp := hid hnp
   clear hnp hm hk hlt
   go_wp2_with fail
   go_ret
   rw [Hnp.out]
   exact ⟨by push_cast; rfl, XK⟩
end Go.Proofs.Ytffcglfepobdjaa
