/- quiltworklaw11.RollAgain (f14). -/
import Derived.Test.YtffcglfepobdjaaX6
set_option linter.unusedVariables false
set_option linter.unusedSimpArgs false
set_option maxRecDepth 100000
set_option maxHeartbeats 2000000
namespace Go.Proofs.Ytffcglfepobdjaa
open Go.RowKit
theorem ragain_calls (w : World) (A : Option Addr) (c : Nat) (im : List UInt8) (hA : Reads w A (bv im)) (hil : im.length ≤ 1099511627776) (A1 : Option Addr) (c1 : Nat) (xs : List ROpC) (hS : RScript w (fun q => q < w.heap.size) A1 xs) (hsz : rsSize xs + xs.length ≤ 1048576)
  (A2 : Option Addr) (c2 : Nat) (fs : List Int) (hR2 : Reads w A2 (ints fs)) (hfs : ∀ z ∈ fs, -9223372036854775808 ≤ z ∧ z ≤ 9223372036854775807) (hfl : fs.length ≤ 1048576) :
  Calls Try.prog 14 #[.slice A im.length c, .slice A1 xs.length c1, .slice A2 fs.length c2] w (fun e w' => e = .returned (.bool true) ∧ Keep Noth w w') := by
 have hfc := rfew_calls w A1 c1 xs hS hsz
 obtain ⟨fw, hfw⟩ : ∃ fw, fw = decide (xs.length ≤ 24 ∧ rsSize xs ≤ 9000) := ⟨_, rfl⟩
 rw [← hfw] at hfc
 have HA := hid hA
 have HS := hid hS
 have HR2 := hid hR2
 have Hfs := hid hfs
 have Hfw := hid hfw
 have hilI : (im.length : Int) ≤ 1099511627776 := by omega
 have hflI : (fs.length : Int) ≤ 1048576 := by omega
 clear hA hS hR2 hfs hfw
 go_enter Try.func14, Try.ntmps14
 go_wp2_with fail
 refine hfc.mono ?_
 rintro e w1 ⟨rfl, K1⟩
 have HK1 := hid K1
 clear hfc K1
 cases fw with
 | false =>
  go_wp2_with fail
  refine (ralive_calls _).mono ?_
  rintro e wz ⟨rfl, Kz⟩
  have HKz := hid ((HK1.out).trans Kz (fun _ _ h => h))
  clear Kz
  go_wp2_with fail
  go_ret
  exact ⟨rfl, HKz.out⟩
 | true =>
 have hx24 : xs.length ≤ 24 ∧ rsSize xs ≤ 9000 := of_decide_eq_true Hfw.out.symm
 by_cases g2 : 3000 < im.length
 ·have g2' : decide ((im.length : Int) > 3000) = true := by simp; omega
  go_wp2_with fail
  refine (ralive_calls _).mono ?_
  rintro e wz ⟨rfl, Kz⟩
  have HKz := hid ((HK1.out).trans Kz (fun _ _ h => h))
  clear Kz
  go_wp2_with fail
  go_ret
  exact ⟨rfl, HKz.out⟩
 have g2' : decide ((im.length : Int) > 3000) = false := by simp; omega
 by_cases g3 : 100 < fs.length
 ·have g3' : decide ((fs.length : Int) > 100) = true := by simp; omega
  go_wp2_with fail
  refine (ralive_calls _).mono ?_
  rintro e wz ⟨rfl, Kz⟩
  have HKz := hid ((HK1.out).trans Kz (fun _ _ h => h))
  clear Kz
  go_wp2_with fail
  go_ret
  exact ⟨rfl, HKz.out⟩
 have g3' : decide ((fs.length : Int) > 100) = false := by simp; omega
 have hbg := begin_calls w1 A c im (HA.out.keep HK1.out (fun _ _ => id)) hil 16
 obtain ⟨D0, hD0, hok0, hfour0, hrow0, hops0, hcalm0⟩ := start_facts im
 rw [← hD0] at hbg
 clear hD0
 go_wp2_with fail
 refine hbg.mono ?_
 rintro e w2 ⟨bw, g, r, F, G, rfl, X2⟩
 have HX2 := hid X2
 obtain ⟨vl, vr, A', a', B', b', gS, -, -, -, -, gB⟩ := X2.ref
 rw [openS_D] at gS gB
 have HL := hid (refLoose_calls gS hok0 (by rw [hrow0]; exact Nat.zero_le _) hfour0)
 have hSA := HS.out.keep HK1.out
 have HSA := hid (hSA.mono (fun q hq => Nat.lt_of_lt_of_le hq HK1.out.size) : RScript w1 (fun q => q < w1.heap.size) A1 xs)
 clear hbg X2 gS hSA
 go_wp2_with (first
  | (guard_target = wpList _ _ _ (Oper.mk _ (Op.load 30 _) _ _ _ _ :: _) _ _; refine wpList_load_blk rfl 30 _ rfl bw 2 _ (stv vl vr D0) 70 _ (by rfl) gB (wx_stv _ _ _ _ _ _) Try.underlying30 rfl info30 ?_))
 refine HL.out.mono ?_
 rintro e w3 ⟨B, rfl, hB, K3⟩
 have HX3 := hid (HX2.out.keep K3)
 clear HL gB HX2 K3
 cases B with
 | true =>
  go_wp2_with fail
  refine (ralive_calls _).mono ?_
  rintro e wz ⟨rfl, Kz⟩
  have HKz := hid ((HK1.out.trans HX3.out.kept (fun _ _ h => h)).trans Kz (fun _ _ h => h))
  clear Kz
  go_wp2_with fail
  go_ret
  exact ⟨rfl, HKz.out⟩
 | false =>
 have hinv0 := inv_start hok0 hfour0 hrow0 (hB rfl)
 have Hinv0 := hid hinv0
 have Hc0 := hid (show Calm (openS D0).D ∧ (openS D0).D.ops = 0 ∧ (openS D0).D.row.length = 0 from by rw [openS_D, hrow0]; exact ⟨hcalm0, hops0, rfl⟩)
 clear hB hinv0 hok0 hfour0 hrow0 hops0 hcalm0
 go_wp2_with fail
 go_loopw [42] (fun i wr => ∃ (k : Nat) (S : RS) (F' G' : Nat → Prop) (r' : Nat), i = .int .i64 k ∧ k ≤ xs.length ∧ WX w1 wr F' G' bw g r' S S ∧ S.inv ∧ Calm S.D ∧ S.D.ops ≤ 2100 * k ∧ S.D.row.length ≤ 2100 * k) (fun i _ => xs.length - (intOf i).toNat)
 case atStart => exact ⟨0, openS D0, F, G, r, rfl, Nat.zero_le _, HX3.out, Hinv0.out, Hc0.out.1, by rw [Hc0.out.2.1]; omega, by rw [Hc0.out.2.2]; omega⟩
 case round =>
  obtain ⟨k, S, F', G', r', rfl, hk, X, hI, hC, hops, hrow⟩ := hrel
  have HX := hid X
  have HI := hid hI
  have HC := hid hC
  clear X hI hC HX3
  by_cases hlt : k < xs.length
  ·have hlt' : (k : Int) < xs.length := by omega
   obtain ⟨g0, o, hAo, hrange, hg⟩ := (HSA.out.keep HX.out.kept).cells.where (rop_pos xs (by omega))
   obtain ⟨x, hx⟩ : ∃ x, x = xs[k] := ⟨_, rfl⟩
   have hxm : x ∈ xs := by rw [hx]; exact List.getElem_mem hlt
   have hxs := rsSize_mem hxm
   have Hon := hid (HSA.out.each x hxm)
   have hxc : (xs.map ROpC.cells)[k]'(by rw [List.length_map]; exact hlt) = x.cells := by rw [List.getElem_map, ← hx]
   have Hr := hid hrange
   have Hxc := hid hxc
   subst hAo
   clear hrange hxc hx hxm
   by_cases k4 : x.kind = 4
   ·have e4 : (x.kind != 4) = false := by rw [k4]; rfl
    clear k4
    go_wp2_with (first
     | (guard_target = wpList _ _ _ (Oper.mk _ (Op.load 88 _) _ _ _ _ :: _) _ _; refine wpList_load_elem rfl 88 _ rfl 5 g0 o (xs.map ROpC.cells) k _ x.cells _ Hr.out (rop_each xs) (by rw [List.length_map]; exact hlt) Hxc.out rfl (by rfl) Try.underlying88 rfl size88 ?_)
     | (guard_target = wpList _ _ _ (Oper.mk _ (Op.alloc 88) _ _ _ _ :: _) _ _; refine wpList_alloc_v rfl 88 rfl (.agg zrop.toArray) info88 zrop zrop_cells ?_; intro b9 w4 hb9 B9 K4)
     | (guard_target = wpList _ _ _ (Oper.mk _ (Op.store 88 _ _) _ _ _ _ :: _) _ _; refine wpList_store_whole rfl 88 _ _ rfl b9 _ x.cells 88 (by rfl) (by rfl) B9 rfl info88 (rop_ones x) ?_; intro w5 B10 K5; have c0 : w5.cell? ⟨b9, 0, none⟩ = some (.int .i64 x.kind) := B10.cell 0)
     | (guard_target = wpList _ _ _ (Oper.mk _ (Op.load 88 _) _ _ _ _ :: _) _ _; refine wpList_load_blk rfl 88 _ rfl b9 0 _ x.cells 88 _ (by rfl) B10 (part0 _) Try.underlying88 rfl info88 ?_))
    have K35 : Keep Noth wr w5 := K4.own K5 (fun q e => by unfold Only at e; subst e; exact hb9)
    have HX5 := hid (HX.out.keep K35)
    clear B9 K4 K5 K35 hb9 HX
    go_roundw
    case rel => exact ⟨k + 1, S, F', G', r', by go_num, hlt, HX5.out, HI.out, HC.out, by omega, by omega⟩
    case measure => simp [intOf]; omega
   have e4 : (x.kind != 4) = true := by simpa using k4
   by_cases k5 : x.kind = 5
   ·have e5 : (x.kind != 5) = false := by rw [k5]; rfl
    clear k5
    go_wp2_with (first
     | (guard_target = wpList _ _ _ (Oper.mk _ (Op.load 88 _) _ _ _ _ :: _) _ _; refine wpList_load_elem rfl 88 _ rfl 5 g0 o (xs.map ROpC.cells) k _ x.cells _ Hr.out (rop_each xs) (by rw [List.length_map]; exact hlt) Hxc.out rfl (by rfl) Try.underlying88 rfl size88 ?_)
     | (guard_target = wpList _ _ _ (Oper.mk _ (Op.alloc 88) _ _ _ _ :: _) _ _; refine wpList_alloc_v rfl 88 rfl (.agg zrop.toArray) info88 zrop zrop_cells ?_; intro b9 w4 hb9 B9 K4)
     | (guard_target = wpList _ _ _ (Oper.mk _ (Op.store 88 _ _) _ _ _ _ :: _) _ _; refine wpList_store_whole rfl 88 _ _ rfl b9 _ x.cells 88 (by rfl) (by rfl) B9 rfl info88 (rop_ones x) ?_; intro w5 B10 K5; have c0 : w5.cell? ⟨b9, 0, none⟩ = some (.int .i64 x.kind) := B10.cell 0)
     | (guard_target = wpList _ _ _ (Oper.mk _ (Op.load 88 _) _ _ _ _ :: _) _ _; refine wpList_load_blk rfl 88 _ rfl b9 0 _ x.cells 88 _ (by rfl) B10 (part0 _) Try.underlying88 rfl info88 ?_))
    have K35 : Keep Noth wr w5 := K4.own K5 (fun q e => by unfold Only at e; subst e; exact hb9)
    have HX5 := hid (HX.out.keep K35)
    clear B9 K4 K5 K35 hb9 HX
    go_roundw
    case rel => exact ⟨k + 1, S, F', G', r', by go_num, hlt, HX5.out, HI.out, HC.out, by omega, by omega⟩
    case measure => simp [intOf]; omega
   have e5 : (x.kind != 5) = true := by simpa using k5
   have hdc := does_calm HI.out HC.out x
   have hdg := does_grow HI.out.good.dok x
   have Hdc := hid hdc
   clear hdc
   go_wp2_with (first
    | (guard_target = wpList _ _ _ (Oper.mk _ (Op.load 88 _) _ _ _ _ :: _) _ _; refine wpList_load_elem rfl 88 _ rfl 5 g0 o (xs.map ROpC.cells) k _ x.cells _ Hr.out (rop_each xs) (by rw [List.length_map]; exact hlt) Hxc.out rfl (by rfl) Try.underlying88 rfl size88 ?_)
    | (guard_target = wpList _ _ _ (Oper.mk _ (Op.alloc 88) _ _ _ _ :: _) _ _; refine wpList_alloc_v rfl 88 rfl (.agg zrop.toArray) info88 zrop zrop_cells ?_; intro b9 w4 hb9 B9 K4)
    | (guard_target = wpList _ _ _ (Oper.mk _ (Op.store 88 _ _) _ _ _ _ :: _) _ _; refine wpList_store_whole rfl 88 _ _ rfl b9 _ x.cells 88 (by rfl) (by rfl) B9 rfl info88 (rop_ones x) ?_; intro w5 B10 K5; have c0 : w5.cell? ⟨b9, 0, none⟩ = some (.int .i64 x.kind) := B10.cell 0)
    | (guard_target = wpList _ _ _ (Oper.mk _ (Op.load 88 _) _ _ _ _ :: _) _ _; refine wpList_load_blk rfl 88 _ rfl b9 0 _ x.cells 88 _ (by rfl) B10 (part0 _) Try.underlying88 rfl info88 ?_))
   have K35 : Keep Noth wr w5 := K4.own K5 (fun q e => by unfold Only at e; subst e; exact hb9)
   have HX5 := hid (HX.out.keep K35)
   clear B9 K4 K5 K35 hb9 HX
   have hst := step_calls HX5.out HI.out.good HI.out.good HI.out.morem ⟨by omega, by omega, by omega, by omega⟩ x Hon.out (by omega) ⟨k4, k5⟩ (fun _ => ⟨rfl, HC.out.down⟩)
   refine hst.mono ?_
   rintro e w6 ⟨B, F6, G6, r6, rfl, X6, -, -, -⟩
   have HX6 := hid X6
   clear hst X6 HX5 B10 c0
   go_wp2_with fail
   go_roundw
   case rel => exact ⟨k + 1, S.does x, F6, G6, r6, by go_num, hlt, HX6.out, Hdc.out.1, Hdc.out.2, by omega, by omega⟩
   case measure => simp [intOf]; omega
  ·have hge : k = xs.length := by omega
   subst hge
   clear hlt hk
   have hdn := HC.out.down
   have hfour := HI.out.good.four
   have hdok := HI.out.good.dok
   have c1r := HX.out.cells.2
   obtain ⟨va, vs, Ar⟩ := HX.out.rollx
   have hrec := records_calls Ar HI.out.good.ok
   clear Ar
   go_wp2_with fail
   refine hrec.mono ?_
   rintro e w4 ⟨v4, rfl, RC, K4⟩
   obtain ⟨A4, c4, rfl⟩ := RC.val
   have HX4 := hid (HX.out.keep K4)
   have HRC := hid RC.reads
   have HK4 := hid K4
   have c0r := HX4.out.cells.1
   obtain ⟨va, vs, Ar⟩ := HX4.out.rollx
   obtain ⟨vd, ve, D5⟩ := Ar.dev
   have hcp := copy_calls D5 hdok (by omega)
   clear hrec RC K4 c1r Ar D5
   go_wp2_with fail
   refine hcp.mono ?_
   rintro e w5 ⟨gn, rfl, D6, K5⟩
   obtain ⟨vf, vg, D6⟩ := D6
   have hop := open_ok D6 hdn hdok (by omega) hfour
   have HK5 := hid K5
   clear hcp c0r D6 K5
   go_wp2_with fail
   refine hop.mono ?_
   rintro e w6 ⟨r6, rfl, -, ⟨vl6, vs6, R6⟩, K6⟩
   obtain ⟨S6, hS6⟩ : ∃ S6, S6 = openS S.D := ⟨_, rfl⟩
   rw [← hS6] at R6
   have HS6 := hid (show S6.l = S.l ∧ S6.ok ∧ S.l.length ≤ 4294967296 from ⟨by rw [hS6, HI.out.again], by rw [hS6]; exact (openS_good hdok hfour).ok, HI.out.good.ok.ll⟩)
   have HX6 := hid ((HX4.out.keep HK5.out).keep K6)
   have HR6 := hid R6
   have HK6 := hid (HK5.out.trans K6 (fun _ _ h => h))
   have hs5 := HK5.out.size
   have hs6 := K6.size
   have hs4 := HK4.out.size
   have c0r := HX6.out.cells.1
   obtain ⟨va, vs, Ar⟩ := HX6.out.rollx
   obtain ⟨vd, ve, D7⟩ := Ar.dev
   have hs1 := HK1.out.size
   have hcr := crash_calls D7 hdok (by omega) A2 c2 fs (HR2.out.keep (HK1.out.trans HX6.out.kept (fun _ _ h => h)) (fun _ _ => id)) (fun ad e hne hF => by have h1 := HR2.out.ints_lt ad e hne; have h2 := HX6.out.low _ hF; omega) (by omega) Hfs.out
   clear hop R6 K6 hS6 Ar D7
   go_wp2_with fail
   refine hcr.mono ?_
   rintro e w7 ⟨rfl, D7, K7⟩
   obtain ⟨E7, hE7⟩ : ∃ E7, E7 = S.D.crash fs := ⟨_, rfl⟩
   have HE7 := hid (show E7.ok ∧ E7.down = false ∧ E7.row.length = 0 ∧ 4 ≤ E7.l.length ∧ (openS E7).l = S.l from by rw [hE7]; exact ⟨crash_ok hdok fs, rfl, rfl, by rw [crash_len]; exact hfour, by rw [HI.out.crash fs]⟩)
   rw [← hE7] at D7
   obtain ⟨vd, ve, D7⟩ := D7
   have c0s := K7.cellAt HX6.out.nbF HX6.out.cells.1
   have hop := open_ok D7 HE7.out.2.1 HE7.out.1 (by rw [HE7.out.2.2.1]; exact Nat.zero_le _) HE7.out.2.2.2.1
   have HF7 := hid (HX6.out.rlt)
   have dF : ∀ q, wr.heap.size ≤ q → ¬ F' q := fun q hq e => by have := HX.out.rlt q e; omega
   have HR7 := hid (HR6.out.keep K7 (fun q hq e => dF q (by rcases hq with hq | hq; (have := hq.1; omega); (have := hq.1; omega)) e))
   have HRC7 := hid ((HRC.out.keep HK6.out (Dj.noth _)).keep K7 (fun q hq e => dF q hq.1 e))
   have HKp := hid (HX6.out.kept.own K7 HX6.out.low)
   clear hcr c0r hE7 D7 K7 dF
   go_wp2_with fail
   refine hop.mono ?_
   rintro e w8 ⟨r8, rfl, -, ⟨vl8, vs8, R8⟩, K8⟩
   obtain ⟨S8, hS8⟩ : ∃ S8, S8 = openS E7 := ⟨_, rfl⟩
   rw [← hS8] at R8
   have HS8 := hid (show S8.l = S.l ∧ S8.ok from ⟨by rw [hS8]; exact HE7.out.2.2.2.2, by rw [hS8]; exact (openS_good HE7.out.1 HE7.out.2.2.2.1).ok⟩)
   have HR8 := hid R8
   have HK8 := hid K8
   clear hop hS8 R8 K8 c0s
   go_wp2_with fail
   refine (ralive_calls w8).mono ?_
   rintro e w9 ⟨rfl, K9⟩
   have HK9 := hid (HK8.out.trans K9 (fun _ _ h => h))
   have HR89 := hid (HR8.out.keep K9 (Dj.noth _))
   have hrec := records_calls (HR7.out.keep HK9.out (Dj.noth _)) HS6.out.2.1
   clear K9
   go_wp2_with fail
   refine hrec.mono ?_
   rintro e w10 ⟨v10, rfl, RC, K10⟩
   obtain ⟨A10, c10, rfl⟩ := RC.val
   have hsm := same_calls w10 _ _ A10 A4 c10 c4 S6.l S.l RC.reads ((HRC7.out.keep HK9.out (Dj.noth _)).keep K10 (Dj.noth _)) (by rw [HS6.out.1]; have := HS6.out.2.2; omega)
   rw [show (S6.l == S.l) = true by rw [HS6.out.1]; simp] at hsm
   have HK10 := hid (HK9.out.trans K10 (fun _ _ h => h))
   have HR810 := hid (HR89.out.keep K10 (Dj.noth _))
   clear hrec RC K10
   go_wp2_with fail
   refine hsm.mono ?_
   rintro e w11 ⟨rfl, K11⟩
   have hrec := records_calls (HR810.out.keep K11 (Dj.noth _)) HS8.out.2
   have HK11 := hid (HK10.out.trans K11 (fun _ _ h => h))
   clear hsm K11
   go_wp2_with fail
   refine hrec.mono ?_
   rintro e w12 ⟨v12, rfl, RC, K12⟩
   obtain ⟨A12, c12, rfl⟩ := RC.val
   have HK12 := hid (HK11.out.trans K12 (fun _ _ h => h))
   have hsm := same_calls w12 _ _ A12 A4 c12 c4 S8.l S.l RC.reads (HRC7.out.keep HK12.out (Dj.noth _)) (by rw [HS8.out.1]; have := HS6.out.2.2; omega)
   rw [show (S8.l == S.l) = true by rw [HS8.out.1]; simp] at hsm
   clear hrec RC K12
   go_wp2_with fail
   refine hsm.mono ?_
   rintro e w13 ⟨rfl, K13⟩
   have HK13 := hid ((HK1.out.trans HKp.out (fun _ _ h => h)).trans (HK12.out.trans K13 (fun _ _ h => h)) (fun _ _ h => h))
   clear hsm K13
   go_wp2_with fail
   go_ret
   exact ⟨rfl, HK13.out⟩
end Go.Proofs.Ytffcglfepobdjaa
