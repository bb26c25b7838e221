/- bytes.Repeat of one byte, 64 times. -/
import Derived.Test.YtffcglfepobdjaaC1
import Derived.Test.YtffcglfepobdjaaB4
import Derived.Lib.MakeNoZero
set_option linter.unusedVariables false
set_option linter.unusedSimpArgs false
set_option maxRecDepth 10000
set_option maxHeartbeats 1000000
namespace Go.Proofs.Ytffcglfepobdjaa
open Go.RowKit

theorem mul_calls (w : World) : Calls Try.prog 87 #[.int .u64 1, .int .u64 64] w (fun e w' => e = .returned (.tuple #[.int .u64 0, .int .u64 64]) ∧ w = w') := by
  go_enter Try.func87, Try.ntmps87
  go_wp2
  go_ret2
  exact ⟨rfl, rfl⟩

theorem repeat_calls (w : World) (A : Option Addr) (c : Nat) (hA : Reads w A (bv [7])) :
    Calls Try.prog 53 #[.slice A 1 c, .int .i64 64] w (fun e w' => ∃ b, e = .returned (.slice (some ⟨b, 0, none⟩) 64 64) ∧ w.heap.size ≤ b ∧ Reads w' (some ⟨b, 0, none⟩) (bv (List.replicate 64 7)) ∧ b < w'.heap.size ∧ Keep Noth w w') := by
  obtain ⟨cs, hrunM, hle, hmax⟩ := Lib.run_makeNoZero (P := Try.prog) w #[3] 33 5 sl33 64 (by omega)
  obtain ⟨W1, hW1⟩ : ∃ W1, W1 = w.drew.drew.alloc (.cells cs 5) := ⟨_, rfl⟩
  have hcall : (callFunc 88 #[.int .i64 64]).run Try.prog w = .ok (.value (.slice (some ⟨w.heap.size, 0, none⟩) 64 cs.size)) W1 := by
    rw [run_callFunc_extern Try.func88 (by kernel_rfl) (by kernel_rfl) (by kernel_rfl) (e := Extern.BytealgMakeNoZero.makeNoZero #[3] #[33]) (by kernel_rfl)]
    rw [show (64 : Int) = ((64 : Nat) : Int) from rfl, hrunM, hW1]
    rfl
  have B1 : BlockIs W1 w.heap.size cs.toList 5 := by rw [hW1]; have := BlockIs.new w.drew.drew cs.toList 5; simpa using this
  have K1 : Keep Noth w W1 := by rw [hW1]; exact ((Keep.refl _ _).drew.drew).alloc _
  obtain ⟨b, hb⟩ : ∃ b, b = w.heap.size := ⟨_, rfl⟩
  rw [← hb] at hcall B1
  have Hb := hid hb
  have hleI : (64 : Int) ≤ cs.size := by omega
  have hA1 := hid (hA.keep K1 (fun _ _ => id))
  have Hle := hid hle
  have hcl : 64 ≤ cs.toList.length := by simpa using hle
  have Hcl := hid hcl
  clear hrunM hW1 hb hA hle hmax hcl
  go_enter Try.func53, Try.ntmps53
  go_wp2_with (first | (go_at_call 87; refine (mul_calls _).mono ?_; rintro e w1 ⟨rfl, rfl⟩) | (refine wpList_copy_blk rfl _ _ 33 33 rfl 5 sl33 size5 b 0 A 64 64 1 c (by rfl) (by rfl) (bv [7]) cs.toList 5 B1 rfl hA1.out (by have := Hcl.out; simp [bv]; omega) (bv_one _) ?_; intro w2 B2 K2))
  have hz0 : (splice cs.toList 0 (bv [7])).length = cs.toList.length := length_splice _ _ _ (by have := Hcl.out; simp [bv]; omega)
  have hz1 : (splice cs.toList 0 (bv [7])).take 1 = List.replicate 1 (u8 7) := by simp [splice, bv]
  have Hz0 := hid hz0
  have Hz1 := hid hz1
  clear hz0 hz1
  go_loopw [10] (fun i wr => ∃ (j : Nat) (zs : List Value), i = .int .i64 j ∧ 1 ≤ j ∧ j ≤ 64 ∧ zs.length = cs.toList.length ∧ zs.take j = List.replicate j (u8 7) ∧ BlockIs wr b zs 5 ∧ Keep Noth w wr) (fun i _ => 64 - (intOf i).toNat)
  case atStart => exact ⟨1, _, rfl, by omega, by omega, Hz0.out, Hz1.out, B2, K1.trans K2 (fun i hi e => by have := Hb.out; unfold Only at e; omega)⟩
  case round =>
    obtain ⟨j, zs, rfl, hj1, hj64, hzl, hzt, HB, HK⟩ := hrel
    have Hzl := hid hzl
    have Hzt := hid hzt
    have HBh := hid HB
    clear hzl hzt B2 B1 HB
    by_cases hlt : j < 64
    · have hltI : (j : Int) < 64 := by omega
      have hj1I : (1 : Int) ≤ j := by omega
      go_wp2_with fail
      obtain ⟨m, hm⟩ : ∃ m : Nat, m = Nat.min j (64 - j) := ⟨_, rfl⟩
      have hm1 : 1 ≤ m ∧ j + m ≤ 64 ∧ m ≤ j := by have h2 : m = min j (64 - j) := hm; omega
      have hj64I : (j : Int) ≤ 64 := by omega
      have hmI : (j : Int) + (m : Int) ≤ 64 := by omega
      have Hm := hid hm
      clear hm
      have hR0 : Reads wr (some ⟨b, 0, none⟩) (List.replicate m (u8 7)) := by
        refine Reads.of_range (HBh.out.range 0 _ (fun q v hq => ?_))
        have hq' : q < m := by have := (List.getElem?_eq_some_iff.1 hq).1; simpa using this
        have e : List.replicate m (u8 7) = (zs.take j).take m := by rw [Hzt.out, List.take_replicate]; congr 1; omega
        rw [e, List.getElem?_take, if_pos hq', List.getElem?_take] at hq
        split at hq
        · rw [Nat.zero_add]; exact hq
        · cases hq
      have HR := hid hR0
      have hfit : j + m ≤ zs.length := by have := Hzl.out; have := Hcl.out; omega
      have Hfit := hid hfit
      clear hR0 hfit
      refine wp_region_ordL [(0, true), (1, true), (2, true), (3, true), (4, true), (5, true), (6, true), (7, false), (8, true), (9, false)] (fun _ => True) follows_mixed (by kernel_rfl) trivial ?_
      simp only [List.map_cons, List.map_nil, List.getElem?_cons_succ, List.getElem?_cons_zero, Option.getD_some]
      refine wpO_pure (v := .int .i64 (j : Int)) (by rfl) (fun w' hw' => by rfl) ?_
      go_frame
      refine wpO_pure (v := .slice (some ⟨b, 0, none⟩) 64 64) (by rfl) (fun w' hw' => by rfl) ?_
      go_frame
      refine wpO_pure (v := .int .i64 (j : Int)) (by rfl) (fun w' hw' => by rfl) ?_
      go_frame
      refine wpO_pure (v := .slice (some ⟨b, j, none⟩) (64 - j) (64 - j)) (by rfl) (fun w' hw' => by go_simp; omega) ?_
      go_frame
      refine wpO_pure (v := .slice (some ⟨b, 0, none⟩) 64 64) (by rfl) (fun w' hw' => by rfl) ?_
      go_frame
      refine wpO_pure (v := .int .i64 (j : Int)) (by rfl) (fun w' hw' => by rfl) ?_
      go_frame
      refine wpO_pure (v := .slice (some ⟨b, 0, none⟩) j 64) (by rfl) (fun w' hw' => by go_simp) ?_
      go_frame
      refine wpO_run (by rfl) (exec_copy _ _ 33 33 rfl (by simp [Act.eval]) (by simp [Act.eval]) (run_copy_any 33 33 3 5 (some ⟨b, j, none⟩) (some ⟨b, 0, none⟩) (64 - j) (64 - j) j 64 (List.replicate m (u8 7)) b j sl33 size5 (by rw [List.length_replicate]; exact Hm.out) (fun _ => rfl) (HR.out.keep ((Keep.refl Noth wr).drew) (fun _ _ => id)) (HBh.out.drew.there j _ (by rw [List.length_replicate]; exact Hfit.out)) (fun v hv => by rw [List.eq_of_mem_replicate hv]; rfl))) (.inr trivial) ?_
      go_frame
      refine wpO_pure (v := .int .i64 ((j : Int) + (m : Int))) (by rfl) (fun w' hw' => by simp only [goInt, List.length_replicate]; go_simp; exact IntWalk.i64_in _ (by omega)) ?_
      go_frame
      refine wpO_run (v := .int .i64 ((j : Int) + (m : Int))) (by rfl) (by rfl) (.inl rfl) ?_
      go_frame
      refine wpO_nil ?_
      have B3 : BlockIs (wr.drew.setCells b j (List.replicate m (u8 7))) b (splice zs j (List.replicate m (u8 7))) 5 := BlockIs.setCells _ _ _ _ HBh.out.drew (by rw [List.length_replicate]; exact Hfit.out)
      have K3 : Keep Noth w (wr.drew.setCells b j (List.replicate m (u8 7))) := HK.drew.trans (Keep.setCells (F := Only b) _ _ (Keep.refl _ _) (fun _ => rfl)) (fun i hi e => by have := Hb.out; unfold Only at e; omega)
      have hl3 : (splice zs j (List.replicate m (u8 7))).length = zs.length := length_splice _ _ _ (by rw [List.length_replicate]; exact Hfit.out)
      have ht3 : (splice zs j (List.replicate m (u8 7))).take (j + m) = List.replicate (j + m) (u8 7) := by
        unfold splice
        rw [← List.append_assoc, List.take_append_of_le_length (by rw [List.length_append, List.length_replicate, List.length_take]; have := Hfit.out; omega), List.take_of_length_le (by rw [List.length_append, List.length_replicate, List.length_take]; omega), Hzt.out, List.replicate_append_replicate]
      have HB3 := hid B3
      have Hl3 := hid (hl3.trans Hzl.out)
      have Ht3 := hid ht3
      generalize hw3 : wr.drew.setCells b j (List.replicate m (u8 7)) = w3 at *
      have Hw3 := hid hw3
      clear hw3 B3 hl3 ht3
      go_wp2_with fail
      go_roundw
      case rel => exact ⟨j + m, _, by go_num, by omega, by omega, Hl3.out, Ht3.out, HB3.out, K3⟩
      case measure => simp [intOf]; omega
    · have hge : j = 64 := by omega
      subst hge
      go_wp2_with fail
      go_ret
      refine ⟨b, rfl, by have := Hb.out; omega, ?_, HBh.out.lt, HK⟩
      refine Reads.of_range (HBh.out.range 0 _ (fun q v hq => ?_))
      have e : bv (List.replicate 64 7) = zs.take 64 := by rw [Hzt.out]; unfold bv; rw [List.map_replicate]
      rw [e, List.getElem?_take] at hq
      split at hq
      · rw [Nat.zero_add]; exact hq
      · cases hq
end Go.Proofs.Ytffcglfepobdjaa
