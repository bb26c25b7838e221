/- BlockImages: the walk. -/
import Derived.Test.YtffcglfepobdjaaG7
import Derived.Test.YtffcglfepobdjaaH1
import Derived.Test.YtffcglfepobdjaaC6
set_option linter.unusedVariables false
set_option linter.unusedSimpArgs false
set_option maxRecDepth 10000
set_option maxHeartbeats 1500000
namespace Go.Proofs.Ytffcglfepobdjaa
open Go.RowKit

section
variable {P : Program} {ops : Array Oper} {rest : List Oper} {o : Oper} {a : Act} {w : World} {Q : Exit → Act → World → Prop}
/-- 'wpList_run' behind a guard that says yes. -/
theorem wpList_run_w (hw : Region.wanted o (yielded ops a.tmps) = true) (v : Value) (w1 : World) (hr : (execOp a.eval o).run P w = .ok (.value v) w1) (h : wpList P ops Q rest (a.put o.dst v) w1) : wpList P ops Q (o :: rest) a w := by
  refine BigFrame.wpList_want hw fun K' hK' => ?_
  unfold Oper.wp
  rw [hr]
  exact hK' _ _ h
theorem wpList_loadw_blk (hw : Region.wanted o (yielded ops a.tmps) = true) (ty : TypeId) (x : Operand) (ho : o.op = .load ty x) (b k : Nat) (zs cs : List Value) (t : TypeId) (d : TypeDesc) {z : Option Value} {bytes : Nat}
    (hx : a.eval x = .pointer (some ⟨b, k, none⟩)) (hb : BlockIs w b zs t) (hc : ∀ j v, cs[j]? = some v → zs[k + j]? = some v)
    (hu : P.underlying ty = some d) (hd : d.isRow = true) (hi : (P.info? ty).map (fun i => (i.zero, i.size, i.bytes)) = some (z, cs.length, bytes))
    (h : wpList P ops Q rest (a.put o.dst (.agg cs.toArray)) w) : wpList P ops Q (o :: rest) a w :=
  wpList_run_w hw _ _ (exec_load_blk ty x ho b k zs cs t d hx hb hc hu hd hi) h
end
theorem Rows.cap_le {w : World} {F : Nat → Prop} {e : TypeId} {size : Nat} {A : Option Addr} {n c : Nat} {xs : List (List Value)} (h : Rows w F e size (.slice A n c) xs) : xs.length ≤ c := by
  rcases h.own.2 with ⟨hv, h0⟩ | ⟨g, cap, cur, hv, _, _, h1, _⟩
  · omega
  · simp only [Value.slice.injEq] at hv
    omega

theorem images_calls (w : World) (A : Option Addr) (c : Nat) (im : List UInt8) (hA : Reads w A (bv im)) (hc : im.length ≤ c) (hcm : c ≤ maxLen) :
    Calls Try.prog 8 #[.slice A im.length c] w (fun e w' => e = .returned (.bool true) ∧ Keep Noth w w') := by
  by_cases hbig : 3000 < im.length
  · have hb' : (3000 : Int) < im.length := by omega
    go_enter Try.func8, Try.ntmps8
    go_wp2_with (go_at_call 16; refine (alive_calls w).mono ?_; rintro e w12 ⟨rfl, K12⟩)
    go_ret
    exact ⟨rfl, K12⟩
  · have hl : im.length ≤ 3000 := by omega
    have hb' : ¬ (3000 : Int) < im.length := by omega
    have hok := of_ok im
    have HA := hid hA
    obtain ⟨D, hD⟩ : ∃ D, D = DS.of im := ⟨_, rfl⟩
    have hrow : D.row.length ≤ 1099511627776 := by rw [hD]; exact Nat.zero_le _
    have hpre := of_prefix im (by omega)
    have hagain := of_again im
    have hlen := of_image_length im
    have hN : ofN im ≤ 4096 := ofN_most im
    have h1 := of_calls0 w A c im hA (by omega) hc
    rw [← hD] at hok hpre hagain hlen h1
    have Hpre := hid hpre
    have Hagain := hid hagain
    have Hlen := hid hlen
    have HD := hid hD
    clear hA hpre hagain hlen hD
    go_enter Try.func8, Try.ntmps8
    go_wp2_with fail
    refine h1.mono ?_
    rintro e w1 ⟨g, rfl, D1, K1⟩
    clear h1
    have h2 := st_of w1 A c im (HA.out.keep K1 (fun _ _ => id)) (by omega)
    rw [← HD.out] at h2
    go_wp2_with fail
    refine h2.mono ?_
    rintro e w2 ⟨vl, rfl, S2, K2⟩
    clear h2
    have D2 := D1.keep K2 (Dj.noth _)
    clear D1
    obtain ⟨sv, hsv⟩ : ∃ sv, sv = stv vl (.slice none 0 0) D := ⟨_, rfl⟩
    have Hsl : Hid (sv.length = 5) := by show _ = _; rw [hsv]; rfl
    have Hs1 : Hid (∀ u ∈ sv, u.oneCell' = true) := by show ∀ u ∈ sv, _; rw [hsv]; exact stv_one D S2.l.one_val.1 rfl
    rw [← hsv]
    have Hsv := hid hsv
    clear hsv
    go_wp2_with (first
      | (guard_target = wpList _ _ _ (Oper.mk _ (Op.alloc _) _ _ _ _ :: _) _ _; refine wpList_alloc_v rfl 30 rfl zst info30 stz zst_cells ?_; intro b4 w3 hb4 B3 K3)
      | (guard_target = wpList _ _ _ (Oper.mk _ (Op.store _ _ _) _ _ _ _ :: _) _ _; refine wpList_store_whole rfl 30 _ _ rfl b4 stz sv 30 (by rfl) (by rfl) B3 (by rw [Hsl.out]; rfl) (by rw [Hsl.out]; exact info30) Hs1.out ?_; intro w4 B4 K4)
      | (guard_target = wpList _ _ _ (Oper.mk _ (Op.load 30 _) _ _ _ _ :: _) _ _; refine wpList_loadw_blk (by rfl) 30 _ rfl b4 0 sv sv 30 _ (by rfl) B4 (part0 _) Try.underlying30 rfl (by rw [Hsl.out]; exact info30) ?_))
    have K24 : Keep Noth w2 w4 := K3.own K4 (fun q e => by unfold Only at e; subst e; exact hb4)
    have D4 := D2.keep K24 (Dj.noth _)
    have S4 := S2.keep K24 (Dj.noth _)
    have K04 : Keep Noth w w4 := (K1.trans K2 (fun _ _ h => h)).trans K24 (fun _ _ h => h)
    clear D2 S2 K3 K4 K24 K1 K2 B3
    have h3 := st_stands D4 S4 hok hrow
    rw [← Hsv.out] at h3
    refine h3.mono ?_
    rintro e w5 ⟨rfl, K5⟩
    clear h3
    have D5 := D4.keep K5 (Dj.noth _)
    have S5 := S4.keep K5 (Dj.noth _)
    have B5 := B4.keep K5 id
    have K05 : Keep Noth w w5 := K04.trans K5 (fun _ _ h => h)
    clear D4 S4 B4 K5 K04
    obtain ⟨vl5, vr5, A5⟩ := D5
    go_wp2_with fail
    refine (image_calls A5 hok hrow).mono ?_
    rintro e w6 ⟨vi, rfl, I6, K6⟩
    obtain ⟨Ai, ci, rfl⟩ := I6.valm
    have hci := I6.cap_le
    rw [u1_length] at hci
    have D6 : DevIs w6 _ g D := DevIs.keep ⟨_, _, A5⟩ K6 (Dj.noth _)
    have S6 := S5.keep K6 (Dj.noth _)
    have B6 := B5.keep K6 id
    have K06 : Keep Noth w w6 := K05.trans K6 (fun _ _ h => h)
    have hle : im.length ≤ D.image.length := by have h9 := congrArg List.length Hpre.out; rw [List.length_take] at h9; omega
    have hpf := hasPrefix_calls w6 Ai A D.image.length im.length ci c D.image im rfl rfl (Bytes.same_as I6) (HA.out.keep K06 (fun _ _ => id)) hle hci (by rw [Hlen.out]; omega)
    rw [Hpre.out, show (im == im) = true by simp] at hpf
    go_wp2_with fail
    refine hpf.mono ?_
    rintro e w' ⟨rfl, rfl⟩
    clear hpf I6 hci A5 S5 B5 K05 K6
    obtain ⟨vl6, vr6, A6⟩ := D6
    go_wp2_with fail
    refine (image_calls A6 hok hrow).mono ?_
    rintro e w7 ⟨vj, rfl, I7, K7⟩
    obtain ⟨Aj, cj, rfl⟩ := I7.valm
    have hcj := I7.cap_le
    rw [u1_length] at hcj
    have S7 := S6.keep K7 (Dj.noth _)
    have B7 := B6.keep K7 id
    have K07 : Keep Noth w w7 := K06.trans K7 (fun _ _ h => h)
    have h4 := of_calls0 w7 Aj cj D.image (Bytes.same_as I7) (by rw [Hlen.out]; omega) hcj
    rw [Hagain.out] at h4
    clear A6 S6 B6 K06 K7 I7 hcj
    go_wp2_with fail
    refine h4.mono ?_
    rintro e w8 ⟨ge, rfl, D8, K8⟩
    clear h4
    have S8 := S7.keep K8 (Dj.noth _)
    have B8 := B7.keep K8 id
    have K08 : Keep Noth w w8 := K07.trans K8 (fun _ _ h => h)
    clear S7 B7 K07 K8
    go_wp2_with fail
    refine (alive_calls w8).mono ?_
    rintro e w9 ⟨rfl, K9⟩
    have D9 := D8.keep K9 (Dj.noth _)
    have S9 := S8.keep K9 (Dj.noth _)
    have B9 := B8.keep K9 id
    have K09 : Keep Noth w w9 := K08.trans K9 (fun _ _ h => h)
    clear D8 S8 B8 K08 K9
    go_wp2_with (guard_target = wpList _ _ _ (Oper.mk _ (Op.load 30 _) _ _ _ _ :: _) _ _; refine wpList_loadw_blk (by rfl) 30 _ rfl b4 0 sv sv 30 _ (by rfl) B9 (part0 _) Try.underlying30 rfl (by rw [Hsl.out]; exact info30) ?_)
    have h5 := st_stands D9 S9 hok hrow
    rw [← Hsv.out] at h5
    refine h5.mono ?_
    rintro e w10 ⟨rfl, K10⟩
    have K010 : Keep Noth w w10 := K09.trans K10 (fun _ _ h => h)
    clear h5 D9 S9 B9 K09 K10
    go_wp2_with fail
    go_ret
    exact ⟨rfl, K010⟩
end Go.Proofs.Ytffcglfepobdjaa
