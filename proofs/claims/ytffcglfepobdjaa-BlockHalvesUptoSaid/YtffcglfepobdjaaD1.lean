/- BlockOwn: what is handed in and what is handed out is the caller's own. -/
import Derived.Test.YtffcglfepobdjaaC6
import Derived.Test.YtffcglfepobdjaaC1
set_option linter.unusedVariables false
set_option linter.unusedSimpArgs false
set_option maxRecDepth 10000
set_option maxHeartbeats 4000000
namespace Go.Proofs.Ytffcglfepobdjaa
open Go.RowKit

theorem clamp_one : clampN 1 = 1 := by rfl
def oD0 : DS := DS.new 1
def oD1 (b : List UInt8) : DS := (oD0.put 0 b).tick
theorem o_at (b : List UInt8) : (oD1 b).at 0 = fillz b := by rfl
theorem o_flat (b : List UInt8) : (oD1 b).flushed.at 0 = fillz b := by rfl
theorem o_ok0 : oD0.ok := new_ok 1 (by decide) (by decide)
theorem o_ok1 (b : List UInt8) (hb : b.length ≤ 64) : (oD1 b).ok := tick_ok (put_ok o_ok0 0 (by decide) b hb)
theorem fillz_take (b : List UInt8) (hb : b.length ≤ 64) : (fillz b).take b.length = b := by
  unfold fillz splice
  simp
theorem fillz_head (b : List UInt8) (hb : b.length ≤ 64) (h0 : 1 ≤ b.length) : ∃ x m, fillz b = x :: m := by
  have := fillz_length b hb
  cases h : fillz b with
  | nil => rw [h] at this; simp at this
  | cons x m => exact ⟨x, m, rfl⟩
theorem o_image (b : List UInt8) (hb : b.length ≤ 64) (h0 : 1 ≤ b.length) : (oD1 b).image = fillz b := by
  show (List.flatten [fillz b]) = _
  simp
/-- The first cell of bytes of one's own. -/
theorem Rows.first {w : World} {F : Nat → Prop} {v : Value} {x : UInt8} {m : List UInt8} (h : Rows w F 5 1 v (u1 (x :: m))) :
    ∃ q cap, v = .slice (some ⟨q, 0, none⟩) (m.length + 1) cap ∧ F q ∧ w.cell? ⟨q, 0, none⟩ = some (u8 x) ∧ w.frozen? ⟨q, 0, none⟩ = false := by
  obtain ⟨q, cap, hv, hF, hr⟩ := h.at (by simp [u1])
  subst hv
  refine ⟨q, cap, by simp [u1], hF, ?_, h.own.frozenAt _⟩
  have := hr 0 (by simp [u1]) 0 (u8 x) (by simp [u1])
  simpa using this

theorem Keep.cellAt {F : Nat → Prop} {w w' : World} {q j : Nat} {u : Value} (h : Keep F w w') (hF : ¬ F q) (hc : w.cell? ⟨q, j, none⟩ = some u) : w'.cell? ⟨q, j, none⟩ = some u := by
  rw [World.cell?_of_block (h.block q (World.block_lt_of_cell? w _ hc) hF)]; exact hc
theorem Keep.frozenAt {F : Nat → Prop} {w w' : World} {q j : Nat} {u : Value} (h : Keep F w w') (hF : ¬ F q) (hc : w.cell? ⟨q, j, none⟩ = some u) (hf : w.frozen? ⟨q, j, none⟩ = false) : w'.frozen? ⟨q, j, none⟩ = false := by
  rw [World.frozen?_of_block (h.block q (World.block_lt_of_cell? w _ hc) hF)]; exact hf
theorem own_calls (w : World) (A : Option Addr) (c : Nat) (b : List UInt8) (hA : Reads w A (bv b)) (hAc : A = none → c = 0) :
    Calls Try.prog 9 #[.slice A b.length c] w (fun e w' => e = .returned (.bool true) ∧ Keep Noth w w') := by
  by_cases hin : 1 ≤ b.length ∧ b.length ≤ 64
  · obtain ⟨h1, h64⟩ := hin
    have hbi : (b.length : Int) ≤ 64 := by omega
    have hbi1 : (1 : Int) ≤ b.length := by omega
    go_enter Try.func9, Try.ntmps9
    go_wp2_with fail
    refine (new_calls w 1).mono ?_
    rintro e w1 ⟨g, rfl, H1, K1⟩
    rw [clamp_one] at H1
    have RA := (hA.keep K1 (fun _ _ => id)).keep ((Keep.refl Noth w1).alloc (.cells #[] 5)) (fun _ _ => id)
    have O1 : Own w.heap.size w1 (Fresh w w1) g oD0 := Own.fresh (Nat.le_refl _) H1
    have hE := Rows.empty w1 5 1
    have KA1 : Keep Noth w (w1.alloc (.cells #[] 5)) := K1.alloc _
    go_wp2_with (at_builtin; refine wpList_append_rows rfl _ _ 33 rfl 5 (.int .u8 0) 1 1 sl33 info5 rfl (by decide) (by decide) _ _ [] (u1 b) rfl hE A b.length c rfl (u1_length b) hAc (u1_each _) (by rw [u1_flatten]; exact RA) (u1_one _) (by simp only [List.length_nil]; omega) ?_; intro v2 w2 HR2 K2)
    have K02 : Keep Noth w w2 := KA1.trans K2 (fun i hi h => by injection h with h; have h : w1.heap.size = i := h; have := K1.size; omega)
    have hs12 : w1.heap.size ≤ w2.heap.size := by have := K2.size; simp only [World.size_alloc] at this; omega
    have R2 : Rows w2 (fun k => w1.heap.size ≤ k ∧ k < w2.heap.size) 5 1 v2 (u1 b) := Rows.mono (by simpa using HR2) (fun k hk => by
      have hs := K2.size
      simp only [World.size_alloc] at hs hk
      rcases hk with hk | hk
      · injection hk with hk; have hk : w1.heap.size = k := hk; omega
      · omega)
    have O2 : Own w.heap.size w2 (Fresh w w1) g oD0 := (O1.keep ((Keep.refl Noth w1).alloc (.cells #[] 5)) (Dj.noth _)).keep K2 (fun q h1 h2 => by
      injection h2 with h2; have h2 : w1.heap.size = q := h2; have := h1.2; omega)
    obtain ⟨A2, c2, hv2⟩ := R2.val
    rw [u1_length] at hv2
    subst hv2
    have RD := rd_of_own R2
    rw [u1_flatten] at RD
    obtain ⟨x0, m0, hb0⟩ : ∃ x m, b = x :: m := by
      cases b with
      | nil => simp at h1
      | cons x m => exact ⟨x, m, rfl⟩
    have R2' := R2
    rw [hb0] at R2'
    obtain ⟨q, cap, hq, hqF, hqc, hqf⟩ := R2'.first
    simp only [Value.slice.injEq] at hq
    obtain ⟨rfl, -, rfl⟩ := hq
    have hs01 := hid K1.size
    clear hb0 HR2 K2 R2 R2' hE RA O1 H1 KA1 K1
    obtain ⟨vl2, vr2, A2'⟩ := O2.dev
    have hw := write_ok A2' rfl o_ok0 (by show (0 : Nat) ≤ _; omega) (by show (0 : Nat) ≤ _; omega) 0 (by decide) (some ⟨q, 0, none⟩) c2 b h64 RD
    rw [show (if oD0.fuse == 0 then (100 : Int) else 0) = 0 by rfl, show ((0 : Nat) : Int) = 0 from rfl] at hw
    go_wp2_with fail
    refine hw.mono ?_
    rintro e w3 ⟨rfl, H3, K3⟩
    have nq : ¬ (Fresh w w1) q := fun h => by have := h.2; have := hqF.1; omega
    have hqc3 : w3.cell? ⟨q, 0, none⟩ = some (.int .u8 (x0.toNat : Int)) := K3.cellAt nq hqc
    have hqf3 := K3.frozenAt nq hqc hqf
    clear hw
    go_wp2_with fail
    generalize hw4 : w3.setCell ⟨q, 0, none⟩ _ = w4
    have K34 : Keep (Only q) w3 w4 := hw4 ▸ (Keep.refl (Only q) w3).cell 0 _
    clear hw4 hqc hqf hqc3 hqf3 RD
    obtain ⟨F, hF⟩ : ∃ F, F = grow (Fresh w w1) w2 w3 := ⟨_, rfl⟩
    have hdq : Dj F (Only q) := fun k h e => by
      unfold Only at e; subst e; rw [hF] at h
      rcases h with h | h
      · exact nq h
      · have := h.1; have := hqF.2; omega
    have K03 : Keep Noth w w3 := K02.own K3 (fun k h => h.1)
    have O3 : Own w.heap.size w3 F g (oD1 b) := hF ▸ O2.next K02.size H3
    have O4 : Own w.heap.size w4 F g (oD1 b) := O3.keep K34 hdq
    have K04 : Keep Noth w w4 := K03.own K34 (fun k e => by unfold Only at e; subst e; have h1 := hqF.1; have h2 := hs01.out; omega)
    clear O3 O2 H3 K3 K34 K03 A2' hF hdq nq
    obtain ⟨vl4, vr4, A4⟩ := O4.dev
    have hrd := read_ok A4 rfl (o_ok1 b h64) (by show (1 : Nat) ≤ _; omega) 0 (by show (0 : Nat) < 1; omega)
    rw [show ((0 : Nat) : Int) = 0 from rfl, o_at] at hrd
    go_wp2_with fail
    refine hrd.mono ?_
    rintro e w5 ⟨bx, rfl, hbx, B5, K5⟩
    clear hrd
    obtain ⟨y0, ym, hy⟩ := fillz_head b h64 h1
    have hyl := fillz_length b h64
    have RX := Reads.of_range B5.rangeAll
    have hA5 := hA.keep (K04.trans K5 (fun _ _ h => h)) (fun _ _ => id)
    have hpf := hasPrefix_calls w5 (some ⟨bx, 0, none⟩) A 64 b.length 64 c (fillz b) b hyl.symm rfl RX hA5 (by omega) (by omega) (by omega)
    rw [fillz_take b h64, show (b == b) = true by simp] at hpf
    have hxc : w5.cell? ⟨bx, 0, none⟩ = some (.int .u8 (y0.toNat : Int)) := by rw [B5.cell, hy]; rfl
    have hxf := B5.frozen 0
    go_wp2_with fail
    refine hpf.mono ?_
    rintro e wx ⟨rfl, rfl⟩
    clear hpf RX
    go_wp2_with fail
    generalize hw6 : w5.setCell ⟨bx, 0, none⟩ _ = w6
    have K56 : Keep (Only bx) w5 w6 := hw6 ▸ (Keep.refl (Only bx) w5).cell 0 _
    have K46 : Keep Noth w4 w6 := K5.own K56 (fun k e => by unfold Only at e; subst e; exact hbx)
    have O6 := O4.keep K46 (Dj.noth _)
    have K06 : Keep Noth w w6 := K04.trans K46 (fun _ _ h => h)
    clear hw6 hxc hxf K56 K46 K5 O4 K04 hA5 B5 A4
    obtain ⟨vl6, vr6, A6⟩ := O6.dev
    have him := image_calls A6 (o_ok1 b h64) (by show (1 : Nat) ≤ _; omega)
    rw [o_image b h64 h1, hy] at him
    refine him.mono ?_
    rintro e w7 ⟨vi, rfl, I7, K7⟩
    obtain ⟨r, rcap, rfl, hrF, hrc, hrf⟩ := I7.first
    have hrc' : w7.cell? ⟨r, 0, none⟩ = some (.int .u8 (y0.toNat : Int)) := hrc
    clear him hrc
    go_wp2_with fail
    generalize hw8 : w7.setCell ⟨r, 0, none⟩ _ = w8
    have K78 : Keep (Only r) w7 w8 := hw8 ▸ (Keep.refl (Only r) w7).cell 0 _
    have K68 : Keep Noth w6 w8 := K7.own K78 (fun k e => by unfold Only at e; subst e; exact hrF.1)
    have O8 := O6.keep K68 (Dj.noth _)
    have K08 : Keep Noth w w8 := K06.trans K68 (fun _ _ h => h)
    clear hw8 hrc' hrf K78 K68 K7 O6 K06 A6 I7
    obtain ⟨vl8, vr8, A8⟩ := O8.dev
    have hrd := read_ok A8 rfl (o_ok1 b h64) (by show (1 : Nat) ≤ _; omega) 0 (by show (0 : Nat) < 1; omega)
    rw [show ((0 : Nat) : Int) = 0 from rfl, o_at] at hrd
    refine hrd.mono ?_
    rintro e w9 ⟨bz, rfl, hbz, B9, K9⟩
    clear hrd
    have O9 := O8.keep K9 (Dj.noth _)
    have K09 : Keep Noth w w9 := K08.trans K9 (fun _ _ h => h)
    have hbz0 : ¬ F bz := fun h => by have := O8.dev.lt bz h; omega
    obtain ⟨vl9, vr9, A9⟩ := O9.dev
    have hfl := flush_ok A9 rfl (o_ok1 b h64) (by show (1 : Nat) ≤ _; omega) (by show (1 : Nat) ≤ _; omega) (by show (-1 : Int) ≠ 0; omega)
    go_wp2_with fail
    refine hfl.mono ?_
    rintro e w10 ⟨rfl, H10, K10⟩
    have B10 := B9.keep K10 hbz0
    have O10 := O9.next K09.size H10
    have K010 : Keep Noth w w10 := K09.own K10 O9.low
    clear hfl B9 A9 K9 O8 K08 K09 A8
    obtain ⟨vl10, vr10, A10⟩ := O10.dev
    have hok2 := flushed_ok (o_ok1 b h64)
    have hrd := read_ok A10 rfl hok2 (by show (0 : Nat) ≤ _; omega) 0 (by show (0 : Nat) < 1; omega)
    rw [show ((0 : Nat) : Int) = 0 from rfl, o_flat] at hrd
    go_wp2_with fail
    refine hrd.mono ?_
    rintro e w11 ⟨by_, rfl, hby, B11, K11⟩
    have B11z := B10.keep K11 id
    have K011 : Keep Noth w w11 := K010.trans K11 (fun _ _ h => h)
    clear hrd B10 K10 K11 O9 H10 O10 A10 K010
    go_wp2_with fail
    refine (alive_calls w11).mono ?_
    rintro e w12 ⟨rfl, K12⟩
    have K012 : Keep Noth w w12 := K011.trans K12 (fun _ _ h => h)
    have B12 := B11.keep K12 id
    have B12z := B11z.keep K12 id
    have hpf := hasPrefix_calls w12 (some ⟨bz, 0, none⟩) A 64 b.length 64 c (fillz b) b hyl.symm rfl (Reads.of_range B12z.rangeAll) (hA.keep K012 (fun _ _ => id)) (by omega) (by omega) (by omega)
    rw [fillz_take b h64, show (b == b) = true by simp] at hpf
    have heq := equal_calls w12 (some ⟨bz, 0, none⟩) (some ⟨by_, 0, none⟩) 64 64 64 64 (fillz b) (fillz b) hyl.symm hyl.symm (Reads.of_range B12z.rangeAll) (Reads.of_range B12.rangeAll)
    rw [show (fillz b == fillz b) = true by simp] at heq
    go_wp2_with fail
    refine hpf.mono ?_
    rintro e wx ⟨rfl, rfl⟩
    go_wp2_with fail
    refine heq.mono ?_
    rintro e wx ⟨rfl, rfl⟩
    go_wp2_with fail
    go_ret
    exact ⟨rfl, K012⟩
  · go_enter Try.func9, Try.ntmps9
    have hor : b.length < 1 ∨ 64 < b.length := by omega
    rcases hor with hn | hn
    · have hn' : (b.length : Int) < 1 := by omega
      go_wp2_with fail
      refine (new_calls w 1).mono ?_
      rintro e w1 ⟨g, rfl, H1, K1⟩
      clear H1
      go_wp2_with fail
      refine (alive_calls w1).mono ?_
      rintro e w12 ⟨rfl, K12⟩
      have K012 : Keep Noth w w12 := K1.trans K12 (fun _ _ h => h)
      go_wp2_with fail
      go_ret
      exact ⟨rfl, K012⟩
    · have hn' : (64 : Int) < b.length := by omega
      go_wp2_with fail
      refine (new_calls w 1).mono ?_
      rintro e w1 ⟨g, rfl, H1, K1⟩
      clear H1
      go_wp2_with fail
      refine (alive_calls w1).mono ?_
      rintro e w12 ⟨rfl, K12⟩
      have K012 : Keep Noth w w12 := K1.trans K12 (fun _ _ h => h)
      go_wp2_with fail
      go_ret
      exact ⟨rfl, K012⟩
end Go.Proofs.Ytffcglfepobdjaa
