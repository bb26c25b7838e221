/- alive answers true, and changes nothing that was there. -/
import Derived.Test.YtffcglfepobdjaaC5
set_option linter.unusedVariables false
set_option linter.unusedSimpArgs false
set_option maxRecDepth 10000
set_option maxHeartbeats 4000000
namespace Go.Proofs.Ytffcglfepobdjaa
open Go.RowKit

/-- A device of the call's own: its blocks lie from B on. -/
structure Own (B : Nat) (w : World) (F : Nat → Prop) (g : Nat) (D : DS) : Prop where
  dev : DevIs w F g D
  low : ∀ q, F q → B ≤ q
theorem Own.keep {B : Nat} {w w' : World} {F G : Nat → Prop} {g : Nat} {D : DS} (h : Own B w F g D) (hk : Keep G w w') (hd : Dj F G) : Own B w' F g D := ⟨h.dev.keep hk hd, h.low⟩
theorem Own.next {B : Nat} {w w' : World} {F : Nat → Prop} {g g' : Nat} {D D' : DS} (h : Own B w F g D) (hB : B ≤ w.heap.size) (hd : DevIs w' (grow F w w') g' D') : Own B w' (grow F w w') g' D' :=
  ⟨hd, fun q hq => hq.elim (h.low q) (fun h' => Nat.le_trans hB h'.1)⟩
theorem Own.fresh {B : Nat} {w w' : World} {g : Nat} {D : DS} (hB : B ≤ w.heap.size) (hd : DevIs w' (Fresh w w') g D) : Own B w' (Fresh w w') g D := ⟨hd, fun q hq => Nat.le_trans hB hq.1⟩
theorem Keep.own {w0 w w' : World} {F : Nat → Prop} (h : Keep Noth w0 w) (k : Keep F w w') (hF : ∀ q, F q → w0.heap.size ≤ q) : Keep Noth w0 w' :=
  h.trans k (fun i hi e => by have := hF i e; omega)
theorem Dj.of_lt {w : World} {F G : Nat → Prop} (hF : Lt F w) (hG : ∀ q, G q → w.heap.size ≤ q) : Dj F G := fun q h1 h2 => by have := hF q h1; have := hG q h2; omega
theorem Dj.symm {F G : Nat → Prop} (h : Dj F G) : Dj G F := fun q a b => h q b a

theorem alive_calls (w : World) : Calls Try.prog 16 #[] w (fun e w' => e = .returned (.bool true) ∧ Keep Noth w w') := by
  go_enter Try.func16, Try.ntmps16
  go_wp2_with fail
  refine (new_calls w 2).mono ?_
  rintro e w1 ⟨g, rfl, H1, K1⟩
  have O1 : Own w.heap.size w1 (Fresh w w1) g aD0 := Own.fresh (Nat.le_refl _) H1
  have hs1 := K1.size
  have Hs1 := hid hs1
  clear H1 hs1
  go_wp2_with fail
  refine (repeat_calls (w1.alloc (.cells #[.int .u8 7] 5)) (some ⟨w1.heap.size, 0, none⟩) 1 (Reads.of_range (BlockIs.new w1 [u8 7] 5).rangeAll)).mono ?_
  rintro e w2 ⟨bf, rfl, hbf, R2, hbf2, K2⟩
  have O2 := O1.keep (((Keep.refl Noth w1).alloc _).trans K2 (fun _ _ h => h)) (Dj.noth _)
  have K02 : Keep Noth w w2 := (K1.alloc _).trans K2 (fun _ _ h => h)
  have hs2 := K02.size
  clear O1 K1 K2 Hs1
  have HK02 := hid K02
  have Hs2 := hid hs2
  have Hbf : Hid (w1.heap.size + 1 ≤ bf) := hid (by simpa using hbf)
  have Hbf2 := hid hbf2
  clear K02 hs2 hbf hbf2
  have hw := write_calls O2.dev (new_ok 2 (by decide) (by decide)) (by show (0 : Nat) ≤ _; omega) (by show (0 : Nat) ≤ _; omega) 1 (some ⟨bf, 0, none⟩) 64 full (by show 64 ≤ _; omega) R2
  rw [show full.length = 64 from List.length_replicate, a_w1] at hw
  go_wp2_with fail
  refine hw.mono ?_
  rintro e w3 ⟨rfl, H3, K3⟩
  have O3 : Own w.heap.size w3 (grow (Fresh w w1) w2 w3) g aD1 := O2.next Hs2.out H3
  clear hw H3
  have hw := write_calls O3.dev a_ok1 (by show (1 : Nat) ≤ _; omega) (by show (1 : Nat) ≤ _; omega) 2 none 0 [] (by show 0 ≤ _; omega) (Reads.nil _ _)
  rw [List.length_nil, a_w2] at hw
  go_wp2_with fail
  refine hw.mono ?_
  rintro e w4 ⟨rfl, H4, K4⟩
  have O4 : Own w.heap.size w4 (grow (grow (Fresh w w1) w2 w3) w3 w4) g aD1 := O3.next (Nat.le_trans Hs2.out K3.size) H4
  have KN4 : Keep Noth w w4 := (HK02.out.own K3 O2.low).own K4 O3.low
  have R4 : Reads w4 (some ⟨bf, 0, none⟩) (bv full) := by
    have hd1 : ¬ (Fresh w w1) bf := fun h => by have := h.2; have := Hbf.out; omega
    have hd2 : ¬ (grow (Fresh w w1) w2 w3) bf := fun h => by
      rcases h with h | h
      · exact hd1 h
      · have := h.1; have := Hbf2.out; omega
    exact (R2.keep K3 (fun ad h => by injection h with h; subst h; exact hd1)).keep K4 (fun ad h => by injection h with h; subst h; exact hd2)
  have Hb4 : Hid (bf < w4.heap.size ∧ ¬ (grow (grow (Fresh w w1) w2 w3) w3 w4) bf) := hid ⟨Nat.lt_of_lt_of_le Hbf2.out (Nat.le_trans K3.size K4.size), fun h => by
    rcases h with (h | h) | h
    · have := h.2; have := Hbf.out; omega
    · have := h.1; have := Hbf2.out; omega
    · have := h.1; have := K3.size; have := Hbf2.out; omega⟩
  obtain ⟨F, hF⟩ : ∃ F, F = grow (grow (Fresh w w1) w2 w3) w3 w4 := ⟨_, rfl⟩
  rw [← hF] at O4 Hb4
  have HKN4 := hid KN4
  clear hw H4 O2 O3 K3 K4 HK02 Hs2 Hbf Hbf2 R2 hF KN4
  obtain ⟨vl4, vr4, A4⟩ := O4.dev
  have hlt4 := hid O4.dev.lt
  have hcp := copy_calls A4 a_ok1 (by show (1 : Nat) ≤ _; omega)
  go_wp2_with fail
  refine hcp.mono ?_
  rintro e w5 ⟨c, rfl, H5, K5⟩
  have O5c : Own w4.heap.size w5 (Fresh w4 w5) c aD1 := Own.fresh (Nat.le_refl _) H5
  have A5 := (A4.keep K5 (Dj.noth _)).keep ((Keep.refl Noth w5).alloc (.cells #[.int .i64 3] 3)) (Dj.noth _)
  have hcr := crash_calls A5 a_ok1 (by show (1 : Nat) ≤ _; omega) (some ⟨w5.heap.size, 0, none⟩) 1 [3] (Reads.of_range (BlockIs.new w5 [.int .i64 3] 3).rangeAll) (fun ad h _ => by injection h with h; subst h; intro hq; have h2 : w5.heap.size < w4.heap.size := hlt4.out _ hq; have := K5.size; omega) (by decide) (by intro x hx; rw [List.mem_singleton.1 hx]; decide)
  rw [show ([3] : List Int).length = 1 from rfl] at hcr
  clear hcp H5 A4
  go_wp2_with fail
  refine hcr.mono ?_
  rintro e w6 ⟨rfl, H6, K6⟩
  have H56 : Hid (w5.heap.size ≤ w6.heap.size) := hid (by have := K6.size; simp only [World.size_alloc] at this; omega)
  have HK6 := hid ((K5.alloc (.cells #[.int .i64 3] 3)).mono (fun i hi (h : Noth i) => (h.elim : F i)) |>.trans K6 (fun _ _ h => h))
  have O6 : Own w.heap.size w6 F g aD2 := ⟨H6, O4.low⟩
  have hdj : Dj (Fresh w4 w5) F := (Dj.of_lt hlt4.out (fun q h => h.1)).symm
  have Hdj := hid hdj
  have O6c := (O5c.keep ((Keep.refl Noth w5).alloc (.cells #[.int .i64 3] 3)) (Dj.noth _)).keep K6 hdj
  clear hcr H6 A5 O5c hdj
  obtain ⟨vl6, vr6, A6⟩ := O6.dev
  have hrd := read_ok A6 rfl a_ok2 (by show (0 : Nat) ≤ _; omega) 1 (by decide)
  rw [show ((1 : Nat) : Int) = 1 from rfl] at hrd
  go_wp2_with fail
  refine hrd.mono ?_
  rintro e w7 ⟨bx, rfl, hbx, B7, K7⟩
  have A7 := A6.keep K7 (Dj.noth _)
  have harm := arm_calls A7 0
  clear hrd A6
  go_wp2_with fail
  refine harm.mono ?_
  rintro e w8 ⟨rfl, A8, K8⟩
  have A8' : DevAt w8 F g vl6 vr6 aD3 := A8
  have hfl := flush_calls ⟨_, _, A8'⟩ a_ok3 (by show (1 : Nat) ≤ _; omega) (by show (0 : Nat) ≤ _; omega)
  rw [a_f3] at hfl
  clear harm A7 A8
  go_wp2_with fail
  refine hfl.mono ?_
  rintro e w9 ⟨rfl, H9, K9⟩
  clear hfl
  have K69 : Keep F w6 w9 := ((K7.mono (fun i hi (h : Noth i) => (h.elim : F i))).trans K8 (fun i _ e => by unfold Only at e; subst e; exact A8'.here)).trans K9 (fun _ _ h => h)
  have O9c := O6c.keep K69 Hdj.out
  obtain ⟨vlc, vrc, C9⟩ := O9c.dev
  have hrd := read_ok C9 rfl a_ok1 (by show (1 : Nat) ≤ _; omega) 1 (by decide)
  rw [show ((1 : Nat) : Int) = 1 from rfl, a_y] at hrd
  have HK69 := hid K69
  clear K69
  go_wp2_with fail
  refine hrd.mono ?_
  rintro e w10 ⟨by_, rfl, hby, B10, K10⟩
  clear hrd
  have K610 : Keep F w6 w10 := HK69.out.trans K10 (fun i hi (h : Noth i) => h.elim)
  have K410 : Keep F w4 w10 := HK6.out.trans K610 (fun _ _ h => h)
  have hbx4 : w4.heap.size ≤ bx := Nat.le_trans (Nat.le_trans K5.size (by have := K6.size; simp only [World.size_alloc] at this; omega)) hbx
  have hbxF : ¬ F bx := fun h => by have := hlt4.out bx h; omega
  have B10x : BlockIs w10 bx (bv (aD2.at 1)) 103 := ((B7.keep K8 (fun e => by unfold Only at e; subst e; exact hbxF A8'.here)).keep K9 hbxF).keep K10 id
  obtain ⟨xs, hx1, hx2, hx3⟩ := a_x
  have cx0 : w10.cell? ⟨bx, 0, none⟩ = some (.int .u8 0) := by rw [B10x.cell, hx1]; rfl
  have cx63 : w10.cell? ⟨bx, 63, none⟩ = some (.int .u8 7) := by rw [B10x.cell, hx1]; simp [bv, hx3, u8]
  have R10 : Reads w10 (some ⟨bf, 0, none⟩) (bv full) := R4.keep K410 (fun ad h => by injection h with h; subst h; exact Hb4.out.2)
  have C10 := C9.keep K10 (Dj.noth _)
  obtain ⟨vld, vrd, D10⟩ := H9.keep K10 (Dj.noth _)
  have heq := equal_calls w10 (some ⟨by_, 0, none⟩) (some ⟨bf, 0, none⟩) 64 64 64 64 full full (by rfl) (by rfl) (Reads.of_range B10.rangeAll) R10
  rw [show (full == full) = true by simp] at heq
  have hcfl := flush_calls ⟨_, _, C10⟩ a_ok1 (by show (1 : Nat) ≤ _; omega) (by show (1 : Nat) ≤ _; omega)
  rw [a_f1.1] at hcfl
  have hdn := down_calls D10
  rw [a_f1.2.2.2] at hdn
  have hpd := pending_calls C10
  rw [a_f1.2.2.1] at hpd
  have HK410 := hid K410
  have A7sz : Hid (w7.heap.size ≤ w8.heap.size) := hid K8.size
  have h67 := K7.size
  have H67 := hid h67
  clear h67
  clear B10x hx1 hx2 hx3 R10 B10 B7 K8 K9 K10 hbx4 hbxF K610 K410 H9 C9 A8' R4 O6c O6
  go_wp2_with fail
  refine hdn.mono ?_
  rintro e wx ⟨rfl, rfl⟩
  go_wp2_with fail
  refine heq.mono ?_
  rintro e wx ⟨rfl, rfl⟩
  go_wp2_with fail
  refine hpd.mono ?_
  rintro e wx ⟨rfl, rfl⟩
  go_wp2_with fail
  refine hcfl.mono ?_
  rintro e w11 ⟨rfl, H11, K11⟩
  clear hdn heq hpd hcfl
  obtain ⟨vl1, vr1, C11⟩ := H11
  have hcops := ops_calls C11
  rw [a_f1.2.1] at hcops
  have hdjd : Dj (grow F w8 w9) (Fresh w4 w5) := fun q h1 h2 => by
    rcases h1 with h1 | h1
    · exact Hdj.out q h2 h1
    · have a1 := h1.1; have a2 := h2.2; have a3 := H56.out; have a4 : w6.heap.size ≤ w8.heap.size := Nat.le_trans H67.out A7sz.out; omega
  have D11 := D10.keep K11 hdjd
  have hcnt := count_calls D11
  rw [show (aD3.tick.l.length : Int) = 2 by rfl] at hcnt
  have him := image_calls D11 (tick_ok a_ok3) (by show (0 : Nat) ≤ _; omega)
  have hil : aD3.tick.image.length = 128 := by rw [image_length (tick_ok a_ok3)]; rfl
  go_wp2_with fail
  refine hcops.mono ?_
  rintro e wx ⟨rfl, rfl⟩
  go_wp2_with fail
  refine hcnt.mono ?_
  rintro e wx ⟨rfl, rfl⟩
  go_wp2_with fail
  refine him.mono ?_
  rintro e w12 ⟨vi, rfl, I12, K12⟩
  obtain ⟨Ai, ci, hvi⟩ := I12.val
  rw [u1_length, hil] at hvi
  subst hvi
  clear hcops hcnt him hil I12
  have hof := of_calls (w12.alloc (.cells #[.int .u8 1] 5)) (some ⟨w12.heap.size, 0, none⟩) 1 [1] (Reads.of_range (BlockIs.new w12 [u8 1] 5).rangeAll) (by decide) (by decide) (by decide)
  rw [show ([1] : List UInt8).length = 1 from rfl] at hof
  go_wp2_with fail
  refine hof.mono ?_
  rintro e w13 ⟨g2, rfl, ⟨vl2, vr2, G13⟩, K13⟩
  have hcnt := count_calls G13
  rw [show ((DS.of [1]).l.length : Int) = 1 by rfl] at hcnt
  clear hof
  go_wp2_with fail
  refine hcnt.mono ?_
  rintro e wx ⟨rfl, rfl⟩
  go_wp2_with fail
  go_ret
  refine ⟨rfl, ?_⟩
  have k1 : Keep Noth w w10 := HKN4.out.own HK410.out O4.low
  have k2 := k1.own K11 (fun q h => Nat.le_trans HKN4.out.size h.1)
  exact ((k2.trans K12 (fun _ _ h => h)).alloc _).trans K13 (fun _ _ h => h)
end Go.Proofs.Ytffcglfepobdjaa
