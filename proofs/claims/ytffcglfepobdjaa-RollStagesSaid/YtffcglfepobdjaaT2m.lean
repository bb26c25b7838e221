/- quiltworklaw11.RollFills (f10). -/
import Derived.Test.YtffcglfepobdjaaN3m
set_option linter.unusedVariables false
set_option linter.unusedSimpArgs false
set_option maxRecDepth 100000
set_option maxHeartbeats 2000000
namespace Go.Proofs.Ytffcglfepobdjaa
open Go.RowKit


theorem WX.rollat {w0 w : World} {F G : Nat → Prop} {bw g r : Nat} {S R : RS} (h : WX w0 w F G bw g r S R) : ∃ vl vs, RollAt w F g r vl vs S := h.roll
theorem RollAt.mem {w : World} {F : Nat → Prop} {g r : Nat} {vl vs : Value} {S : RS} (h : RollAt w F g r vl vs S) : RollIs w F g r S := ⟨vl, vs, h⟩
structure WantL (w0 w : World) (F G : Nat → Prop) (bw : Nat) (Fw : Nat → Prop) (v : Value) (l : List (List UInt8)) : Prop where
  row : RowsL w Fw (fun q => q < w0.heap.size) v l
  dF : Dj Fw F
  dG : Dj Fw G
  nb : ¬ Fw bw
  lt : Lt Fw w
  low : ∀ q, Fw q → w0.heap.size ≤ q
theorem WantL.nil (w0 w : World) (F G : Nat → Prop) (bw : Nat) : WantL w0 w F G bw Noth (.slice none 0 0) [] :=
  ⟨RowsL.nil _ _ _, fun _ e => e.elim, fun _ e => e.elim, id, fun _ e => e.elim, fun _ e => e.elim⟩
theorem WantL.keep {w0 w w' : World} {F G Fw : Nat → Prop} {bw : Nat} {v : Value} {l : List (List UInt8)} (h : WantL w0 w F G bw Fw v l) (k : Keep Noth w w') : WantL w0 w' F G bw Fw v l :=
  ⟨h.row.keep k (Dj.noth _) (Dj.noth _), h.dF, h.dG, h.nb, h.lt.up k.size, h.low⟩
theorem WantL.prog {w0 w w' : World} {F G Fw : Nat → Prop} {bw : Nat} {v : Value} {l : List (List UInt8)} (h : WantL w0 w F G bw Fw v l) (k : Keep F w w') (hF : ∀ q, F q → w0.heap.size ≤ q) : WantL w0 w' (grow F w w') G bw Fw v l :=
  ⟨h.row.keep k h.dF (fun q a b => by have := hF q b; omega), h.dF.grow h.lt, h.dG, h.nb, h.lt.up k.size, h.low⟩
theorem w64 {x : Int} (h0 : -9223372036854775808 ≤ x) (h1 : x < 9223372036854775808) : wrap64 x = x := by unfold wrap64; omega
theorem many_eq {b : List UInt8} (h : b.length ≤ 4000) : wrap64 ((wrap64 (wrap64 (wrap64 ((b.length : Int) + 2) + 64) - 1)).tdiv 64) = blocksN b := by
  rw [w64 (x := (b.length : Int) + 2) (by omega) (by omega), w64 (x := (b.length : Int) + 2 + 64) (by omega) (by omega), w64 (x := (b.length : Int) + 2 + 64 - 1) (by omega) (by omega), Int.tdiv_eq_ediv_of_nonneg (by omega)]
  have e4 : ((b.length : Int) + 2 + 64 - 1) / 64 = blocksN b := by unfold blocksN; omega
  rw [e4]
  have := blocksN_le h
  exact w64 (by omega) (by omega)
/-- One more is wanted. -/
theorem WantL.more {w0 w w1 w' : World} {F G Fw : Nat → Prop} {bw g r : Nat} {S R : RS} {v v' : Value} {l m : List (List UInt8)} (h : WantL w0 w F G bw Fw v l) (X : WX w0 w F G bw g r S R) (K1 : Keep Noth w w1)
    (H : RowsL w' (fun k => v.ownBlock = some k ∨ (w1.heap.size ≤ k ∧ k < w'.heap.size)) (fun q => q < w0.heap.size) v' m) (K2 : Keep (fun k => v.ownBlock = some k) w1 w') :
    WantL w0 w' F G bw (grow Fw w1 w') v' m ∧ WX w0 w' F G bw g r S R := by
  have ho : ∀ q, v.ownBlock = some q → Fw q := fun q e => (h.row.own q e).1
  have hs1 := K1.size
  have hs2 := K2.size
  have hk := X.kept.size
  refine ⟨⟨H.mono (fun q e => e.imp (ho q) id) (fun _ e => e), fun q a b => ?_, fun q a b => ?_, fun a => ?_, fun q a => ?_, fun q a => ?_⟩, (X.keep K1).apart K2 (fun q a b => h.dF q (ho q b) a) (fun q a b => h.dG q (ho q b) a) (fun e => h.nb (ho _ e))⟩
  · rcases a with a | a
    · exact h.dF q a b
    · have := X.rlt q b; have := a.1; omega
  · rcases a with a | a
    · exact h.dG q a b
    · have := X.glt q b; have := a.1; omega
  · rcases a with a | a
    · exact h.nb a
    · have := X.wlt; have := a.1; omega
  · rcases a with a | a
    · have := h.lt q a; omega
    · exact a.2
  · rcases a with a | a
    · exact h.low q a
    · have := a.1; omega
theorem reads_args {w0 w : World} {H : Nat → Prop} {A : Option Addr} {l : List (List UInt8)} (h : ReadsL w0 (fun q => q < w0.heap.size) A l) (k : Keep Noth w0 w) : ReadsL w (fun q => q < w0.heap.size) A l := h.keep k (Dj.noth _)

theorem rfills_calls (w : World) (count : Int) (A : Option Addr) (c : Nat) (l : List (List UInt8)) (HL : ReadsL w (fun q => q < w.heap.size) A l) (hl : l.length ≤ 9223372036854775807) :
    Calls Try.prog 10 #[.int .i64 count, .slice A l.length c] w (fun e w' => e = .returned (.bool true) ∧ Keep Noth w w') := by
  have hlI : (l.length : Int) ≤ 9223372036854775807 := by omega
  have HL := hid HL
  have hbg := begin_calls w none 0 [] (Reads.nil _ _) (by decide) count
  go_enter Try.func10, Try.ntmps10
  go_wp2_with fail
  go_loopw [17, 5] (fun i s wr => (∃ (k : Nat) (x : Int), i = .int .i64 k ∧ k ≤ l.length ∧ s = .int .i64 x) ∧ w = wr) (fun i _ _ => l.length - (intOf i).toNat)
  case atStart => exact ⟨⟨0, 0, rfl, Nat.zero_le _, rfl⟩, rfl⟩
  case round =>
    obtain ⟨⟨k, x, rfl, hk, rfl⟩, rfl⟩ := hrel
    by_cases hlt : k < l.length
    · have hlt' : (k : Int) < l.length := by omega
      obtain ⟨b, hb⟩ : ∃ b, l[k]? = some b := ⟨_, List.getElem?_eq_getElem hlt⟩
      obtain ⟨gA, oA, rfl, B, c', hcell, -, -, -⟩ := HL.out.at k b hb
      clear hb hbg
      go_wp2_with fail
      go_roundw
      case rel => exact ⟨⟨k + 1, _, by go_num, hlt, rfl⟩, trivial⟩
      case measure => simp [intOf]; omega
    · have hge : k = l.length := by omega
      subst hge
      clear hlt hk
      by_cases hgd : count < 4 ∨ 40 < count ∨ 40 < l.length ∨ 8000 < x
      · have hal := ralive_calls w
        have hend : ∀ w', Keep Noth w w' → (Ending.returned (Value.bool true) = .returned (.bool true) ∧ Keep Noth w w') := fun w' h => ⟨rfl, h⟩
        clear hbg
        by_cases g1 : count < 4
        · have g1' : decide (count < 4) = true := by simpa using g1
          clear hgd
          go_wp2_with fail
          refine hal.mono ?_
          rintro e w1 ⟨rfl, K1⟩
          go_wp2_with fail
          go_ret
          exact ⟨rfl, K1⟩
        by_cases g2 : 40 < count
        · have g1' : decide (count < 4) = false := by simpa using g1
          have g2' : decide (count > 40) = true := by simpa using g2
          clear hgd
          go_wp2_with fail
          refine hal.mono ?_
          rintro e w1 ⟨rfl, K1⟩
          go_wp2_with fail
          go_ret
          exact ⟨rfl, K1⟩
        by_cases g3 : 40 < l.length
        · have g1' : decide (count < 4) = false := by simpa using g1
          have g2' : decide (count > 40) = false := by simpa using g2
          have g3' : decide ((l.length : Int) > 40) = true := by simp; omega
          clear hgd
          go_wp2_with fail
          refine hal.mono ?_
          rintro e w1 ⟨rfl, K1⟩
          go_wp2_with fail
          go_ret
          exact ⟨rfl, K1⟩
        · have g1' : decide (count < 4) = false := by simpa using g1
          have g2' : decide (count > 40) = false := by simpa using g2
          have g3' : decide ((l.length : Int) > 40) = false := by simp; omega
          have g4 : 8000 < x := by omega
          have g4' : decide (x > 8000) = true := by simpa using g4
          clear hgd
          go_wp2_with fail
          refine hal.mono ?_
          rintro e w1 ⟨rfl, K1⟩
          go_wp2_with fail
          go_ret
          exact ⟨rfl, K1⟩
      have g1 : 4 ≤ count := by omega
      have g2 : count ≤ 40 := by omega
      have g3 : l.length ≤ 40 := by omega
      have g4 : x ≤ 8000 := by omega
      have g1' : decide (count < 4) = false := by simp; omega
      have g2' : decide (count > 40) = false := by simp; omega
      have g3' : decide ((l.length : Int) > 40) = false := by simp; omega
      have g4' : decide (x > 8000) = false := by simp; omega
      clear hgd
      go_wp2_with fail
      refine hbg.mono ?_
      rintro e w1 ⟨bw, g, r, F, G, rfl, X1⟩
      have hcn : 64 * cntN count = 64 * count.toNat := by unfold cntN; omega
      have h4o : 4 ≤ ofN (padI [] (64 * cntN count)) := by rw [ofN_pad (cntN_bound count).1 (cntN_bound count).2]; exact (cntN_bound count).1
      obtain ⟨hz1, hz2⟩ := openS_zero h4o
      have hhf : ((openS (DS.of (padI [] (64 * cntN count)))).D.half : Int) = (count - 2) / 2 := by
        rw [openS_D]; unfold DS.half; rw [of_len, ofN_pad (cntN_bound count).1 (cntN_bound count).2]
        unfold cntN; omega
      obtain ⟨S0, hS0⟩ : ∃ S0, S0 = openS (DS.of (padI [] (64 * cntN count))) := ⟨_, rfl⟩
      rw [← hS0] at X1 hz1 hz2 hhf
      have hl0 : S0.l = [] := by rw [hz1]
      have hst0 : S0.st = [] := by rw [hz1]
      have hmo0 : S0.more = 0 := by rw [hz1]
      have hus0 : S0.own.used = 0 := by rw [hz1]
      have hop0 : S0.D.ops = 0 ∧ S0.D.row.length = 0 := by rw [hz1]; exact ⟨rfl, rfl⟩
      obtain ⟨H, hH⟩ : ∃ H, H = S0.D.half := ⟨_, rfl⟩
      have hrm0 : S0.room = H := by unfold RS.room; rw [hmo0, hus0, hH]; simp
      rw [← hH] at hhf
      have hc1 := X1.cells.2
      obtain ⟨vl1, vs1, A1⟩ := X1.rollat
      have hrm := room_calls A1 hz2.good.ok
      rw [hrm0] at hrm
      have HX1 := hid X1
      have Hq0 := hid hz2
      have Hf0 := hid (show S0.l = [] ∧ S0.st = [] ∧ S0.more = 0 ∧ S0.D.half = H ∧ (H : Int) = (count - 2) / 2 ∧ S0.room = H from ⟨hl0, hst0, hmo0, hH.symm, hhf, hrm0⟩)
      have Hop0 := hid hop0
      clear hbg X1 A1 hz1 hz2 hl0 hst0 hmo0 hus0 hrm0 hhf hH hS0 hcn h4o hop0
      go_wp2_with fail
      refine hrm.mono ?_
      rintro e w2 ⟨rfl, K2⟩
      have HX2 := hid (HX1.out.keep K2)
      clear hrm HX1 K2 hc1
      go_wp2_with fail
      go_loopw [53, 9, 10] (fun iv rv v wr => ∃ (k : Nat) (S : RS) (F' Fw : Nat → Prop), iv = .int .i64 k ∧ k ≤ l.length ∧ rv = .int .i64 S.room ∧ WX w wr F' G bw g r S S0 ∧ WantL w wr F' G bw Fw v S.l ∧ S.quiet (k + 1) ∧ S.st = [] ∧ S.more = 0 ∧ S.D.half = H ∧ S.D.ops ≤ 100 * k ∧ S.D.row.length ≤ 100 * k) (fun iv _ _ _ => l.length - (intOf iv).toNat)
      case atStart => exact ⟨0, S0, F, Noth, rfl, Nat.zero_le _, by rw [Hf0.out.2.2.2.2.2], HX2.out, by rw [Hf0.out.1]; exact WantL.nil _ _ _ _ _, Hq0.out, Hf0.out.2.1, Hf0.out.2.2.1, Hf0.out.2.2.2.1, by rw [Hop0.out.1]; exact Nat.zero_le _, by rw [Hop0.out.2]; exact Nat.zero_le _⟩
      case round =>
        obtain ⟨k, S, F', Fw, rfl, hk, rfl, X, W, Q, hst, hmo, hhf, hops, hrow⟩ := hrel
        have hc1 := X.cells.2
        have HX := hid X
        have HW := hid W
        have HQ := hid Q
        have Hf := hid (show S.st = [] ∧ S.more = 0 ∧ S.D.half = H from ⟨hst, hmo, hhf⟩)
        clear X W Q hst hmo hhf
        by_cases hlt : k < l.length
        · have hlt' : (k : Int) < l.length := by omega
          obtain ⟨b, hb⟩ : ∃ b, l[k]? = some b := ⟨_, List.getElem?_eq_getElem hlt⟩
          obtain ⟨gA, oA, rfl, B, c', hcell, hB, hBc, hBG⟩ := (HL.out.keep HX.out.kept (Dj.noth _)).at k b hb
          clear hb
          go_wp2_with fail
          obtain ⟨M, hM⟩ : ∃ M, M = wrap64 ((wrap64 (wrap64 (wrap64 ((b.length : Int) + 2) + 64) - 1)).tdiv 64) := ⟨_, rfl⟩
          rw [← hM]
          have hMb : b.length ≤ 4000 → M = blocksN b := fun h => by
            rw [hM]; exact many_eq h
          have HMb := hid hMb
          clear hM hMb
          obtain ⟨vl3, vs3, A3⟩ := HX.out.rollat
          have hst := stage_grow (S := S) b
          have hap := append_calls A3 HQ.out.good.ok (by omega) (by omega) B c' b hB hBc (fun hb ad e hq => by have := hBG hb ad e; have := HX.out.low _ hq; omega) (stage_good HQ.out.good b).ok (by omega) (by omega)
          have hag := append_grow S b
          have HB := hid (show RecVal wr (fun q => q < w.heap.size) (.slice B b.length c') b from ⟨B, c', rfl, hB, hBc, hBG⟩)
          by_cases hgo : b.length ≤ 4000 ∧ (blocksN b : Int) ≤ S.room
          · obtain ⟨D', hd, ha, hq, hh, hu⟩ := append_quiet HQ.out (by omega) hgo.1 hgo.2
            rw [ha] at hap hag
            rw [Hf.out.1, List.nil_append] at hap hq
            obtain ⟨S', hS'⟩ : ∃ S', S' = (⟨D', hd, S.nslot, S.l ++ [b], [], 0⟩ : RS) := ⟨_, rfl⟩
            have hS2 : S'.l = S.l ++ [b] ∧ S'.st = [] ∧ S'.more = 0 ∧ S'.D = D' ∧ S'.own = hd := by rw [hS']; exact ⟨rfl, rfl, rfl, rfl, rfl⟩
            rw [← hS'] at hap hq
            have hM1 := HMb.out hgo.1
            have hroom : S.room - M = S'.room := by
              unfold RS.room
              rw [hS2.2.2.1, hS2.2.2.2.1, hS2.2.2.2.2, hh, hu, Hf.out.2.1, hM1]
              omega
            have hhl := half_le HQ.out.good.dok
            have hrle : S.room ≤ 2047 := by unfold RS.room; omega
            have hrge : 0 ≤ S.room - M := by rw [hM1]; omega
            have hMr : decide (M ≤ S.room) = true := by simp; omega
            have hM0 : 0 ≤ M := by rw [hM1]; omega
            have hb4 : decide ((b.length : Int) ≤ 4000) = true := by simp; omega
            have HS2 := hid hS2
            have Hag := hid hag
            have Hgo := hid hgo
            have Hh := hid hh
            have Hroom := hid hroom
            clear hst hag ha hS2 hgo hh hu hcell hc1 hB A3 hS' hM1 hroom
            refine hap.mono ?_
            rintro e w4 ⟨rfl, R4, K4⟩
            have X4 := HX.out.prog R4 K4
            have W4 := HW.out.prog K4 HX.out.low
            have HB4 := hid (HB.out.keep K4 (fun q a b => by have := HX.out.low q b; omega))
            have Hq := hid hq
            obtain ⟨A4, c4, rfl, hn4⟩ := W4.row.val
            have HX4 := hid X4
            have HW4 := hid W4
            clear hap R4 K4 X4 W4 hq hBc
            go_wp2_with (first
              | (guard_target = wpList _ _ _ (Oper.mk _ (Op.buildSlice 63 _ _) _ _ _ _ :: _) _ _; refine wpList_slice1_v rfl 63 33 _ rfl sl63 [.slice B b.length c'] (.slice none 0 0) info33 rfl (by decide) (by decide) (by rfl) rfl ?_; intro b8 w7 hb8 B8 K7)
              | (at_builtin; refine wpList_appendL (by rfl) _ _ rfl (by rfl) (HW4.out.keep K7).row (by rfl) (m := [b]) rfl (fun e => by cases e) [.slice B b.length c'] rfl (Reads.of_range B8.rangeAll) (one_vs (HB4.out.keep K7 (Dj.noth _))) (by have := HQ.out.good.ok.ll; simp; omega) (fun q e => by have := (HW4.out.row.own q e).1; have := HW4.out.low q this; omega) ?_; intro v8 w8 R8 K8; rw [← HS2.out.1] at R8; obtain ⟨W', X'⟩ := HW4.out.more HX4.out K7 R8 K8; have hc1 := X'.cells.2; rw [Hroom.out]))
            have Q' := Hq.out
            have B' : S'.st = [] ∧ S'.more = 0 ∧ S'.D.half = H ∧ S'.D.ops ≤ 100 * (k + 1) ∧ S'.D.row.length ≤ 100 * (k + 1) := ⟨HS2.out.2.1, HS2.out.2.2.1, by rw [HS2.out.2.2.2.1, Hh.out]; exact Hf.out.2.2, by rw [HS2.out.2.2.2.1]; have : D'.ops ≤ S.D.ops + 66 := Hag.out.1; omega, by rw [HS2.out.2.2.2.1]; have : D'.row.length ≤ S.D.row.length + 64 := Hag.out.2.1; omega⟩
            clear K7 B8 R8 K8 HX4 HW4 HX HW HB hb8
            obtain ⟨A9, c9, rfl, hn9⟩ := W'.row.val
            have hc1 := X'.cells.2
            obtain ⟨vl9, vs9, A9r⟩ := X'.rollat
            have hrm := room_calls A9r Q'.good.ok
            have HX9 := hid X'
            have HW9 := hid W'
            have HQ9 := hid Q'
            have HB9 := hid B'
            clear A9r X' W' Q' B'
            go_wp2_with fail
            refine hrm.mono ?_
            rintro e w10 ⟨rfl, K10⟩
            have HX10 := hid (HX9.out.keep K10)
            have HW10 := hid (HW9.out.keep K10)
            have hc1 := HX10.out.cells.2
            obtain ⟨vl10, vs10, A10⟩ := HX10.out.rollat
            have hrec := records_calls A10 HQ9.out.good.ok
            clear hrm K10 HX9 HW9 A10
            go_wp2_with fail
            refine hrec.mono ?_
            rintro e w11 ⟨v11, rfl, RC, K11⟩
            obtain ⟨A11, c11, rfl⟩ := RC.val
            have HX11 := hid (HX10.out.keep K11)
            have HW11 := hid (HW10.out.keep K11)
            have hsm := same_calls w11 _ _ A11 A9 c11 c9 _ _ RC.reads HW11.out.row.reads (by have := HQ9.out.good.ok.ll; omega)
            rw [show (S'.l == S'.l) = true by simp] at hsm
            clear hrec RC K11 HX10 HW10
            go_wp2_with fail
            refine hsm.mono ?_
            rintro e w12 ⟨rfl, K12⟩
            have HX12 := hid (HX11.out.keep K12)
            have HW12 := hid (HW11.out.keep K12)
            clear hsm K12 HX11 HW11
            go_wp2_with fail
            go_roundw
            case rel => exact ⟨k + 1, S', _, _, by go_num, hlt, rfl, HX12.out, HW12.out, HQ9.out, HB9.out.1, HB9.out.2.1, HB9.out.2.2.1, HB9.out.2.2.2.1, HB9.out.2.2.2.2⟩
            case measure => simp [intOf]; omega
          · obtain ⟨hne, hsame⟩ := append_no hgo
            rw [hsame] at hap
            obtain ⟨ev, hev⟩ : ∃ ev, ev = (S.append b).2 := ⟨_, rfl⟩
            rw [← hev] at hap hne
            have hez : (ev == 0) = false := by simpa using hne
            have Hgo := hid hgo
            clear hst hag hsame hev hgo hcell hc1 hB A3
            refine hap.mono ?_
            rintro e w4 ⟨rfl, R4, K4⟩
            have X' := HX.out.prog R4 K4
            have W' := HW.out.prog K4 HX.out.low
            have Q' : S.quiet (k + 1 + 1) := ⟨HQ.out.good, HQ.out.calm, by have := HQ.out.num; omega⟩
            have B' : S.st = [] ∧ S.more = 0 ∧ S.D.half = H ∧ S.D.ops ≤ 100 * (k + 1) ∧ S.D.row.length ≤ 100 * (k + 1) := ⟨Hf.out.1, Hf.out.2.1, Hf.out.2.2, by omega, by omega⟩
            clear hap R4 K4 HX HW HB hBc
            by_cases hMr : M ≤ S.room
            · have hMr' : decide (M ≤ S.room) = true := by simpa using hMr
              have hb4 : decide ((b.length : Int) ≤ 4000) = false := by
                simp
                rcases Nat.lt_or_ge 4000 b.length with h | h
                · omega
                · exact absurd ⟨h, by rw [← HMb.out h]; exact hMr⟩ Hgo.out
              clear hMr
              obtain ⟨A9, c9, rfl, hn9⟩ := W'.row.val
              have hc1 := X'.cells.2
              obtain ⟨vl9, vs9, A9r⟩ := X'.rollat
              have hrm := room_calls A9r Q'.good.ok
              have HX9 := hid X'
              have HW9 := hid W'
              have HQ9 := hid Q'
              have HB9 := hid B'
              clear A9r X' W' Q' B'
              go_wp2_with fail
              refine hrm.mono ?_
              rintro e w10 ⟨rfl, K10⟩
              have HX10 := hid (HX9.out.keep K10)
              have HW10 := hid (HW9.out.keep K10)
              have hc1 := HX10.out.cells.2
              obtain ⟨vl10, vs10, A10⟩ := HX10.out.rollat
              have hrec := records_calls A10 HQ9.out.good.ok
              clear hrm K10 HX9 HW9 A10
              go_wp2_with fail
              refine hrec.mono ?_
              rintro e w11 ⟨v11, rfl, RC, K11⟩
              obtain ⟨A11, c11, rfl⟩ := RC.val
              have HX11 := hid (HX10.out.keep K11)
              have HW11 := hid (HW10.out.keep K11)
              have hsm := same_calls w11 _ _ A11 A9 c11 c9 _ _ RC.reads HW11.out.row.reads (by have := HQ9.out.good.ok.ll; omega)
              rw [show (S.l == S.l) = true by simp] at hsm
              clear hrec RC K11 HX10 HW10
              go_wp2_with fail
              refine hsm.mono ?_
              rintro e w12 ⟨rfl, K12⟩
              have HX12 := hid (HX11.out.keep K12)
              have HW12 := hid (HW11.out.keep K12)
              clear hsm K12 HX11 HW11
              go_wp2_with fail
              go_roundw
              case rel => exact ⟨k + 1, S, _, _, by go_num, hlt, rfl, HX12.out, HW12.out, HQ9.out, HB9.out.1, HB9.out.2.1, HB9.out.2.2.1, HB9.out.2.2.2.1, HB9.out.2.2.2.2⟩
              case measure => simp [intOf]; omega
            · have hMr' : decide (M ≤ S.room) = false := by simpa using hMr
              clear hMr
              obtain ⟨A9, c9, rfl, hn9⟩ := W'.row.val
              have hc1 := X'.cells.2
              obtain ⟨vl9, vs9, A9r⟩ := X'.rollat
              have hrm := room_calls A9r Q'.good.ok
              have HX9 := hid X'
              have HW9 := hid W'
              have HQ9 := hid Q'
              have HB9 := hid B'
              clear A9r X' W' Q' B'
              go_wp2_with fail
              refine hrm.mono ?_
              rintro e w10 ⟨rfl, K10⟩
              have HX10 := hid (HX9.out.keep K10)
              have HW10 := hid (HW9.out.keep K10)
              have hc1 := HX10.out.cells.2
              obtain ⟨vl10, vs10, A10⟩ := HX10.out.rollat
              have hrec := records_calls A10 HQ9.out.good.ok
              clear hrm K10 HX9 HW9 A10
              go_wp2_with fail
              refine hrec.mono ?_
              rintro e w11 ⟨v11, rfl, RC, K11⟩
              obtain ⟨A11, c11, rfl⟩ := RC.val
              have HX11 := hid (HX10.out.keep K11)
              have HW11 := hid (HW10.out.keep K11)
              have hsm := same_calls w11 _ _ A11 A9 c11 c9 _ _ RC.reads HW11.out.row.reads (by have := HQ9.out.good.ok.ll; omega)
              rw [show (S.l == S.l) = true by simp] at hsm
              clear hrec RC K11 HX10 HW10
              go_wp2_with fail
              refine hsm.mono ?_
              rintro e w12 ⟨rfl, K12⟩
              have HX12 := hid (HX11.out.keep K12)
              have HW12 := hid (HW11.out.keep K12)
              clear hsm K12 HX11 HW11
              go_wp2_with fail
              go_roundw
              case rel => exact ⟨k + 1, S, _, _, by go_num, hlt, rfl, HX12.out, HW12.out, HQ9.out, HB9.out.1, HB9.out.2.1, HB9.out.2.2.1, HB9.out.2.2.2.1, HB9.out.2.2.2.2⟩
              case measure => simp [intOf]; omega
        · have hge : k = l.length := by omega
          subst hge
          clear hlt hk
          go_wp2_with fail
          refine (ralive_calls wr).mono ?_
          rintro e w3 ⟨rfl, K3⟩
          have HX3 := hid (HX.out.keep K3)
          have hc1 := HX3.out.cells.2
          obtain ⟨vl3, vs3, A3⟩ := HX3.out.rollat
          obtain ⟨D', hd, hre, hq, hh, hu⟩ := reset_quiet HQ.out (by omega) (l := []) (fun b hb => by cases hb) (Nat.zero_le _)
          have hrs := reset_calls (G := Noth) A3 HQ.out.good.ok (by omega) (by omega) none 0 [] ⟨⟨[], rfl, Reads.nil _ _, fun i v b e => by simp at e⟩, fun h => absurd rfl h⟩ (fun q e => e.elim) (by decide) (fun b hb => by cases hb) (by decide)
          rw [hre] at hrs
          obtain ⟨S', hS'⟩ : ∃ S', S' = (⟨D', hd, S.nslot, [], [], 0⟩ : RS) := ⟨_, rfl⟩
          have hS2 : S'.l = [] ∧ S'.room = H := by
            rw [hS']
            refine ⟨rfl, ?_⟩
            unfold RS.room
            show (D'.half : Int) - hd.used - (0 : Nat) = H
            rw [hh, hu, Hf.out.2.2]; simp [moreL]
          rw [← hS'] at hrs hq
          have HS2 := hid hS2
          have Hq := hid hq
          clear K3 HX HW A3 hre hh hu hS2 hq hS'
          go_wp2_with fail
          refine hrs.mono ?_
          rintro e w4 ⟨rfl, R4, K4⟩
          have HX4 := hid (HX3.out.prog R4 K4)
          have hc1 := HX4.out.cells.2
          obtain ⟨vl4, vs4, A4⟩ := HX4.out.rollat
          have hrec := records_calls A4 Hq.out.good.ok
          clear hrs R4 K4 HX3 A4
          go_wp2_with fail
          refine hrec.mono ?_
          rintro e w5 ⟨v5, rfl, RC, K5⟩
          obtain ⟨A5, c5, rfl⟩ := RC.val
          have hl5 : S'.l.length = 0 := by rw [HS2.out.1]; rfl
          rw [hl5]
          have HX5 := hid (HX4.out.keep K5)
          have hc1 := HX5.out.cells.2
          obtain ⟨vl5, vs5, A6⟩ := HX5.out.rollat
          have hrm := room_calls A6 Hq.out.good.ok
          rw [HS2.out.2] at hrm
          have hHc : (H : Int) = (count - 2) / 2 := Hf0.out.2.2.2.2.1
          have HHc := hid hHc
          clear hrec RC K5 HX4 A6 hl5 hHc
          go_wp2_with fail
          refine hrm.mono ?_
          rintro e w6 ⟨rfl, K6⟩
          have HK6 := hid (HX5.out.keep K6).kept
          clear hrm K6 HX5
          go_wp2_with fail
          go_ret
          refine ⟨?_, HK6.out⟩
          have h1 : (H : Int) = (count - 2).tdiv 2 := by rw [HHc.out, Int.tdiv_eq_ediv_of_nonneg (by omega)]
          have h2 := HHc.out
          first
            | (show Ending.returned (.bool ((H : Int) == (count - 2) / 2)) = _; rw [← h2]; simp)
            | (show Ending.returned (.bool ((H : Int) == (count - 2).tdiv 2)) = _; rw [← h1]; simp)
end Go.Proofs.Ytffcglfepobdjaa
