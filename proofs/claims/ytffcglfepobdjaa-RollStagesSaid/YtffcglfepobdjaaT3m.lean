/- quiltworklaw11.RollStages (f11). -/
import Derived.Test.YtffcglfepobdjaaT2m
set_option linter.unusedVariables false
set_option linter.unusedSimpArgs false
set_option maxRecDepth 100000
set_option maxHeartbeats 2000000
namespace Go.Proofs.Ytffcglfepobdjaa
open Go.RowKit


def fstB : List UInt8 := [102, 105, 114, 115, 116]
structure WantE (w0 w : World) (F G Ga : Nat → Prop) (bw : Nat) (Fw : Nat → Prop) (v : Value) (l : List (List UInt8)) : Prop where
  row : RowsL w Fw Ga v l
  dF : Dj Fw F
  dG : Dj Fw G
  dE : Dj Fw Ga
  eF : Dj Ga F
  nb : ¬ Fw bw
  lt : Lt Fw w
  elt : Lt Ga w
  low : ∀ q, Fw q → w0.heap.size ≤ q
theorem WantE.keep {w0 w w' : World} {F G Ga Fw : Nat → Prop} {bw : Nat} {v : Value} {l : List (List UInt8)} (h : WantE w0 w F G Ga bw Fw v l) (k : Keep Noth w w') : WantE w0 w' F G Ga bw Fw v l :=
  ⟨h.row.keep k (Dj.noth _) (Dj.noth _), h.dF, h.dG, h.dE, h.eF, h.nb, h.lt.up k.size, h.elt.up k.size, h.low⟩
theorem WantE.prog {w0 w w' : World} {F G Ga Fw : Nat → Prop} {bw : Nat} {v : Value} {l : List (List UInt8)} (h : WantE w0 w F G Ga bw Fw v l) (k : Keep F w w') : WantE w0 w' (grow F w w') G Ga bw Fw v l :=
  ⟨h.row.keep k h.dF h.eF, h.dF.grow h.lt, h.dG, h.dE, h.eF.grow h.elt, h.nb, h.lt.up k.size, h.elt.up k.size, h.low⟩
/-- One more is wanted. -/
theorem WantE.more {w0 w w1 w' : World} {F G Ga Fw : Nat → Prop} {bw g r : Nat} {S R : RS} {v v' : Value} {l m : List (List UInt8)} (h : WantE w0 w F G Ga bw Fw v l) (X : WX w0 w F G bw g r S R) (K1 : Keep Noth w w1)
    (H : RowsL w' (fun k => v.ownBlock = some k ∨ (w1.heap.size ≤ k ∧ k < w'.heap.size)) Ga v' m) (K2 : Keep (fun k => v.ownBlock = some k) w1 w') :
    WantE w0 w' F G Ga bw (grow Fw w1 w') v' m ∧ WX w0 w' F G bw g r S R := by
  have ho : ∀ q, v.ownBlock = some q → Fw q := fun q e => (h.row.own q e).1
  have hs1 := K1.size
  have hs2 := K2.size
  have hk := X.kept.size
  refine ⟨⟨H.mono (fun q e => e.imp (ho q) id) (fun _ e => e), fun q a b => ?_, fun q a b => ?_, fun q a b => ?_, h.eF, fun a => ?_, fun q a => ?_, fun q a => ?_, fun q a => ?_⟩, (X.keep K1).apart K2 (fun q a b => h.dF q (ho q b) a) (fun q a b => h.dG q (ho q b) a) (fun e => h.nb (ho _ e))⟩
  · rcases a with a | a
    · exact h.dF q a b
    · have := X.rlt q b; have := a.1; omega
  · rcases a with a | a
    · exact h.dG q a b
    · have := X.glt q b; have := a.1; omega
  · rcases a with a | a
    · exact h.dE q a b
    · have := h.elt q b; have := a.1; omega
  · rcases a with a | a
    · exact h.nb a
    · have := X.wlt; have := a.1; omega
  · rcases a with a | a
    · have := h.lt q a; omega
    · exact a.2
  · have := h.elt q a; omega
  · rcases a with a | a
    · exact h.low q a
    · have := a.1; omega
theorem ReadsL.take {w : World} {G : Nat → Prop} {A : Option Addr} {l : List (List UInt8)} (h : ReadsL w G A l) (n : Nat) : ReadsL w G A (l.take n) := by
  obtain ⟨⟨vs, h1, h2, h3⟩, h4⟩ := h
  refine ⟨⟨vs.take n, by rw [List.length_take, List.length_take, h1], h2.take n, fun i v b e1 e2 => ?_⟩, fun hne => h4 (fun e => by subst e; simp at hne)⟩
  rw [List.getElem?_take] at e1 e2
  split at e1
  · rename_i hi
    rw [if_pos hi] at e2
    exact h3 i v b e1 e2
  · cases e1
theorem fst_blocks : blocksN fstB = 1 := by decide

theorem rstages_calls (w : World) (count : Int) (A : Option Addr) (c : Nat) (l : List (List UInt8)) (HL : ReadsL w (fun q => q < w.heap.size) A l) (hl : l.length ≤ 9223372036854775807) (rst : Bool) :
    Calls Try.prog 11 #[.int .i64 count, .slice A l.length c, .bool rst] w (fun e w' => e = .returned (.bool true) ∧ Keep Noth w w') := by
  have hlI : (l.length : Int) ≤ 9223372036854775807 := by omega
  have HL := hid HL
  have hbg := begin_calls w none 0 [] (Reads.nil _ _) (by decide) count
  go_enter Try.func11, Try.ntmps11
  go_wp2_with fail
  go_loopw [18, 7] (fun i s wr => (∃ (k : Nat) (x : Int), i = .int .i64 k ∧ k ≤ l.length ∧ s = .int .i64 x) ∧ w = wr) (fun i _ _ => l.length - (intOf i).toNat)
  case atStart => exact ⟨⟨0, 0, rfl, Nat.zero_le _, rfl⟩, rfl⟩
  case round =>
    obtain ⟨⟨k, x, rfl, hk, rfl⟩, rfl⟩ := hrel
    by_cases hlt : k < l.length
    · have hlt' : (k : Int) < l.length := by omega
      obtain ⟨b, hb⟩ : ∃ b, l[k]? = some b := ⟨_, List.getElem?_eq_getElem hlt⟩
      obtain ⟨gA, oA, rfl, B, c', hcell, -, -, -⟩ := HL.out.at k b hb
      clear hb hbg
      go_wp2_with fail
      go_roundw
      case rel => exact ⟨⟨k + 1, _, by go_num, hlt, rfl⟩, trivial⟩
      case measure => simp [intOf]; omega
    · have hge : k = l.length := by omega
      subst hge
      clear hlt hk
      by_cases hgd : count < 4 ∨ 40 < count ∨ 40 < l.length ∨ 8000 < x
      · have hal := ralive_calls w
        clear hbg
        by_cases g1 : count < 4
        · have g1' : decide (count < 4) = true := by simpa using g1
          clear hgd
          go_wp2_with fail
          refine hal.mono ?_
          rintro e w1 ⟨rfl, K1⟩
          go_wp2_with fail
          go_ret
          exact ⟨rfl, K1⟩
        by_cases g2 : 40 < count
        · have g1' : decide (count < 4) = false := by simpa using g1
          have g2' : decide (count > 40) = true := by simpa using g2
          clear hgd
          go_wp2_with fail
          refine hal.mono ?_
          rintro e w1 ⟨rfl, K1⟩
          go_wp2_with fail
          go_ret
          exact ⟨rfl, K1⟩
        by_cases g3 : 40 < l.length
        · have g1' : decide (count < 4) = false := by simpa using g1
          have g2' : decide (count > 40) = false := by simpa using g2
          have g3' : decide ((l.length : Int) > 40) = true := by simp; omega
          clear hgd
          go_wp2_with fail
          refine hal.mono ?_
          rintro e w1 ⟨rfl, K1⟩
          go_wp2_with fail
          go_ret
          exact ⟨rfl, K1⟩
        · have g1' : decide (count < 4) = false := by simpa using g1
          have g2' : decide (count > 40) = false := by simpa using g2
          have g3' : decide ((l.length : Int) > 40) = false := by simp; omega
          have g4 : 8000 < x := by omega
          have g4' : decide (x > 8000) = true := by simpa using g4
          clear hgd
          go_wp2_with fail
          refine hal.mono ?_
          rintro e w1 ⟨rfl, K1⟩
          go_wp2_with fail
          go_ret
          exact ⟨rfl, K1⟩
      have g1 : 4 ≤ count := by omega
      have g2 : count ≤ 40 := by omega
      have g3 : l.length ≤ 40 := by omega
      have g4 : x ≤ 8000 := by omega
      have g1' : decide (count < 4) = false := by simp; omega
      have g2' : decide (count > 40) = false := by simp; omega
      have g3' : decide ((l.length : Int) > 40) = false := by simp; omega
      have g4' : decide (x > 8000) = false := by simp; omega
      clear hgd
      go_wp2_with fail
      refine hbg.mono ?_
      rintro e w1 ⟨bw, g, r, F, G, rfl, X1⟩
      have h4o : 4 ≤ ofN (padI [] (64 * cntN count)) := by rw [ofN_pad (cntN_bound count).1 (cntN_bound count).2]; exact (cntN_bound count).1
      obtain ⟨hz1, hz2⟩ := openS_zero h4o
      have hhf : 1 ≤ (openS (DS.of (padI [] (64 * cntN count)))).D.half := by
        rw [openS_D]; unfold DS.half; rw [of_len, ofN_pad (cntN_bound count).1 (cntN_bound count).2]
        have := (cntN_bound count).1
        omega
      obtain ⟨S0, hS0⟩ : ∃ S0, S0 = openS (DS.of (padI [] (64 * cntN count))) := ⟨_, rfl⟩
      rw [← hS0] at X1 hz1 hz2 hhf
      have hl0 : S0.l = [] := by rw [hz1]
      have hst0 : S0.st = [] := by rw [hz1]
      have hmo0 : S0.more = 0 := by rw [hz1]
      have hus0 : S0.own.used = 0 := by rw [hz1]
      have hop0 : S0.D.ops = 0 ∧ S0.D.row.length = 0 := by rw [hz1]; exact ⟨rfl, rfl⟩
      obtain ⟨D1, hd1, ha1, hq1, hh1, hu1⟩ := append_quiet (b := fstB) hz2 (by decide) (by decide) (by rw [fst_blocks]; unfold RS.room; rw [hmo0, hus0]; omega)
      have hag := append_grow S0 fstB
      have hsg := stage_grow (S := S0) fstB
      rw [ha1] at hag
      rw [hst0, hl0, List.nil_append, List.nil_append] at ha1 hq1
      obtain ⟨S1, hS1⟩ : ∃ S1, S1 = (⟨D1, hd1, S0.nslot, [fstB], [], 0⟩ : RS) := ⟨_, rfl⟩
      rw [← hS1] at ha1 hq1
      have Hf1 := hid (show S1.l = [fstB] ∧ S1.st = [] ∧ 1 ≤ S1.D.half ∧ S1.D.ops ≤ 100 ∧ S1.D.row.length ≤ 100 from by
        rw [hS1]
        refine ⟨rfl, rfl, by show 1 ≤ D1.half; omega, ?_, ?_⟩
        · show D1.ops ≤ 100
          have : D1.ops ≤ S0.D.ops + 66 := hag.1
          omega
        · show D1.row.length ≤ 100
          have : D1.row.length ≤ S0.D.row.length + 64 := hag.2.1
          omega)
      have hc1 := X1.cells.2
      have HX1 := hid X1
      have Hq1 := hid hq1
      have Hz2 := hid hz2
      have Hop0 := hid hop0
      have Hsg := hid hsg
      have Ha1 := hid ha1
      clear hbg X1 hz1 hz2 hl0 hst0 hmo0 hus0 hhf hS0 h4o hop0 hS1 hh1 hu1 hag hsg ha1 hq1
      have kc := fun (W : World) (C : Array Value) (n c : Nat) => Lib.run_convert_bytes_const (P := Try.prog) W 33 5 C n c sl33 Try.underlying5
      go_wp2_with fail
      have K2 : Keep Noth w1 (w1.alloc (.cells #[.int .u8 102, .int .u8 105, .int .u8 114, .int .u8 115, .int .u8 116] 5 (5, 5 + 1))) := (Keep.refl _ _).alloc _
      have Q2 : Reads (w1.alloc (.cells #[.int .u8 102, .int .u8 105, .int .u8 114, .int .u8 115, .int .u8 116] 5 (5, 5 + 1))) (some ⟨w1.heap.size, 0, none⟩) (bv fstB) := reads_marked w1 fstB _
      generalize hw2 : w1.alloc (.cells #[.int .u8 102, .int .u8 105, .int .u8 114, .int .u8 115, .int .u8 116] 5 (5, 5 + 1)) = w2 at *
      have X2 := HX1.out.keep K2
      obtain ⟨vl2, vs2, A2⟩ := X2.rollat
      have hap := append_calls A2 Hz2.out.good.ok (by have := Hop0.out.1; omega) (by have := Hop0.out.2; omega) (some ⟨w1.heap.size, 0, none⟩) 5 fstB Q2 (fun e => by cases e) (fun _ ad e hq => by injection e with e; subst e; have h := HX1.out.rlt _ hq; exact absurd h (Nat.lt_irrefl _)) (stage_good Hz2.out.good _).ok (by have := Hsg.out.1; have := Hop0.out.1; omega) (by have := Hsg.out.2.1; have := Hop0.out.2; omega)
      rw [Ha1.out] at hap
      refine hap.mono ?_
      rintro e w3 ⟨rfl, R3, K3⟩
      have HX3 := hid (X2.prog R3 K3)
      clear hap X2 A2 R3 K2 K3 Q2 hw2 HX1 Ha1 hc1
      go_wp2_with fail
      have K4 : Keep Noth w3 (w3.alloc (.cells #[.int .u8 102, .int .u8 105, .int .u8 114, .int .u8 115, .int .u8 116] 5 (5, 5 + 1))) := (Keep.refl _ _).alloc _
      have Q4 : Reads (w3.alloc (.cells #[.int .u8 102, .int .u8 105, .int .u8 114, .int .u8 115, .int .u8 116] 5 (5, 5 + 1))) (some ⟨w3.heap.size, 0, none⟩) (bv fstB) := reads_marked w3 fstB _
      have s4 : (w3.alloc (.cells #[.int .u8 102, .int .u8 105, .int .u8 114, .int .u8 115, .int .u8 116] 5 (5, 5 + 1))).heap.size = w3.heap.size + 1 := World.size_alloc _ _
      generalize hw4 : w3.alloc (.cells #[.int .u8 102, .int .u8 105, .int .u8 114, .int .u8 115, .int .u8 116] 5 (5, 5 + 1)) = w4 at *
      have K5 : Keep Noth w4 (w4.alloc (.cells #[.slice (some ⟨w3.heap.size, 0, none⟩) 5 5] 33)) := (Keep.refl _ _).alloc _
      have B5 : BlockIs (w4.alloc (.cells #[.slice (some ⟨w3.heap.size, 0, none⟩) 5 5] 33)) (w3.heap.size + 1) [.slice (some ⟨w3.heap.size, 0, none⟩) 5 5] 33 := by rw [← s4]; exact BlockIs.new w4 _ _
      have O5 : (w4.alloc (.cells #[.slice (some ⟨w3.heap.size, 0, none⟩) 5 5] 33)).ownsRow 0 33 1 (.slice (some ⟨w3.heap.size + 1, 0, none⟩) 1 1) 1 [.slice (some ⟨w3.heap.size, 0, none⟩) 5 5] := by rw [← s4]; exact World.ownsRow_lit w4 #[.slice (some ⟨w3.heap.size, 0, none⟩) 5 5] 1 (Nat.zero_le _) (by decide) rfl
      have s5 : (w4.alloc (.cells #[.slice (some ⟨w3.heap.size, 0, none⟩) 5 5] 33)).heap.size = w3.heap.size + 1 + 1 := by rw [← s4]; exact World.size_alloc _ _
      generalize hw5 : w4.alloc (.cells #[.slice (some ⟨w3.heap.size, 0, none⟩) 5 5] 33) = w5 at *
      have K35 := K4.trans K5 (fun _ _ h => h)
      have X5 := HX3.out.keep K35
      have W5 : WantE w w5 (grow F w2 w3) G (fun q => q < w.heap.size ∨ q = w3.heap.size) bw (fun q => q = w3.heap.size + 1) (.slice (some ⟨w3.heap.size + 1, 0, none⟩) 1 1) [fstB] := by
        have h1 := HX3.out.kept.size
        have h2 := HX3.out.wlt
        refine ⟨⟨[.slice (some ⟨w3.heap.size, 0, none⟩) 5 5], rfl, ⟨O5, by simp, fun q hq => by injection hq with hq; exact hq.symm⟩, one_vs ⟨_, 5, rfl, Q4.keep K5 (fun _ _ => id), (fun e => by cases e), fun _ ad e => by injection e with e; subst e; exact .inr rfl⟩⟩, ?_, ?_, ?_, ?_, ?_, ?_, ?_, ?_⟩
        · intro q a b; have := HX3.out.rlt q b; omega
        · intro q a b; have := HX3.out.glt q b; omega
        · intro q a b; rcases b with b | b <;> omega
        · intro q a b
          have h3 := HX3.out.rlt q b
          have h4 := HX3.out.low q b
          rcases a with a | a <;> omega
        · intro e; have e : bw = w3.heap.size + 1 := e; omega
        · intro q a; have a : q = w3.heap.size + 1 := a; omega
        · intro q a; rcases a with a | a <;> omega
        · intro q a; have a : q = w3.heap.size + 1 := a; omega
      obtain ⟨Ga, hGa⟩ : ∃ Ga : Nat → Prop, Ga = fun q => q < w.heap.size ∨ q = w3.heap.size := ⟨_, rfl⟩
      rw [← hGa] at W5
      have HGa := hid (show ∀ q, q < w.heap.size → Ga q by rw [hGa]; exact fun q h => .inl h)
      have HGl := hid (show ∀ q, Ga q → q < w.heap.size ∨ w.heap.size ≤ q by intro q _; omega)
      have HX5 := hid X5
      have HW5 := hid W5
      clear X5 W5 O5 B5 Q4 K4 K5 K35 s4 s5 hw4 hw5 HX3 hGa kc
      go_wp2_with fail
      go_loopw [71, 12, 11] (fun iv sv v wr => ∃ (k : Nat) (S : RS) (F' Fw : Nat → Prop), iv = .int .i64 k ∧ k ≤ l.length ∧ sv = .int .i64 (S.st.length : Int) ∧ WX w wr F' G bw g r S S0 ∧ WantE w wr F' G Ga bw Fw v ([fstB] ++ S.st) ∧ S.quiet 2 ∧ S.l = [fstB] ∧ 1 ≤ S.D.half ∧ S.D.ops ≤ 100 * (k + 1) ∧ S.D.row.length ≤ 100 * (k + 1)) (fun iv _ _ _ => l.length - (intOf iv).toNat)
      case atStart => exact ⟨0, S1, _, _, rfl, Nat.zero_le _, by rw [Hf1.out.2.1]; rfl, HX5.out, by rw [Hf1.out.2.1]; exact HW5.out, Hq1.out, Hf1.out.1, Hf1.out.2.2.1, Hf1.out.2.2.2.1, Hf1.out.2.2.2.2⟩
      case round =>
        obtain ⟨k, S, F', Fw, rfl, hk, rfl, X, W, Q, hsl, hhf, hops, hrow⟩ := hrel
        have hc1 := X.cells.2
        have HX := hid X
        have HW := hid W
        have HQ := hid Q
        have Hf := hid (show S.l = [fstB] ∧ 1 ≤ S.D.half from ⟨hsl, hhf⟩)
        have hstl := Q.good.ok.stl
        clear X W Q hsl hhf HX5 HW5
        by_cases hlt : k < l.length
        · have hlt' : (k : Int) < l.length := by omega
          obtain ⟨b, hb⟩ : ∃ b, l[k]? = some b := ⟨_, List.getElem?_eq_getElem hlt⟩
          obtain ⟨gA, oA, rfl, B, c', hcell, hB, hBc, hBG⟩ := (HL.out.keep HX.out.kept (Dj.noth _)).at k b hb
          clear hb
          go_wp2_with fail
          obtain ⟨vl3, vs3, A3⟩ := HX.out.rollat
          have hst := stage_calls A3 HQ.out.good.ok (by omega) (by omega) B c' b hB hBc (fun hb ad e hq => by have := hBG hb ad e; have := HX.out.low _ hq; omega)
          have hsg := stage_grow (S := S) b
          have HB := hid (show RecVal wr Ga (.slice B b.length c') b from ⟨B, c', rfl, hB, hBc, fun hb ad e => HGa.out _ (hBG hb ad e)⟩)
          by_cases hgo : b.length ≤ 4000 ∧ (blocksN b : Int) ≤ S.room
          · obtain ⟨D', ha, hq, hh⟩ := stage_quiet HQ.out hgo.1 hgo.2
            rw [ha] at hst hsg
            obtain ⟨S', hS'⟩ : ∃ S', S' = ({ S with D := D', st := S.st ++ [b], more := S.more + blocksN b } : RS) := ⟨_, rfl⟩
            have hS2 : S'.l = S.l ∧ S'.st = S.st ++ [b] ∧ S'.D = D' := by rw [hS']; exact ⟨rfl, rfl, rfl⟩
            rw [← hS'] at hst hq
            have hsl2 : ((S.st.length : Nat) : Int) + 1 = (S'.st.length : Int) := by rw [hS2.2.1]; simp
            have HS2 := hid hS2
            have Hsg := hid hsg
            have Hh := hid hh
            have Hsl2 := hid hsl2
            clear hsg ha hS2 hgo hh hcell hc1 hB A3 hS' hsl2
            refine hst.mono ?_
            rintro e w4 ⟨rfl, R4, K4⟩
            have X4 := HX.out.prog R4 K4
            have W4 := HW.out.prog K4
            have HB4 := hid (HB.out.keep K4 HW.out.eF)
            have Hq := hid hq
            obtain ⟨A4, c4, rfl, hn4⟩ := W4.row.val
            have HX4 := hid X4
            have HW4 := hid W4
            clear hst R4 K4 X4 W4 hq hBc
            go_wp2_with (first
              | (guard_target = wpList _ _ _ (Oper.mk _ (Op.buildSlice 63 _ _) _ _ _ _ :: _) _ _; refine wpList_slice1_v rfl 63 33 _ rfl sl63 [.slice B b.length c'] (.slice none 0 0) info33 rfl (by decide) (by decide) (by rfl) rfl ?_; intro b8 w7 hb8 B8 K7)
              | (at_builtin; refine wpList_appendL (by rfl) _ _ rfl (by rfl) (HW4.out.keep K7).row (by rfl) (m := [b]) rfl (fun e => by cases e) [.slice B b.length c'] rfl (Reads.of_range B8.rangeAll) (one_vs (HB4.out.keep K7 (Dj.noth _))) (by simp; omega) (fun q e => HW4.out.dE q (HW4.out.row.own q e).1) ?_; intro v8 w8 R8 K8; rw [List.append_assoc, ← HS2.out.2.1] at R8; obtain ⟨W', X'⟩ := HW4.out.more HX4.out K7 R8 K8; have hc1 := X'.cells.2; rw [Hsl2.out]))
            have Q' := Hq.out
            have B' : S'.l = [fstB] ∧ 1 ≤ S'.D.half ∧ S'.D.ops ≤ 100 * (k + 1 + 1) ∧ S'.D.row.length ≤ 100 * (k + 1 + 1) := ⟨by rw [HS2.out.1]; exact Hf.out.1, by rw [HS2.out.2.2, Hh.out]; exact Hf.out.2, by rw [HS2.out.2.2]; have : D'.ops ≤ S.D.ops + 63 := Hsg.out.1; omega, by rw [HS2.out.2.2]; have : D'.row.length ≤ S.D.row.length + 63 := Hsg.out.2.1; omega⟩
            clear K7 B8 R8 K8 HX4 HW4 HX HW HB hb8
            obtain ⟨A9, c9, rfl, hn9⟩ := W'.row.val
            have hc1 := X'.cells.2
            obtain ⟨vl9, vs9, A9r⟩ := X'.rollat
            have hsd := staged_calls A9r
            have HX9 := hid X'
            have HW9 := hid W'
            have HQ9 := hid Q'
            have HB9 := hid B'
            clear A9r X' W' Q' B'
            go_wp2_with fail
            refine hsd.mono ?_
            rintro e w10 ⟨rfl, rfl⟩
            obtain ⟨vl10, vs10, A10⟩ := HX9.out.rollat
            have hrec := records_calls A10 HQ9.out.good.ok
            have hc1 := HX9.out.cells.2
            clear hsd A10
            go_wp2_with fail
            refine hrec.mono ?_
            rintro e w11 ⟨v11, rfl, RC, K11⟩
            obtain ⟨A11, c11, rfl⟩ := RC.val
            have hl1 : S'.l.length = 1 := by rw [HB9.out.1]; rfl
            rw [hl1]
            have HX11 := hid (HX9.out.keep K11)
            have HW11 := hid (HW9.out.keep K11)
            clear hrec RC K11 HX9 HW9 hl1
            go_wp2_with fail
            go_roundw
            case rel => exact ⟨k + 1, S', _, _, by go_num, hlt, rfl, HX11.out, HW11.out, HQ9.out, HB9.out.1, HB9.out.2.1, HB9.out.2.2.1, HB9.out.2.2.2⟩
            case measure => simp [intOf]; omega
          · obtain ⟨hne, hsame⟩ := stage_no hgo
            rw [hsame] at hst
            obtain ⟨ev, hev⟩ : ∃ ev, ev = (S.stage b).2 := ⟨_, rfl⟩
            rw [← hev] at hst hne
            have hez : (ev == 0) = false := by simpa using hne
            clear hsg hsame hev hgo hcell hc1 hB A3
            refine hst.mono ?_
            rintro e w4 ⟨rfl, R4, K4⟩
            have X' := HX.out.prog R4 K4
            have W' := HW.out.prog K4
            have Q' := HQ.out
            have B' : S.l = [fstB] ∧ 1 ≤ S.D.half ∧ S.D.ops ≤ 100 * (k + 1 + 1) ∧ S.D.row.length ≤ 100 * (k + 1 + 1) := ⟨Hf.out.1, Hf.out.2, by omega, by omega⟩
            clear hst R4 K4 HX HW HB hBc
            obtain ⟨A9, c9, rfl, hn9⟩ := W'.row.val
            have hc1 := X'.cells.2
            obtain ⟨vl9, vs9, A9r⟩ := X'.rollat
            have hsd := staged_calls A9r
            have HX9 := hid X'
            have HW9 := hid W'
            have HQ9 := hid Q'
            have HB9 := hid B'
            clear A9r X' W' Q' B'
            go_wp2_with fail
            refine hsd.mono ?_
            rintro e w10 ⟨rfl, rfl⟩
            obtain ⟨vl10, vs10, A10⟩ := HX9.out.rollat
            have hrec := records_calls A10 HQ9.out.good.ok
            have hc1 := HX9.out.cells.2
            clear hsd A10
            go_wp2_with fail
            refine hrec.mono ?_
            rintro e w11 ⟨v11, rfl, RC, K11⟩
            obtain ⟨A11, c11, rfl⟩ := RC.val
            have hl1 : S.l.length = 1 := by rw [HB9.out.1]; rfl
            rw [hl1]
            have HX11 := hid (HX9.out.keep K11)
            have HW11 := hid (HW9.out.keep K11)
            clear hrec RC K11 HX9 HW9 hl1
            go_wp2_with fail
            go_roundw
            case rel => exact ⟨k + 1, S, _, _, by go_num, hlt, rfl, HX11.out, HW11.out, HQ9.out, HB9.out.1, HB9.out.2.1, HB9.out.2.2.1, HB9.out.2.2.2⟩
            case measure => simp [intOf]; omega
        · have hge : k = l.length := by omega
          subst hge
          clear hlt hk
          cases rst with
          | true =>
            have kc := fun (W : World) (C : Array Value) (n c : Nat) => Lib.run_convert_bytes_const (P := Try.prog) W 33 5 C n c sl33 Try.underlying5
            go_wp2_with fail
            have K4 : Keep Noth wr (wr.alloc (.cells #[.int .u8 102, .int .u8 105, .int .u8 114, .int .u8 115, .int .u8 116] 5 (5, 5 + 1))) := (Keep.refl _ _).alloc _
            have Q4 : Reads (wr.alloc (.cells #[.int .u8 102, .int .u8 105, .int .u8 114, .int .u8 115, .int .u8 116] 5 (5, 5 + 1))) (some ⟨wr.heap.size, 0, none⟩) (bv fstB) := reads_marked wr fstB _
            have s4 : (wr.alloc (.cells #[.int .u8 102, .int .u8 105, .int .u8 114, .int .u8 115, .int .u8 116] 5 (5, 5 + 1))).heap.size = wr.heap.size + 1 := World.size_alloc _ _
            generalize hw4 : wr.alloc (.cells #[.int .u8 102, .int .u8 105, .int .u8 114, .int .u8 115, .int .u8 116] 5 (5, 5 + 1)) = w4 at *
            have K5 : Keep Noth w4 (w4.alloc (.cells #[.slice (some ⟨wr.heap.size, 0, none⟩) 5 5] 33)) := (Keep.refl _ _).alloc _
            have B5 : BlockIs (w4.alloc (.cells #[.slice (some ⟨wr.heap.size, 0, none⟩) 5 5] 33)) (wr.heap.size + 1) [.slice (some ⟨wr.heap.size, 0, none⟩) 5 5] 33 := by rw [← s4]; exact BlockIs.new w4 _ _
            generalize hw5 : w4.alloc (.cells #[.slice (some ⟨wr.heap.size, 0, none⟩) 5 5] 33) = w5 at *
            have K35 := K4.trans K5 (fun _ _ h => h)
            have HX5 := hid (HX.out.keep K35)
            have HW5 := hid (HW.out.keep K35)
            have hRL : ReadsL w5 (fun q => q = wr.heap.size + 1 ∨ q = wr.heap.size) (some ⟨wr.heap.size + 1, 0, none⟩) [fstB] :=
              ⟨⟨_, rfl, Reads.of_range B5.rangeAll, one_vs ⟨_, 5, rfl, Q4.keep K5 (fun _ _ => id), (fun e => by cases e), fun _ ad e => by injection e with e; subst e; exact .inr rfl⟩⟩, fun _ ad e => by injection e with e; subst e; exact .inl rfl⟩
            obtain ⟨vl5, vs5, A5⟩ := HX5.out.rollat
            have hmb : moreL [fstB] = 1 := by decide
            obtain ⟨D', hd, hre, hq, hh, hu⟩ := reset_quiet HQ.out (by decide) (l := [fstB]) (fun b hb => by rw [List.mem_singleton.1 hb]; decide) (by rw [hmb]; exact Hf.out.2)
            have hrs := reset_calls A5 HQ.out.good.ok (by omega) (by omega) (some ⟨wr.heap.size + 1, 0, none⟩) 1 [fstB] hRL (fun q a b => by have := HX.out.rlt q b; rcases a with a | a <;> omega) (by decide) (fun b hb => by rw [List.mem_singleton.1 hb]; decide) (by rw [hmb]; decide)
            have hrg := reset_grow (S := S) HQ.out.good.dok [fstB]
            rw [hre] at hrs hrg
            obtain ⟨S', hS'⟩ : ∃ S', S' = (⟨D', hd, S.nslot, [fstB], [], 0⟩ : RS) := ⟨_, rfl⟩
            have hS2 : S'.l = [fstB] ∧ S'.st = [] ∧ S'.D.ops ≤ 100000 ∧ S'.D.row.length ≤ 100000 := by
              rw [hS']
              refine ⟨rfl, rfl, ?_, ?_⟩
              · show D'.ops ≤ _
                have : D'.ops ≤ S.D.ops + 2050 := hrg.1
                omega
              · show D'.row.length ≤ _
                have : D'.row.length ≤ S.D.row.length + 2048 := hrg.2.1
                omega
            rw [← hS'] at hrs hq
            have HS2 := hid hS2
            have Hq := hid hq
            clear K4 K5 K35 Q4 B5 s4 hw4 hw5 HX HW hRL A5 hmb hre hh hu hrg hS2 hq hS' kc hc1
            refine hrs.mono ?_
            rintro e w6 ⟨rfl, R6, K6⟩
            have HX6 := hid (HX5.out.prog R6 K6)
            have HW6 := hid (HW5.out.prog K6)
            obtain ⟨A9, c9, rfl, hn9⟩ := HW6.out.row.val
            have hcap : 1 ≤ c9 := by
              obtain ⟨vs, h1, h2, h3⟩ := HW6.out.row
              have := h2.cap_le
              rw [List.length_map, h1] at this
              simp at this
              omega
            obtain ⟨N9, hN9⟩ : ∃ N, N = ([fstB] ++ S.st).length := ⟨_, rfl⟩
            rw [← hN9]
            have hcapI : (1 : Int) ≤ c9 := by omega
            clear hrs R6 K6 HX5 HW5 hN9
            go_wp2_with fail
            refine wp_region_ordL [(0, false), (1, true), (2, true), (3, true), (4, true), (5, true), (6, true), (7, true), (8, true), (9, true), (10, false), (11, true), (12, true), (13, true), (14, true), (15, true), (16, true), (17, true), (18, false), (19, true), (20, true), (21, true), (22, true), (23, true), (24, true), (25, true), (27, true), (28, true), (26, false), (29, false), (30, true), (31, false)] (fun W => W.cell? ⟨bw, 1, none⟩ = some (.pointer (some ⟨r, 0, none⟩))) follows_mixed (by kernel_rfl) HX6.out.cells.2 ?_
            simp only [List.map_cons, List.map_nil, List.getElem?_cons_succ, List.getElem?_cons_zero, Option.getD_some]
            refine wpO_call (by rfl) (exec_call' 37 _ _ rfl Try.func37 (by kernel_rfl) (by rfl) #[] (by simp [Act.eval])) ?_
            refine (ralive_calls _).mono ?_
            rintro e w7 ⟨rfl, K7⟩
            have HX7 := hid (HX6.out.keep ((Keep.refl Noth w6).drew.trans K7 (fun _ _ h => h)))
            have HW7 := hid (HW6.out.keep ((Keep.refl Noth w6).drew.trans K7 (fun _ _ h => h)))
            clear K7
            refine ⟨_, rfl, .inr HX7.out.cells.2, ?_⟩
            go_frame
            refine wpO_pure (v := .bool true) (by rfl) (fun w' hw' => by go_simp) ?_
            go_frame
            refine wpO_pure (v := .int .i64 0) (by rfl) (fun w' hw' => by go_simp) ?_
            go_frame
            refine wpO_pure (v := .bool true) (by rfl) (fun w' hw' => by go_simp) ?_
            go_frame
            refine wpO_pure (v := .bool true) (by rfl) (fun w' hw' => by go_simp) ?_
            go_frame
            refine wpO_pure (v := .bool true) (by rfl) (fun w' hw' => by go_simp) ?_
            go_frame
            refine wpO_pure (v := .pointer (some ⟨bw, 0, none⟩)) (by rfl) (fun w' hw' => by go_simp) ?_
            go_frame
            refine wpO_pure (v := .pointer (some ⟨bw, 0, none⟩)) (by rfl) (fun w' hw' => by go_simp) ?_
            go_frame
            refine wpO_pure (v := .pointer (some ⟨bw, 1, none⟩)) (by rfl) (fun w' hw' => by go_simp) ?_
            go_frame
            refine wpO_pure (v := .pointer (some ⟨r, 0, none⟩)) (by rfl) (fun w' hw' => by go_simp) ?_
            go_frame
            obtain ⟨vl7, vs7, A7⟩ := HX7.out.rollat
            have hsd := staged_calls A7
            rw [HS2.out.2.1] at hsd
            rw [show ((([] : List (List UInt8)).length : Nat) : Int) = 0 from rfl] at hsd
            refine wpO_call (by rfl) (exec_call' 45 _ _ rfl Try.func45 (by kernel_rfl) (by rfl) #[.pointer (some ⟨r, 0, none⟩)] (by simp [Act.eval])) ?_
            refine (hsd).mono ?_
            rintro e w' ⟨rfl, rfl⟩
            refine ⟨_, rfl, .inr HX7.out.cells.2, ?_⟩
            go_frame
            clear hsd A7
            refine wpO_pure (v := .bool true) (by rfl) (fun w' hw' => by go_simp) ?_
            go_frame
            refine wpO_pure (v := .bool true) (by rfl) (fun w' hw' => by go_simp) ?_
            go_frame
            refine wpO_pure (v := .bool true) (by rfl) (fun w' hw' => by go_simp) ?_
            go_frame
            refine wpO_pure (v := .pointer (some ⟨bw, 0, none⟩)) (by rfl) (fun w' hw' => by go_simp) ?_
            go_frame
            refine wpO_pure (v := .pointer (some ⟨bw, 0, none⟩)) (by rfl) (fun w' hw' => by go_simp) ?_
            go_frame
            refine wpO_pure (v := .pointer (some ⟨bw, 1, none⟩)) (by rfl) (fun w' hw' => by go_simp) ?_
            go_frame
            refine wpO_pure (v := .pointer (some ⟨r, 0, none⟩)) (by rfl) (fun w' hw' => by go_simp) ?_
            go_frame
            obtain ⟨vl7, vs7, A7⟩ := HX7.out.rollat
            have hsl := seal_calls A7 Hq.out.good.ok (by have := HS2.out.2.2.1; omega) (by have := HS2.out.2.2.2; omega)
            rw [show S'.sealz = (S', 0) by unfold RS.sealz; rw [if_pos HS2.out.2.1]] at hsl
            refine wpO_call (by rfl) (exec_call' 46 _ _ rfl Try.func46 (by kernel_rfl) (by rfl) #[.pointer (some ⟨r, 0, none⟩)] (by simp [Act.eval])) ?_
            refine (hsl).mono ?_
            rintro e w8 ⟨rfl, R8, K8⟩
            have R8' : RollIs w8 _ g r S' := R8
            have HX8 := hid (HX7.out.prog R8' K8)
            have HW8 := hid (HW7.out.prog K8)
            clear hsl A7 R8 R8' K8
            refine ⟨_, rfl, .inr HX8.out.cells.2, ?_⟩
            go_frame
            refine wpO_pure (v := .bool true) (by rfl) (fun w' hw' => by go_simp) ?_
            go_frame
            refine wpO_pure (v := .bool true) (by rfl) (fun w' hw' => by go_simp) ?_
            go_frame
            refine wpO_pure (v := .bool true) (by rfl) (fun w' hw' => by go_simp) ?_
            go_frame
            refine wpO_pure (v := .pointer (some ⟨bw, 0, none⟩)) (by rfl) (fun w' hw' => by go_simp) ?_
            go_frame
            refine wpO_pure (v := .pointer (some ⟨bw, 0, none⟩)) (by rfl) (fun w' hw' => by go_simp) ?_
            go_frame
            refine wpO_pure (v := .pointer (some ⟨bw, 1, none⟩)) (by rfl) (fun w' hw' => by go_simp) ?_
            go_frame
            refine wpO_pure (v := .pointer (some ⟨r, 0, none⟩)) (by rfl) (fun w' hw' => by go_simp) ?_
            go_frame
            refine wpO_pure (v := .slice A9 N9 c9) (by rfl) (fun w' hw' => by go_simp) ?_
            go_frame
            refine wpO_pure (v := .slice A9 1 c9) (by rfl) (fun w' hw' => by go_simp) ?_
            go_frame
            obtain ⟨vl8, vs8, A8⟩ := HX8.out.rollat
            refine wpO_call (by rfl) (exec_call' 42 _ _ rfl Try.func42 (by kernel_rfl) (by rfl) #[.pointer (some ⟨r, 0, none⟩)] (by simp [Act.eval])) ?_
            refine (records_calls A8 Hq.out.good.ok).mono ?_
            rintro e w9 ⟨v9, rfl, RC, K9⟩
            obtain ⟨A5, c5, rfl⟩ := RC.val
            have HX9 := hid (HX8.out.keep K9)
            have HW9 := hid (HW8.out.keep K9)
            refine ⟨_, rfl, .inr HX9.out.cells.2, ?_⟩
            go_frame
            have hsm := same_calls w9 _ _ A5 A9 c5 c9 _ _ RC.reads (HW9.out.row.reads.take 1) (by have := Hq.out.good.ok.ll; omega)
            rw [show (S'.l == List.take 1 ([fstB] ++ S.st)) = true by rw [HS2.out.1]; simp] at hsm
            refine wpO_call (by rfl) (exec_call' 41 _ _ rfl Try.func41 (by kernel_rfl) (by rfl) #[.slice A5 S'.l.length c5, .slice A9 1 c9] (by simp [Act.eval])) ?_
            refine (hsm).mono ?_
            rintro e w10 ⟨rfl, K10⟩
            have HX10 := hid (HX9.out.keep K10)
            refine ⟨_, rfl, .inr HX10.out.cells.2, ?_⟩
            go_frame
            refine wpO_pure (v := .bool true) (by rfl) (fun w' hw' => by go_simp) ?_
            go_frame
            refine wpO_run (v := .bool true) (w1 := w10) (by rfl) (by go_simp) (.inl rfl) (wpO_nil ?_)
            go_frame
            clear hsm K9 K10 A8 RC
            go_wp2_with fail
            go_ret
            exact ⟨rfl, HX10.out.kept⟩
          | false =>
            go_wp2_with fail
            refine (ralive_calls wr).mono ?_
            rintro e w3 ⟨rfl, K3⟩
            have HX3 := hid (HX.out.keep K3)
            have HW3 := hid (HW.out.keep K3)
            have hc1 := HX3.out.cells.2
            obtain ⟨vl3, vs3, A3⟩ := HX3.out.rollat
            have hsl := seal_calls A3 HQ.out.good.ok (by omega) (by omega)
            have hse : ∃ S', S.sealz = (S', 0) ∧ S'.good ∧ S'.l = [fstB] ++ S.st ∧ S'.st = [] := by
              by_cases hst : S.st = []
              · refine ⟨S, ?_, HQ.out.good, ?_, hst⟩
                · unfold RS.sealz; rw [if_pos hst]
                · rw [Hf.out.1, hst]; rfl
              · obtain ⟨D', e1, q1, -⟩ := seal_quiet HQ.out (by decide) hst
                exact ⟨_, e1, q1.good, by rw [← Hf.out.1], rfl⟩
            obtain ⟨S', he, hg, hl2, hs2⟩ := hse
            rw [he] at hsl
            have Hg := hid hg
            have Hl2 := hid hl2
            have Hs2 := hid hs2
            clear he hg hl2 hs2 A3 K3 HX HW
            go_wp2_with fail
            refine hsl.mono ?_
            rintro e w4 ⟨rfl, R4, K4⟩
            have HX4 := hid (HX3.out.prog R4 K4)
            have HW4 := hid (HW3.out.prog K4)
            have hc1 := HX4.out.cells.2
            obtain ⟨vl4, vs4, A4⟩ := HX4.out.rollat
            have hsd := staged_calls A4
            rw [Hs2.out] at hsd
            rw [show ((([] : List (List UInt8)).length : Nat) : Int) = 0 from rfl] at hsd
            clear hsl R4 K4 HX3 HW3 A4
            go_wp2_with fail
            refine hsd.mono ?_
            rintro e w' ⟨rfl, rfl⟩
            obtain ⟨vl4, vs4, A4⟩ := HX4.out.rollat
            have hrec := records_calls A4 Hg.out.ok
            obtain ⟨A9, c9, rfl, hn9⟩ := HW4.out.row.val
            clear hsd A4
            go_wp2_with fail
            refine hrec.mono ?_
            rintro e w5 ⟨v5, rfl, RC, K5⟩
            obtain ⟨A5, c5, rfl⟩ := RC.val
            have HW5 := hid (HW4.out.keep K5)
            have HK5 := hid (HX4.out.keep K5).kept
            have hsm := same_calls w5 _ _ A5 A9 c5 c9 _ _ RC.reads HW5.out.row.reads (by have := Hg.out.ok.ll; omega)
            rw [show (S'.l == [fstB] ++ S.st) = true by rw [Hl2.out]; simp] at hsm
            clear hrec RC K5 HX4 HW4
            go_wp2_with fail
            refine hsm.mono ?_
            rintro e w6 ⟨rfl, K6⟩
            have HK6 := hid (HK5.out.trans K6 (fun _ _ h => h))
            clear hsm K6 HK5
            go_wp2_with fail
            go_ret
            exact ⟨rfl, HK6.out⟩
end Go.Proofs.Ytffcglfepobdjaa
