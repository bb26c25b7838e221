/- quiltworklaw11.RollKeeps (f13). -/
import Derived.Test.YtffcglfepobdjaaX6
import Derived.Test.YtffcglfepobdjaaW5m
set_option linter.unusedVariables false
set_option linter.unusedSimpArgs false
set_option maxRecDepth 100000
set_option maxHeartbeats 2000000
namespace Go.Proofs.Ytffcglfepobdjaa
open Go.RowKit
section
variable {P : Program} {ops : Array Oper} {a : Act} {w : World} {o : Oper}
theorem wpO_append_full {S : World → Prop} {r : List (Oper × Bool)} {Q : Act → World → Prop} (hg : Region.wanted o (yielded ops a.tmps) = true) (s x : Operand) (ho : o.op = .call { callee := .builtin .append, args := #[s, x], argTypes := #[63, 63] }) {G : Nat → Prop} {A1 : Option Addr} {l m : List (List UInt8)} (hs : a.eval s = .slice A1 l.length l.length) (H1 : ReadsL w G A1 l)
  {A2 : Option Addr} {c2 : Nat} (hx : a.eval x = .slice A2 m.length c2) (H2 : ReadsL w G A2 m) (hA2 : A2 = none → c2 = 0) (hA1 : A1 = none → l = []) (hl : l.length + m.length ≤ 1099511627776)
  (h : ∀ v' w', StgV w w' G v' (l ++ m) → Keep Noth w w' → (r = [] ∨ S w') ∧ wpO Try.prog ops Q S r (a.put o.dst v') w') : wpO Try.prog ops Q S ((o, false) :: r) a w := by
 obtain ⟨v', w', e1, e2, e3⟩ := exec_append_full s x ho hs H1 hx H2 hA2 hA1 hl
 have := h v' w' e2 e3
 exact wpO_run hg e1 this.1 this.2
theorem wpList_append_stg {rest : List Oper} {Q : Exit → Act → World → Prop} {w0 : World} (hw : Region.wanted o (yielded ops a.tmps) = true) (s x : Operand) (ho : o.op = .call { callee := .builtin .append, args := #[s, x], argTypes := #[63, 63] }) {G : Nat → Prop} {v : Value} {l m : List (List UInt8)} (hs : a.eval s = v) (H1 : StgV w0 w G v l) (hG : Lt G w0) (h0 : w0.heap.size ≤ w.heap.size)
  {A2 : Option Addr} {c2 : Nat} (hx : a.eval x = .slice A2 m.length c2) (vs2 : List Value) (p1 : vs2.length = m.length) (p2 : Reads w A2 vs2) (p3 : ∀ (i : Nat) (x : Value) (b : List UInt8), vs2[i]? = some x → m[i]? = some b → RecVal w G x b) (hA2 : A2 = none → c2 = 0) (hfoot : m ≠ [] → ∀ ad, A2 = some ad → w0.heap.size ≤ ad.block ∧ ad.block < w.heap.size) (hl : l.length + m.length ≤ 1099511627776)
  (h : ∀ A' c' w', (A' = none → c' = 0) → ReadsL w' (grow G w0 w') A' (l ++ m) → Keep (Fresh w0 w) w w' → wpList Try.prog ops Q rest (a.put o.dst (.slice A' (l ++ m).length c')) w') : wpList Try.prog ops Q (o :: rest) a w := by
 obtain ⟨v', w', e1, ⟨A', c', rfl, r2, r3⟩, e3⟩ := exec_append_stg s x ho hs H1 hG h0 hx vs2 p1 p2 p3 hA2 hfoot hl
 exact wpList_run_w hw _ w' e1 (h A' c' w' r2 r3 e3)
end
/-- Records that are read beside a roll and a world. -/
structure Held (w : World) (F : Nat → Prop) (bw : Nat) (A : Option Addr) (c : Nat) (l : List (List UInt8)) : Prop where
 ex : ∃ G : Nat → Prop, ReadsL w G A l ∧ Dj G F ∧ ¬ G bw ∧ Lt G w
 nc : A = none → c = 0
theorem Held.keep {w w' : World} {F : Nat → Prop} {bw c : Nat} {A : Option Addr} {l : List (List UInt8)} (h : Held w F bw A c l) (k : Keep Noth w w') : Held w' F bw A c l := by
 obtain ⟨G, h1, h2, h3, h4⟩ := h.ex
 exact ⟨⟨G, h1.keep k (Dj.noth _), h2, h3, h4.up k.size⟩, h.nc⟩
theorem Held.step {w w' : World} {F F' : Nat → Prop} {bw c : Nat} {A : Option Addr} {l : List (List UInt8)} (h : Held w F bw A c l) (k : Keep (fun q => F q ∨ q = bw) w w') (hF : ∀ q, F' q → F q ∨ w.heap.size ≤ q) : Held w' F' bw A c l := by
 obtain ⟨G, h1, h2, h3, h4⟩ := h.ex
 refine ⟨⟨G, h1.keep k (fun q a b => b.elim (h2 q a) (fun e => by subst e; exact h3 a)), fun q a b => ?_, h3, h4.up k.size⟩, h.nc⟩
 rcases hF q b with e | e
 ·exact h2 q a e
 ·have := h4 q a; omega
theorem RollAt.armed {w w' : World} {F : Nat → Prop} {g r : Nat} {vl vs a b : Value} {S : RS} {D' : DS} (h : RollAt w F g r vl vs S) (hd : DevAt w F g a b S.D) (hD : DevAt w' F g a b D') (K : Keep (Only g) w w') : RollAt w' F g r vl vs { S with D := D' } :=
 ⟨hD.lt, h.here, h.blk.keep K (fun e => h.blk.tyne hd.blk (by decide) e), ⟨a, b, hD⟩, h.l.stay hd.blk (by decide) (by decide) K, h.st.stay hd.blk (by decide) (by decide) K, h.ne⟩
theorem WX.armed {w0 w w' : World} {F G : Nat → Prop} {bw g r : Nat} {vl vs a b : Value} {S R : RS} {D' : DS} (X : WX w0 w F G bw g r S R) (h : RollAt w F g r vl vs S) (hd : DevAt w F g a b S.D) (hD : DevAt w' F g a b D') (K : Keep (Only g) w w') : WX w0 w' F G bw g r { S with D := D' } R := by
 obtain ⟨v1, v2, A, c, B, d, h1, h2, h3, h4, h5, h6⟩ := X.ref
 have dj : Dj G (Only g) := fun q hq e => by unfold Only at e; subst e; exact X.off q hq hd.here
 have nb : ¬ Only g bw := fun e => by unfold Only at e; subst e; exact X.nbF hd.here
 exact ⟨⟨_, _, h.armed hd hD K⟩, ⟨v1, v2, A, c, B, d, h1.keep K dj, h2.keep K dj, h3.keep K dj, h4, h5, h6.keep K nb⟩, X.low, X.off, X.nbF, X.nbG, X.wlow, X.glt.up K.size, X.old, X.kept.own K (fun q e => by unfold Only at e; subst e; exact X.low _ hd.here)⟩
theorem Recs.capl {w : World} {F : Nat → Prop} {A : Option Addr} {n c : Nat} {l : List (List UInt8)} (h : Recs w F (.slice A n c) l) : l.length ≤ c := by
 obtain ⟨vs, h1, h2, h3⟩ := h.rowsL
 have := h2.cap_le
 rw [List.length_map, h1] at this
 exact this
theorem Held.of_grow {w w' : World} {F G : Nat → Prop} {bw c : Nat} {A : Option Addr} {l : List (List UInt8)} (h : ReadsL w' (grow G w w') A l) (hG : Dj G F) (hnb : ¬ G bw) (hlt : Lt G w) (hF : Lt F w) (hb : bw < w.heap.size) (hs : w.heap.size ≤ w'.heap.size) (nc : A = none → c = 0) : Held w' F bw A c l :=
 ⟨⟨_, h, fun q a b => a.elim (fun e => hG q e b) (fun e => by have := hF q b; have := e.1; omega), fun e => e.elim hnb (fun e => by have := e.1; omega), grow_lt hlt hs⟩, nc⟩
theorem ReadsL.none_nil {w : World} {G : Nat → Prop} {A : Option Addr} {l : List (List UInt8)} (h : ReadsL w G A l) : A = none → l = [] := fun e => by
 by_cases hl : l = []
 ·exact hl
 ·obtain ⟨ad, e2⟩ := h.some_of hl
  rw [e] at e2; cases e2
/-- The walk stops where this stands. -/
def Stopped (p : Prop) : Prop := p
theorem stop_here {p : Prop} (h : Stopped p) : p := h
theorem rkeeps_calls (w : World) (A : Option Addr) (c : Nat) (im : List UInt8) (hA : Reads w A (bv im)) (hil : im.length ≤ 1099511627776) (A1 : Option Addr) (c1 : Nat) (xs : List ROpC) (hS : RScript w (fun q => q < w.heap.size) A1 xs) (hsz : rsSize xs + xs.length ≤ 1048576)
  (z : Int) (hz : z ≤ 9223372036854775807) (A2 : Option Addr) (c2 : Nat) (fs : List Int) (hR2 : Reads w A2 (ints fs)) (hfs : ∀ z ∈ fs, -9223372036854775808 ≤ z ∧ z ≤ 9223372036854775807) (hfl : fs.length ≤ 1048576) :
  Calls Try.prog 13 #[.slice A im.length c, .slice A1 xs.length c1, .agg #[.int .i64 z, .slice A2 fs.length c2]] w (fun e w' => e = .returned (.bool true) ∧ Keep Noth w w') := by
 obtain ⟨fw, hfw⟩ : ∃ fw, fw = decide (xs.length ≤ 24 ∧ rsSize xs ≤ 9000) := ⟨_, rfl⟩
 have HA := hid hA
 have HS := hid hS
 have HR2 := hid hR2
 have Hfs := hid hfs
 have Hfw := hid hfw
 have Hz := hid hz
 have hilI : (im.length : Int) ≤ 1099511627776 := by omega
 have hflI : (fs.length : Int) ≤ 1048576 := by omega
 clear hA hS hR2 hfs hfw hz
 go_enter Try.func13, Try.ntmps13
 go_wp2_with (first
  | (guard_target = wpList _ _ _ (Oper.mk _ (Op.box 84 _) _ _ _ _ :: _) _ _; refine wpList_box_v rfl 84 _ rfl [.int .i64 z, .slice A2 fs.length c2] (by rfl) ?_; intro b5 wb hb5 B5 Kb))
 have hSb : RScript wb (fun q => q < wb.heap.size) A1 xs := (HS.out.keep Kb).mono (fun q hq => Nat.lt_of_lt_of_le hq Kb.size)
 have hfc := rfew_calls wb A1 c1 xs hSb hsz
 rw [← Hfw.out] at hfc
 refine hfc.mono ?_
 rintro e w1 ⟨rfl, K1⟩
 have HK1 := hid (Kb.trans K1 (fun _ _ h => h))
 have HB5 := hid (B5.keep K1 id)
 have HSA := hid ((hSb.keep K1).mono (fun q hq => Nat.lt_of_lt_of_le hq K1.size) : RScript w1 (fun q => q < w1.heap.size) A1 xs)
 have c51 : w1.cell? ⟨b5, 1, none⟩ = some (.slice A2 fs.length c2) := HB5.out.cell 1
 clear hfc K1 hSb B5 Kb hb5
 cases fw with
 | false =>
  go_wp2_with fail
  refine (ralive_calls _).mono ?_
  rintro e wz ⟨rfl, Kz⟩
  have HKz := hid ((HK1.out).trans Kz (fun _ _ h => h))
  clear Kz
  go_wp2_with fail
  go_ret
  exact ⟨rfl, HKz.out⟩
 | true =>
 have hx24 : xs.length ≤ 24 ∧ rsSize xs ≤ 9000 := of_decide_eq_true Hfw.out.symm
 by_cases g2 : 3000 < im.length
 ·have g2' : decide ((im.length : Int) > 3000) = true := by simp; omega
  go_wp2_with fail
  refine (ralive_calls _).mono ?_
  rintro e wz ⟨rfl, Kz⟩
  have HKz := hid ((HK1.out).trans Kz (fun _ _ h => h))
  clear Kz
  go_wp2_with fail
  go_ret
  exact ⟨rfl, HKz.out⟩
 have g2' : decide ((im.length : Int) > 3000) = false := by simp; omega
 by_cases g3 : 100 < fs.length
 ·have g3' : decide ((fs.length : Int) > 100) = true := by simp; omega
  go_wp2_with fail
  refine (ralive_calls _).mono ?_
  rintro e wz ⟨rfl, Kz⟩
  have HKz := hid ((HK1.out).trans Kz (fun _ _ h => h))
  clear Kz
  go_wp2_with fail
  go_ret
  exact ⟨rfl, HKz.out⟩
 have g3' : decide ((fs.length : Int) > 100) = false := by simp; omega
 have hbg := begin_calls w1 A c im (HA.out.keep HK1.out (fun _ _ => id)) hil 16
 obtain ⟨D0, hD0, hok0, hfour0, hrow0, hops0, hcalm0⟩ := start_facts im
 rw [← hD0] at hbg
 clear hD0
 go_wp2_with fail
 refine hbg.mono ?_
 rintro e w2 ⟨bw, g, r, F, G, rfl, X2⟩
 have HX2 := hid X2
 obtain ⟨vl, vr, A', a', B', b', gS, -, -, -, -, gB⟩ := X2.ref
 rw [openS_D] at gS gB
 have HL := hid (refLoose_calls gS hok0 (by rw [hrow0]; exact Nat.zero_le _) hfour0)
 clear hbg X2 gS c51
 go_wp2_with (first
  | (guard_target = wpList _ _ _ (Oper.mk _ (Op.load 30 _) _ _ _ _ :: _) _ _; refine wpList_load_blk rfl 30 _ rfl bw 2 _ (stv vl vr D0) 70 _ (by rfl) gB (wx_stv _ _ _ _ _ _) Try.underlying30 rfl info30 ?_))
 refine HL.out.mono ?_
 rintro e w3 ⟨B, rfl, hB, K3⟩
 have HX3 := hid (HX2.out.keep K3)
 clear HL gB HX2 K3
 cases B with
 | true =>
  go_wp2_with fail
  refine (ralive_calls _).mono ?_
  rintro e wz ⟨rfl, Kz⟩
  have HKz := hid ((HK1.out.trans HX3.out.kept (fun _ _ h => h)).trans Kz (fun _ _ h => h))
  clear Kz
  go_wp2_with fail
  go_ret
  exact ⟨rfl, HKz.out⟩
 | false =>
 have hinv0 := inv_start hok0 hfour0 hrow0 (hB rfl)
 obtain ⟨S0, hS0⟩ : ∃ S0, S0 = openS D0 := ⟨_, rfl⟩
 rw [← hS0] at HX3 hinv0
 have hc0 : Calm S0.D ∧ S0.D.ops = 0 ∧ S0.D.row.length = 0 := by rw [hS0, openS_D, hrow0]; exact ⟨hcalm0, hops0, rfl⟩
 have HX3d := hid (HX3.out.keep (Keep.refl Noth w3).drew)
 obtain ⟨va, vs, Ar⟩ := HX3d.out.rollx
 obtain ⟨vd, ve, D3⟩ := Ar.dev
 have hB5d := HB5.out.keep HX3d.out.kept id
 clear hB hok0 hfour0 hrow0 hops0 hcalm0 hS0
 go_wp2_with fail
 refine wp_region_ordL [(0, true), (1, true), (2, true), (3, true), (4, true), (5, true), (6, false)] (fun W => W.cell? ⟨bw, 0, none⟩ = some (.pointer (some ⟨g, 0, none⟩)) ∧ W.cell? ⟨b5, 0, none⟩ = some (.int .i64 z)) follows_mixed (by kernel_rfl) ⟨HX3d.out.cells.1, hB5d.cell 0⟩ ?_
 simp only [List.map_cons, List.map_nil, List.getElem?_cons_succ, List.getElem?_cons_zero, Option.getD_some]
 refine wpO_pure (v := .pointer (some ⟨bw, 0, none⟩)) (by rfl) (fun w' hw' => by go_simp) ?_
 go_frame
 refine wpO_pure (v := .pointer (some ⟨bw, 0, none⟩)) (by rfl) (fun w' hw' => by go_simp) ?_
 go_frame
 refine wpO_pure (v := .pointer (some ⟨bw, 0, none⟩)) (by rfl) (fun w' hw' => by go_simp) ?_
 go_frame
 refine wpO_pure (v := .pointer (some ⟨g, 0, none⟩)) (by rfl) (fun w' hw' => by have hc := hw'.1; go_simp) ?_
 go_frame
 refine wpO_pure (v := .pointer (some ⟨b5, 0, none⟩)) (by rfl) (fun w' hw' => by go_simp) ?_
 go_frame
 refine wpO_pure (v := .int .i64 z) (by rfl) (fun w' hw' => by have hc := hw'.2; go_simp) ?_
 go_frame
 refine wpO_call (by rfl) (exec_call' 27 _ _ rfl Try.func27 (by kernel_rfl) (by rfl) #[.pointer (some ⟨g, 0, none⟩), .int .i64 z] (by simp [Act.eval])) ?_
 refine (arm_calls D3 z).mono ?_
 rintro e w4 ⟨rfl, D4, K4⟩
 refine ⟨_, rfl, .inl rfl, wpO_nil ?_⟩
 go_frame
 have X4 := HX3d.out.armed Ar D3 D4 K4
 obtain ⟨S1, hS1⟩ : ∃ S1, S1 = ({ S0 with D := S0.D.arm z } : RS) := ⟨_, rfl⟩
 have hu1 : S1.un = S0 := by rw [hS1]; exact arm_un hc0.1.fuse z
 rw [← hS1, ← hu1] at X4
 have HX4 := hid X4
 have HI1 := hid (show S1.inv ∧ S1.D.down = false ∧ S1.D.ops = 0 ∧ S1.D.row.length = 0 from by rw [hS1]; exact ⟨arm_inv hinv0 z Hz.out, hc0.1.down, hc0.2.1, hc0.2.2⟩)
 clear X4 hS1 hu1 hc0 hinv0 D3 D4 K4 Ar HX3 HX3d hB5d
 have c1r := HX4.out.cells.2
 obtain ⟨va, vs, Ar⟩ := HX4.out.rollx
 have hrec := records_calls Ar HI1.out.1.good.ok
 clear Ar
 go_wp2_with fail
 refine hrec.mono ?_
 rintro e w5 ⟨v5, rfl, RC, K5⟩
 obtain ⟨A5, c5, rfl⟩ := RC.val
 have HX5 := hid (HX4.out.keep K5)
 have HW5 := hid (show Held w5 F bw A5 c5 S1.l from ⟨⟨_, RC.reads, fun q a b => by have h1 := HX4.out.rlt q b; have h2 := a.1; omega, fun e => by have h1 := HX4.out.wlt; have h2 := e.1; omega, fun q hq => hq.2⟩, fun e => by obtain ⟨es, e1, e2, e3⟩ := RC; exact e2.none_cap e⟩)
 have Hcp := hid RC.capl
 clear hrec RC K5 c1r HX4
 go_wp2_with fail
 go_loopw [57, 8, 9] (fun i wv nv wr => ∃ (k : Nat) (S : RS) (F' G' : Nat → Prop) (Aw : Option Addr) (cw : Nat), i = .int .i64 k ∧ k ≤ xs.length ∧ wv = .slice Aw S.l.length cw ∧ nv = .slice Aw S.l.length cw ∧ S.l.length ≤ cw ∧ Held wr F' bw Aw cw S.l ∧ WX w1 wr F' G' bw g r S S.un ∧ S.inv ∧ S.D.down = false ∧ S.D.ops ≤ 2100 * k ∧ S.D.row.length ≤ 2100 * k) (fun i _ _ _ => xs.length - (intOf i).toNat)
 case atStart => exact ⟨0, S1, F, G, A5, c5, rfl, Nat.zero_le _, rfl, rfl, Hcp.out, HW5.out, HX5.out, HI1.out.1, HI1.out.2.1, by rw [HI1.out.2.2.1]; omega, by rw [HI1.out.2.2.2]; omega⟩
 case round =>
  obtain ⟨k, S, F', G', Aw, cw, rfl, hk, rfl, rfl, hcw, hW, X, hI, hdn, hops, hrow⟩ := hrel
  have HX := hid X
  have HI := hid hI
  have HW := hid hW
  have Hdn := hid hdn
  clear X hI hW hdn HX5 HW5 Hcp HI1
  by_cases hlt : k < xs.length
  ·have hlt' : (k : Int) < xs.length := by omega
   obtain ⟨g0, o, hAo, hrange, hg⟩ := (HSA.out.keep HX.out.kept).cells.where (rop_pos xs (by omega))
   obtain ⟨x, hx⟩ : ∃ x, x = xs[k] := ⟨_, rfl⟩
   have hxm : x ∈ xs := by rw [hx]; exact List.getElem_mem hlt
   have hxs := rsSize_mem hxm
   have Hon := hid (HSA.out.each x hxm)
   have hxc : (xs.map ROpC.cells)[k]'(by rw [List.length_map]; exact hlt) = x.cells := by rw [List.getElem_map, ← hx]
   have Hr := hid hrange
   have Hxc := hid hxc
   have hcwI : (S.l.length : Int) ≤ cw := by omega
   have hll := HI.out.good.ok.ll
   have hstl := HI.out.good.ok.stl
   obtain ⟨i33, hi33, -⟩ := info_parts info33
   have Hi33 := hid hi33
   subst hAo
   clear hrange hxc hx hxm hi33
   by_cases hkd : x.kind = 0 ∨ x.kind = 1 ∨ x.kind = 2 ∨ x.kind = 3
   case neg =>
    have e0 : (x.kind == 0) = false := by simp; omega
    have e1 : (x.kind == 1) = false := by simp; omega
    have e2 : (x.kind == 2) = false := by simp; omega
    have e3 : (x.kind == 3) = false := by simp; omega
    clear hkd
    go_wp2_with (first
     | (guard_target = wpList _ _ _ (Oper.mk (some 60) _ _ _ _ _ :: _) _ _; refine wpList_load_elem rfl 88 _ rfl 5 g0 o (xs.map ROpC.cells) k _ x.cells _ Hr.out (rop_each xs) (by rw [List.length_map]; exact hlt) Hxc.out rfl (by rfl) Try.underlying88 rfl size88 ?_)
     | (guard_target = wpList _ _ _ (Oper.mk _ (Op.alloc 88) _ _ _ _ :: _) _ _; refine wpList_alloc_v rfl 88 rfl (.agg zrop.toArray) info88 zrop zrop_cells ?_; intro b9 w4 hb9 B9 K4)
     | (guard_target = wpList _ _ _ (Oper.mk _ (Op.store 88 _ _) _ _ _ _ :: _) _ _; refine wpList_store_whole rfl 88 _ _ rfl b9 _ x.cells 88 (by rfl) (by rfl) B9 rfl info88 (rop_ones x) ?_; intro w5 B10 K5)
     | (guard_target = wpList _ _ _ (Oper.mk (some 61) _ _ _ _ _ :: _) _ _; refine wpList_slice0_v rfl 63 33 1 rfl sl63 Hi33.out ?_; intro b4 w6 hb4 R4 K6)
     | (guard_target = wpList _ _ _ (Oper.mk (some 63) _ _ _ _ _ :: _) _ _; refine stop_here ?_))
    unfold Stopped
    have K35 : Keep Noth wr w5 := K4.own K5 (fun q e => by unfold Only at e; subst e; exact hb9)
    have K36 := K35.trans K6 (fun _ _ h => h)
    obtain ⟨Gw, hw1, hw2, hw3, hw4⟩ := HW.out.ex
    obtain ⟨vs1, q1l, q1r, q1e⟩ := (hw1.keep K36 (Dj.noth _)).parts
    refine wpList_appendL (by rfl) _ _ rfl (F := fun q => q = b4) (G := Gw) (v := .slice (some ⟨b4, 0, none⟩) 0 0) (l := []) (m := S.l) (by rfl) (RowsL.empty R4) (A := Aw) (n := S.l.length) (c := cw) (by rfl) rfl HW.out.nc vs1 q1l q1r q1e (by simp; omega) (fun q e h4 => by injection e with e; have e : b4 = q := e; subst e; have h1 := hw4 _ h4; have h2 := K35.size; omega) ?_
    intro v7 w7 R7 K7
    have hb9u := B10.lt
    have K37 : Keep Noth wr w7 := K36.own K7 (fun q e => by injection e with e; have e : b4 = q := e; have h2 := K35.size; omega)
    have B11 := (B10.keep K6 id).keep K7 (fun e => by injection e with e; have e : b4 = b9 := e; omega)
    have HX6 := hid (HX.out.keep K37)
    have HW6 := hid (HW.out.keep K37)
    have HB11 := hid B11
    have HK37 := hid K37
    have k0c : w7.cell? ⟨b9, 0, none⟩ = some (.int .i64 x.kind) := B11.cell 0
    have k1c : w7.cell? ⟨b9, 1, none⟩ = some (.slice x.Ab x.b.length x.cb) := B11.cell 1
    have k2c : w7.cell? ⟨b9, 2, none⟩ = some (.slice x.Al x.l.length x.cl) := B11.cell 2
    clear B9 K4 B10 K5 R4 K6 R7 K7 K35 K36 K37 B11 hw1 hw2 hw3 hw4 q1l q1r q1e hb4
    clear HX HW
    go_wp2_with (first
     | (guard_target = wpList _ _ _ (Oper.mk (some 95) _ _ _ _ _ :: _) _ _; refine stop_here ?_))
    go_roundw
    case rel => exact ⟨k + 1, S, F', G', Aw, cw, by go_num, hlt, rfl, rfl, hcw, HW6.out, HX6.out, HI.out, Hdn.out, by omega, by omega⟩
    case measure => simp [intOf]; omega
   case pos =>
    by_cases k3 : x.kind = 3
    ·have e0 : (x.kind == 0) = false := by simp; omega
     have e1 : (x.kind == 1) = false := by simp; omega
     have e2 : (x.kind == 2) = false := by simp; omega
     have e3 : (x.kind == 3) = true := by rw [k3]; rfl
     have Htt := hid (show S.turnedTo x = x.l by unfold RS.turnedTo; rw [if_neg (by omega), if_pos k3])
     go_wp2_with (first
      | (guard_target = wpList _ _ _ (Oper.mk (some 60) _ _ _ _ _ :: _) _ _; refine wpList_load_elem rfl 88 _ rfl 5 g0 o (xs.map ROpC.cells) k _ x.cells _ Hr.out (rop_each xs) (by rw [List.length_map]; exact hlt) Hxc.out rfl (by rfl) Try.underlying88 rfl size88 ?_)
      | (guard_target = wpList _ _ _ (Oper.mk _ (Op.alloc 88) _ _ _ _ :: _) _ _; refine wpList_alloc_v rfl 88 rfl (.agg zrop.toArray) info88 zrop zrop_cells ?_; intro b9 w4 hb9 B9 K4)
      | (guard_target = wpList _ _ _ (Oper.mk _ (Op.store 88 _ _) _ _ _ _ :: _) _ _; refine wpList_store_whole rfl 88 _ _ rfl b9 _ x.cells 88 (by rfl) (by rfl) B9 rfl info88 (rop_ones x) ?_; intro w5 B10 K5)
      | (guard_target = wpList _ _ _ (Oper.mk (some 61) _ _ _ _ _ :: _) _ _; refine wpList_slice0_v rfl 63 33 1 rfl sl63 Hi33.out ?_; intro b4 w6 hb4 R4 K6)
      | (guard_target = wpList _ _ _ (Oper.mk (some 63) _ _ _ _ _ :: _) _ _; refine stop_here ?_))
     unfold Stopped
     have K35 : Keep Noth wr w5 := K4.own K5 (fun q e => by unfold Only at e; subst e; exact hb9)
     have K36 := K35.trans K6 (fun _ _ h => h)
     obtain ⟨Gw, hw1, hw2, hw3, hw4⟩ := HW.out.ex
     obtain ⟨vs1, q1l, q1r, q1e⟩ := (hw1.keep K36 (Dj.noth _)).parts
     refine wpList_appendL (by rfl) _ _ rfl (F := fun q => q = b4) (G := Gw) (v := .slice (some ⟨b4, 0, none⟩) 0 0) (l := []) (m := S.l) (by rfl) (RowsL.empty R4) (A := Aw) (n := S.l.length) (c := cw) (by rfl) rfl HW.out.nc vs1 q1l q1r q1e (by simp; omega) (fun q e h4 => by injection e with e; have e : b4 = q := e; subst e; have h1 := hw4 _ h4; have h2 := K35.size; omega) ?_
     intro v7 w7 R7 K7
     have hb9u := B10.lt
     have K37 : Keep Noth wr w7 := K36.own K7 (fun q e => by injection e with e; have e : b4 = q := e; have h2 := K35.size; omega)
     have B11 := (B10.keep K6 id).keep K7 (fun e => by injection e with e; have e : b4 = b9 := e; omega)
     have HX6 := hid (HX.out.keep K37)
     have HW6 := hid (HW.out.keep K37)
     have HB11 := hid B11
     have HK37 := hid K37
     have k0c : w7.cell? ⟨b9, 0, none⟩ = some (.int .i64 x.kind) := B11.cell 0
     have k1c : w7.cell? ⟨b9, 1, none⟩ = some (.slice x.Ab x.b.length x.cb) := B11.cell 1
     have k2c : w7.cell? ⟨b9, 2, none⟩ = some (.slice x.Al x.l.length x.cl) := B11.cell 2
     clear B9 K4 B10 K5 R4 K6 R7 K7 K35 K36 K37 B11 hw1 hw2 hw3 hw4 q1l q1r q1e hb4
     clear HX HW
     go_wp2_with (first
      | (guard_target = wpList _ _ _ (Oper.mk (some 95) _ _ _ _ _ :: _) _ _; refine stop_here ?_))
     unfold Stopped
     have HX8 := hid HX6.out
     have HW8 := hid HW6.out
     have HB8 := hid HB11.out
     have hon := Hon.out.keep HX8.out.kept
     have HN8 := hid (show Held w7 F' bw x.Al x.cl x.l from ⟨⟨_, hon.l, fun q a b => by have h1 := HX8.out.low q b; omega, fun e => by have h1 := HX8.out.wlow; omega, fun q a => by have h1 := HX8.out.kept.size; omega⟩, hon.lc⟩)
     obtain ⟨As, hAs⟩ : ∃ As, As = x.Al := ⟨_, rfl⟩
     obtain ⟨cs, hcs⟩ : ∃ cs, cs = x.cl := ⟨_, rfl⟩
     rw [← Htt.out, ← hAs, ← hcs] at HN8
     rw [← Htt.out, ← hAs, ← hcs]
     clear hon HX6 HW6 HB11 k0c k1c k2c hAs hcs
     go_wp2_with (first
      | (guard_target = wpList _ _ _ (Oper.mk (some 95) _ _ _ _ _ :: _) _ _; refine wpList_load_blk rfl 88 _ rfl b9 0 _ x.cells 88 _ (by rfl) HB8.out (part0 _) Try.underlying88 rfl info88 ?_))
     have hug := un_good HI.out Hdn.out
     have hst := step_calls HX8.out HI.out.good hug.1 hug.2 ⟨by omega, by omega, by show S.D.ops ≤ _; omega, by show S.D.row.length ≤ _; omega⟩ x Hon.out (by omega) ⟨by omega, by omega⟩ (fun e => by omega)
     refine hst.mono ?_
     rintro e w11 ⟨Bq, F6, G6, r6, rfl, X11, hF6, K11, hr6⟩
     obtain rfl : r6 = r := hr6 (by omega)
     have HXT := hid X11
     have HWT := hid (HW8.out.step K11 hF6)
     have HNT := hid (HN8.out.step K11 hF6)
     have haf := does_after HI.out Hdn.out x hkd
     have Hrd := hid haf.2
     have hdg := does_grow HI.out.good.dok x
     have HSg := hid (does_good HI.out.good x hkd)
     have c0r := X11.cells.1
     obtain ⟨va, vs, Ar⟩ := X11.rollx
     obtain ⟨vd, ve, D9⟩ := Ar.dev
     have hdw := down_calls D9
     clear hst X11 hF6 K11 hr6 hug HX8 HW8 HN8 Ar D9
     go_wp2_with fail
     refine hdw.mono ?_
     rintro e w' ⟨rfl, rfl⟩
     cases hdd : (S.does x).D.down with
     | true =>
      have Hread := hid (Hrd.out hdd)
      clear hdw haf c0r
      have HXd := hid (HXT.out.keep (Keep.refl Noth _).drew)
      have HWd := hid (HWT.out.keep (Keep.refl Noth _).drew)
      have HNd := hid (HNT.out.keep (Keep.refl Noth _).drew)
      have hB5d := HB5.out.keep HXd.out.kept id
      obtain ⟨va, vs, Ar⟩ := HXd.out.rollx
      obtain ⟨vd, ve, D7⟩ := Ar.dev
      have hs1 := HK1.out.size
      have hcr := crash_calls D7 HSg.out.dok (by omega) A2 c2 fs (HR2.out.keep (HK1.out.trans HXd.out.kept (fun _ _ h => h)) (fun _ _ => id)) (fun ad e hne hF => by have h1 := HR2.out.ints_lt ad e hne; have h2 := HXd.out.low _ hF; omega) (by omega) Hfs.out
      clear Ar D7 HXT HWT HNT
      go_wp2_with fail
      refine wp_region_ordL [(0, true), (1, true), (2, true), (3, true), (4, true), (5, true), (6, false)] (fun W => W.cell? ⟨bw, 0, none⟩ = some (.pointer (some ⟨g, 0, none⟩)) ∧ W.cell? ⟨b5, 1, none⟩ = some (.slice A2 fs.length c2)) follows_mixed (by kernel_rfl) ⟨HXd.out.cells.1, hB5d.cell 1⟩ ?_
      simp only [List.map_cons, List.map_nil, List.getElem?_cons_succ, List.getElem?_cons_zero, Option.getD_some]
      refine wpO_pure (v := .pointer (some ⟨bw, 0, none⟩)) (by rfl) (fun w' hw' => by go_simp) ?_
      go_frame
      refine wpO_pure (v := .pointer (some ⟨bw, 0, none⟩)) (by rfl) (fun w' hw' => by go_simp) ?_
      go_frame
      refine wpO_pure (v := .pointer (some ⟨bw, 0, none⟩)) (by rfl) (fun w' hw' => by go_simp) ?_
      go_frame
      refine wpO_pure (v := .pointer (some ⟨g, 0, none⟩)) (by rfl) (fun w' hw' => by have hc := hw'.1; go_simp) ?_
      go_frame
      refine wpO_pure (v := .pointer (some ⟨b5, 1, none⟩)) (by rfl) (fun w' hw' => by go_simp) ?_
      go_frame
      refine wpO_pure (v := .slice A2 fs.length c2) (by rfl) (fun w' hw' => by have hc := hw'.2; go_simp) ?_
      go_frame
      refine wpO_call (by rfl) (exec_call' 23 _ _ rfl Try.func23 (by kernel_rfl) (by rfl) #[.pointer (some ⟨g, 0, none⟩), .slice A2 fs.length c2] (by simp [Act.eval])) ?_
      refine (hcr).mono ?_
      rintro e w13 ⟨rfl, D8, K8⟩
      refine ⟨_, rfl, .inl rfl, wpO_nil ?_⟩
      go_frame
      obtain ⟨E7, hE7⟩ : ∃ E7, E7 = (S.does x).D.crash fs := ⟨_, rfl⟩
      have HE7 := hid (show E7.ok ∧ E7.down = false ∧ E7.row.length = 0 ∧ 4 ≤ E7.l.length ∧ ((openS E7).l = S.l ∨ (openS E7).l = (S.turnedTo x)) from by rw [hE7]; exact ⟨crash_ok HSg.out.dok fs, rfl, rfl, by rw [crash_len]; exact HSg.out.four, Hread.out fs⟩)
      rw [← hE7] at D8
      obtain ⟨vd, ve, D8⟩ := D8
      have c0s := K8.cellAt HXd.out.nbF HXd.out.cells.1
      have hop := open_ok D8 HE7.out.2.1 HE7.out.1 (by rw [HE7.out.2.2.1]; exact Nat.zero_le _) HE7.out.2.2.2.1
      have HW13 := hid (HWd.out.step (K8.mono (fun _ _ e => .inl e)) (fun q e => .inl e))
      have HN13 := hid (HNd.out.step (K8.mono (fun _ _ e => .inl e)) (fun q e => .inl e))
      have HKp := hid (HK1.out.trans (HXd.out.kept.own K8 HXd.out.low) (fun _ _ h => h))
      clear hcr hE7 D8 K8 HXd HWd HNd hB5d
      go_wp2_with fail
      refine hop.mono ?_
      rintro e w14 ⟨r8, rfl, -, ⟨vl8, vs8, R8⟩, K9⟩
      obtain ⟨S8, hS8⟩ : ∃ S8, S8 = openS E7 := ⟨_, rfl⟩
      rw [← hS8] at R8
      have HS8 := hid (show (S8.l = S.l ∨ S8.l = (S.turnedTo x)) ∧ S8.ok from ⟨by rw [hS8]; exact HE7.out.2.2.2.2, by rw [hS8]; exact (openS_good HE7.out.1 HE7.out.2.2.2.1).ok⟩)
      have hrec := records_calls R8 HS8.out.2
      have HK9 := hid K9
      clear hop hS8 R8 K9 c0s
      go_wp2_with fail
      refine hrec.mono ?_
      rintro e w15 ⟨v15, rfl, RC, K10⟩
      obtain ⟨A15, c15, rfl⟩ := RC.val
      have HRC := hid RC.reads
      have HK10 := hid (HK9.out.trans K10 (fun _ _ h => h))
      clear hrec RC K10
      go_wp2_with fail
      refine (ralive_calls w15).mono ?_
      rintro e w16 ⟨rfl, K11⟩
      have HK11 := hid (HK10.out.trans K11 (fun _ _ h => h))
      have HRC16 := hid (HRC.out.keep K11 (Dj.noth _))
      obtain ⟨Gx, gx1, -, -, -⟩ := HW13.out.ex
      have hsm := same_calls w16 _ _ A15 Aw c15 cw S8.l S.l HRC16.out (gx1.keep HK11.out (Dj.noth _)) (by have := HS8.out.2.ll; omega)
      clear K11 gx1
      go_wp2_with fail
      refine hsm.mono ?_
      rintro e w17 ⟨rfl, K12⟩
      have HK12 := hid (HK11.out.trans K12 (fun _ _ h => h))
      by_cases hle : S8.l = S.l
      ·rw [show (S8.l == S.l) = true by rw [hle]; simp]
       have HKf := hid (HKp.out.trans HK12.out (fun _ _ h => h))
       clear hsm K12 hle
       go_wp2_with fail
       go_ret
       exact ⟨rfl, HKf.out⟩
      ·have hl2 : S8.l = (S.turnedTo x) := HS8.out.1.resolve_left hle
       rw [show (S8.l == S.l) = false by simpa using hle]
       obtain ⟨Gy, gy1, -, -, -⟩ := HN13.out.ex
       have hsn := same_calls w17 _ _ A15 As c15 cs S8.l ((S.turnedTo x)) (HRC16.out.keep K12 (Dj.noth _)) (gy1.keep HK12.out (Dj.noth _)) (by have := HS8.out.2.ll; omega)
       rw [show (S8.l == (S.turnedTo x)) = true by rw [hl2]; simp] at hsn
       clear hsm K12 hle hl2 gy1
       go_wp2_with fail
       refine hsn.mono ?_
       rintro e w18 ⟨rfl, K13⟩
       have HKf := hid (HKp.out.trans (HK12.out.trans K13 (fun _ _ h => h)) (fun _ _ h => h))
       clear hsn K13
       go_wp2_with fail
       go_ret
       exact ⟨rfl, HKf.out⟩
     | false =>
      have hinv := haf.1 hdd
      have hun := does_un HI.out Hdn.out x hkd hdd
      have Hun := hid hun
      have Hinv := hid hinv
      have Hdd := hid hdd
      have c1r := HXT.out.cells.2
      obtain ⟨va, vs, Ar⟩ := HXT.out.rollx
      have hrec := records_calls Ar hinv.good.ok
      clear hdw haf c0r hun hinv hdd Ar
      go_wp2_with fail
      refine hrec.mono ?_
      rintro e w12 ⟨v12, rfl, RC, K12⟩
      obtain ⟨A12, c12, rfl⟩ := RC.val
      have HX12 := hid (HXT.out.keep K12)
      have HW12 := hid (show Held w12 F6 bw A12 c12 (S.does x).l from ⟨⟨_, RC.reads, fun q a b => by have h1 := HXT.out.rlt q b; have h2 := a.1; omega, fun e => by have h1 := HXT.out.wlt; have h2 := e.1; omega, fun q hq => hq.2⟩, fun e => by obtain ⟨es, e1, e2, e3⟩ := RC; exact e2.none_cap e⟩)
      have hcap := RC.capl
      clear hrec RC K12 c1r
      go_wp2_with fail
      go_roundw
      case rel => exact ⟨k + 1, S.does x, F6, G6, A12, c12, by go_num, hlt, rfl, rfl, hcap, HW12.out, by have h := HX12.out; rw [Hun.out] at h; exact h, Hinv.out, Hdd.out, by omega, by omega⟩
      case measure => simp [intOf]; omega
    by_cases k0 : x.kind = 0
    ·have e0 : (x.kind == 0) = true := by rw [k0]; rfl
     have Htt := hid (show S.turnedTo x = S.l ++ S.st ++ [x.b] by unfold RS.turnedTo; rw [if_pos k0])
     go_wp2_with (first
      | (guard_target = wpList _ _ _ (Oper.mk (some 60) _ _ _ _ _ :: _) _ _; refine wpList_load_elem rfl 88 _ rfl 5 g0 o (xs.map ROpC.cells) k _ x.cells _ Hr.out (rop_each xs) (by rw [List.length_map]; exact hlt) Hxc.out rfl (by rfl) Try.underlying88 rfl size88 ?_)
      | (guard_target = wpList _ _ _ (Oper.mk _ (Op.alloc 88) _ _ _ _ :: _) _ _; refine wpList_alloc_v rfl 88 rfl (.agg zrop.toArray) info88 zrop zrop_cells ?_; intro b9 w4 hb9 B9 K4)
      | (guard_target = wpList _ _ _ (Oper.mk _ (Op.store 88 _ _) _ _ _ _ :: _) _ _; refine wpList_store_whole rfl 88 _ _ rfl b9 _ x.cells 88 (by rfl) (by rfl) B9 rfl info88 (rop_ones x) ?_; intro w5 B10 K5)
      | (guard_target = wpList _ _ _ (Oper.mk (some 61) _ _ _ _ _ :: _) _ _; refine wpList_slice0_v rfl 63 33 1 rfl sl63 Hi33.out ?_; intro b4 w6 hb4 R4 K6)
      | (guard_target = wpList _ _ _ (Oper.mk (some 63) _ _ _ _ _ :: _) _ _; refine stop_here ?_))
     unfold Stopped
     have K35 : Keep Noth wr w5 := K4.own K5 (fun q e => by unfold Only at e; subst e; exact hb9)
     have K36 := K35.trans K6 (fun _ _ h => h)
     obtain ⟨Gw, hw1, hw2, hw3, hw4⟩ := HW.out.ex
     obtain ⟨vs1, q1l, q1r, q1e⟩ := (hw1.keep K36 (Dj.noth _)).parts
     refine wpList_appendL (by rfl) _ _ rfl (F := fun q => q = b4) (G := Gw) (v := .slice (some ⟨b4, 0, none⟩) 0 0) (l := []) (m := S.l) (by rfl) (RowsL.empty R4) (A := Aw) (n := S.l.length) (c := cw) (by rfl) rfl HW.out.nc vs1 q1l q1r q1e (by simp; omega) (fun q e h4 => by injection e with e; have e : b4 = q := e; subst e; have h1 := hw4 _ h4; have h2 := K35.size; omega) ?_
     intro v7 w7 R7 K7
     have hb9u := B10.lt
     have K37 : Keep Noth wr w7 := K36.own K7 (fun q e => by injection e with e; have e : b4 = q := e; have h2 := K35.size; omega)
     have B11 := (B10.keep K6 id).keep K7 (fun e => by injection e with e; have e : b4 = b9 := e; omega)
     have HX6 := hid (HX.out.keep K37)
     have HW6 := hid (HW.out.keep K37)
     have HB11 := hid B11
     have HK37 := hid K37
     have k0c : w7.cell? ⟨b9, 0, none⟩ = some (.int .i64 x.kind) := B11.cell 0
     have k1c : w7.cell? ⟨b9, 1, none⟩ = some (.slice x.Ab x.b.length x.cb) := B11.cell 1
     have k2c : w7.cell? ⟨b9, 2, none⟩ = some (.slice x.Al x.l.length x.cl) := B11.cell 2
     clear B9 K4 B10 K5 R4 K6 R7 K7 K35 K36 K37 B11 hw1 hw2 hw3 hw4 q1l q1r q1e hb4
     clear HX HW
     go_wp2_with (first
      | (guard_target = wpList _ _ _ (Oper.mk (some 95) _ _ _ _ _ :: _) _ _; refine stop_here ?_))
     have HX7 := hid (HX6.out.keep (Keep.refl Noth w7).drew)
     have HW7 := hid (HW6.out.keep (Keep.refl Noth w7).drew)
     obtain ⟨vl9, vr9, A9, a9, Bs, bs, -, -, g3, -, g5, g6⟩ := HX7.out.ref
     have g12 : w7.drew.cell? ⟨bw, 12, none⟩ = some (.slice Bs S.st.length bs) := g6.cell 12
     have g3' : ReadsL w7.drew G' Bs S.st := g3
     obtain ⟨Gw, hw1, hw2, hw3, hw4⟩ := HW7.out.ex
     clear g6 g3
     refine wp_region_ordL [(0, true), (1, true), (2, true), (3, true), (4, true), (5, true), (6, true), (7, true), (8, true), (9, true), (10, true), (11, false), (12, false)] (fun W => W.cell? ⟨bw, 12, none⟩ = some (.slice Bs S.st.length bs)) follows_mixed (by kernel_rfl) g12 ?_
     simp only [List.map_cons, List.map_nil, List.getElem?_cons_succ, List.getElem?_cons_zero, Option.getD_some]
     refine wpO_pure (v := .slice Aw S.l.length cw) (by rfl) (fun w' hw' => by go_simp) ?_
     go_frame
     refine wpO_pure (v := .slice Aw S.l.length cw) (by rfl) (fun w' hw' => by go_simp) ?_
     go_frame
     refine wpO_pure (v := .int .i64 (S.l.length : Int)) (by rfl) (fun w' hw' => by go_simp) ?_
     go_frame
     refine wpO_pure (v := .slice Aw S.l.length cw) (by rfl) (fun w' hw' => by go_simp) ?_
     go_frame
     refine wpO_pure (v := .int .i64 (S.l.length : Int)) (by rfl) (fun w' hw' => by go_simp) ?_
     go_frame
     refine wpO_pure (v := .slice Aw S.l.length S.l.length) (by rfl) (fun w' hw' => by go_simp) ?_
     go_frame
     refine wpO_pure (v := .pointer (some ⟨bw, 0, none⟩)) (by rfl) (fun w' hw' => by go_simp) ?_
     go_frame
     refine wpO_pure (v := .pointer (some ⟨bw, 0, none⟩)) (by rfl) (fun w' hw' => by go_simp) ?_
     go_frame
     refine wpO_pure (v := .pointer (some ⟨bw, 2, none⟩)) (by rfl) (fun w' hw' => by go_simp) ?_
     go_frame
     refine wpO_pure (v := .pointer (some ⟨bw, 12, none⟩)) (by rfl) (fun w' hw' => by go_simp) ?_
     go_frame
     refine wpO_pure (v := .slice Bs S.st.length bs) (by rfl) (fun w' hw' => by go_simp) ?_
     go_frame
     refine wpO_append_full (by rfl) _ _ rfl (G := fun q => Gw q ∨ G' q) (A1 := Aw) (l := S.l) (m := S.st) (by rfl) (hw1.mono (fun _ h => .inl h)) (A2 := Bs) (c2 := bs) (by rfl) (g3'.mono (fun _ h => .inr h)) g5 hw1.none_nil (by omega) ?_
     intro v8 w8 ST8 K8
     refine ⟨.inr (K8.cellAt id g12), ?_⟩
     go_frame
     refine wpO_run (v := v8) (w1 := w8) (by rfl) (by go_simp) (.inl rfl) (wpO_nil ?_)
     go_frame
     have HG := hid (show Dj (fun q => Gw q ∨ G' q) F' ∧ ¬ (Gw bw ∨ G' bw) ∧ Lt (fun q => Gw q ∨ G' q) w7.drew from ⟨fun q a b => a.elim (fun e => hw2 q e b) (fun e => HX7.out.off q e b), fun e => e.elim hw3 HX7.out.nbG, fun q a => a.elim (hw4 q) (HX7.out.glt q)⟩)
     have HST := hid ST8
     have HX8 := hid (HX7.out.keep K8)
     have HW8 := hid (HW7.out.keep K8)
     have HB8 := hid (HB11.out.drew.keep K8 id)
     have HB7l := hid (show b9 < w7.drew.heap.size from HB11.out.drew.lt)
     have HK8 := hid K8
     have k0c : w8.cell? ⟨b9, 0, none⟩ = some (.int .i64 x.kind) := HB8.out.cell 0
     have k1c : w8.cell? ⟨b9, 1, none⟩ = some (.slice x.Ab x.b.length x.cb) := HB8.out.cell 1
     clear g12 g3' g5 hw1 hw2 hw3 hw4 ST8 K8 HX6 HW6 HB11
     go_wp2_with (first
      | (guard_target = wpList _ _ _ (Oper.mk (some 88) _ _ _ _ _ :: _) _ _; refine wpList_slice1_v rfl 63 33 _ rfl sl63 [.slice x.Ab x.b.length x.cb] (.slice none 0 0) info33 rfl (by decide) (by decide) (by rfl) rfl ?_; intro b12 w9 hb12 B12 K9)
      | (guard_target = wpList _ _ _ (Oper.mk (some 89) _ _ _ _ _ :: _) _ _; refine stop_here ?_))
     unfold Stopped
     have hon := Hon.out.keep (HX8.out.keep K9).kept
     have hold := HX7.out.old
     have hblt := B12.lt
     have hs8 := HK8.out.size
     refine wpList_append_stg (by rfl) _ _ rfl (G := fun q => Gw q ∨ G' q) (v := v8) (l := S.l ++ S.st) (m := [x.b]) (by rfl) (HST.out.keep K9) HG.out.2.2 (by have := K9.size; omega) (A2 := some ⟨b12, 0, none⟩) (c2 := 1) (by rfl) [.slice x.Ab x.b.length x.cb] rfl (Reads.of_range B12.rangeAll) (one_vs ⟨x.Ab, x.cb, rfl, hon.b, hon.bc, fun hb ad e => .inr (hold _ (hon.bG hb ad e))⟩) (fun e => by cases e) (fun _ ad e => by injection e with e; subst e; exact ⟨Nat.le_trans hs8 hb12, hblt⟩) (by simp; omega) ?_
     intro As cs w10 snc sR K10
     have hs9 := K9.size
     have hs10 := K10.size
     have HX8 := hid ((HX8.out.keep K9).apart K10 (fun q a b => by have h1 := HX7.out.rlt q a; have h2 := b.1; omega) (fun q a b => by have h1 := HX7.out.glt q a; have h2 := b.1; omega) (fun b => by have h1 := HX7.out.wlt; have h2 := b.1; omega))
     obtain ⟨Gv, hv1, hv2, hv3, hv4⟩ := HW7.out.ex
     have HW8 := hid (show Held w10 F' bw Aw cw S.l from ⟨⟨Gv, ((hv1.keep HK8.out (Dj.noth _)).keep K9 (Dj.noth _)).keep K10 (fun q a b => by have h1 := hv4 q a; have h2 := b.1; omega), hv2, hv3, fun q hq => by have := hv4 q hq; omega⟩, HW7.out.nc⟩)
     have HB8 := hid ((HB8.out.keep K9 id).keep K10 (fun b => by have h1 := HB7l.out; have h2 := b.1; omega))
     have HN8 := hid (Held.of_grow (c := cs) sR HG.out.1 HG.out.2.1 HG.out.2.2 HX7.out.rlt HX7.out.wlt (by omega) snc)
     rw [← Htt.out] at HN8
     rw [← Htt.out]
     clear sR K9 K10 B12 hon hold hblt hb12 k0c k1c HST hv1 hv2 hv3 hv4
     go_wp2_with (first
      | (guard_target = wpList _ _ _ (Oper.mk (some 95) _ _ _ _ _ :: _) _ _; refine wpList_load_blk rfl 88 _ rfl b9 0 _ x.cells 88 _ (by rfl) HB8.out (part0 _) Try.underlying88 rfl info88 ?_))
     have hug := un_good HI.out Hdn.out
     have hst := step_calls HX8.out HI.out.good hug.1 hug.2 ⟨by omega, by omega, by show S.D.ops ≤ _; omega, by show S.D.row.length ≤ _; omega⟩ x Hon.out (by omega) ⟨by omega, by omega⟩ (fun e => by omega)
     refine hst.mono ?_
     rintro e w11 ⟨Bq, F6, G6, r6, rfl, X11, hF6, K11, hr6⟩
     obtain rfl : r6 = r := hr6 (by omega)
     have HXT := hid X11
     have HWT := hid (HW8.out.step K11 hF6)
     have HNT := hid (HN8.out.step K11 hF6)
     have haf := does_after HI.out Hdn.out x hkd
     have Hrd := hid haf.2
     have hdg := does_grow HI.out.good.dok x
     have HSg := hid (does_good HI.out.good x hkd)
     have c0r := X11.cells.1
     obtain ⟨va, vs, Ar⟩ := X11.rollx
     obtain ⟨vd, ve, D9⟩ := Ar.dev
     have hdw := down_calls D9
     clear hst X11 hF6 K11 hr6 hug HX8 HW8 HN8 Ar D9
     go_wp2_with fail
     refine hdw.mono ?_
     rintro e w' ⟨rfl, rfl⟩
     cases hdd : (S.does x).D.down with
     | true =>
      have Hread := hid (Hrd.out hdd)
      clear hdw haf c0r
      have HXd := hid (HXT.out.keep (Keep.refl Noth _).drew)
      have HWd := hid (HWT.out.keep (Keep.refl Noth _).drew)
      have HNd := hid (HNT.out.keep (Keep.refl Noth _).drew)
      have hB5d := HB5.out.keep HXd.out.kept id
      obtain ⟨va, vs, Ar⟩ := HXd.out.rollx
      obtain ⟨vd, ve, D7⟩ := Ar.dev
      have hs1 := HK1.out.size
      have hcr := crash_calls D7 HSg.out.dok (by omega) A2 c2 fs (HR2.out.keep (HK1.out.trans HXd.out.kept (fun _ _ h => h)) (fun _ _ => id)) (fun ad e hne hF => by have h1 := HR2.out.ints_lt ad e hne; have h2 := HXd.out.low _ hF; omega) (by omega) Hfs.out
      clear Ar D7 HXT HWT HNT
      go_wp2_with fail
      refine wp_region_ordL [(0, true), (1, true), (2, true), (3, true), (4, true), (5, true), (6, false)] (fun W => W.cell? ⟨bw, 0, none⟩ = some (.pointer (some ⟨g, 0, none⟩)) ∧ W.cell? ⟨b5, 1, none⟩ = some (.slice A2 fs.length c2)) follows_mixed (by kernel_rfl) ⟨HXd.out.cells.1, hB5d.cell 1⟩ ?_
      simp only [List.map_cons, List.map_nil, List.getElem?_cons_succ, List.getElem?_cons_zero, Option.getD_some]
      refine wpO_pure (v := .pointer (some ⟨bw, 0, none⟩)) (by rfl) (fun w' hw' => by go_simp) ?_
      go_frame
      refine wpO_pure (v := .pointer (some ⟨bw, 0, none⟩)) (by rfl) (fun w' hw' => by go_simp) ?_
      go_frame
      refine wpO_pure (v := .pointer (some ⟨bw, 0, none⟩)) (by rfl) (fun w' hw' => by go_simp) ?_
      go_frame
      refine wpO_pure (v := .pointer (some ⟨g, 0, none⟩)) (by rfl) (fun w' hw' => by have hc := hw'.1; go_simp) ?_
      go_frame
      refine wpO_pure (v := .pointer (some ⟨b5, 1, none⟩)) (by rfl) (fun w' hw' => by go_simp) ?_
      go_frame
      refine wpO_pure (v := .slice A2 fs.length c2) (by rfl) (fun w' hw' => by have hc := hw'.2; go_simp) ?_
      go_frame
      refine wpO_call (by rfl) (exec_call' 23 _ _ rfl Try.func23 (by kernel_rfl) (by rfl) #[.pointer (some ⟨g, 0, none⟩), .slice A2 fs.length c2] (by simp [Act.eval])) ?_
      refine (hcr).mono ?_
      rintro e w13 ⟨rfl, D8, K8⟩
      refine ⟨_, rfl, .inl rfl, wpO_nil ?_⟩
      go_frame
      obtain ⟨E7, hE7⟩ : ∃ E7, E7 = (S.does x).D.crash fs := ⟨_, rfl⟩
      have HE7 := hid (show E7.ok ∧ E7.down = false ∧ E7.row.length = 0 ∧ 4 ≤ E7.l.length ∧ ((openS E7).l = S.l ∨ (openS E7).l = (S.turnedTo x)) from by rw [hE7]; exact ⟨crash_ok HSg.out.dok fs, rfl, rfl, by rw [crash_len]; exact HSg.out.four, Hread.out fs⟩)
      rw [← hE7] at D8
      obtain ⟨vd, ve, D8⟩ := D8
      have c0s := K8.cellAt HXd.out.nbF HXd.out.cells.1
      have hop := open_ok D8 HE7.out.2.1 HE7.out.1 (by rw [HE7.out.2.2.1]; exact Nat.zero_le _) HE7.out.2.2.2.1
      have HW13 := hid (HWd.out.step (K8.mono (fun _ _ e => .inl e)) (fun q e => .inl e))
      have HN13 := hid (HNd.out.step (K8.mono (fun _ _ e => .inl e)) (fun q e => .inl e))
      have HKp := hid (HK1.out.trans (HXd.out.kept.own K8 HXd.out.low) (fun _ _ h => h))
      clear hcr hE7 D8 K8 HXd HWd HNd hB5d
      go_wp2_with fail
      refine hop.mono ?_
      rintro e w14 ⟨r8, rfl, -, ⟨vl8, vs8, R8⟩, K9⟩
      obtain ⟨S8, hS8⟩ : ∃ S8, S8 = openS E7 := ⟨_, rfl⟩
      rw [← hS8] at R8
      have HS8 := hid (show (S8.l = S.l ∨ S8.l = (S.turnedTo x)) ∧ S8.ok from ⟨by rw [hS8]; exact HE7.out.2.2.2.2, by rw [hS8]; exact (openS_good HE7.out.1 HE7.out.2.2.2.1).ok⟩)
      have hrec := records_calls R8 HS8.out.2
      have HK9 := hid K9
      clear hop hS8 R8 K9 c0s
      go_wp2_with fail
      refine hrec.mono ?_
      rintro e w15 ⟨v15, rfl, RC, K10⟩
      obtain ⟨A15, c15, rfl⟩ := RC.val
      have HRC := hid RC.reads
      have HK10 := hid (HK9.out.trans K10 (fun _ _ h => h))
      clear hrec RC K10
      go_wp2_with fail
      refine (ralive_calls w15).mono ?_
      rintro e w16 ⟨rfl, K11⟩
      have HK11 := hid (HK10.out.trans K11 (fun _ _ h => h))
      have HRC16 := hid (HRC.out.keep K11 (Dj.noth _))
      obtain ⟨Gx, gx1, -, -, -⟩ := HW13.out.ex
      have hsm := same_calls w16 _ _ A15 Aw c15 cw S8.l S.l HRC16.out (gx1.keep HK11.out (Dj.noth _)) (by have := HS8.out.2.ll; omega)
      clear K11 gx1
      go_wp2_with fail
      refine hsm.mono ?_
      rintro e w17 ⟨rfl, K12⟩
      have HK12 := hid (HK11.out.trans K12 (fun _ _ h => h))
      by_cases hle : S8.l = S.l
      ·rw [show (S8.l == S.l) = true by rw [hle]; simp]
       have HKf := hid (HKp.out.trans HK12.out (fun _ _ h => h))
       clear hsm K12 hle
       go_wp2_with fail
       go_ret
       exact ⟨rfl, HKf.out⟩
      ·have hl2 : S8.l = (S.turnedTo x) := HS8.out.1.resolve_left hle
       rw [show (S8.l == S.l) = false by simpa using hle]
       obtain ⟨Gy, gy1, -, -, -⟩ := HN13.out.ex
       have hsn := same_calls w17 _ _ A15 As c15 cs S8.l ((S.turnedTo x)) (HRC16.out.keep K12 (Dj.noth _)) (gy1.keep HK12.out (Dj.noth _)) (by have := HS8.out.2.ll; omega)
       rw [show (S8.l == (S.turnedTo x)) = true by rw [hl2]; simp] at hsn
       clear hsm K12 hle hl2 gy1
       go_wp2_with fail
       refine hsn.mono ?_
       rintro e w18 ⟨rfl, K13⟩
       have HKf := hid (HKp.out.trans (HK12.out.trans K13 (fun _ _ h => h)) (fun _ _ h => h))
       clear hsn K13
       go_wp2_with fail
       go_ret
       exact ⟨rfl, HKf.out⟩
     | false =>
      have hinv := haf.1 hdd
      have hun := does_un HI.out Hdn.out x hkd hdd
      have Hun := hid hun
      have Hinv := hid hinv
      have Hdd := hid hdd
      have c1r := HXT.out.cells.2
      obtain ⟨va, vs, Ar⟩ := HXT.out.rollx
      have hrec := records_calls Ar hinv.good.ok
      clear hdw haf c0r hun hinv hdd Ar
      go_wp2_with fail
      refine hrec.mono ?_
      rintro e w12 ⟨v12, rfl, RC, K12⟩
      obtain ⟨A12, c12, rfl⟩ := RC.val
      have HX12 := hid (HXT.out.keep K12)
      have HW12 := hid (show Held w12 F6 bw A12 c12 (S.does x).l from ⟨⟨_, RC.reads, fun q a b => by have h1 := HXT.out.rlt q b; have h2 := a.1; omega, fun e => by have h1 := HXT.out.wlt; have h2 := e.1; omega, fun q hq => hq.2⟩, fun e => by obtain ⟨es, e1, e2, e3⟩ := RC; exact e2.none_cap e⟩)
      have hcap := RC.capl
      clear hrec RC K12 c1r
      go_wp2_with fail
      go_roundw
      case rel => exact ⟨k + 1, S.does x, F6, G6, A12, c12, by go_num, hlt, rfl, rfl, hcap, HW12.out, by have h := HX12.out; rw [Hun.out] at h; exact h, Hinv.out, Hdd.out, by omega, by omega⟩
      case measure => simp [intOf]; omega
    have e0 : (x.kind == 0) = false := by simpa using k0
    have Htt := hid (show S.turnedTo x = S.l ++ S.st by unfold RS.turnedTo; rw [if_neg k0, if_neg k3])
    by_cases k1 : x.kind = 1
    ·have e1 : (x.kind == 1) = true := by rw [k1]; rfl
     go_wp2_with (first
      | (guard_target = wpList _ _ _ (Oper.mk (some 60) _ _ _ _ _ :: _) _ _; refine wpList_load_elem rfl 88 _ rfl 5 g0 o (xs.map ROpC.cells) k _ x.cells _ Hr.out (rop_each xs) (by rw [List.length_map]; exact hlt) Hxc.out rfl (by rfl) Try.underlying88 rfl size88 ?_)
      | (guard_target = wpList _ _ _ (Oper.mk _ (Op.alloc 88) _ _ _ _ :: _) _ _; refine wpList_alloc_v rfl 88 rfl (.agg zrop.toArray) info88 zrop zrop_cells ?_; intro b9 w4 hb9 B9 K4)
      | (guard_target = wpList _ _ _ (Oper.mk _ (Op.store 88 _ _) _ _ _ _ :: _) _ _; refine wpList_store_whole rfl 88 _ _ rfl b9 _ x.cells 88 (by rfl) (by rfl) B9 rfl info88 (rop_ones x) ?_; intro w5 B10 K5)
      | (guard_target = wpList _ _ _ (Oper.mk (some 61) _ _ _ _ _ :: _) _ _; refine wpList_slice0_v rfl 63 33 1 rfl sl63 Hi33.out ?_; intro b4 w6 hb4 R4 K6)
      | (guard_target = wpList _ _ _ (Oper.mk (some 63) _ _ _ _ _ :: _) _ _; refine stop_here ?_))
     unfold Stopped
     have K35 : Keep Noth wr w5 := K4.own K5 (fun q e => by unfold Only at e; subst e; exact hb9)
     have K36 := K35.trans K6 (fun _ _ h => h)
     obtain ⟨Gw, hw1, hw2, hw3, hw4⟩ := HW.out.ex
     obtain ⟨vs1, q1l, q1r, q1e⟩ := (hw1.keep K36 (Dj.noth _)).parts
     refine wpList_appendL (by rfl) _ _ rfl (F := fun q => q = b4) (G := Gw) (v := .slice (some ⟨b4, 0, none⟩) 0 0) (l := []) (m := S.l) (by rfl) (RowsL.empty R4) (A := Aw) (n := S.l.length) (c := cw) (by rfl) rfl HW.out.nc vs1 q1l q1r q1e (by simp; omega) (fun q e h4 => by injection e with e; have e : b4 = q := e; subst e; have h1 := hw4 _ h4; have h2 := K35.size; omega) ?_
     intro v7 w7 R7 K7
     have hb9u := B10.lt
     have K37 : Keep Noth wr w7 := K36.own K7 (fun q e => by injection e with e; have e : b4 = q := e; have h2 := K35.size; omega)
     have B11 := (B10.keep K6 id).keep K7 (fun e => by injection e with e; have e : b4 = b9 := e; omega)
     have HX6 := hid (HX.out.keep K37)
     have HW6 := hid (HW.out.keep K37)
     have HB11 := hid B11
     have HK37 := hid K37
     have k0c : w7.cell? ⟨b9, 0, none⟩ = some (.int .i64 x.kind) := B11.cell 0
     have k1c : w7.cell? ⟨b9, 1, none⟩ = some (.slice x.Ab x.b.length x.cb) := B11.cell 1
     have k2c : w7.cell? ⟨b9, 2, none⟩ = some (.slice x.Al x.l.length x.cl) := B11.cell 2
     clear B9 K4 B10 K5 R4 K6 R7 K7 K35 K36 K37 B11 hw1 hw2 hw3 hw4 q1l q1r q1e hb4
     clear HX HW
     go_wp2_with (first
      | (guard_target = wpList _ _ _ (Oper.mk (some 95) _ _ _ _ _ :: _) _ _; refine stop_here ?_))
     have HX7 := hid (HX6.out.keep (Keep.refl Noth w7).drew)
     have HW7 := hid (HW6.out.keep (Keep.refl Noth w7).drew)
     obtain ⟨vl9, vr9, A9, a9, Bs, bs, -, -, g3, -, g5, g6⟩ := HX7.out.ref
     have g12 : w7.drew.cell? ⟨bw, 12, none⟩ = some (.slice Bs S.st.length bs) := g6.cell 12
     have g3' : ReadsL w7.drew G' Bs S.st := g3
     obtain ⟨Gw, hw1, hw2, hw3, hw4⟩ := HW7.out.ex
     clear g6 g3
     refine wp_region_ordL [(0, true), (1, true), (2, true), (3, true), (4, true), (5, true), (6, true), (7, true), (8, true), (9, true), (10, true), (11, false), (12, false)] (fun W => W.cell? ⟨bw, 12, none⟩ = some (.slice Bs S.st.length bs)) follows_mixed (by kernel_rfl) g12 ?_
     simp only [List.map_cons, List.map_nil, List.getElem?_cons_succ, List.getElem?_cons_zero, Option.getD_some]
     refine wpO_pure (v := .slice Aw S.l.length cw) (by rfl) (fun w' hw' => by go_simp) ?_
     go_frame
     refine wpO_pure (v := .slice Aw S.l.length cw) (by rfl) (fun w' hw' => by go_simp) ?_
     go_frame
     refine wpO_pure (v := .int .i64 (S.l.length : Int)) (by rfl) (fun w' hw' => by go_simp) ?_
     go_frame
     refine wpO_pure (v := .slice Aw S.l.length cw) (by rfl) (fun w' hw' => by go_simp) ?_
     go_frame
     refine wpO_pure (v := .int .i64 (S.l.length : Int)) (by rfl) (fun w' hw' => by go_simp) ?_
     go_frame
     refine wpO_pure (v := .slice Aw S.l.length S.l.length) (by rfl) (fun w' hw' => by go_simp) ?_
     go_frame
     refine wpO_pure (v := .pointer (some ⟨bw, 0, none⟩)) (by rfl) (fun w' hw' => by go_simp) ?_
     go_frame
     refine wpO_pure (v := .pointer (some ⟨bw, 0, none⟩)) (by rfl) (fun w' hw' => by go_simp) ?_
     go_frame
     refine wpO_pure (v := .pointer (some ⟨bw, 2, none⟩)) (by rfl) (fun w' hw' => by go_simp) ?_
     go_frame
     refine wpO_pure (v := .pointer (some ⟨bw, 12, none⟩)) (by rfl) (fun w' hw' => by go_simp) ?_
     go_frame
     refine wpO_pure (v := .slice Bs S.st.length bs) (by rfl) (fun w' hw' => by go_simp) ?_
     go_frame
     refine wpO_append_full (by rfl) _ _ rfl (G := fun q => Gw q ∨ G' q) (A1 := Aw) (l := S.l) (m := S.st) (by rfl) (hw1.mono (fun _ h => .inl h)) (A2 := Bs) (c2 := bs) (by rfl) (g3'.mono (fun _ h => .inr h)) g5 hw1.none_nil (by omega) ?_
     intro v8 w8 ST8 K8
     refine ⟨.inr (K8.cellAt id g12), ?_⟩
     go_frame
     refine wpO_run (v := v8) (w1 := w8) (by rfl) (by go_simp) (.inl rfl) (wpO_nil ?_)
     go_frame
     have HG := hid (show Dj (fun q => Gw q ∨ G' q) F' ∧ ¬ (Gw bw ∨ G' bw) ∧ Lt (fun q => Gw q ∨ G' q) w7.drew from ⟨fun q a b => a.elim (fun e => hw2 q e b) (fun e => HX7.out.off q e b), fun e => e.elim hw3 HX7.out.nbG, fun q a => a.elim (hw4 q) (HX7.out.glt q)⟩)
     have HST := hid ST8
     have HX8 := hid (HX7.out.keep K8)
     have HW8 := hid (HW7.out.keep K8)
     have HB8 := hid (HB11.out.drew.keep K8 id)
     have HB7l := hid (show b9 < w7.drew.heap.size from HB11.out.drew.lt)
     have HK8 := hid K8
     have k0c : w8.cell? ⟨b9, 0, none⟩ = some (.int .i64 x.kind) := HB8.out.cell 0
     have k1c : w8.cell? ⟨b9, 1, none⟩ = some (.slice x.Ab x.b.length x.cb) := HB8.out.cell 1
     clear g12 g3' g5 hw1 hw2 hw3 hw4 ST8 K8 HX6 HW6 HB11
     obtain ⟨As, cs, rfl, snc, sR, -⟩ := HST.out.val
     have HN8 := hid (Held.of_grow (c := cs) sR HG.out.1 HG.out.2.1 HG.out.2.2 HX7.out.rlt HX7.out.wlt HK8.out.size snc)
     rw [← Htt.out] at HN8
     rw [← Htt.out]
     clear sR HST
     go_wp2_with (first
      | (guard_target = wpList _ _ _ (Oper.mk (some 95) _ _ _ _ _ :: _) _ _; refine wpList_load_blk rfl 88 _ rfl b9 0 _ x.cells 88 _ (by rfl) HB8.out (part0 _) Try.underlying88 rfl info88 ?_))
     have hug := un_good HI.out Hdn.out
     have hst := step_calls HX8.out HI.out.good hug.1 hug.2 ⟨by omega, by omega, by show S.D.ops ≤ _; omega, by show S.D.row.length ≤ _; omega⟩ x Hon.out (by omega) ⟨by omega, by omega⟩ (fun e => by omega)
     refine hst.mono ?_
     rintro e w11 ⟨Bq, F6, G6, r6, rfl, X11, hF6, K11, hr6⟩
     obtain rfl : r6 = r := hr6 (by omega)
     have HXT := hid X11
     have HWT := hid (HW8.out.step K11 hF6)
     have HNT := hid (HN8.out.step K11 hF6)
     have haf := does_after HI.out Hdn.out x hkd
     have Hrd := hid haf.2
     have hdg := does_grow HI.out.good.dok x
     have HSg := hid (does_good HI.out.good x hkd)
     have c0r := X11.cells.1
     obtain ⟨va, vs, Ar⟩ := X11.rollx
     obtain ⟨vd, ve, D9⟩ := Ar.dev
     have hdw := down_calls D9
     clear hst X11 hF6 K11 hr6 hug HX8 HW8 HN8 Ar D9
     go_wp2_with fail
     refine hdw.mono ?_
     rintro e w' ⟨rfl, rfl⟩
     cases hdd : (S.does x).D.down with
     | true =>
      have Hread := hid (Hrd.out hdd)
      clear hdw haf c0r
      have HXd := hid (HXT.out.keep (Keep.refl Noth _).drew)
      have HWd := hid (HWT.out.keep (Keep.refl Noth _).drew)
      have HNd := hid (HNT.out.keep (Keep.refl Noth _).drew)
      have hB5d := HB5.out.keep HXd.out.kept id
      obtain ⟨va, vs, Ar⟩ := HXd.out.rollx
      obtain ⟨vd, ve, D7⟩ := Ar.dev
      have hs1 := HK1.out.size
      have hcr := crash_calls D7 HSg.out.dok (by omega) A2 c2 fs (HR2.out.keep (HK1.out.trans HXd.out.kept (fun _ _ h => h)) (fun _ _ => id)) (fun ad e hne hF => by have h1 := HR2.out.ints_lt ad e hne; have h2 := HXd.out.low _ hF; omega) (by omega) Hfs.out
      clear Ar D7 HXT HWT HNT
      go_wp2_with fail
      refine wp_region_ordL [(0, true), (1, true), (2, true), (3, true), (4, true), (5, true), (6, false)] (fun W => W.cell? ⟨bw, 0, none⟩ = some (.pointer (some ⟨g, 0, none⟩)) ∧ W.cell? ⟨b5, 1, none⟩ = some (.slice A2 fs.length c2)) follows_mixed (by kernel_rfl) ⟨HXd.out.cells.1, hB5d.cell 1⟩ ?_
      simp only [List.map_cons, List.map_nil, List.getElem?_cons_succ, List.getElem?_cons_zero, Option.getD_some]
      refine wpO_pure (v := .pointer (some ⟨bw, 0, none⟩)) (by rfl) (fun w' hw' => by go_simp) ?_
      go_frame
      refine wpO_pure (v := .pointer (some ⟨bw, 0, none⟩)) (by rfl) (fun w' hw' => by go_simp) ?_
      go_frame
      refine wpO_pure (v := .pointer (some ⟨bw, 0, none⟩)) (by rfl) (fun w' hw' => by go_simp) ?_
      go_frame
      refine wpO_pure (v := .pointer (some ⟨g, 0, none⟩)) (by rfl) (fun w' hw' => by have hc := hw'.1; go_simp) ?_
      go_frame
      refine wpO_pure (v := .pointer (some ⟨b5, 1, none⟩)) (by rfl) (fun w' hw' => by go_simp) ?_
      go_frame
      refine wpO_pure (v := .slice A2 fs.length c2) (by rfl) (fun w' hw' => by have hc := hw'.2; go_simp) ?_
      go_frame
      refine wpO_call (by rfl) (exec_call' 23 _ _ rfl Try.func23 (by kernel_rfl) (by rfl) #[.pointer (some ⟨g, 0, none⟩), .slice A2 fs.length c2] (by simp [Act.eval])) ?_
      refine (hcr).mono ?_
      rintro e w13 ⟨rfl, D8, K8⟩
      refine ⟨_, rfl, .inl rfl, wpO_nil ?_⟩
      go_frame
      obtain ⟨E7, hE7⟩ : ∃ E7, E7 = (S.does x).D.crash fs := ⟨_, rfl⟩
      have HE7 := hid (show E7.ok ∧ E7.down = false ∧ E7.row.length = 0 ∧ 4 ≤ E7.l.length ∧ ((openS E7).l = S.l ∨ (openS E7).l = (S.turnedTo x)) from by rw [hE7]; exact ⟨crash_ok HSg.out.dok fs, rfl, rfl, by rw [crash_len]; exact HSg.out.four, Hread.out fs⟩)
      rw [← hE7] at D8
      obtain ⟨vd, ve, D8⟩ := D8
      have c0s := K8.cellAt HXd.out.nbF HXd.out.cells.1
      have hop := open_ok D8 HE7.out.2.1 HE7.out.1 (by rw [HE7.out.2.2.1]; exact Nat.zero_le _) HE7.out.2.2.2.1
      have HW13 := hid (HWd.out.step (K8.mono (fun _ _ e => .inl e)) (fun q e => .inl e))
      have HN13 := hid (HNd.out.step (K8.mono (fun _ _ e => .inl e)) (fun q e => .inl e))
      have HKp := hid (HK1.out.trans (HXd.out.kept.own K8 HXd.out.low) (fun _ _ h => h))
      clear hcr hE7 D8 K8 HXd HWd HNd hB5d
      go_wp2_with fail
      refine hop.mono ?_
      rintro e w14 ⟨r8, rfl, -, ⟨vl8, vs8, R8⟩, K9⟩
      obtain ⟨S8, hS8⟩ : ∃ S8, S8 = openS E7 := ⟨_, rfl⟩
      rw [← hS8] at R8
      have HS8 := hid (show (S8.l = S.l ∨ S8.l = (S.turnedTo x)) ∧ S8.ok from ⟨by rw [hS8]; exact HE7.out.2.2.2.2, by rw [hS8]; exact (openS_good HE7.out.1 HE7.out.2.2.2.1).ok⟩)
      have hrec := records_calls R8 HS8.out.2
      have HK9 := hid K9
      clear hop hS8 R8 K9 c0s
      go_wp2_with fail
      refine hrec.mono ?_
      rintro e w15 ⟨v15, rfl, RC, K10⟩
      obtain ⟨A15, c15, rfl⟩ := RC.val
      have HRC := hid RC.reads
      have HK10 := hid (HK9.out.trans K10 (fun _ _ h => h))
      clear hrec RC K10
      go_wp2_with fail
      refine (ralive_calls w15).mono ?_
      rintro e w16 ⟨rfl, K11⟩
      have HK11 := hid (HK10.out.trans K11 (fun _ _ h => h))
      have HRC16 := hid (HRC.out.keep K11 (Dj.noth _))
      obtain ⟨Gx, gx1, -, -, -⟩ := HW13.out.ex
      have hsm := same_calls w16 _ _ A15 Aw c15 cw S8.l S.l HRC16.out (gx1.keep HK11.out (Dj.noth _)) (by have := HS8.out.2.ll; omega)
      clear K11 gx1
      go_wp2_with fail
      refine hsm.mono ?_
      rintro e w17 ⟨rfl, K12⟩
      have HK12 := hid (HK11.out.trans K12 (fun _ _ h => h))
      by_cases hle : S8.l = S.l
      ·rw [show (S8.l == S.l) = true by rw [hle]; simp]
       have HKf := hid (HKp.out.trans HK12.out (fun _ _ h => h))
       clear hsm K12 hle
       go_wp2_with fail
       go_ret
       exact ⟨rfl, HKf.out⟩
      ·have hl2 : S8.l = (S.turnedTo x) := HS8.out.1.resolve_left hle
       rw [show (S8.l == S.l) = false by simpa using hle]
       obtain ⟨Gy, gy1, -, -, -⟩ := HN13.out.ex
       have hsn := same_calls w17 _ _ A15 As c15 cs S8.l ((S.turnedTo x)) (HRC16.out.keep K12 (Dj.noth _)) (gy1.keep HK12.out (Dj.noth _)) (by have := HS8.out.2.ll; omega)
       rw [show (S8.l == (S.turnedTo x)) = true by rw [hl2]; simp] at hsn
       clear hsm K12 hle hl2 gy1
       go_wp2_with fail
       refine hsn.mono ?_
       rintro e w18 ⟨rfl, K13⟩
       have HKf := hid (HKp.out.trans (HK12.out.trans K13 (fun _ _ h => h)) (fun _ _ h => h))
       clear hsn K13
       go_wp2_with fail
       go_ret
       exact ⟨rfl, HKf.out⟩
     | false =>
      have hinv := haf.1 hdd
      have hun := does_un HI.out Hdn.out x hkd hdd
      have Hun := hid hun
      have Hinv := hid hinv
      have Hdd := hid hdd
      have c1r := HXT.out.cells.2
      obtain ⟨va, vs, Ar⟩ := HXT.out.rollx
      have hrec := records_calls Ar hinv.good.ok
      clear hdw haf c0r hun hinv hdd Ar
      go_wp2_with fail
      refine hrec.mono ?_
      rintro e w12 ⟨v12, rfl, RC, K12⟩
      obtain ⟨A12, c12, rfl⟩ := RC.val
      have HX12 := hid (HXT.out.keep K12)
      have HW12 := hid (show Held w12 F6 bw A12 c12 (S.does x).l from ⟨⟨_, RC.reads, fun q a b => by have h1 := HXT.out.rlt q b; have h2 := a.1; omega, fun e => by have h1 := HXT.out.wlt; have h2 := e.1; omega, fun q hq => hq.2⟩, fun e => by obtain ⟨es, e1, e2, e3⟩ := RC; exact e2.none_cap e⟩)
      have hcap := RC.capl
      clear hrec RC K12 c1r
      go_wp2_with fail
      go_roundw
      case rel => exact ⟨k + 1, S.does x, F6, G6, A12, c12, by go_num, hlt, rfl, rfl, hcap, HW12.out, by have h := HX12.out; rw [Hun.out] at h; exact h, Hinv.out, Hdd.out, by omega, by omega⟩
      case measure => simp [intOf]; omega
    have e1 : (x.kind == 1) = false := by simpa using k1
    have e2 : (x.kind == 2) = true := by rw [show x.kind = 2 by omega]; rfl
    go_wp2_with (first
     | (guard_target = wpList _ _ _ (Oper.mk (some 60) _ _ _ _ _ :: _) _ _; refine wpList_load_elem rfl 88 _ rfl 5 g0 o (xs.map ROpC.cells) k _ x.cells _ Hr.out (rop_each xs) (by rw [List.length_map]; exact hlt) Hxc.out rfl (by rfl) Try.underlying88 rfl size88 ?_)
     | (guard_target = wpList _ _ _ (Oper.mk _ (Op.alloc 88) _ _ _ _ :: _) _ _; refine wpList_alloc_v rfl 88 rfl (.agg zrop.toArray) info88 zrop zrop_cells ?_; intro b9 w4 hb9 B9 K4)
     | (guard_target = wpList _ _ _ (Oper.mk _ (Op.store 88 _ _) _ _ _ _ :: _) _ _; refine wpList_store_whole rfl 88 _ _ rfl b9 _ x.cells 88 (by rfl) (by rfl) B9 rfl info88 (rop_ones x) ?_; intro w5 B10 K5)
     | (guard_target = wpList _ _ _ (Oper.mk (some 61) _ _ _ _ _ :: _) _ _; refine wpList_slice0_v rfl 63 33 1 rfl sl63 Hi33.out ?_; intro b4 w6 hb4 R4 K6)
     | (guard_target = wpList _ _ _ (Oper.mk (some 63) _ _ _ _ _ :: _) _ _; refine stop_here ?_))
    unfold Stopped
    have K35 : Keep Noth wr w5 := K4.own K5 (fun q e => by unfold Only at e; subst e; exact hb9)
    have K36 := K35.trans K6 (fun _ _ h => h)
    obtain ⟨Gw, hw1, hw2, hw3, hw4⟩ := HW.out.ex
    obtain ⟨vs1, q1l, q1r, q1e⟩ := (hw1.keep K36 (Dj.noth _)).parts
    refine wpList_appendL (by rfl) _ _ rfl (F := fun q => q = b4) (G := Gw) (v := .slice (some ⟨b4, 0, none⟩) 0 0) (l := []) (m := S.l) (by rfl) (RowsL.empty R4) (A := Aw) (n := S.l.length) (c := cw) (by rfl) rfl HW.out.nc vs1 q1l q1r q1e (by simp; omega) (fun q e h4 => by injection e with e; have e : b4 = q := e; subst e; have h1 := hw4 _ h4; have h2 := K35.size; omega) ?_
    intro v7 w7 R7 K7
    have hb9u := B10.lt
    have K37 : Keep Noth wr w7 := K36.own K7 (fun q e => by injection e with e; have e : b4 = q := e; have h2 := K35.size; omega)
    have B11 := (B10.keep K6 id).keep K7 (fun e => by injection e with e; have e : b4 = b9 := e; omega)
    have HX6 := hid (HX.out.keep K37)
    have HW6 := hid (HW.out.keep K37)
    have HB11 := hid B11
    have HK37 := hid K37
    have k0c : w7.cell? ⟨b9, 0, none⟩ = some (.int .i64 x.kind) := B11.cell 0
    have k1c : w7.cell? ⟨b9, 1, none⟩ = some (.slice x.Ab x.b.length x.cb) := B11.cell 1
    have k2c : w7.cell? ⟨b9, 2, none⟩ = some (.slice x.Al x.l.length x.cl) := B11.cell 2
    clear B9 K4 B10 K5 R4 K6 R7 K7 K35 K36 K37 B11 hw1 hw2 hw3 hw4 q1l q1r q1e hb4
    clear HX HW
    go_wp2_with (first
     | (guard_target = wpList _ _ _ (Oper.mk (some 95) _ _ _ _ _ :: _) _ _; refine stop_here ?_))
    have HX7 := hid (HX6.out.keep (Keep.refl Noth w7).drew)
    have HW7 := hid (HW6.out.keep (Keep.refl Noth w7).drew)
    obtain ⟨vl9, vr9, A9, a9, Bs, bs, -, -, g3, -, g5, g6⟩ := HX7.out.ref
    have g12 : w7.drew.cell? ⟨bw, 12, none⟩ = some (.slice Bs S.st.length bs) := g6.cell 12
    have g3' : ReadsL w7.drew G' Bs S.st := g3
    obtain ⟨Gw, hw1, hw2, hw3, hw4⟩ := HW7.out.ex
    clear g6 g3
    refine wp_region_ordL [(0, true), (1, true), (2, true), (3, true), (4, true), (5, true), (6, true), (7, true), (8, true), (9, true), (10, true), (11, false), (12, false)] (fun W => W.cell? ⟨bw, 12, none⟩ = some (.slice Bs S.st.length bs)) follows_mixed (by kernel_rfl) g12 ?_
    simp only [List.map_cons, List.map_nil, List.getElem?_cons_succ, List.getElem?_cons_zero, Option.getD_some]
    refine wpO_pure (v := .slice Aw S.l.length cw) (by rfl) (fun w' hw' => by go_simp) ?_
    go_frame
    refine wpO_pure (v := .slice Aw S.l.length cw) (by rfl) (fun w' hw' => by go_simp) ?_
    go_frame
    refine wpO_pure (v := .int .i64 (S.l.length : Int)) (by rfl) (fun w' hw' => by go_simp) ?_
    go_frame
    refine wpO_pure (v := .slice Aw S.l.length cw) (by rfl) (fun w' hw' => by go_simp) ?_
    go_frame
    refine wpO_pure (v := .int .i64 (S.l.length : Int)) (by rfl) (fun w' hw' => by go_simp) ?_
    go_frame
    refine wpO_pure (v := .slice Aw S.l.length S.l.length) (by rfl) (fun w' hw' => by go_simp) ?_
    go_frame
    refine wpO_pure (v := .pointer (some ⟨bw, 0, none⟩)) (by rfl) (fun w' hw' => by go_simp) ?_
    go_frame
    refine wpO_pure (v := .pointer (some ⟨bw, 0, none⟩)) (by rfl) (fun w' hw' => by go_simp) ?_
    go_frame
    refine wpO_pure (v := .pointer (some ⟨bw, 2, none⟩)) (by rfl) (fun w' hw' => by go_simp) ?_
    go_frame
    refine wpO_pure (v := .pointer (some ⟨bw, 12, none⟩)) (by rfl) (fun w' hw' => by go_simp) ?_
    go_frame
    refine wpO_pure (v := .slice Bs S.st.length bs) (by rfl) (fun w' hw' => by go_simp) ?_
    go_frame
    refine wpO_append_full (by rfl) _ _ rfl (G := fun q => Gw q ∨ G' q) (A1 := Aw) (l := S.l) (m := S.st) (by rfl) (hw1.mono (fun _ h => .inl h)) (A2 := Bs) (c2 := bs) (by rfl) (g3'.mono (fun _ h => .inr h)) g5 hw1.none_nil (by omega) ?_
    intro v8 w8 ST8 K8
    refine ⟨.inr (K8.cellAt id g12), ?_⟩
    go_frame
    refine wpO_run (v := v8) (w1 := w8) (by rfl) (by go_simp) (.inl rfl) (wpO_nil ?_)
    go_frame
    have HG := hid (show Dj (fun q => Gw q ∨ G' q) F' ∧ ¬ (Gw bw ∨ G' bw) ∧ Lt (fun q => Gw q ∨ G' q) w7.drew from ⟨fun q a b => a.elim (fun e => hw2 q e b) (fun e => HX7.out.off q e b), fun e => e.elim hw3 HX7.out.nbG, fun q a => a.elim (hw4 q) (HX7.out.glt q)⟩)
    have HST := hid ST8
    have HX8 := hid (HX7.out.keep K8)
    have HW8 := hid (HW7.out.keep K8)
    have HB8 := hid (HB11.out.drew.keep K8 id)
    have HB7l := hid (show b9 < w7.drew.heap.size from HB11.out.drew.lt)
    have HK8 := hid K8
    have k0c : w8.cell? ⟨b9, 0, none⟩ = some (.int .i64 x.kind) := HB8.out.cell 0
    have k1c : w8.cell? ⟨b9, 1, none⟩ = some (.slice x.Ab x.b.length x.cb) := HB8.out.cell 1
    clear g12 g3' g5 hw1 hw2 hw3 hw4 ST8 K8 HX6 HW6 HB11
    obtain ⟨As, cs, rfl, snc, sR, -⟩ := HST.out.val
    have HN8 := hid (Held.of_grow (c := cs) sR HG.out.1 HG.out.2.1 HG.out.2.2 HX7.out.rlt HX7.out.wlt HK8.out.size snc)
    rw [← Htt.out] at HN8
    rw [← Htt.out]
    clear sR HST
    go_wp2_with (first
     | (guard_target = wpList _ _ _ (Oper.mk (some 95) _ _ _ _ _ :: _) _ _; refine wpList_load_blk rfl 88 _ rfl b9 0 _ x.cells 88 _ (by rfl) HB8.out (part0 _) Try.underlying88 rfl info88 ?_))
    have hug := un_good HI.out Hdn.out
    have hst := step_calls HX8.out HI.out.good hug.1 hug.2 ⟨by omega, by omega, by show S.D.ops ≤ _; omega, by show S.D.row.length ≤ _; omega⟩ x Hon.out (by omega) ⟨by omega, by omega⟩ (fun e => by omega)
    refine hst.mono ?_
    rintro e w11 ⟨Bq, F6, G6, r6, rfl, X11, hF6, K11, hr6⟩
    obtain rfl : r6 = r := hr6 (by omega)
    have HXT := hid X11
    have HWT := hid (HW8.out.step K11 hF6)
    have HNT := hid (HN8.out.step K11 hF6)
    have haf := does_after HI.out Hdn.out x hkd
    have Hrd := hid haf.2
    have hdg := does_grow HI.out.good.dok x
    have HSg := hid (does_good HI.out.good x hkd)
    have c0r := X11.cells.1
    obtain ⟨va, vs, Ar⟩ := X11.rollx
    obtain ⟨vd, ve, D9⟩ := Ar.dev
    have hdw := down_calls D9
    clear hst X11 hF6 K11 hr6 hug HX8 HW8 HN8 Ar D9
    go_wp2_with fail
    refine hdw.mono ?_
    rintro e w' ⟨rfl, rfl⟩
    cases hdd : (S.does x).D.down with
    | true =>
     have Hread := hid (Hrd.out hdd)
     clear hdw haf c0r
     have HXd := hid (HXT.out.keep (Keep.refl Noth _).drew)
     have HWd := hid (HWT.out.keep (Keep.refl Noth _).drew)
     have HNd := hid (HNT.out.keep (Keep.refl Noth _).drew)
     have hB5d := HB5.out.keep HXd.out.kept id
     obtain ⟨va, vs, Ar⟩ := HXd.out.rollx
     obtain ⟨vd, ve, D7⟩ := Ar.dev
     have hs1 := HK1.out.size
     have hcr := crash_calls D7 HSg.out.dok (by omega) A2 c2 fs (HR2.out.keep (HK1.out.trans HXd.out.kept (fun _ _ h => h)) (fun _ _ => id)) (fun ad e hne hF => by have h1 := HR2.out.ints_lt ad e hne; have h2 := HXd.out.low _ hF; omega) (by omega) Hfs.out
     clear Ar D7 HXT HWT HNT
     go_wp2_with fail
     refine wp_region_ordL [(0, true), (1, true), (2, true), (3, true), (4, true), (5, true), (6, false)] (fun W => W.cell? ⟨bw, 0, none⟩ = some (.pointer (some ⟨g, 0, none⟩)) ∧ W.cell? ⟨b5, 1, none⟩ = some (.slice A2 fs.length c2)) follows_mixed (by kernel_rfl) ⟨HXd.out.cells.1, hB5d.cell 1⟩ ?_
     simp only [List.map_cons, List.map_nil, List.getElem?_cons_succ, List.getElem?_cons_zero, Option.getD_some]
     refine wpO_pure (v := .pointer (some ⟨bw, 0, none⟩)) (by rfl) (fun w' hw' => by go_simp) ?_
     go_frame
     refine wpO_pure (v := .pointer (some ⟨bw, 0, none⟩)) (by rfl) (fun w' hw' => by go_simp) ?_
     go_frame
     refine wpO_pure (v := .pointer (some ⟨bw, 0, none⟩)) (by rfl) (fun w' hw' => by go_simp) ?_
     go_frame
     refine wpO_pure (v := .pointer (some ⟨g, 0, none⟩)) (by rfl) (fun w' hw' => by have hc := hw'.1; go_simp) ?_
     go_frame
     refine wpO_pure (v := .pointer (some ⟨b5, 1, none⟩)) (by rfl) (fun w' hw' => by go_simp) ?_
     go_frame
     refine wpO_pure (v := .slice A2 fs.length c2) (by rfl) (fun w' hw' => by have hc := hw'.2; go_simp) ?_
     go_frame
     refine wpO_call (by rfl) (exec_call' 23 _ _ rfl Try.func23 (by kernel_rfl) (by rfl) #[.pointer (some ⟨g, 0, none⟩), .slice A2 fs.length c2] (by simp [Act.eval])) ?_
     refine (hcr).mono ?_
     rintro e w13 ⟨rfl, D8, K8⟩
     refine ⟨_, rfl, .inl rfl, wpO_nil ?_⟩
     go_frame
     obtain ⟨E7, hE7⟩ : ∃ E7, E7 = (S.does x).D.crash fs := ⟨_, rfl⟩
     have HE7 := hid (show E7.ok ∧ E7.down = false ∧ E7.row.length = 0 ∧ 4 ≤ E7.l.length ∧ ((openS E7).l = S.l ∨ (openS E7).l = (S.turnedTo x)) from by rw [hE7]; exact ⟨crash_ok HSg.out.dok fs, rfl, rfl, by rw [crash_len]; exact HSg.out.four, Hread.out fs⟩)
     rw [← hE7] at D8
     obtain ⟨vd, ve, D8⟩ := D8
     have c0s := K8.cellAt HXd.out.nbF HXd.out.cells.1
     have hop := open_ok D8 HE7.out.2.1 HE7.out.1 (by rw [HE7.out.2.2.1]; exact Nat.zero_le _) HE7.out.2.2.2.1
     have HW13 := hid (HWd.out.step (K8.mono (fun _ _ e => .inl e)) (fun q e => .inl e))
     have HN13 := hid (HNd.out.step (K8.mono (fun _ _ e => .inl e)) (fun q e => .inl e))
     have HKp := hid (HK1.out.trans (HXd.out.kept.own K8 HXd.out.low) (fun _ _ h => h))
     clear hcr hE7 D8 K8 HXd HWd HNd hB5d
     go_wp2_with fail
     refine hop.mono ?_
     rintro e w14 ⟨r8, rfl, -, ⟨vl8, vs8, R8⟩, K9⟩
     obtain ⟨S8, hS8⟩ : ∃ S8, S8 = openS E7 := ⟨_, rfl⟩
     rw [← hS8] at R8
     have HS8 := hid (show (S8.l = S.l ∨ S8.l = (S.turnedTo x)) ∧ S8.ok from ⟨by rw [hS8]; exact HE7.out.2.2.2.2, by rw [hS8]; exact (openS_good HE7.out.1 HE7.out.2.2.2.1).ok⟩)
     have hrec := records_calls R8 HS8.out.2
     have HK9 := hid K9
     clear hop hS8 R8 K9 c0s
     go_wp2_with fail
     refine hrec.mono ?_
     rintro e w15 ⟨v15, rfl, RC, K10⟩
     obtain ⟨A15, c15, rfl⟩ := RC.val
     have HRC := hid RC.reads
     have HK10 := hid (HK9.out.trans K10 (fun _ _ h => h))
     clear hrec RC K10
     go_wp2_with fail
     refine (ralive_calls w15).mono ?_
     rintro e w16 ⟨rfl, K11⟩
     have HK11 := hid (HK10.out.trans K11 (fun _ _ h => h))
     have HRC16 := hid (HRC.out.keep K11 (Dj.noth _))
     obtain ⟨Gx, gx1, -, -, -⟩ := HW13.out.ex
     have hsm := same_calls w16 _ _ A15 Aw c15 cw S8.l S.l HRC16.out (gx1.keep HK11.out (Dj.noth _)) (by have := HS8.out.2.ll; omega)
     clear K11 gx1
     go_wp2_with fail
     refine hsm.mono ?_
     rintro e w17 ⟨rfl, K12⟩
     have HK12 := hid (HK11.out.trans K12 (fun _ _ h => h))
     by_cases hle : S8.l = S.l
     ·rw [show (S8.l == S.l) = true by rw [hle]; simp]
      have HKf := hid (HKp.out.trans HK12.out (fun _ _ h => h))
      clear hsm K12 hle
      go_wp2_with fail
      go_ret
      exact ⟨rfl, HKf.out⟩
     ·have hl2 : S8.l = (S.turnedTo x) := HS8.out.1.resolve_left hle
      rw [show (S8.l == S.l) = false by simpa using hle]
      obtain ⟨Gy, gy1, -, -, -⟩ := HN13.out.ex
      have hsn := same_calls w17 _ _ A15 As c15 cs S8.l ((S.turnedTo x)) (HRC16.out.keep K12 (Dj.noth _)) (gy1.keep HK12.out (Dj.noth _)) (by have := HS8.out.2.ll; omega)
      rw [show (S8.l == (S.turnedTo x)) = true by rw [hl2]; simp] at hsn
      clear hsm K12 hle hl2 gy1
      go_wp2_with fail
      refine hsn.mono ?_
      rintro e w18 ⟨rfl, K13⟩
      have HKf := hid (HKp.out.trans (HK12.out.trans K13 (fun _ _ h => h)) (fun _ _ h => h))
      clear hsn K13
      go_wp2_with fail
      go_ret
      exact ⟨rfl, HKf.out⟩
    | false =>
     have hinv := haf.1 hdd
     have hun := does_un HI.out Hdn.out x hkd hdd
     have Hun := hid hun
     have Hinv := hid hinv
     have Hdd := hid hdd
     have c1r := HXT.out.cells.2
     obtain ⟨va, vs, Ar⟩ := HXT.out.rollx
     have hrec := records_calls Ar hinv.good.ok
     clear hdw haf c0r hun hinv hdd Ar
     go_wp2_with fail
     refine hrec.mono ?_
     rintro e w12 ⟨v12, rfl, RC, K12⟩
     obtain ⟨A12, c12, rfl⟩ := RC.val
     have HX12 := hid (HXT.out.keep K12)
     have HW12 := hid (show Held w12 F6 bw A12 c12 (S.does x).l from ⟨⟨_, RC.reads, fun q a b => by have h1 := HXT.out.rlt q b; have h2 := a.1; omega, fun e => by have h1 := HXT.out.wlt; have h2 := e.1; omega, fun q hq => hq.2⟩, fun e => by obtain ⟨es, e1, e2, e3⟩ := RC; exact e2.none_cap e⟩)
     have hcap := RC.capl
     clear hrec RC K12 c1r
     go_wp2_with fail
     go_roundw
     case rel => exact ⟨k + 1, S.does x, F6, G6, A12, c12, by go_num, hlt, rfl, rfl, hcap, HW12.out, by have h := HX12.out; rw [Hun.out] at h; exact h, Hinv.out, Hdd.out, by omega, by omega⟩
     case measure => simp [intOf]; omega
  ·have hge : k = xs.length := by omega
   subst hge
   clear hlt hk
   have HXT := hid HX.out
   have HWT := hid HW.out
   have HNT := hid HW.out
   have HSg := hid HI.out.good
   have Hread := hid (show ∀ fs, (openS (S.D.crash fs)).l = S.l ∨ (openS (S.D.crash fs)).l = S.l from fun fs => .inl (by rw [HI.out.crash fs]))
   obtain ⟨As, hAs⟩ : ∃ As, As = Aw := ⟨_, rfl⟩
   obtain ⟨cs, hcs⟩ : ∃ cs, cs = cw := ⟨_, rfl⟩
   subst hAs
   subst hcs
   clear HX HW
   have HXd := hid (HXT.out.keep (Keep.refl Noth _).drew)
   have HWd := hid (HWT.out.keep (Keep.refl Noth _).drew)
   have HNd := hid (HNT.out.keep (Keep.refl Noth _).drew)
   have hB5d := HB5.out.keep HXd.out.kept id
   obtain ⟨va, vs, Ar⟩ := HXd.out.rollx
   obtain ⟨vd, ve, D7⟩ := Ar.dev
   have hs1 := HK1.out.size
   have hcr := crash_calls D7 HSg.out.dok (by omega) A2 c2 fs (HR2.out.keep (HK1.out.trans HXd.out.kept (fun _ _ h => h)) (fun _ _ => id)) (fun ad e hne hF => by have h1 := HR2.out.ints_lt ad e hne; have h2 := HXd.out.low _ hF; omega) (by omega) Hfs.out
   clear Ar D7 HXT HWT HNT
   go_wp2_with fail
   refine wp_region_ordL [(0, true), (1, true), (2, true), (3, true), (4, true), (5, true), (6, false)] (fun W => W.cell? ⟨bw, 0, none⟩ = some (.pointer (some ⟨g, 0, none⟩)) ∧ W.cell? ⟨b5, 1, none⟩ = some (.slice A2 fs.length c2)) follows_mixed (by kernel_rfl) ⟨HXd.out.cells.1, hB5d.cell 1⟩ ?_
   simp only [List.map_cons, List.map_nil, List.getElem?_cons_succ, List.getElem?_cons_zero, Option.getD_some]
   refine wpO_pure (v := .pointer (some ⟨bw, 0, none⟩)) (by rfl) (fun w' hw' => by go_simp) ?_
   go_frame
   refine wpO_pure (v := .pointer (some ⟨bw, 0, none⟩)) (by rfl) (fun w' hw' => by go_simp) ?_
   go_frame
   refine wpO_pure (v := .pointer (some ⟨bw, 0, none⟩)) (by rfl) (fun w' hw' => by go_simp) ?_
   go_frame
   refine wpO_pure (v := .pointer (some ⟨g, 0, none⟩)) (by rfl) (fun w' hw' => by have hc := hw'.1; go_simp) ?_
   go_frame
   refine wpO_pure (v := .pointer (some ⟨b5, 1, none⟩)) (by rfl) (fun w' hw' => by go_simp) ?_
   go_frame
   refine wpO_pure (v := .slice A2 fs.length c2) (by rfl) (fun w' hw' => by have hc := hw'.2; go_simp) ?_
   go_frame
   refine wpO_call (by rfl) (exec_call' 23 _ _ rfl Try.func23 (by kernel_rfl) (by rfl) #[.pointer (some ⟨g, 0, none⟩), .slice A2 fs.length c2] (by simp [Act.eval])) ?_
   refine (hcr).mono ?_
   rintro e w13 ⟨rfl, D8, K8⟩
   refine ⟨_, rfl, .inl rfl, wpO_nil ?_⟩
   go_frame
   obtain ⟨E7, hE7⟩ : ∃ E7, E7 = S.D.crash fs := ⟨_, rfl⟩
   have HE7 := hid (show E7.ok ∧ E7.down = false ∧ E7.row.length = 0 ∧ 4 ≤ E7.l.length ∧ ((openS E7).l = S.l ∨ (openS E7).l = S.l) from by rw [hE7]; exact ⟨crash_ok HSg.out.dok fs, rfl, rfl, by rw [crash_len]; exact HSg.out.four, Hread.out fs⟩)
   rw [← hE7] at D8
   obtain ⟨vd, ve, D8⟩ := D8
   have c0s := K8.cellAt HXd.out.nbF HXd.out.cells.1
   have hop := open_ok D8 HE7.out.2.1 HE7.out.1 (by rw [HE7.out.2.2.1]; exact Nat.zero_le _) HE7.out.2.2.2.1
   have HW13 := hid (HWd.out.step (K8.mono (fun _ _ e => .inl e)) (fun q e => .inl e))
   have HN13 := hid (HNd.out.step (K8.mono (fun _ _ e => .inl e)) (fun q e => .inl e))
   have HKp := hid (HK1.out.trans (HXd.out.kept.own K8 HXd.out.low) (fun _ _ h => h))
   clear hcr hE7 D8 K8 HXd HWd HNd hB5d
   go_wp2_with fail
   refine hop.mono ?_
   rintro e w14 ⟨r8, rfl, -, ⟨vl8, vs8, R8⟩, K9⟩
   obtain ⟨S8, hS8⟩ : ∃ S8, S8 = openS E7 := ⟨_, rfl⟩
   rw [← hS8] at R8
   have HS8 := hid (show (S8.l = S.l ∨ S8.l = S.l) ∧ S8.ok from ⟨by rw [hS8]; exact HE7.out.2.2.2.2, by rw [hS8]; exact (openS_good HE7.out.1 HE7.out.2.2.2.1).ok⟩)
   have hrec := records_calls R8 HS8.out.2
   have HK9 := hid K9
   clear hop hS8 R8 K9 c0s
   go_wp2_with fail
   refine hrec.mono ?_
   rintro e w15 ⟨v15, rfl, RC, K10⟩
   obtain ⟨A15, c15, rfl⟩ := RC.val
   have HRC := hid RC.reads
   have HK10 := hid (HK9.out.trans K10 (fun _ _ h => h))
   clear hrec RC K10
   go_wp2_with fail
   refine (ralive_calls w15).mono ?_
   rintro e w16 ⟨rfl, K11⟩
   have HK11 := hid (HK10.out.trans K11 (fun _ _ h => h))
   have HRC16 := hid (HRC.out.keep K11 (Dj.noth _))
   obtain ⟨Gx, gx1, -, -, -⟩ := HW13.out.ex
   have hsm := same_calls w16 _ _ A15 As c15 cs S8.l S.l HRC16.out (gx1.keep HK11.out (Dj.noth _)) (by have := HS8.out.2.ll; omega)
   clear K11 gx1
   go_wp2_with fail
   refine hsm.mono ?_
   rintro e w17 ⟨rfl, K12⟩
   have HK12 := hid (HK11.out.trans K12 (fun _ _ h => h))
   by_cases hle : S8.l = S.l
   ·rw [show (S8.l == S.l) = true by rw [hle]; simp]
    have HKf := hid (HKp.out.trans HK12.out (fun _ _ h => h))
    clear hsm K12 hle
    go_wp2_with fail
    go_ret
    exact ⟨rfl, HKf.out⟩
   ·have hl2 : S8.l = S.l := HS8.out.1.resolve_left hle
    rw [show (S8.l == S.l) = false by simpa using hle]
    obtain ⟨Gy, gy1, -, -, -⟩ := HN13.out.ex
    have hsn := same_calls w17 _ _ A15 As c15 cs S8.l (S.l) (HRC16.out.keep K12 (Dj.noth _)) (gy1.keep HK12.out (Dj.noth _)) (by have := HS8.out.2.ll; omega)
    rw [show (S8.l == S.l) = true by rw [hl2]; simp] at hsn
    clear hsm K12 hle hl2 gy1
    go_wp2_with fail
    refine hsn.mono ?_
    rintro e w18 ⟨rfl, K13⟩
    have HKf := hid (HKp.out.trans (HK12.out.trans K13 (fun _ _ h => h)) (fun _ _ h => h))
    clear hsn K13
    go_wp2_with fail
    go_ret
    exact ⟨rfl, HKf.out⟩
end Go.Proofs.Ytffcglfepobdjaa
