/- What the blocks, the rolls and the document's rolls do, step by step and as plain data: texts U3 U4 U5 U6 E0 E1 E3 W1 W3; no conditions beside those that each theorem states. -/
import Derived.Test.YtffcglfepobdjaaX4
import Derived.Great.Walk
import Derived.Test.YtffcglfepobdjaaRows
import Derived.ProofKit
import Derived.OpenShut
import Derived.JoinedCond
import Derived.JoinedOf
import Derived.Carry
import Derived.Deep.Slices
import Derived.Deep.CondSized
import Derived.SizedLaws
set_option linter.unusedVariables false
set_option linter.unusedSimpArgs false
set_option maxRecDepth 100000
set_option maxHeartbeats 2000000
namespace Go.Proofs.Ytffcglfepobdjaa
open Go.RowKit
set_option maxHeartbeats 4000000
/-- Calls, one behind the other, up to the first that errs. -/
def DS.runOps (D : DS) : List OpV → DS × Int
 | [] => (D, 0)
 | o :: l => if (D.doOp o).2 = 0 then (D.doOp o).1.runOps l else D.doOp o
theorem runOps_snoc : ∀ (l : List OpV) (D D' : DS) (o : OpV), D.runOps l = (D', 0) → D.runOps (l ++ [o]) = D'.doOp o
 | [], D, D', o, h => by
  simp only [DS.runOps, Prod.mk.injEq, and_true] at h
  subst h
  show (if (D.doOp o).2 = 0 then ((D.doOp o).1, (0 : Int)) else D.doOp o) = _
  split
  ·rename_i e; rw [← e]
  ·rfl
 | x :: l, D, D', o, h => by
  simp only [List.cons_append, DS.runOps] at h ⊢
  split at h
  ·rename_i e; rw [if_pos e]; exact runOps_snoc l _ _ _ h
  ·rename_i e; rw [h] at e; exact absurd rfl e
theorem runOps_stop : ∀ (l m : List OpV) (D : DS), (D.runOps l).2 ≠ 0 → D.runOps (l ++ m) = D.runOps l
 | [], m, D, h => absurd rfl h
 | x :: l, m, D, h => by
  simp only [List.cons_append, DS.runOps] at h ⊢
  split
  ·rename_i e; rw [if_pos e] at h; exact runOps_stop l m _ h
  ·rfl
theorem runOps_ok : ∀ (l : List OpV) {D : DS}, D.ok → (∀ o ∈ l, o.ok) → (D.runOps l).1.ok ∧ (D.runOps l).1.ops ≤ D.ops + l.length ∧ (D.runOps l).1.row.length ≤ D.row.length + l.length
 | [], D, h, _ => ⟨h, by simp [DS.runOps], by simp [DS.runOps]⟩
 | o :: l, D, h, ho => by
  have h1 := doOp_ok h o (ho o (by simp))
  have h2 := doOp_grow D o
  obtain ⟨h3, h4, h5⟩ := runOps_ok l h1 (fun x hx => ho x (by simp [hx]))
  simp only [DS.runOps]
  split
  ·exact ⟨h3, by simp; omega, by simp; omega⟩
  ·exact ⟨h1, by simp; omega, by simp; omega⟩
def turnOps (s : Int) (b : List UInt8) : List OpV := [⟨1, 0, [], []⟩, ⟨0, s, b, []⟩, ⟨1, 0, [], []⟩]
theorem turn_runOps (D : DS) (s : Int) (b : List UInt8) : D.turn s b = D.runOps (turnOps s b) := by
 show (if D.flush.2 = 0 then (if (D.flush.1.write s b).2 = 0 then (D.flush.1.write s b).1.flush else D.flush.1.write s b) else D.flush) = (if D.flush.2 = 0 then (if (D.flush.1.write s b).2 = 0 then (if (D.flush.1.write s b).1.flush.2 = 0 then ((D.flush.1.write s b).1.flush.1, (0 : Int)) else (D.flush.1.write s b).1.flush) else D.flush.1.write s b) else D.flush)
 have : ∀ p : DS × Int, (if p.2 = 0 then (p.1, (0 : Int)) else p) = p := fun p => by
  split
  ·rename_i e; rw [← e]
  ·rfl
 rw [this]
theorem turnOps_ok {s : Int} {b : List UInt8} (hs : -10000 ≤ s ∧ s ≤ 20000) (hb : b.length ≤ 64) : ∀ o ∈ turnOps s b, o.ok := by
 intro o ho
 have hn : (⟨1, 0, [], []⟩ : OpV).ok := ⟨(by decide : (-9223372036854775808 : Int) ≤ 1 ∧ (1 : Int) ≤ 9223372036854775807), (by decide : (-9223372036854775808 : Int) ≤ 0 ∧ (0 : Int) ≤ 9223372036854775807), Nat.zero_le _, Nat.zero_le _, fun x hx => by cases hx⟩
 simp only [turnOps, List.mem_cons, List.not_mem_nil, or_false] at ho
 rcases ho with rfl | rfl | rfl
 ·exact hn
 ·exact opvok hs hb
 ·exact hn
def flushV : List Value := [.int .i64 1, .int .i64 0, .slice none 0 0, .slice none 0 0]
theorem build36f (W : World) : (Instr.build 36 #[(0, .int .i64 1)]).run Try.prog W = .ok (.agg flushV.toArray) W := by kernel_rfl
theorem exec_build36f {a : Act} {w : World} {o : Oper} (y : Operand) (ho : o.op = .build 36 #[(0, y)]) (hy : a.eval y = .int .i64 1) : (execOp a.eval o).run Try.prog w = .ok (.value (.agg flushV.toArray)) w := by
 unfold execOp
 simp only [ho, List.map_toArray, List.map_cons, List.map_nil, hy, Sem.run_bind, Sem.run_pure, Result.andThen_ok, build36f]
def turnV (s : Int) (A : Option Addr) (n c : Nat) : List Value := flushV ++ [.int .i64 0, .int .i64 s, .slice A n c, .slice none 0 0] ++ flushV
theorem builtTurn (s : Int) (A : Option Addr) (n c : Nat) : Try.prog.builtSlice 36 3 [(0, .agg flushV.toArray), (1, .agg [.int .i64 0, .int .i64 s, .slice A n c, .slice none 0 0].toArray), (2, .agg flushV.toArray)] = some (turnV s A n c).toArray := by kernel_rfl
theorem sl22 : Try.prog.underlying 22 = some (.slice 36) := by kernel_rfl
theorem wpList_turnOps {ops : Array Oper} {rest : List Oper} {o : Oper} {a : Act} {w : World} {Q : Exit → Act → World → Prop} (hg : o.guard = none) (x y z : Operand) (ho : o.op = .buildSlice 22 3 #[(0, x), (1, y), (2, z)]) (s : Int) (A : Option Addr) (n c : Nat)
  (hx : a.eval x = .agg flushV.toArray) (hy : a.eval y = .agg [.int .i64 0, .int .i64 s, .slice A n c, .slice none 0 0].toArray) (hz : a.eval z = .agg flushV.toArray)
  (h : ∀ b w1, w.heap.size ≤ b → BlockIs w1 b (turnV s A n c) 36 → Keep Noth w w1 → wpList Try.prog ops Q rest (a.put o.dst (.slice (some ⟨b, 0, none⟩) 3 3)) w1) : wpList Try.prog ops Q (o :: rest) a w := by
 refine Great.wpList_buildSliceTo hg 22 36 3 _ ho _ rfl _ rfl sl22 (turnV s A n c).toArray ?_ (h _ _ (Nat.le_refl _) (BlockIs.new w _ 36) ((Keep.refl _ _).alloc _))
 simp only [List.map_toArray, List.map_cons, List.map_nil, hx, hy, hz]
 exact builtTurn s A n c
theorem turnV_at0 (s : Int) (A : Option Addr) (n c : Nat) : ∀ j v, flushV[j]? = some v → (turnV s A n c)[0 + j]? = some v := by
 intro j v h
 rw [Nat.zero_add]
 unfold turnV
 rw [List.append_assoc, List.getElem?_append_left (List.getElem?_eq_some_iff.1 h).1]; exact h
theorem turnV_at1 (s : Int) (A : Option Addr) (n c : Nat) : ∀ j v, [Value.int .i64 0, .int .i64 s, .slice A n c, .slice none 0 0][j]? = some v → (turnV s A n c)[4 + j]? = some v := by
 intro j v h
 match j, h with
 | 0, h => exact h
 | 1, h => exact h
 | 2, h => exact h
 | 3, h => exact h
 | j + 4, h => simp at h
theorem turnV_at2 (s : Int) (A : Option Addr) (n c : Nat) : ∀ j v, flushV[j]? = some v → (turnV s A n c)[8 + j]? = some v := by
 intro j v h
 match j, h with
 | 0, h => exact h
 | 1, h => exact h
 | 2, h => exact h
 | 3, h => exact h
 | j + 4, h => simp [flushV] at h
def pickV (E : Int) (a b : List Value) : List Value := if E = 0 then a else b
theorem pickV_ok (a b : List Value) : pickV 0 a b = a := if_pos rfl
theorem pickV_no {E : Int} (h : E ≠ 0) (a b : List Value) : pickV E a b = b := if_neg h
theorem exec_build68c {a : Act} {w : World} {o : Oper} (y0 y1 y2 y3 y4 y5 : Operand) (ho : o.op = .build 68 #[(0, y0), (1, y1), (2, y2), (3, y3), (4, y4), (5, y5)]) {SV : List Value} (h5 : SV.length = 5) (m n p q : Int) (A : Option Addr) (k l : Nat)
  (h0 : a.eval y0 = .agg SV.toArray) (h1 : a.eval y1 = .int .i64 m) (h2 : a.eval y2 = .int .i64 n) (h3 : a.eval y3 = .int .i64 p) (h4 : a.eval y4 = .int .i64 q) (hl : a.eval y5 = .slice A k l) :
  (execOp a.eval o).run Try.prog w = .ok (.value (.agg (fsv SV m n p q (.slice A k l) (.slice none 0 0)).toArray)) w := by
 match SV, h5 with
 | [x0, x1, x2, x3, x4], _ =>
  unfold execOp
  simp only [ho, List.map_toArray, List.map_cons, List.map_nil, h0, h1, h2, h3, h4, hl, Sem.run_bind, Sem.run_pure, Result.andThen_ok, build68c x0 x1 x2 x3 x4 m n p q A k l]
theorem refTurn_calls0 {w : World} {F : Nat → Prop} {vl vr : Value} {D : DS} (H : StAt w F vl vr D) (hok : D.ok) (ho : D.ops ≤ 1000000000) (hr : D.row.length ≤ 1000000000) (h4 : 2 ≤ D.l.length) (seq slot area0 used0 : Int) (vL vS : Value) (hL : vL.oneCell' = true) (hS : vS.oneCell' = true)
  (area used n c : Nat) (A : Option Addr) (ha : area ≤ 1048576) (hu : used ≤ 1048576) (hn : n ≤ 1099511627776) (hs : slot = 0) (ns : Int) (hns : ns = if slot = 0 then 1 else 0) :
  Calls Try.prog 104 #[.agg (fsv (stv vl vr D) seq slot area0 used0 vL vS).toArray, .int .i64 (area : Int), .int .i64 (used : Int), .slice A n c] w (fun e w' => ∃ vl' vr', e = .returned (.tuple #[.agg (pickV (D.turn ns (headB (nextF D) area used n)).2 (fsv (stv vl' vr' (D.turn ns (headB (nextF D) area used n)).1) (nextF D : Int) ns area used (.slice A n c) (.slice none 0 0)) (fsv (stv vl' vr' (D.turn ns (headB (nextF D) area used n)).1) seq slot area0 used0 vL vS)).toArray, .int .i64 (D.turn ns (headB (nextF D) area used n)).2]) ∧ StAt w' (grow F w w') vl' vr' (D.turn ns (headB (nextF D) area used n)).1 ∧ Keep Noth w w') := by
 have Hns1 := hid (show ns = 1 by rw [hns, if_pos hs])
 have Hs1 := hid (show (slot == 0) = true by simpa using hs)
 clear hs
 have hnx := nextF_le D
 have hnl := fun W (hW : Keep Noth w W) => refNext_calls (H.keep hW (Dj.noth _)) hok (by omega) h4 seq slot area0 used0 vL vS
 obtain ⟨hb, hhb⟩ : ∃ hb, hb = headB (nextF D) area used n := ⟨_, rfl⟩
 have hhl : hb.length = 64 := by rw [hhb]; exact headB_length _ _ _ _
 have hhd := fun W => head_calls W (nextF D) area used n (by omega) (by omega) (by omega) (by omega)
 rw [← hhb] at hhd ⊢
 have hones := H.ones
 obtain ⟨N, hN⟩ : ∃ N, N = nextF D := ⟨_, rfl⟩
 rw [← hN] at hnl hhd ⊢
 have HH := hid H
 have Hnl := hid hnl
 have Hhd := hid hhd
 have Hok := hid hok
 have Hhb := hid (show hb = hb from rfl)
 have Hns := hid (show ns = ns from rfl)
 have HN := hid hN
 have Hones := hid hones
 have hnI : (n : Int) ≤ 1099511627776 := by omega
 have hnsb : -10000 ≤ ns ∧ ns ≤ 20000 := by rw [hns]; split <;> decide
 clear H hnl hhd hok hhb hN hones hnx hn
 go_enter Try.func104, Try.ntmps104
 go_wp2_with (first
  | (guard_target = wpList _ _ _ (Oper.mk _ (Op.box 68 _) _ _ _ _ :: _) _ _; refine wpList_box_v rfl 68 _ rfl (fsv (stv vl vr D) seq slot area0 used0 vL vS) (by rfl) ?_; intro b4 w1 hb4 B4 K1)
  | (guard_target = wpList _ _ _ (Oper.mk _ (Op.alloc 68) _ _ _ _ :: _) _ _; refine wpList_alloc_v rfl 68 rfl (.agg zfs.toArray) info68 zfs zfs_cells ?_; intro b8 w2 hb8 B8 K2; have B42 := B4.keep K2 id)
  | (guard_target = wpList _ _ _ (Oper.mk _ (Op.load 68 _) _ _ _ _ :: _) _ _; refine wpList_load_blk rfl 68 _ rfl b4 0 _ (fsv (stv vl vr D) seq slot area0 used0 vL vS) 68 _ (by rfl) B42 (part0 _) Try.underlying68 rfl (by rw [fsv_len rfl]; exact info68) ?_))
 have K02 : Keep Noth w w2 := K1.trans K2 (fun _ _ h => h)
 have hne : b4 ≠ b8 := by have := B4.lt; omega
 have hb4w : w.heap.size ≤ b4 := hb4
 have hb8w : w.heap.size ≤ b8 := by have := K1.size; omega
 refine (Hnl.out w2 K02).mono ?_
 rintro e w3 ⟨rfl, K3⟩
 have B43 := B42.keep K3 id
 have B83 := B8.keep K3 id
 have K03 := K02.trans K3 (fun _ _ h => h)
 have c6 : w3.cell? ⟨b4, 6, none⟩ = some (.int .i64 slot) := B43.cell 6
 have hsb : (slot == 0) = decide (slot = 0) := rfl
 clear B4 B8 B42 K1 K2 K3 K02 hb4 hb8
 have hs1 := Hs1.out
 clear hns hsb
 go_wp2_with (first
  | (guard_target = wpList _ _ _ (Oper.mk _ (Op.build 36 _) _ _ _ _ :: _) _ _; refine wpList_run rfl _ _ (exec_build36f _ rfl (by rfl)) ?_))
 refine (Hhd.out w3).mono ?_
 rintro e w4 ⟨gh, ch, rfl, XH, K4⟩
 have B44 := B43.keep K4 id
 have B84 := B83.keep K4 id
 have K04 := K03.trans K4 (fun _ _ h => h)
 have hgh : gh ≠ b4 := by
  have h1 : w3.heap.size ≤ gh := (XH.foot _ rfl).1
  have := B43.lt
  omega
 have hRh4 := Bytes.same_as XH
 clear B43 B83 K03 XH K4 c6
 go_wp2_with (first
  | (guard_target = wpList _ _ _ (Oper.mk _ (Op.build 36 #[(1, _), (2, _)]) _ _ _ _ :: _) _ _; refine wpList_run rfl _ _ (exec_build36b _ _ rfl ns _ _ _ (by rw [Hns1.out]; rfl) (by rfl)) ?_)
  | (guard_target = wpList _ _ _ (Oper.mk _ (Op.build 36 _) _ _ _ _ :: _) _ _; refine wpList_run rfl _ _ (exec_build36f _ rfl (by rfl)) ?_)
  | (guard_target = wpList _ _ _ (Oper.mk _ (Op.buildSlice 22 _ _) _ _ _ _ :: _) _ _; refine wpList_turnOps rfl _ _ _ rfl ns (some ⟨gh, 0, none⟩) 64 ch (by rfl) (by rfl) (by rfl) ?_; intro bo w5 hbo BO5 K5))
 have B45 := B44.keep K5 id
 have B85 := B84.keep K5 id
 have K05 := K04.trans K5 (fun _ _ h => h)
 have hRh5 := hRh4.keep K5 (fun _ _ => id)
 have hneo : b4 ≠ bo := by have := B44.lt; omega
 have hS5 := HH.out.keep K05 (Dj.noth _)
 clear B44 B84 K04 K5 hbo hRh4
 go_loopw [13] (fun kv wr => ∃ (j : Nat) (Dk : DS) (vlj vrj : Value), kv = .int .i64 j ∧ j ≤ 3 ∧ D.runOps ((turnOps ns hb).take j) = (Dk, 0) ∧ BlockIs wr b4 (fsv (stv vlj vrj Dk) seq slot area0 used0 vL vS) 68 ∧ BlockIs wr b8 zfs 68 ∧ BlockIs wr bo (turnV ns (some ⟨gh, 0, none⟩) 64 ch) 36 ∧ Reads wr (some ⟨gh, 0, none⟩) (bv hb) ∧ StAt wr (grow F w wr) vlj vrj Dk ∧ Keep Noth w wr) (fun kv _ => 3 - (intOf kv).toNat)
 case atStart => exact ⟨0, D, vl, vr, rfl, by omega, rfl, B45, B85, BO5, hRh5, hS5.mono (fun q hq => .inl hq), K05⟩
 case round =>
  obtain ⟨j, Dk, vlj, vrj, rfl, hj, hw, B3, B6, BO, hRh, hSr, K0r⟩ := hrel
  clear B45 B85 BO5 hRh5 hS5 K05
  by_cases hj0 : j = 0
  ·subst hj0
   have hwj := hw
   have hko := runOps_ok ((turnOps ns hb).take 0) Hok.out (fun o ho => turnOps_ok hnsb (by rw [hhl]; exact Nat.le_refl _) o (List.mem_of_mem_take ho))
   rw [hw] at hko
   have hko : Dk.ok ∧ Dk.ops ≤ D.ops + ((turnOps ns hb).take 0).length ∧ Dk.row.length ≤ D.row.length + ((turnOps ns hb).take 0).length := hko
   have hln : ((turnOps ns hb).take 0).length = 0 := by rfl
   rw [hln] at hko
   have Hw := hid hw
   have Htk := hid (show (turnOps ns hb).take (0 + 1) = (turnOps ns hb).take 0 ++ [(⟨1, 0, [], []⟩ : OpV)] from rfl)
   have hdo := fun W (hW : Keep Noth wr W) => do_calls (hSr.keep hW (Dj.noth _)) hko.1 (by omega) (by omega) (⟨1, 0, [], []⟩ : OpV) (turnOps_ok hnsb (by rw [hhl]; exact Nat.le_refl _) _ (List.mem_of_getElem? (i := 0) rfl)) none none 0 0 ⟨by first | exact Reads.nil _ _ | exact hRh.keep hW (fun _ _ => id), Reads.nil _ _⟩
   have hst : ∀ a1 a2, stv a1 a2 Dk = [a1, a2, .int .i64 (Dk.ops : Int), .int .i64 Dk.fuse, .bool Dk.down] := fun a1 a2 => rfl
   rw [(show opv (⟨1, 0, [], []⟩ : OpV) none none 0 0 = flushV from rfl)] at hdo
   have Hdo := hid hdo
   have HRh := hid hRh
   have HSr := hid hSr
   have HK0r := hid K0r
   clear hdo hRh hSr K0r hw hwj hko hln hst
   go_wp2_with fail
   refine wp_region_ordF [(0, true), (1, true), (2, true), (3, true), (4, true), (5, true)] 6 10 [(7, true), (8, true), (9, true), (10, false), (11, false), (12, false)] [(6, false), (7, true), (8, true), (9, true), (11, false), (12, false)] (fun W => BlockIs W b4 (fsv (stv vlj vrj Dk) seq slot area0 used0 vL vS) 68 ∧ BlockIs W bo (turnV ns (some ⟨gh, 0, none⟩) 64 ch) 36) follows_mixed (by kernel_rfl) ⟨B3.drew, BO.drew⟩ ?_
   simp only [List.map_cons, List.map_nil, List.getElem?_cons_succ, List.getElem?_cons_zero, Option.getD_some]
   refine wpO_pure (v := .pointer (some ⟨b4, 0, none⟩)) (by rfl) (fun w' hw' => by go_simp) ?_
   go_frame
   refine wpO_pure (v := .agg (stv vlj vrj Dk).toArray) (by rfl) (fun w' hw' => by exact exec_load_blk 30 _ rfl b4 0 _ (stv vlj vrj Dk) 68 _ (by rfl) hw'.1 (fsv_dev _ rfl _ _ _ _ _ _) Try.underlying30 rfl info30) ?_
   go_frame
   refine wpO_pure (v := .slice (some ⟨bo, 0, none⟩) 3 3) (by rfl) (fun w' hw' => by go_simp) ?_
   go_frame
   refine wpO_pure (v := .int .i64 0) (by rfl) (fun w' hw' => by go_simp) ?_
   go_frame
   refine wpO_pure (v := .pointer (some ⟨bo, 0, none⟩)) (by rfl) (fun w' hw' => by go_simp) ?_
   go_frame
   refine wpO_pure (v := .agg (flushV).toArray) (by rfl) (fun w' hw' => by exact exec_load_blk 36 _ rfl bo 0 _ (flushV) 36 _ (by rfl) hw'.2 (turnV_at0 _ _ _ _) Try.underlying36 rfl info36) (wpO_nil ?_)
   go_frame
   have Kd := (Keep.refl Noth wr).drew
   constructor
   ·refine wpO_call (by rfl) (exec_call' 20 _ _ rfl Try.func20 (by kernel_rfl) (by rfl) #[.agg (stv vlj vrj Dk).toArray, .agg (flushV).toArray] (by simp [Act.eval])) ?_
    refine (Hdo.out _ Kd).mono ?_
    rintro e w5 ⟨vl6, vr6, rfl, S5, K5⟩
    obtain ⟨D2, E2, hDE⟩ : ∃ D2 E2, Dk.doOp (⟨1, 0, [], []⟩ : OpV) = (D2, E2) := ⟨_, _, rfl⟩
    rw [hDE] at S5 ⊢
    have KA := Kd.trans K5 (fun _ _ h => h)
    refine ⟨_, rfl, .inr ⟨B3.keep KA id, BO.keep KA id⟩, ?_⟩
    go_frame
    refine wpO_pure (v := .tuple #[.agg (stv vl6 vr6 D2).toArray, .int .i64 E2]) (by rfl) (fun w' hw' => by go_simp) ?_
    go_frame
    refine wpO_pure (v := .agg (stv vl6 vr6 D2).toArray) (by rfl) (fun w' hw' => by go_simp) ?_
    go_frame
    refine wpO_pure (v := .int .i64 E2) (by rfl) (fun w' hw' => by go_simp) ?_
    go_frame
    refine wpO_alloc_v (by rfl) 30 rfl zst info30 stz zst_cells ?_
    intro b9 w6 hb9 Bz K6
    have KB := KA.trans K6 (fun _ _ h => h)
    refine ⟨.inr ⟨B3.keep KB id, BO.keep KB id⟩, ?_⟩
    go_frame
    refine wpO_store_blk (by rfl) 30 _ _ rfl b9 _ (stv vl6 vr6 D2) 30 (by rfl) (by rfl) Bz rfl info30 S5.ones ?_
    intro w7 B9 K7
    have hsr := HK0r.out.size
    have hsA := KA.size
    have hsB := KB.size
    have hs7 := K7.size
    have hb9r : wr.heap.size ≤ b9 := by omega
    have KC : Keep Noth wr w7 := KB.own K7 (fun q e => by unfold Only at e; subst e; exact hb9r)
    refine ⟨.inr ⟨B3.keep KC id, BO.keep KC id⟩, ?_⟩
    go_frame
    have S6 : StAt w7 (grow F w w7) vl6 vr6 D2 := (((S5.mono (G := grow (grow F w wr) wr w5) (fun q hq => hq)).grown hsr hsA).keep K6 (Dj.noth _)).stay Bz (by decide) (by decide) K7 |>.later (by have := K6.size; omega)
    have KK := HK0r.out.trans KC (fun _ _ h => h)
    have HRR := hid (HRh.out.keep KC (fun _ _ => id))
    have B3 := B3.keep KC id
    have B6 := B6.keep KC id
    have BO := BO.keep KC id
    clear K5 K6 K7 KA KB KC S5 Bz Kd hb9
    refine wpO_run (v := .int .i64 E2) (w1 := w7) (by rfl) (by go_simp) (.inl rfl) (wpO_nil ?_)
    go_frame
    have HDE := hid hDE
    have HB3 := hid B3
    have HB6 := hid B6
    have HBO := hid BO
    have HB9 := hid B9
    have HS := hid S6
    have HKK := hid KK
    clear hDE B3 B6 BO B9 S6 KK
    have hw2 : D.runOps ((turnOps ns hb).take (0 + 1)) = (D2, E2) := by
     rw [Htk.out, runOps_snoc _ _ _ _ Hw.out]
     exact HDE.out
    have Hw2 := hid hw2
    clear hw2
    by_cases hez : E2 = 0
    ·have hezb : (E2 == 0) = true := by simpa using hez
     have Hez := hid hez
     clear hez
     go_wp2_with (first
      | (guard_target = wpList _ _ _ (Oper.mk _ (Op.load 30 _) _ _ _ _ :: _) _ _; refine wpList_load_blk rfl 30 _ rfl b9 0 _ (stv vl6 vr6 D2) 30 _ (by rfl) HB9.out (part0 _) Try.underlying30 rfl info30 ?_)
      | (guard_target = wpList _ _ _ (Oper.mk _ (Op.store 30 _ _) _ _ _ _ :: _) _ _; refine wpList_store_part rfl 30 _ _ rfl b4 0 _ (stv vl6 vr6 D2) 68 (by rfl) (by rfl) HB3.out (by rw [fsv_len rfl]; show 0 + 5 ≤ 11; decide) info30 HS.out.ones ?_; intro w8 B8 K8; rw [fsv_splice rfl rfl] at B8))
     have hsz := K8.size
     have hB6' := HB6.out.keep K8 (fun e => hne e.symm)
     have hBO' := HBO.out.keep K8 (fun e => hneo e.symm)
     have hS8 := (HS.out.stay HB3.out (by decide) (by decide) K8).later hsz
     have hK8 := HKK.out.own K8 (fun q e => by unfold Only at e; subst e; exact hb4w)
     have HR8 := hid (HRR.out.keep K8 (fun ad e hq => by injection e with e; subst e; unfold Only at hq; exact hgh hq))
     have HF := hid (show _ ∧ _ ∧ _ ∧ _ ∧ _ from ⟨B8, hB6', hBO', hS8, hK8⟩)
     clear B8 hB6' hBO' hS8 hK8 K8
     go_roundw
     case rel => exact ⟨0 + 1, D2, vl6, vr6, by first | rfl | go_num, by omega, by rw [Hw2.out, Hez.out], HF.out.1, HF.out.2.1, HF.out.2.2.1, HR8.out, HF.out.2.2.2.1, HF.out.2.2.2.2⟩
     case measure => simp [intOf]
    ·have hezb : (E2 == 0) = false := by simpa using hez
     have hfin : D.turn ns hb = (D2, E2) := by
      rw [turn_runOps, ← List.take_append_drop (0 + 1) (turnOps ns hb), runOps_stop _ _ _ (by rw [Hw2.out]; exact hez), Hw2.out]
     have Hfin := hid hfin
     have Hez := hid hez
     clear hez hfin
     go_wp2_with (first
      | (guard_target = wpList _ _ _ (Oper.mk _ (Op.load 30 _) _ _ _ _ :: _) _ _; refine wpList_load_blk rfl 30 _ rfl b9 0 _ (stv vl6 vr6 D2) 30 _ (by rfl) HB9.out (part0 _) Try.underlying30 rfl info30 ?_)
      | (guard_target = wpList _ _ _ (Oper.mk _ (Op.store 30 _ _) _ _ _ _ :: _) _ _; refine wpList_store_part rfl 30 _ _ rfl b4 0 _ (stv vl6 vr6 D2) 68 (by rfl) (by rfl) HB3.out (by rw [fsv_len rfl]; show 0 + 5 ≤ 11; decide) info30 HS.out.ones ?_; intro w8 B8 K8; rw [fsv_splice rfl rfl] at B8; have B68 := HB6.out.keep K8 (fun e => hne e.symm))
      | (guard_target = wpList _ _ _ (Oper.mk _ (Op.load 68 _) _ _ _ _ :: _) _ _; refine wpList_load_blk rfl 68 _ rfl b4 0 _ (fsv (stv vl6 vr6 D2) seq slot area0 used0 vL vS) 68 _ (by rfl) B8 (part0 _) Try.underlying68 rfl (by rw [fsv_len rfl]; exact info68) ?_)
      | (guard_target = wpList _ _ _ (Oper.mk _ (Op.store 68 _ _) _ _ _ _ :: _) _ _; refine wpList_store_whole rfl 68 _ _ rfl b8 _ (fsv (stv vl6 vr6 D2) seq slot area0 used0 vL vS) 68 (by rfl) (by rfl) B68 (by rw [fsv_len rfl]; rfl) (by rw [fsv_len rfl]; exact info68) (fsv_ones _ _ _ _ HS.out.ones hL hS) ?_; intro w9 B99 K9))
     refine ret_cell_tmp rfl b8 _ 68 _ (.int .i64 E2) (by rfl) (by rfl) B99 Try.underlying68 rfl (by rw [fsv_len rfl]; exact info68) rfl ?_
     have hsz := K8.size
     have hsz9 := K9.size
     rw [Hfin.out]
     exact ⟨vl6, vr6, by rw [pickV_no Hez.out], ((HS.out.stay HB3.out (by decide) (by decide) K8).stay B68 (by decide) (by decide) K9).later (by omega), (HKK.out.own K8 (fun q e => by unfold Only at e; subst e; exact hb4w)).own K9 (fun q e => by unfold Only at e; subst e; exact hb8w)⟩
   ·refine wpO_alloc_v (by rfl) 30 rfl zst info30 stz zst_cells ?_
    intro b9 w6 hb9 Bz K6
    have KB := Kd.trans K6 (fun _ _ h => h)
    refine ⟨.inr ⟨B3.keep KB id, BO.keep KB id⟩, ?_⟩
    go_frame
    refine wpO_call (by rfl) (exec_call' 20 _ _ rfl Try.func20 (by kernel_rfl) (by rfl) #[.agg (stv vlj vrj Dk).toArray, .agg (flushV).toArray] (by simp [Act.eval])) ?_
    refine (Hdo.out _ KB).mono ?_
    rintro e w5 ⟨vl6, vr6, rfl, S5, K5⟩
    obtain ⟨D2, E2, hDE⟩ : ∃ D2 E2, Dk.doOp (⟨1, 0, [], []⟩ : OpV) = (D2, E2) := ⟨_, _, rfl⟩
    rw [hDE] at S5 ⊢
    have KA := KB.trans K5 (fun _ _ h => h)
    refine ⟨_, rfl, .inr ⟨B3.keep KA id, BO.keep KA id⟩, ?_⟩
    go_frame
    refine wpO_pure (v := .tuple #[.agg (stv vl6 vr6 D2).toArray, .int .i64 E2]) (by rfl) (fun w' hw' => by go_simp) ?_
    go_frame
    refine wpO_pure (v := .agg (stv vl6 vr6 D2).toArray) (by rfl) (fun w' hw' => by go_simp) ?_
    go_frame
    refine wpO_pure (v := .int .i64 E2) (by rfl) (fun w' hw' => by go_simp) ?_
    go_frame
    have Bz5 := Bz.keep K5 id
    refine wpO_store_blk (by rfl) 30 _ _ rfl b9 _ (stv vl6 vr6 D2) 30 (by rfl) (by rfl) Bz5 rfl info30 S5.ones ?_
    intro w7 B9 K7
    have hsr := HK0r.out.size
    have hsA := KA.size
    have hsB := KB.size
    have hs5 := K5.size
    have hs7 := K7.size
    have hb9r : wr.heap.size ≤ b9 := by have e : wr.drew.heap.size = wr.heap.size := rfl; omega
    have KC : Keep Noth wr w7 := KA.own K7 (fun q e => by unfold Only at e; subst e; exact hb9r)
    refine ⟨.inr ⟨B3.keep KC id, BO.keep KC id⟩, ?_⟩
    go_frame
    have S6 : StAt w7 (grow F w w7) vl6 vr6 D2 := ((S5.mono (G := grow F w w5) (fun q hq => by
     rcases hq with (hq | hq) | hq
     ·exact .inl hq
     ·exact .inr ⟨hq.1, by have := hq.2; omega⟩
     ·exact .inr ⟨by have := hq.1; omega, hq.2⟩)).stay Bz5 (by decide) (by decide) K7).later hs7
    have KK := HK0r.out.trans KC (fun _ _ h => h)
    have HRR := hid (HRh.out.keep KC (fun _ _ => id))
    have B3 := B3.keep KC id
    have B6 := B6.keep KC id
    have BO := BO.keep KC id
    clear K5 K6 K7 KA KB KC S5 Bz Bz5 Kd hb9
    refine wpO_run (v := .int .i64 E2) (w1 := w7) (by rfl) (by go_simp) (.inl rfl) (wpO_nil ?_)
    go_frame
    have HDE := hid hDE
    have HB3 := hid B3
    have HB6 := hid B6
    have HBO := hid BO
    have HB9 := hid B9
    have HS := hid S6
    have HKK := hid KK
    clear hDE B3 B6 BO B9 S6 KK
    have hw2 : D.runOps ((turnOps ns hb).take (0 + 1)) = (D2, E2) := by
     rw [Htk.out, runOps_snoc _ _ _ _ Hw.out]
     exact HDE.out
    have Hw2 := hid hw2
    clear hw2
    by_cases hez : E2 = 0
    ·have hezb : (E2 == 0) = true := by simpa using hez
     have Hez := hid hez
     clear hez
     go_wp2_with (first
      | (guard_target = wpList _ _ _ (Oper.mk _ (Op.load 30 _) _ _ _ _ :: _) _ _; refine wpList_load_blk rfl 30 _ rfl b9 0 _ (stv vl6 vr6 D2) 30 _ (by rfl) HB9.out (part0 _) Try.underlying30 rfl info30 ?_)
      | (guard_target = wpList _ _ _ (Oper.mk _ (Op.store 30 _ _) _ _ _ _ :: _) _ _; refine wpList_store_part rfl 30 _ _ rfl b4 0 _ (stv vl6 vr6 D2) 68 (by rfl) (by rfl) HB3.out (by rw [fsv_len rfl]; show 0 + 5 ≤ 11; decide) info30 HS.out.ones ?_; intro w8 B8 K8; rw [fsv_splice rfl rfl] at B8))
     have hsz := K8.size
     have hB6' := HB6.out.keep K8 (fun e => hne e.symm)
     have hBO' := HBO.out.keep K8 (fun e => hneo e.symm)
     have hS8 := (HS.out.stay HB3.out (by decide) (by decide) K8).later hsz
     have hK8 := HKK.out.own K8 (fun q e => by unfold Only at e; subst e; exact hb4w)
     have HR8 := hid (HRR.out.keep K8 (fun ad e hq => by injection e with e; subst e; unfold Only at hq; exact hgh hq))
     have HF := hid (show _ ∧ _ ∧ _ ∧ _ ∧ _ from ⟨B8, hB6', hBO', hS8, hK8⟩)
     clear B8 hB6' hBO' hS8 hK8 K8
     go_roundw
     case rel => exact ⟨0 + 1, D2, vl6, vr6, by first | rfl | go_num, by omega, by rw [Hw2.out, Hez.out], HF.out.1, HF.out.2.1, HF.out.2.2.1, HR8.out, HF.out.2.2.2.1, HF.out.2.2.2.2⟩
     case measure => simp [intOf]
    ·have hezb : (E2 == 0) = false := by simpa using hez
     have hfin : D.turn ns hb = (D2, E2) := by
      rw [turn_runOps, ← List.take_append_drop (0 + 1) (turnOps ns hb), runOps_stop _ _ _ (by rw [Hw2.out]; exact hez), Hw2.out]
     have Hfin := hid hfin
     have Hez := hid hez
     clear hez hfin
     go_wp2_with (first
      | (guard_target = wpList _ _ _ (Oper.mk _ (Op.load 30 _) _ _ _ _ :: _) _ _; refine wpList_load_blk rfl 30 _ rfl b9 0 _ (stv vl6 vr6 D2) 30 _ (by rfl) HB9.out (part0 _) Try.underlying30 rfl info30 ?_)
      | (guard_target = wpList _ _ _ (Oper.mk _ (Op.store 30 _ _) _ _ _ _ :: _) _ _; refine wpList_store_part rfl 30 _ _ rfl b4 0 _ (stv vl6 vr6 D2) 68 (by rfl) (by rfl) HB3.out (by rw [fsv_len rfl]; show 0 + 5 ≤ 11; decide) info30 HS.out.ones ?_; intro w8 B8 K8; rw [fsv_splice rfl rfl] at B8; have B68 := HB6.out.keep K8 (fun e => hne e.symm))
      | (guard_target = wpList _ _ _ (Oper.mk _ (Op.load 68 _) _ _ _ _ :: _) _ _; refine wpList_load_blk rfl 68 _ rfl b4 0 _ (fsv (stv vl6 vr6 D2) seq slot area0 used0 vL vS) 68 _ (by rfl) B8 (part0 _) Try.underlying68 rfl (by rw [fsv_len rfl]; exact info68) ?_)
      | (guard_target = wpList _ _ _ (Oper.mk _ (Op.store 68 _ _) _ _ _ _ :: _) _ _; refine wpList_store_whole rfl 68 _ _ rfl b8 _ (fsv (stv vl6 vr6 D2) seq slot area0 used0 vL vS) 68 (by rfl) (by rfl) B68 (by rw [fsv_len rfl]; rfl) (by rw [fsv_len rfl]; exact info68) (fsv_ones _ _ _ _ HS.out.ones hL hS) ?_; intro w9 B99 K9))
     refine ret_cell_tmp rfl b8 _ 68 _ (.int .i64 E2) (by rfl) (by rfl) B99 Try.underlying68 rfl (by rw [fsv_len rfl]; exact info68) rfl ?_
     have hsz := K8.size
     have hsz9 := K9.size
     rw [Hfin.out]
     exact ⟨vl6, vr6, by rw [pickV_no Hez.out], ((HS.out.stay HB3.out (by decide) (by decide) K8).stay B68 (by decide) (by decide) K9).later (by omega), (HKK.out.own K8 (fun q e => by unfold Only at e; subst e; exact hb4w)).own K9 (fun q e => by unfold Only at e; subst e; exact hb8w)⟩
  ·by_cases hj1 : j = 1
   ·subst hj1
    have hwj := hw
    have hko := runOps_ok ((turnOps ns hb).take 1) Hok.out (fun o ho => turnOps_ok hnsb (by rw [hhl]; exact Nat.le_refl _) o (List.mem_of_mem_take ho))
    rw [hw] at hko
    have hko : Dk.ok ∧ Dk.ops ≤ D.ops + ((turnOps ns hb).take 1).length ∧ Dk.row.length ≤ D.row.length + ((turnOps ns hb).take 1).length := hko
    have hln : ((turnOps ns hb).take 1).length = 1 := by rfl
    rw [hln] at hko
    have Hw := hid hw
    have Htk := hid (show (turnOps ns hb).take (1 + 1) = (turnOps ns hb).take 1 ++ [(⟨0, ns, hb, []⟩ : OpV)] from rfl)
    have hdo := fun W (hW : Keep Noth wr W) => do_calls (hSr.keep hW (Dj.noth _)) hko.1 (by omega) (by omega) (⟨0, ns, hb, []⟩ : OpV) (turnOps_ok hnsb (by rw [hhl]; exact Nat.le_refl _) _ (List.mem_of_getElem? (i := 1) rfl)) (some ⟨gh, 0, none⟩) none ch 0 ⟨by first | exact Reads.nil _ _ | exact hRh.keep hW (fun _ _ => id), Reads.nil _ _⟩
    have hst : ∀ a1 a2, stv a1 a2 Dk = [a1, a2, .int .i64 (Dk.ops : Int), .int .i64 Dk.fuse, .bool Dk.down] := fun a1 a2 => rfl
    rw [opv_write ns hb hhl (some ⟨gh, 0, none⟩) ch] at hdo
    have Hdo := hid hdo
    have HRh := hid hRh
    have HSr := hid hSr
    have HK0r := hid K0r
    clear hdo hRh hSr K0r hw hwj hko hln hst
    go_wp2_with fail
    refine wp_region_ordF [(0, true), (1, true), (2, true), (3, true), (4, true), (5, true)] 6 10 [(7, true), (8, true), (9, true), (10, false), (11, false), (12, false)] [(6, false), (7, true), (8, true), (9, true), (11, false), (12, false)] (fun W => BlockIs W b4 (fsv (stv vlj vrj Dk) seq slot area0 used0 vL vS) 68 ∧ BlockIs W bo (turnV ns (some ⟨gh, 0, none⟩) 64 ch) 36) follows_mixed (by kernel_rfl) ⟨B3.drew, BO.drew⟩ ?_
    simp only [List.map_cons, List.map_nil, List.getElem?_cons_succ, List.getElem?_cons_zero, Option.getD_some]
    refine wpO_pure (v := .pointer (some ⟨b4, 0, none⟩)) (by rfl) (fun w' hw' => by go_simp) ?_
    go_frame
    refine wpO_pure (v := .agg (stv vlj vrj Dk).toArray) (by rfl) (fun w' hw' => by exact exec_load_blk 30 _ rfl b4 0 _ (stv vlj vrj Dk) 68 _ (by rfl) hw'.1 (fsv_dev _ rfl _ _ _ _ _ _) Try.underlying30 rfl info30) ?_
    go_frame
    refine wpO_pure (v := .slice (some ⟨bo, 0, none⟩) 3 3) (by rfl) (fun w' hw' => by go_simp) ?_
    go_frame
    refine wpO_pure (v := .int .i64 1) (by rfl) (fun w' hw' => by go_simp) ?_
    go_frame
    refine wpO_pure (v := .pointer (some ⟨bo, 4, none⟩)) (by rfl) (fun w' hw' => by go_simp) ?_
    go_frame
    refine wpO_pure (v := .agg ([.int .i64 0, .int .i64 ns, .slice (some ⟨gh, 0, none⟩) 64 ch, .slice none 0 0]).toArray) (by rfl) (fun w' hw' => by exact exec_load_blk 36 _ rfl bo 4 _ ([.int .i64 0, .int .i64 ns, .slice (some ⟨gh, 0, none⟩) 64 ch, .slice none 0 0]) 36 _ (by rfl) hw'.2 (turnV_at1 _ _ _ _) Try.underlying36 rfl info36) (wpO_nil ?_)
    go_frame
    have Kd := (Keep.refl Noth wr).drew
    constructor
    ·refine wpO_call (by rfl) (exec_call' 20 _ _ rfl Try.func20 (by kernel_rfl) (by rfl) #[.agg (stv vlj vrj Dk).toArray, .agg ([.int .i64 0, .int .i64 ns, .slice (some ⟨gh, 0, none⟩) 64 ch, .slice none 0 0]).toArray] (by simp [Act.eval])) ?_
     refine (Hdo.out _ Kd).mono ?_
     rintro e w5 ⟨vl6, vr6, rfl, S5, K5⟩
     obtain ⟨D2, E2, hDE⟩ : ∃ D2 E2, Dk.doOp (⟨0, ns, hb, []⟩ : OpV) = (D2, E2) := ⟨_, _, rfl⟩
     rw [hDE] at S5 ⊢
     have KA := Kd.trans K5 (fun _ _ h => h)
     refine ⟨_, rfl, .inr ⟨B3.keep KA id, BO.keep KA id⟩, ?_⟩
     go_frame
     refine wpO_pure (v := .tuple #[.agg (stv vl6 vr6 D2).toArray, .int .i64 E2]) (by rfl) (fun w' hw' => by go_simp) ?_
     go_frame
     refine wpO_pure (v := .agg (stv vl6 vr6 D2).toArray) (by rfl) (fun w' hw' => by go_simp) ?_
     go_frame
     refine wpO_pure (v := .int .i64 E2) (by rfl) (fun w' hw' => by go_simp) ?_
     go_frame
     refine wpO_alloc_v (by rfl) 30 rfl zst info30 stz zst_cells ?_
     intro b9 w6 hb9 Bz K6
     have KB := KA.trans K6 (fun _ _ h => h)
     refine ⟨.inr ⟨B3.keep KB id, BO.keep KB id⟩, ?_⟩
     go_frame
     refine wpO_store_blk (by rfl) 30 _ _ rfl b9 _ (stv vl6 vr6 D2) 30 (by rfl) (by rfl) Bz rfl info30 S5.ones ?_
     intro w7 B9 K7
     have hsr := HK0r.out.size
     have hsA := KA.size
     have hsB := KB.size
     have hs7 := K7.size
     have hb9r : wr.heap.size ≤ b9 := by omega
     have KC : Keep Noth wr w7 := KB.own K7 (fun q e => by unfold Only at e; subst e; exact hb9r)
     refine ⟨.inr ⟨B3.keep KC id, BO.keep KC id⟩, ?_⟩
     go_frame
     have S6 : StAt w7 (grow F w w7) vl6 vr6 D2 := (((S5.mono (G := grow (grow F w wr) wr w5) (fun q hq => hq)).grown hsr hsA).keep K6 (Dj.noth _)).stay Bz (by decide) (by decide) K7 |>.later (by have := K6.size; omega)
     have KK := HK0r.out.trans KC (fun _ _ h => h)
     have HRR := hid (HRh.out.keep KC (fun _ _ => id))
     have B3 := B3.keep KC id
     have B6 := B6.keep KC id
     have BO := BO.keep KC id
     clear K5 K6 K7 KA KB KC S5 Bz Kd hb9
     refine wpO_run (v := .int .i64 E2) (w1 := w7) (by rfl) (by go_simp) (.inl rfl) (wpO_nil ?_)
     go_frame
     have HDE := hid hDE
     have HB3 := hid B3
     have HB6 := hid B6
     have HBO := hid BO
     have HB9 := hid B9
     have HS := hid S6
     have HKK := hid KK
     clear hDE B3 B6 BO B9 S6 KK
     have hw2 : D.runOps ((turnOps ns hb).take (1 + 1)) = (D2, E2) := by
      rw [Htk.out, runOps_snoc _ _ _ _ Hw.out]
      exact HDE.out
     have Hw2 := hid hw2
     clear hw2
     by_cases hez : E2 = 0
     ·have hezb : (E2 == 0) = true := by simpa using hez
      have Hez := hid hez
      clear hez
      go_wp2_with (first
       | (guard_target = wpList _ _ _ (Oper.mk _ (Op.load 30 _) _ _ _ _ :: _) _ _; refine wpList_load_blk rfl 30 _ rfl b9 0 _ (stv vl6 vr6 D2) 30 _ (by rfl) HB9.out (part0 _) Try.underlying30 rfl info30 ?_)
       | (guard_target = wpList _ _ _ (Oper.mk _ (Op.store 30 _ _) _ _ _ _ :: _) _ _; refine wpList_store_part rfl 30 _ _ rfl b4 0 _ (stv vl6 vr6 D2) 68 (by rfl) (by rfl) HB3.out (by rw [fsv_len rfl]; show 0 + 5 ≤ 11; decide) info30 HS.out.ones ?_; intro w8 B8 K8; rw [fsv_splice rfl rfl] at B8))
      have hsz := K8.size
      have hB6' := HB6.out.keep K8 (fun e => hne e.symm)
      have hBO' := HBO.out.keep K8 (fun e => hneo e.symm)
      have hS8 := (HS.out.stay HB3.out (by decide) (by decide) K8).later hsz
      have hK8 := HKK.out.own K8 (fun q e => by unfold Only at e; subst e; exact hb4w)
      have HR8 := hid (HRR.out.keep K8 (fun ad e hq => by injection e with e; subst e; unfold Only at hq; exact hgh hq))
      have HF := hid (show _ ∧ _ ∧ _ ∧ _ ∧ _ from ⟨B8, hB6', hBO', hS8, hK8⟩)
      clear B8 hB6' hBO' hS8 hK8 K8
      go_roundw
      case rel => exact ⟨1 + 1, D2, vl6, vr6, by first | rfl | go_num, by omega, by rw [Hw2.out, Hez.out], HF.out.1, HF.out.2.1, HF.out.2.2.1, HR8.out, HF.out.2.2.2.1, HF.out.2.2.2.2⟩
      case measure => simp [intOf]
     ·have hezb : (E2 == 0) = false := by simpa using hez
      have hfin : D.turn ns hb = (D2, E2) := by
       rw [turn_runOps, ← List.take_append_drop (1 + 1) (turnOps ns hb), runOps_stop _ _ _ (by rw [Hw2.out]; exact hez), Hw2.out]
      have Hfin := hid hfin
      have Hez := hid hez
      clear hez hfin
      go_wp2_with (first
       | (guard_target = wpList _ _ _ (Oper.mk _ (Op.load 30 _) _ _ _ _ :: _) _ _; refine wpList_load_blk rfl 30 _ rfl b9 0 _ (stv vl6 vr6 D2) 30 _ (by rfl) HB9.out (part0 _) Try.underlying30 rfl info30 ?_)
       | (guard_target = wpList _ _ _ (Oper.mk _ (Op.store 30 _ _) _ _ _ _ :: _) _ _; refine wpList_store_part rfl 30 _ _ rfl b4 0 _ (stv vl6 vr6 D2) 68 (by rfl) (by rfl) HB3.out (by rw [fsv_len rfl]; show 0 + 5 ≤ 11; decide) info30 HS.out.ones ?_; intro w8 B8 K8; rw [fsv_splice rfl rfl] at B8; have B68 := HB6.out.keep K8 (fun e => hne e.symm))
       | (guard_target = wpList _ _ _ (Oper.mk _ (Op.load 68 _) _ _ _ _ :: _) _ _; refine wpList_load_blk rfl 68 _ rfl b4 0 _ (fsv (stv vl6 vr6 D2) seq slot area0 used0 vL vS) 68 _ (by rfl) B8 (part0 _) Try.underlying68 rfl (by rw [fsv_len rfl]; exact info68) ?_)
       | (guard_target = wpList _ _ _ (Oper.mk _ (Op.store 68 _ _) _ _ _ _ :: _) _ _; refine wpList_store_whole rfl 68 _ _ rfl b8 _ (fsv (stv vl6 vr6 D2) seq slot area0 used0 vL vS) 68 (by rfl) (by rfl) B68 (by rw [fsv_len rfl]; rfl) (by rw [fsv_len rfl]; exact info68) (fsv_ones _ _ _ _ HS.out.ones hL hS) ?_; intro w9 B99 K9))
      refine ret_cell_tmp rfl b8 _ 68 _ (.int .i64 E2) (by rfl) (by rfl) B99 Try.underlying68 rfl (by rw [fsv_len rfl]; exact info68) rfl ?_
      have hsz := K8.size
      have hsz9 := K9.size
      rw [Hfin.out]
      exact ⟨vl6, vr6, by rw [pickV_no Hez.out], ((HS.out.stay HB3.out (by decide) (by decide) K8).stay B68 (by decide) (by decide) K9).later (by omega), (HKK.out.own K8 (fun q e => by unfold Only at e; subst e; exact hb4w)).own K9 (fun q e => by unfold Only at e; subst e; exact hb8w)⟩
    ·refine wpO_alloc_v (by rfl) 30 rfl zst info30 stz zst_cells ?_
     intro b9 w6 hb9 Bz K6
     have KB := Kd.trans K6 (fun _ _ h => h)
     refine ⟨.inr ⟨B3.keep KB id, BO.keep KB id⟩, ?_⟩
     go_frame
     refine wpO_call (by rfl) (exec_call' 20 _ _ rfl Try.func20 (by kernel_rfl) (by rfl) #[.agg (stv vlj vrj Dk).toArray, .agg ([.int .i64 0, .int .i64 ns, .slice (some ⟨gh, 0, none⟩) 64 ch, .slice none 0 0]).toArray] (by simp [Act.eval])) ?_
     refine (Hdo.out _ KB).mono ?_
     rintro e w5 ⟨vl6, vr6, rfl, S5, K5⟩
     obtain ⟨D2, E2, hDE⟩ : ∃ D2 E2, Dk.doOp (⟨0, ns, hb, []⟩ : OpV) = (D2, E2) := ⟨_, _, rfl⟩
     rw [hDE] at S5 ⊢
     have KA := KB.trans K5 (fun _ _ h => h)
     refine ⟨_, rfl, .inr ⟨B3.keep KA id, BO.keep KA id⟩, ?_⟩
     go_frame
     refine wpO_pure (v := .tuple #[.agg (stv vl6 vr6 D2).toArray, .int .i64 E2]) (by rfl) (fun w' hw' => by go_simp) ?_
     go_frame
     refine wpO_pure (v := .agg (stv vl6 vr6 D2).toArray) (by rfl) (fun w' hw' => by go_simp) ?_
     go_frame
     refine wpO_pure (v := .int .i64 E2) (by rfl) (fun w' hw' => by go_simp) ?_
     go_frame
     have Bz5 := Bz.keep K5 id
     refine wpO_store_blk (by rfl) 30 _ _ rfl b9 _ (stv vl6 vr6 D2) 30 (by rfl) (by rfl) Bz5 rfl info30 S5.ones ?_
     intro w7 B9 K7
     have hsr := HK0r.out.size
     have hsA := KA.size
     have hsB := KB.size
     have hs5 := K5.size
     have hs7 := K7.size
     have hb9r : wr.heap.size ≤ b9 := by have e : wr.drew.heap.size = wr.heap.size := rfl; omega
     have KC : Keep Noth wr w7 := KA.own K7 (fun q e => by unfold Only at e; subst e; exact hb9r)
     refine ⟨.inr ⟨B3.keep KC id, BO.keep KC id⟩, ?_⟩
     go_frame
     have S6 : StAt w7 (grow F w w7) vl6 vr6 D2 := ((S5.mono (G := grow F w w5) (fun q hq => by
      rcases hq with (hq | hq) | hq
      ·exact .inl hq
      ·exact .inr ⟨hq.1, by have := hq.2; omega⟩
      ·exact .inr ⟨by have := hq.1; omega, hq.2⟩)).stay Bz5 (by decide) (by decide) K7).later hs7
     have KK := HK0r.out.trans KC (fun _ _ h => h)
     have HRR := hid (HRh.out.keep KC (fun _ _ => id))
     have B3 := B3.keep KC id
     have B6 := B6.keep KC id
     have BO := BO.keep KC id
     clear K5 K6 K7 KA KB KC S5 Bz Bz5 Kd hb9
     refine wpO_run (v := .int .i64 E2) (w1 := w7) (by rfl) (by go_simp) (.inl rfl) (wpO_nil ?_)
     go_frame
     have HDE := hid hDE
     have HB3 := hid B3
     have HB6 := hid B6
     have HBO := hid BO
     have HB9 := hid B9
     have HS := hid S6
     have HKK := hid KK
     clear hDE B3 B6 BO B9 S6 KK
     have hw2 : D.runOps ((turnOps ns hb).take (1 + 1)) = (D2, E2) := by
      rw [Htk.out, runOps_snoc _ _ _ _ Hw.out]
      exact HDE.out
     have Hw2 := hid hw2
     clear hw2
     by_cases hez : E2 = 0
     ·have hezb : (E2 == 0) = true := by simpa using hez
      have Hez := hid hez
      clear hez
      go_wp2_with (first
       | (guard_target = wpList _ _ _ (Oper.mk _ (Op.load 30 _) _ _ _ _ :: _) _ _; refine wpList_load_blk rfl 30 _ rfl b9 0 _ (stv vl6 vr6 D2) 30 _ (by rfl) HB9.out (part0 _) Try.underlying30 rfl info30 ?_)
       | (guard_target = wpList _ _ _ (Oper.mk _ (Op.store 30 _ _) _ _ _ _ :: _) _ _; refine wpList_store_part rfl 30 _ _ rfl b4 0 _ (stv vl6 vr6 D2) 68 (by rfl) (by rfl) HB3.out (by rw [fsv_len rfl]; show 0 + 5 ≤ 11; decide) info30 HS.out.ones ?_; intro w8 B8 K8; rw [fsv_splice rfl rfl] at B8))
      have hsz := K8.size
      have hB6' := HB6.out.keep K8 (fun e => hne e.symm)
      have hBO' := HBO.out.keep K8 (fun e => hneo e.symm)
      have hS8 := (HS.out.stay HB3.out (by decide) (by decide) K8).later hsz
      have hK8 := HKK.out.own K8 (fun q e => by unfold Only at e; subst e; exact hb4w)
      have HR8 := hid (HRR.out.keep K8 (fun ad e hq => by injection e with e; subst e; unfold Only at hq; exact hgh hq))
      have HF := hid (show _ ∧ _ ∧ _ ∧ _ ∧ _ from ⟨B8, hB6', hBO', hS8, hK8⟩)
      clear B8 hB6' hBO' hS8 hK8 K8
      go_roundw
      case rel => exact ⟨1 + 1, D2, vl6, vr6, by first | rfl | go_num, by omega, by rw [Hw2.out, Hez.out], HF.out.1, HF.out.2.1, HF.out.2.2.1, HR8.out, HF.out.2.2.2.1, HF.out.2.2.2.2⟩
      case measure => simp [intOf]
     ·have hezb : (E2 == 0) = false := by simpa using hez
      have hfin : D.turn ns hb = (D2, E2) := by
       rw [turn_runOps, ← List.take_append_drop (1 + 1) (turnOps ns hb), runOps_stop _ _ _ (by rw [Hw2.out]; exact hez), Hw2.out]
      have Hfin := hid hfin
      have Hez := hid hez
      clear hez hfin
      go_wp2_with (first
       | (guard_target = wpList _ _ _ (Oper.mk _ (Op.load 30 _) _ _ _ _ :: _) _ _; refine wpList_load_blk rfl 30 _ rfl b9 0 _ (stv vl6 vr6 D2) 30 _ (by rfl) HB9.out (part0 _) Try.underlying30 rfl info30 ?_)
       | (guard_target = wpList _ _ _ (Oper.mk _ (Op.store 30 _ _) _ _ _ _ :: _) _ _; refine wpList_store_part rfl 30 _ _ rfl b4 0 _ (stv vl6 vr6 D2) 68 (by rfl) (by rfl) HB3.out (by rw [fsv_len rfl]; show 0 + 5 ≤ 11; decide) info30 HS.out.ones ?_; intro w8 B8 K8; rw [fsv_splice rfl rfl] at B8; have B68 := HB6.out.keep K8 (fun e => hne e.symm))
       | (guard_target = wpList _ _ _ (Oper.mk _ (Op.load 68 _) _ _ _ _ :: _) _ _; refine wpList_load_blk rfl 68 _ rfl b4 0 _ (fsv (stv vl6 vr6 D2) seq slot area0 used0 vL vS) 68 _ (by rfl) B8 (part0 _) Try.underlying68 rfl (by rw [fsv_len rfl]; exact info68) ?_)
       | (guard_target = wpList _ _ _ (Oper.mk _ (Op.store 68 _ _) _ _ _ _ :: _) _ _; refine wpList_store_whole rfl 68 _ _ rfl b8 _ (fsv (stv vl6 vr6 D2) seq slot area0 used0 vL vS) 68 (by rfl) (by rfl) B68 (by rw [fsv_len rfl]; rfl) (by rw [fsv_len rfl]; exact info68) (fsv_ones _ _ _ _ HS.out.ones hL hS) ?_; intro w9 B99 K9))
      refine ret_cell_tmp rfl b8 _ 68 _ (.int .i64 E2) (by rfl) (by rfl) B99 Try.underlying68 rfl (by rw [fsv_len rfl]; exact info68) rfl ?_
      have hsz := K8.size
      have hsz9 := K9.size
      rw [Hfin.out]
      exact ⟨vl6, vr6, by rw [pickV_no Hez.out], ((HS.out.stay HB3.out (by decide) (by decide) K8).stay B68 (by decide) (by decide) K9).later (by omega), (HKK.out.own K8 (fun q e => by unfold Only at e; subst e; exact hb4w)).own K9 (fun q e => by unfold Only at e; subst e; exact hb8w)⟩
   ·by_cases hj2 : j = 2
    ·subst hj2
     have hwj := hw
     have hko := runOps_ok ((turnOps ns hb).take 2) Hok.out (fun o ho => turnOps_ok hnsb (by rw [hhl]; exact Nat.le_refl _) o (List.mem_of_mem_take ho))
     rw [hw] at hko
     have hko : Dk.ok ∧ Dk.ops ≤ D.ops + ((turnOps ns hb).take 2).length ∧ Dk.row.length ≤ D.row.length + ((turnOps ns hb).take 2).length := hko
     have hln : ((turnOps ns hb).take 2).length = 2 := by rfl
     rw [hln] at hko
     have Hw := hid hw
     have Htk := hid (show (turnOps ns hb).take (2 + 1) = (turnOps ns hb).take 2 ++ [(⟨1, 0, [], []⟩ : OpV)] from rfl)
     have hdo := fun W (hW : Keep Noth wr W) => do_calls (hSr.keep hW (Dj.noth _)) hko.1 (by omega) (by omega) (⟨1, 0, [], []⟩ : OpV) (turnOps_ok hnsb (by rw [hhl]; exact Nat.le_refl _) _ (List.mem_of_getElem? (i := 2) rfl)) none none 0 0 ⟨by first | exact Reads.nil _ _ | exact hRh.keep hW (fun _ _ => id), Reads.nil _ _⟩
     have hst : ∀ a1 a2, stv a1 a2 Dk = [a1, a2, .int .i64 (Dk.ops : Int), .int .i64 Dk.fuse, .bool Dk.down] := fun a1 a2 => rfl
     rw [(show opv (⟨1, 0, [], []⟩ : OpV) none none 0 0 = flushV from rfl)] at hdo
     have Hdo := hid hdo
     have HRh := hid hRh
     have HSr := hid hSr
     have HK0r := hid K0r
     clear hdo hRh hSr K0r hw hwj hko hln hst
     go_wp2_with fail
     refine wp_region_ordF [(0, true), (1, true), (2, true), (3, true), (4, true), (5, true)] 6 10 [(7, true), (8, true), (9, true), (10, false), (11, false), (12, false)] [(6, false), (7, true), (8, true), (9, true), (11, false), (12, false)] (fun W => BlockIs W b4 (fsv (stv vlj vrj Dk) seq slot area0 used0 vL vS) 68 ∧ BlockIs W bo (turnV ns (some ⟨gh, 0, none⟩) 64 ch) 36) follows_mixed (by kernel_rfl) ⟨B3.drew, BO.drew⟩ ?_
     simp only [List.map_cons, List.map_nil, List.getElem?_cons_succ, List.getElem?_cons_zero, Option.getD_some]
     refine wpO_pure (v := .pointer (some ⟨b4, 0, none⟩)) (by rfl) (fun w' hw' => by go_simp) ?_
     go_frame
     refine wpO_pure (v := .agg (stv vlj vrj Dk).toArray) (by rfl) (fun w' hw' => by exact exec_load_blk 30 _ rfl b4 0 _ (stv vlj vrj Dk) 68 _ (by rfl) hw'.1 (fsv_dev _ rfl _ _ _ _ _ _) Try.underlying30 rfl info30) ?_
     go_frame
     refine wpO_pure (v := .slice (some ⟨bo, 0, none⟩) 3 3) (by rfl) (fun w' hw' => by go_simp) ?_
     go_frame
     refine wpO_pure (v := .int .i64 2) (by rfl) (fun w' hw' => by go_simp) ?_
     go_frame
     refine wpO_pure (v := .pointer (some ⟨bo, 8, none⟩)) (by rfl) (fun w' hw' => by go_simp) ?_
     go_frame
     refine wpO_pure (v := .agg (flushV).toArray) (by rfl) (fun w' hw' => by exact exec_load_blk 36 _ rfl bo 8 _ (flushV) 36 _ (by rfl) hw'.2 (turnV_at2 _ _ _ _) Try.underlying36 rfl info36) (wpO_nil ?_)
     go_frame
     have Kd := (Keep.refl Noth wr).drew
     constructor
     ·refine wpO_call (by rfl) (exec_call' 20 _ _ rfl Try.func20 (by kernel_rfl) (by rfl) #[.agg (stv vlj vrj Dk).toArray, .agg (flushV).toArray] (by simp [Act.eval])) ?_
      refine (Hdo.out _ Kd).mono ?_
      rintro e w5 ⟨vl6, vr6, rfl, S5, K5⟩
      obtain ⟨D2, E2, hDE⟩ : ∃ D2 E2, Dk.doOp (⟨1, 0, [], []⟩ : OpV) = (D2, E2) := ⟨_, _, rfl⟩
      rw [hDE] at S5 ⊢
      have KA := Kd.trans K5 (fun _ _ h => h)
      refine ⟨_, rfl, .inr ⟨B3.keep KA id, BO.keep KA id⟩, ?_⟩
      go_frame
      refine wpO_pure (v := .tuple #[.agg (stv vl6 vr6 D2).toArray, .int .i64 E2]) (by rfl) (fun w' hw' => by go_simp) ?_
      go_frame
      refine wpO_pure (v := .agg (stv vl6 vr6 D2).toArray) (by rfl) (fun w' hw' => by go_simp) ?_
      go_frame
      refine wpO_pure (v := .int .i64 E2) (by rfl) (fun w' hw' => by go_simp) ?_
      go_frame
      refine wpO_alloc_v (by rfl) 30 rfl zst info30 stz zst_cells ?_
      intro b9 w6 hb9 Bz K6
      have KB := KA.trans K6 (fun _ _ h => h)
      refine ⟨.inr ⟨B3.keep KB id, BO.keep KB id⟩, ?_⟩
      go_frame
      refine wpO_store_blk (by rfl) 30 _ _ rfl b9 _ (stv vl6 vr6 D2) 30 (by rfl) (by rfl) Bz rfl info30 S5.ones ?_
      intro w7 B9 K7
      have hsr := HK0r.out.size
      have hsA := KA.size
      have hsB := KB.size
      have hs7 := K7.size
      have hb9r : wr.heap.size ≤ b9 := by omega
      have KC : Keep Noth wr w7 := KB.own K7 (fun q e => by unfold Only at e; subst e; exact hb9r)
      refine ⟨.inr ⟨B3.keep KC id, BO.keep KC id⟩, ?_⟩
      go_frame
      have S6 : StAt w7 (grow F w w7) vl6 vr6 D2 := (((S5.mono (G := grow (grow F w wr) wr w5) (fun q hq => hq)).grown hsr hsA).keep K6 (Dj.noth _)).stay Bz (by decide) (by decide) K7 |>.later (by have := K6.size; omega)
      have KK := HK0r.out.trans KC (fun _ _ h => h)
      have HRR := hid (HRh.out.keep KC (fun _ _ => id))
      have B3 := B3.keep KC id
      have B6 := B6.keep KC id
      have BO := BO.keep KC id
      clear K5 K6 K7 KA KB KC S5 Bz Kd hb9
      refine wpO_run (v := .int .i64 E2) (w1 := w7) (by rfl) (by go_simp) (.inl rfl) (wpO_nil ?_)
      go_frame
      have HDE := hid hDE
      have HB3 := hid B3
      have HB6 := hid B6
      have HBO := hid BO
      have HB9 := hid B9
      have HS := hid S6
      have HKK := hid KK
      clear hDE B3 B6 BO B9 S6 KK
      have hw2 : D.runOps ((turnOps ns hb).take (2 + 1)) = (D2, E2) := by
       rw [Htk.out, runOps_snoc _ _ _ _ Hw.out]
       exact HDE.out
      have Hw2 := hid hw2
      clear hw2
      by_cases hez : E2 = 0
      ·have hezb : (E2 == 0) = true := by simpa using hez
       have Hez := hid hez
       clear hez
       go_wp2_with (first
        | (guard_target = wpList _ _ _ (Oper.mk _ (Op.load 30 _) _ _ _ _ :: _) _ _; refine wpList_load_blk rfl 30 _ rfl b9 0 _ (stv vl6 vr6 D2) 30 _ (by rfl) HB9.out (part0 _) Try.underlying30 rfl info30 ?_)
        | (guard_target = wpList _ _ _ (Oper.mk _ (Op.store 30 _ _) _ _ _ _ :: _) _ _; refine wpList_store_part rfl 30 _ _ rfl b4 0 _ (stv vl6 vr6 D2) 68 (by rfl) (by rfl) HB3.out (by rw [fsv_len rfl]; show 0 + 5 ≤ 11; decide) info30 HS.out.ones ?_; intro w8 B8 K8; rw [fsv_splice rfl rfl] at B8))
       have hsz := K8.size
       have hB6' := HB6.out.keep K8 (fun e => hne e.symm)
       have hBO' := HBO.out.keep K8 (fun e => hneo e.symm)
       have hS8 := (HS.out.stay HB3.out (by decide) (by decide) K8).later hsz
       have hK8 := HKK.out.own K8 (fun q e => by unfold Only at e; subst e; exact hb4w)
       have HR8 := hid (HRR.out.keep K8 (fun ad e hq => by injection e with e; subst e; unfold Only at hq; exact hgh hq))
       have HF := hid (show _ ∧ _ ∧ _ ∧ _ ∧ _ from ⟨B8, hB6', hBO', hS8, hK8⟩)
       clear B8 hB6' hBO' hS8 hK8 K8
       go_roundw
       case rel => exact ⟨2 + 1, D2, vl6, vr6, by first | rfl | go_num, by omega, by rw [Hw2.out, Hez.out], HF.out.1, HF.out.2.1, HF.out.2.2.1, HR8.out, HF.out.2.2.2.1, HF.out.2.2.2.2⟩
       case measure => simp [intOf]
      ·have hezb : (E2 == 0) = false := by simpa using hez
       have hfin : D.turn ns hb = (D2, E2) := by
        rw [turn_runOps, ← List.take_append_drop (2 + 1) (turnOps ns hb), runOps_stop _ _ _ (by rw [Hw2.out]; exact hez), Hw2.out]
       have Hfin := hid hfin
       have Hez := hid hez
       clear hez hfin
       go_wp2_with (first
        | (guard_target = wpList _ _ _ (Oper.mk _ (Op.load 30 _) _ _ _ _ :: _) _ _; refine wpList_load_blk rfl 30 _ rfl b9 0 _ (stv vl6 vr6 D2) 30 _ (by rfl) HB9.out (part0 _) Try.underlying30 rfl info30 ?_)
        | (guard_target = wpList _ _ _ (Oper.mk _ (Op.store 30 _ _) _ _ _ _ :: _) _ _; refine wpList_store_part rfl 30 _ _ rfl b4 0 _ (stv vl6 vr6 D2) 68 (by rfl) (by rfl) HB3.out (by rw [fsv_len rfl]; show 0 + 5 ≤ 11; decide) info30 HS.out.ones ?_; intro w8 B8 K8; rw [fsv_splice rfl rfl] at B8; have B68 := HB6.out.keep K8 (fun e => hne e.symm))
        | (guard_target = wpList _ _ _ (Oper.mk _ (Op.load 68 _) _ _ _ _ :: _) _ _; refine wpList_load_blk rfl 68 _ rfl b4 0 _ (fsv (stv vl6 vr6 D2) seq slot area0 used0 vL vS) 68 _ (by rfl) B8 (part0 _) Try.underlying68 rfl (by rw [fsv_len rfl]; exact info68) ?_)
        | (guard_target = wpList _ _ _ (Oper.mk _ (Op.store 68 _ _) _ _ _ _ :: _) _ _; refine wpList_store_whole rfl 68 _ _ rfl b8 _ (fsv (stv vl6 vr6 D2) seq slot area0 used0 vL vS) 68 (by rfl) (by rfl) B68 (by rw [fsv_len rfl]; rfl) (by rw [fsv_len rfl]; exact info68) (fsv_ones _ _ _ _ HS.out.ones hL hS) ?_; intro w9 B99 K9))
       refine ret_cell_tmp rfl b8 _ 68 _ (.int .i64 E2) (by rfl) (by rfl) B99 Try.underlying68 rfl (by rw [fsv_len rfl]; exact info68) rfl ?_
       have hsz := K8.size
       have hsz9 := K9.size
       rw [Hfin.out]
       exact ⟨vl6, vr6, by rw [pickV_no Hez.out], ((HS.out.stay HB3.out (by decide) (by decide) K8).stay B68 (by decide) (by decide) K9).later (by omega), (HKK.out.own K8 (fun q e => by unfold Only at e; subst e; exact hb4w)).own K9 (fun q e => by unfold Only at e; subst e; exact hb8w)⟩
     ·refine wpO_alloc_v (by rfl) 30 rfl zst info30 stz zst_cells ?_
      intro b9 w6 hb9 Bz K6
      have KB := Kd.trans K6 (fun _ _ h => h)
      refine ⟨.inr ⟨B3.keep KB id, BO.keep KB id⟩, ?_⟩
      go_frame
      refine wpO_call (by rfl) (exec_call' 20 _ _ rfl Try.func20 (by kernel_rfl) (by rfl) #[.agg (stv vlj vrj Dk).toArray, .agg (flushV).toArray] (by simp [Act.eval])) ?_
      refine (Hdo.out _ KB).mono ?_
      rintro e w5 ⟨vl6, vr6, rfl, S5, K5⟩
      obtain ⟨D2, E2, hDE⟩ : ∃ D2 E2, Dk.doOp (⟨1, 0, [], []⟩ : OpV) = (D2, E2) := ⟨_, _, rfl⟩
      rw [hDE] at S5 ⊢
      have KA := KB.trans K5 (fun _ _ h => h)
      refine ⟨_, rfl, .inr ⟨B3.keep KA id, BO.keep KA id⟩, ?_⟩
      go_frame
      refine wpO_pure (v := .tuple #[.agg (stv vl6 vr6 D2).toArray, .int .i64 E2]) (by rfl) (fun w' hw' => by go_simp) ?_
      go_frame
      refine wpO_pure (v := .agg (stv vl6 vr6 D2).toArray) (by rfl) (fun w' hw' => by go_simp) ?_
      go_frame
      refine wpO_pure (v := .int .i64 E2) (by rfl) (fun w' hw' => by go_simp) ?_
      go_frame
      have Bz5 := Bz.keep K5 id
      refine wpO_store_blk (by rfl) 30 _ _ rfl b9 _ (stv vl6 vr6 D2) 30 (by rfl) (by rfl) Bz5 rfl info30 S5.ones ?_
      intro w7 B9 K7
      have hsr := HK0r.out.size
      have hsA := KA.size
      have hsB := KB.size
      have hs5 := K5.size
      have hs7 := K7.size
      have hb9r : wr.heap.size ≤ b9 := by have e : wr.drew.heap.size = wr.heap.size := rfl; omega
      have KC : Keep Noth wr w7 := KA.own K7 (fun q e => by unfold Only at e; subst e; exact hb9r)
      refine ⟨.inr ⟨B3.keep KC id, BO.keep KC id⟩, ?_⟩
      go_frame
      have S6 : StAt w7 (grow F w w7) vl6 vr6 D2 := ((S5.mono (G := grow F w w5) (fun q hq => by
       rcases hq with (hq | hq) | hq
       ·exact .inl hq
       ·exact .inr ⟨hq.1, by have := hq.2; omega⟩
       ·exact .inr ⟨by have := hq.1; omega, hq.2⟩)).stay Bz5 (by decide) (by decide) K7).later hs7
      have KK := HK0r.out.trans KC (fun _ _ h => h)
      have HRR := hid (HRh.out.keep KC (fun _ _ => id))
      have B3 := B3.keep KC id
      have B6 := B6.keep KC id
      have BO := BO.keep KC id
      clear K5 K6 K7 KA KB KC S5 Bz Bz5 Kd hb9
      refine wpO_run (v := .int .i64 E2) (w1 := w7) (by rfl) (by go_simp) (.inl rfl) (wpO_nil ?_)
      go_frame
      have HDE := hid hDE
      have HB3 := hid B3
      have HB6 := hid B6
      have HBO := hid BO
      have HB9 := hid B9
      have HS := hid S6
      have HKK := hid KK
      clear hDE B3 B6 BO B9 S6 KK
      have hw2 : D.runOps ((turnOps ns hb).take (2 + 1)) = (D2, E2) := by
       rw [Htk.out, runOps_snoc _ _ _ _ Hw.out]
       exact HDE.out
      have Hw2 := hid hw2
      clear hw2
      by_cases hez : E2 = 0
      ·have hezb : (E2 == 0) = true := by simpa using hez
       have Hez := hid hez
       clear hez
       go_wp2_with (first
        | (guard_target = wpList _ _ _ (Oper.mk _ (Op.load 30 _) _ _ _ _ :: _) _ _; refine wpList_load_blk rfl 30 _ rfl b9 0 _ (stv vl6 vr6 D2) 30 _ (by rfl) HB9.out (part0 _) Try.underlying30 rfl info30 ?_)
        | (guard_target = wpList _ _ _ (Oper.mk _ (Op.store 30 _ _) _ _ _ _ :: _) _ _; refine wpList_store_part rfl 30 _ _ rfl b4 0 _ (stv vl6 vr6 D2) 68 (by rfl) (by rfl) HB3.out (by rw [fsv_len rfl]; show 0 + 5 ≤ 11; decide) info30 HS.out.ones ?_; intro w8 B8 K8; rw [fsv_splice rfl rfl] at B8))
       have hsz := K8.size
       have hB6' := HB6.out.keep K8 (fun e => hne e.symm)
       have hBO' := HBO.out.keep K8 (fun e => hneo e.symm)
       have hS8 := (HS.out.stay HB3.out (by decide) (by decide) K8).later hsz
       have hK8 := HKK.out.own K8 (fun q e => by unfold Only at e; subst e; exact hb4w)
       have HR8 := hid (HRR.out.keep K8 (fun ad e hq => by injection e with e; subst e; unfold Only at hq; exact hgh hq))
       have HF := hid (show _ ∧ _ ∧ _ ∧ _ ∧ _ from ⟨B8, hB6', hBO', hS8, hK8⟩)
       clear B8 hB6' hBO' hS8 hK8 K8
       go_roundw
       case rel => exact ⟨2 + 1, D2, vl6, vr6, by first | rfl | go_num, by omega, by rw [Hw2.out, Hez.out], HF.out.1, HF.out.2.1, HF.out.2.2.1, HR8.out, HF.out.2.2.2.1, HF.out.2.2.2.2⟩
       case measure => simp [intOf]
      ·have hezb : (E2 == 0) = false := by simpa using hez
       have hfin : D.turn ns hb = (D2, E2) := by
        rw [turn_runOps, ← List.take_append_drop (2 + 1) (turnOps ns hb), runOps_stop _ _ _ (by rw [Hw2.out]; exact hez), Hw2.out]
       have Hfin := hid hfin
       have Hez := hid hez
       clear hez hfin
       go_wp2_with (first
        | (guard_target = wpList _ _ _ (Oper.mk _ (Op.load 30 _) _ _ _ _ :: _) _ _; refine wpList_load_blk rfl 30 _ rfl b9 0 _ (stv vl6 vr6 D2) 30 _ (by rfl) HB9.out (part0 _) Try.underlying30 rfl info30 ?_)
        | (guard_target = wpList _ _ _ (Oper.mk _ (Op.store 30 _ _) _ _ _ _ :: _) _ _; refine wpList_store_part rfl 30 _ _ rfl b4 0 _ (stv vl6 vr6 D2) 68 (by rfl) (by rfl) HB3.out (by rw [fsv_len rfl]; show 0 + 5 ≤ 11; decide) info30 HS.out.ones ?_; intro w8 B8 K8; rw [fsv_splice rfl rfl] at B8; have B68 := HB6.out.keep K8 (fun e => hne e.symm))
        | (guard_target = wpList _ _ _ (Oper.mk _ (Op.load 68 _) _ _ _ _ :: _) _ _; refine wpList_load_blk rfl 68 _ rfl b4 0 _ (fsv (stv vl6 vr6 D2) seq slot area0 used0 vL vS) 68 _ (by rfl) B8 (part0 _) Try.underlying68 rfl (by rw [fsv_len rfl]; exact info68) ?_)
        | (guard_target = wpList _ _ _ (Oper.mk _ (Op.store 68 _ _) _ _ _ _ :: _) _ _; refine wpList_store_whole rfl 68 _ _ rfl b8 _ (fsv (stv vl6 vr6 D2) seq slot area0 used0 vL vS) 68 (by rfl) (by rfl) B68 (by rw [fsv_len rfl]; rfl) (by rw [fsv_len rfl]; exact info68) (fsv_ones _ _ _ _ HS.out.ones hL hS) ?_; intro w9 B99 K9))
       refine ret_cell_tmp rfl b8 _ 68 _ (.int .i64 E2) (by rfl) (by rfl) B99 Try.underlying68 rfl (by rw [fsv_len rfl]; exact info68) rfl ?_
       have hsz := K8.size
       have hsz9 := K9.size
       rw [Hfin.out]
       exact ⟨vl6, vr6, by rw [pickV_no Hez.out], ((HS.out.stay HB3.out (by decide) (by decide) K8).stay B68 (by decide) (by decide) K9).later (by omega), (HKK.out.own K8 (fun q e => by unfold Only at e; subst e; exact hb4w)).own K9 (fun q e => by unfold Only at e; subst e; exact hb8w)⟩
    ·obtain rfl : j = 3 := by omega
     have hfin : D.turn ns hb = (Dk, 0) := by rw [turn_runOps]; exact hw
     have Hfin := hid hfin
     have HSr := hid hSr
     have HK0r := hid K0r
     clear hw hfin hRh hSr K0r hj hj0 hj1 hj2
     go_wp2_with (first
      | (guard_target = wpList _ _ _ (Oper.mk _ (Op.load 30 _) _ _ _ _ :: _) _ _; refine wpList_load_blk rfl 30 _ rfl b4 0 _ (stv vlj vrj Dk) 68 _ (by rfl) B3 (fsv_dev _ rfl _ _ _ _ _ _) Try.underlying30 rfl info30 ?_)
      | (guard_target = wpList _ _ _ (Oper.mk _ (Op.build 68 _) _ _ _ _ :: _) _ _; refine wpList_run rfl _ _ (exec_build68c _ _ _ _ _ _ rfl (SV := stv vlj vrj Dk) rfl (N : Int) ns (area : Int) (used : Int) A n c (by rfl) (by rfl) (by rw [Hns1.out]; rfl) (by rfl) (by rfl) (by rfl)) ?_)
      | (guard_target = wpList _ _ _ (Oper.mk _ (Op.store 68 _ _) _ _ _ _ :: _) _ _; refine wpList_store_whole rfl 68 _ _ rfl b8 _ (fsv (stv vlj vrj Dk) (N : Int) ns (area : Int) (used : Int) (.slice A n c) (.slice none 0 0)) 68 (by rfl) (by rfl) B6 (by rw [fsv_len rfl]; rfl) (by rw [fsv_len rfl]; exact info68) (fsv_ones _ _ _ _ HSr.out.ones rfl rfl) ?_; intro w9 B99 K9))
     refine ret_cell_tmp rfl b8 _ 68 _ (.int .i64 0) (by rfl) (by rfl) B99 Try.underlying68 rfl (by rw [fsv_len rfl]; exact info68) rfl ?_
     rw [Hfin.out]
     exact ⟨vlj, vrj, by rw [pickV_ok], (HSr.out.stay B6 (by decide) (by decide) K9).later K9.size, HK0r.out.own K9 (fun q e => by unfold Only at e; subst e; exact hb8w)⟩
theorem refTurn_calls1 {w : World} {F : Nat → Prop} {vl vr : Value} {D : DS} (H : StAt w F vl vr D) (hok : D.ok) (ho : D.ops ≤ 1000000000) (hr : D.row.length ≤ 1000000000) (h4 : 2 ≤ D.l.length) (seq slot area0 used0 : Int) (vL vS : Value) (hL : vL.oneCell' = true) (hS : vS.oneCell' = true)
  (area used n c : Nat) (A : Option Addr) (ha : area ≤ 1048576) (hu : used ≤ 1048576) (hn : n ≤ 1099511627776) (hs : slot ≠ 0) (ns : Int) (hns : ns = if slot = 0 then 1 else 0) :
  Calls Try.prog 104 #[.agg (fsv (stv vl vr D) seq slot area0 used0 vL vS).toArray, .int .i64 (area : Int), .int .i64 (used : Int), .slice A n c] w (fun e w' => ∃ vl' vr', e = .returned (.tuple #[.agg (pickV (D.turn ns (headB (nextF D) area used n)).2 (fsv (stv vl' vr' (D.turn ns (headB (nextF D) area used n)).1) (nextF D : Int) ns area used (.slice A n c) (.slice none 0 0)) (fsv (stv vl' vr' (D.turn ns (headB (nextF D) area used n)).1) seq slot area0 used0 vL vS)).toArray, .int .i64 (D.turn ns (headB (nextF D) area used n)).2]) ∧ StAt w' (grow F w w') vl' vr' (D.turn ns (headB (nextF D) area used n)).1 ∧ Keep Noth w w') := by
 have Hns1 := hid (show ns = 0 by rw [hns, if_neg hs])
 have Hs1 := hid (show (slot == 0) = false by simpa using hs)
 clear hs
 have hnx := nextF_le D
 have hnl := fun W (hW : Keep Noth w W) => refNext_calls (H.keep hW (Dj.noth _)) hok (by omega) h4 seq slot area0 used0 vL vS
 obtain ⟨hb, hhb⟩ : ∃ hb, hb = headB (nextF D) area used n := ⟨_, rfl⟩
 have hhl : hb.length = 64 := by rw [hhb]; exact headB_length _ _ _ _
 have hhd := fun W => head_calls W (nextF D) area used n (by omega) (by omega) (by omega) (by omega)
 rw [← hhb] at hhd ⊢
 have hones := H.ones
 obtain ⟨N, hN⟩ : ∃ N, N = nextF D := ⟨_, rfl⟩
 rw [← hN] at hnl hhd ⊢
 have HH := hid H
 have Hnl := hid hnl
 have Hhd := hid hhd
 have Hok := hid hok
 have Hhb := hid (show hb = hb from rfl)
 have Hns := hid (show ns = ns from rfl)
 have HN := hid hN
 have Hones := hid hones
 have hnI : (n : Int) ≤ 1099511627776 := by omega
 have hnsb : -10000 ≤ ns ∧ ns ≤ 20000 := by rw [hns]; split <;> decide
 clear H hnl hhd hok hhb hN hones hnx hn
 go_enter Try.func104, Try.ntmps104
 go_wp2_with (first
  | (guard_target = wpList _ _ _ (Oper.mk _ (Op.box 68 _) _ _ _ _ :: _) _ _; refine wpList_box_v rfl 68 _ rfl (fsv (stv vl vr D) seq slot area0 used0 vL vS) (by rfl) ?_; intro b4 w1 hb4 B4 K1)
  | (guard_target = wpList _ _ _ (Oper.mk _ (Op.alloc 68) _ _ _ _ :: _) _ _; refine wpList_alloc_v rfl 68 rfl (.agg zfs.toArray) info68 zfs zfs_cells ?_; intro b8 w2 hb8 B8 K2; have B42 := B4.keep K2 id)
  | (guard_target = wpList _ _ _ (Oper.mk _ (Op.load 68 _) _ _ _ _ :: _) _ _; refine wpList_load_blk rfl 68 _ rfl b4 0 _ (fsv (stv vl vr D) seq slot area0 used0 vL vS) 68 _ (by rfl) B42 (part0 _) Try.underlying68 rfl (by rw [fsv_len rfl]; exact info68) ?_))
 have K02 : Keep Noth w w2 := K1.trans K2 (fun _ _ h => h)
 have hne : b4 ≠ b8 := by have := B4.lt; omega
 have hb4w : w.heap.size ≤ b4 := hb4
 have hb8w : w.heap.size ≤ b8 := by have := K1.size; omega
 refine (Hnl.out w2 K02).mono ?_
 rintro e w3 ⟨rfl, K3⟩
 have B43 := B42.keep K3 id
 have B83 := B8.keep K3 id
 have K03 := K02.trans K3 (fun _ _ h => h)
 have c6 : w3.cell? ⟨b4, 6, none⟩ = some (.int .i64 slot) := B43.cell 6
 have hsb : (slot == 0) = decide (slot = 0) := rfl
 clear B4 B8 B42 K1 K2 K3 K02 hb4 hb8
 have hs1 := Hs1.out
 clear hns hsb
 go_wp2_with (first
  | (guard_target = wpList _ _ _ (Oper.mk _ (Op.build 36 _) _ _ _ _ :: _) _ _; refine wpList_run rfl _ _ (exec_build36f _ rfl (by rfl)) ?_))
 refine (Hhd.out w3).mono ?_
 rintro e w4 ⟨gh, ch, rfl, XH, K4⟩
 have B44 := B43.keep K4 id
 have B84 := B83.keep K4 id
 have K04 := K03.trans K4 (fun _ _ h => h)
 have hgh : gh ≠ b4 := by
  have h1 : w3.heap.size ≤ gh := (XH.foot _ rfl).1
  have := B43.lt
  omega
 have hRh4 := Bytes.same_as XH
 clear B43 B83 K03 XH K4 c6
 go_wp2_with (first
  | (guard_target = wpList _ _ _ (Oper.mk _ (Op.build 36 #[(1, _), (2, _)]) _ _ _ _ :: _) _ _; refine wpList_run rfl _ _ (exec_build36b _ _ rfl ns _ _ _ (by rw [Hns1.out]; rfl) (by rfl)) ?_)
  | (guard_target = wpList _ _ _ (Oper.mk _ (Op.build 36 _) _ _ _ _ :: _) _ _; refine wpList_run rfl _ _ (exec_build36f _ rfl (by rfl)) ?_)
  | (guard_target = wpList _ _ _ (Oper.mk _ (Op.buildSlice 22 _ _) _ _ _ _ :: _) _ _; refine wpList_turnOps rfl _ _ _ rfl ns (some ⟨gh, 0, none⟩) 64 ch (by rfl) (by rfl) (by rfl) ?_; intro bo w5 hbo BO5 K5))
 have B45 := B44.keep K5 id
 have B85 := B84.keep K5 id
 have K05 := K04.trans K5 (fun _ _ h => h)
 have hRh5 := hRh4.keep K5 (fun _ _ => id)
 have hneo : b4 ≠ bo := by have := B44.lt; omega
 have hS5 := HH.out.keep K05 (Dj.noth _)
 clear B44 B84 K04 K5 hbo hRh4
 go_loopw [13] (fun kv wr => ∃ (j : Nat) (Dk : DS) (vlj vrj : Value), kv = .int .i64 j ∧ j ≤ 3 ∧ D.runOps ((turnOps ns hb).take j) = (Dk, 0) ∧ BlockIs wr b4 (fsv (stv vlj vrj Dk) seq slot area0 used0 vL vS) 68 ∧ BlockIs wr b8 zfs 68 ∧ BlockIs wr bo (turnV ns (some ⟨gh, 0, none⟩) 64 ch) 36 ∧ Reads wr (some ⟨gh, 0, none⟩) (bv hb) ∧ StAt wr (grow F w wr) vlj vrj Dk ∧ Keep Noth w wr) (fun kv _ => 3 - (intOf kv).toNat)
 case atStart => exact ⟨0, D, vl, vr, rfl, by omega, rfl, B45, B85, BO5, hRh5, hS5.mono (fun q hq => .inl hq), K05⟩
 case round =>
  obtain ⟨j, Dk, vlj, vrj, rfl, hj, hw, B3, B6, BO, hRh, hSr, K0r⟩ := hrel
  clear B45 B85 BO5 hRh5 hS5 K05
  by_cases hj0 : j = 0
  ·subst hj0
   have hwj := hw
   have hko := runOps_ok ((turnOps ns hb).take 0) Hok.out (fun o ho => turnOps_ok hnsb (by rw [hhl]; exact Nat.le_refl _) o (List.mem_of_mem_take ho))
   rw [hw] at hko
   have hko : Dk.ok ∧ Dk.ops ≤ D.ops + ((turnOps ns hb).take 0).length ∧ Dk.row.length ≤ D.row.length + ((turnOps ns hb).take 0).length := hko
   have hln : ((turnOps ns hb).take 0).length = 0 := by rfl
   rw [hln] at hko
   have Hw := hid hw
   have Htk := hid (show (turnOps ns hb).take (0 + 1) = (turnOps ns hb).take 0 ++ [(⟨1, 0, [], []⟩ : OpV)] from rfl)
   have hdo := fun W (hW : Keep Noth wr W) => do_calls (hSr.keep hW (Dj.noth _)) hko.1 (by omega) (by omega) (⟨1, 0, [], []⟩ : OpV) (turnOps_ok hnsb (by rw [hhl]; exact Nat.le_refl _) _ (List.mem_of_getElem? (i := 0) rfl)) none none 0 0 ⟨by first | exact Reads.nil _ _ | exact hRh.keep hW (fun _ _ => id), Reads.nil _ _⟩
   have hst : ∀ a1 a2, stv a1 a2 Dk = [a1, a2, .int .i64 (Dk.ops : Int), .int .i64 Dk.fuse, .bool Dk.down] := fun a1 a2 => rfl
   rw [(show opv (⟨1, 0, [], []⟩ : OpV) none none 0 0 = flushV from rfl)] at hdo
   have Hdo := hid hdo
   have HRh := hid hRh
   have HSr := hid hSr
   have HK0r := hid K0r
   clear hdo hRh hSr K0r hw hwj hko hln hst
   go_wp2_with fail
   refine wp_region_ordF [(0, true), (1, true), (2, true), (3, true), (4, true), (5, true)] 6 10 [(7, true), (8, true), (9, true), (10, false), (11, false), (12, false)] [(6, false), (7, true), (8, true), (9, true), (11, false), (12, false)] (fun W => BlockIs W b4 (fsv (stv vlj vrj Dk) seq slot area0 used0 vL vS) 68 ∧ BlockIs W bo (turnV ns (some ⟨gh, 0, none⟩) 64 ch) 36) follows_mixed (by kernel_rfl) ⟨B3.drew, BO.drew⟩ ?_
   simp only [List.map_cons, List.map_nil, List.getElem?_cons_succ, List.getElem?_cons_zero, Option.getD_some]
   refine wpO_pure (v := .pointer (some ⟨b4, 0, none⟩)) (by rfl) (fun w' hw' => by go_simp) ?_
   go_frame
   refine wpO_pure (v := .agg (stv vlj vrj Dk).toArray) (by rfl) (fun w' hw' => by exact exec_load_blk 30 _ rfl b4 0 _ (stv vlj vrj Dk) 68 _ (by rfl) hw'.1 (fsv_dev _ rfl _ _ _ _ _ _) Try.underlying30 rfl info30) ?_
   go_frame
   refine wpO_pure (v := .slice (some ⟨bo, 0, none⟩) 3 3) (by rfl) (fun w' hw' => by go_simp) ?_
   go_frame
   refine wpO_pure (v := .int .i64 0) (by rfl) (fun w' hw' => by go_simp) ?_
   go_frame
   refine wpO_pure (v := .pointer (some ⟨bo, 0, none⟩)) (by rfl) (fun w' hw' => by go_simp) ?_
   go_frame
   refine wpO_pure (v := .agg (flushV).toArray) (by rfl) (fun w' hw' => by exact exec_load_blk 36 _ rfl bo 0 _ (flushV) 36 _ (by rfl) hw'.2 (turnV_at0 _ _ _ _) Try.underlying36 rfl info36) (wpO_nil ?_)
   go_frame
   have Kd := (Keep.refl Noth wr).drew
   constructor
   ·refine wpO_call (by rfl) (exec_call' 20 _ _ rfl Try.func20 (by kernel_rfl) (by rfl) #[.agg (stv vlj vrj Dk).toArray, .agg (flushV).toArray] (by simp [Act.eval])) ?_
    refine (Hdo.out _ Kd).mono ?_
    rintro e w5 ⟨vl6, vr6, rfl, S5, K5⟩
    obtain ⟨D2, E2, hDE⟩ : ∃ D2 E2, Dk.doOp (⟨1, 0, [], []⟩ : OpV) = (D2, E2) := ⟨_, _, rfl⟩
    rw [hDE] at S5 ⊢
    have KA := Kd.trans K5 (fun _ _ h => h)
    refine ⟨_, rfl, .inr ⟨B3.keep KA id, BO.keep KA id⟩, ?_⟩
    go_frame
    refine wpO_pure (v := .tuple #[.agg (stv vl6 vr6 D2).toArray, .int .i64 E2]) (by rfl) (fun w' hw' => by go_simp) ?_
    go_frame
    refine wpO_pure (v := .agg (stv vl6 vr6 D2).toArray) (by rfl) (fun w' hw' => by go_simp) ?_
    go_frame
    refine wpO_pure (v := .int .i64 E2) (by rfl) (fun w' hw' => by go_simp) ?_
    go_frame
    refine wpO_alloc_v (by rfl) 30 rfl zst info30 stz zst_cells ?_
    intro b9 w6 hb9 Bz K6
    have KB := KA.trans K6 (fun _ _ h => h)
    refine ⟨.inr ⟨B3.keep KB id, BO.keep KB id⟩, ?_⟩
    go_frame
    refine wpO_store_blk (by rfl) 30 _ _ rfl b9 _ (stv vl6 vr6 D2) 30 (by rfl) (by rfl) Bz rfl info30 S5.ones ?_
    intro w7 B9 K7
    have hsr := HK0r.out.size
    have hsA := KA.size
    have hsB := KB.size
    have hs7 := K7.size
    have hb9r : wr.heap.size ≤ b9 := by omega
    have KC : Keep Noth wr w7 := KB.own K7 (fun q e => by unfold Only at e; subst e; exact hb9r)
    refine ⟨.inr ⟨B3.keep KC id, BO.keep KC id⟩, ?_⟩
    go_frame
    have S6 : StAt w7 (grow F w w7) vl6 vr6 D2 := (((S5.mono (G := grow (grow F w wr) wr w5) (fun q hq => hq)).grown hsr hsA).keep K6 (Dj.noth _)).stay Bz (by decide) (by decide) K7 |>.later (by have := K6.size; omega)
    have KK := HK0r.out.trans KC (fun _ _ h => h)
    have HRR := hid (HRh.out.keep KC (fun _ _ => id))
    have B3 := B3.keep KC id
    have B6 := B6.keep KC id
    have BO := BO.keep KC id
    clear K5 K6 K7 KA KB KC S5 Bz Kd hb9
    refine wpO_run (v := .int .i64 E2) (w1 := w7) (by rfl) (by go_simp) (.inl rfl) (wpO_nil ?_)
    go_frame
    have HDE := hid hDE
    have HB3 := hid B3
    have HB6 := hid B6
    have HBO := hid BO
    have HB9 := hid B9
    have HS := hid S6
    have HKK := hid KK
    clear hDE B3 B6 BO B9 S6 KK
    have hw2 : D.runOps ((turnOps ns hb).take (0 + 1)) = (D2, E2) := by
     rw [Htk.out, runOps_snoc _ _ _ _ Hw.out]
     exact HDE.out
    have Hw2 := hid hw2
    clear hw2
    by_cases hez : E2 = 0
    ·have hezb : (E2 == 0) = true := by simpa using hez
     have Hez := hid hez
     clear hez
     go_wp2_with (first
      | (guard_target = wpList _ _ _ (Oper.mk _ (Op.load 30 _) _ _ _ _ :: _) _ _; refine wpList_load_blk rfl 30 _ rfl b9 0 _ (stv vl6 vr6 D2) 30 _ (by rfl) HB9.out (part0 _) Try.underlying30 rfl info30 ?_)
      | (guard_target = wpList _ _ _ (Oper.mk _ (Op.store 30 _ _) _ _ _ _ :: _) _ _; refine wpList_store_part rfl 30 _ _ rfl b4 0 _ (stv vl6 vr6 D2) 68 (by rfl) (by rfl) HB3.out (by rw [fsv_len rfl]; show 0 + 5 ≤ 11; decide) info30 HS.out.ones ?_; intro w8 B8 K8; rw [fsv_splice rfl rfl] at B8))
     have hsz := K8.size
     have hB6' := HB6.out.keep K8 (fun e => hne e.symm)
     have hBO' := HBO.out.keep K8 (fun e => hneo e.symm)
     have hS8 := (HS.out.stay HB3.out (by decide) (by decide) K8).later hsz
     have hK8 := HKK.out.own K8 (fun q e => by unfold Only at e; subst e; exact hb4w)
     have HR8 := hid (HRR.out.keep K8 (fun ad e hq => by injection e with e; subst e; unfold Only at hq; exact hgh hq))
     have HF := hid (show _ ∧ _ ∧ _ ∧ _ ∧ _ from ⟨B8, hB6', hBO', hS8, hK8⟩)
     clear B8 hB6' hBO' hS8 hK8 K8
     go_roundw
     case rel => exact ⟨0 + 1, D2, vl6, vr6, by first | rfl | go_num, by omega, by rw [Hw2.out, Hez.out], HF.out.1, HF.out.2.1, HF.out.2.2.1, HR8.out, HF.out.2.2.2.1, HF.out.2.2.2.2⟩
     case measure => simp [intOf]
    ·have hezb : (E2 == 0) = false := by simpa using hez
     have hfin : D.turn ns hb = (D2, E2) := by
      rw [turn_runOps, ← List.take_append_drop (0 + 1) (turnOps ns hb), runOps_stop _ _ _ (by rw [Hw2.out]; exact hez), Hw2.out]
     have Hfin := hid hfin
     have Hez := hid hez
     clear hez hfin
     go_wp2_with (first
      | (guard_target = wpList _ _ _ (Oper.mk _ (Op.load 30 _) _ _ _ _ :: _) _ _; refine wpList_load_blk rfl 30 _ rfl b9 0 _ (stv vl6 vr6 D2) 30 _ (by rfl) HB9.out (part0 _) Try.underlying30 rfl info30 ?_)
      | (guard_target = wpList _ _ _ (Oper.mk _ (Op.store 30 _ _) _ _ _ _ :: _) _ _; refine wpList_store_part rfl 30 _ _ rfl b4 0 _ (stv vl6 vr6 D2) 68 (by rfl) (by rfl) HB3.out (by rw [fsv_len rfl]; show 0 + 5 ≤ 11; decide) info30 HS.out.ones ?_; intro w8 B8 K8; rw [fsv_splice rfl rfl] at B8; have B68 := HB6.out.keep K8 (fun e => hne e.symm))
      | (guard_target = wpList _ _ _ (Oper.mk _ (Op.load 68 _) _ _ _ _ :: _) _ _; refine wpList_load_blk rfl 68 _ rfl b4 0 _ (fsv (stv vl6 vr6 D2) seq slot area0 used0 vL vS) 68 _ (by rfl) B8 (part0 _) Try.underlying68 rfl (by rw [fsv_len rfl]; exact info68) ?_)
      | (guard_target = wpList _ _ _ (Oper.mk _ (Op.store 68 _ _) _ _ _ _ :: _) _ _; refine wpList_store_whole rfl 68 _ _ rfl b8 _ (fsv (stv vl6 vr6 D2) seq slot area0 used0 vL vS) 68 (by rfl) (by rfl) B68 (by rw [fsv_len rfl]; rfl) (by rw [fsv_len rfl]; exact info68) (fsv_ones _ _ _ _ HS.out.ones hL hS) ?_; intro w9 B99 K9))
     refine ret_cell_tmp rfl b8 _ 68 _ (.int .i64 E2) (by rfl) (by rfl) B99 Try.underlying68 rfl (by rw [fsv_len rfl]; exact info68) rfl ?_
     have hsz := K8.size
     have hsz9 := K9.size
     rw [Hfin.out]
     exact ⟨vl6, vr6, by rw [pickV_no Hez.out], ((HS.out.stay HB3.out (by decide) (by decide) K8).stay B68 (by decide) (by decide) K9).later (by omega), (HKK.out.own K8 (fun q e => by unfold Only at e; subst e; exact hb4w)).own K9 (fun q e => by unfold Only at e; subst e; exact hb8w)⟩
   ·refine wpO_alloc_v (by rfl) 30 rfl zst info30 stz zst_cells ?_
    intro b9 w6 hb9 Bz K6
    have KB := Kd.trans K6 (fun _ _ h => h)
    refine ⟨.inr ⟨B3.keep KB id, BO.keep KB id⟩, ?_⟩
    go_frame
    refine wpO_call (by rfl) (exec_call' 20 _ _ rfl Try.func20 (by kernel_rfl) (by rfl) #[.agg (stv vlj vrj Dk).toArray, .agg (flushV).toArray] (by simp [Act.eval])) ?_
    refine (Hdo.out _ KB).mono ?_
    rintro e w5 ⟨vl6, vr6, rfl, S5, K5⟩
    obtain ⟨D2, E2, hDE⟩ : ∃ D2 E2, Dk.doOp (⟨1, 0, [], []⟩ : OpV) = (D2, E2) := ⟨_, _, rfl⟩
    rw [hDE] at S5 ⊢
    have KA := KB.trans K5 (fun _ _ h => h)
    refine ⟨_, rfl, .inr ⟨B3.keep KA id, BO.keep KA id⟩, ?_⟩
    go_frame
    refine wpO_pure (v := .tuple #[.agg (stv vl6 vr6 D2).toArray, .int .i64 E2]) (by rfl) (fun w' hw' => by go_simp) ?_
    go_frame
    refine wpO_pure (v := .agg (stv vl6 vr6 D2).toArray) (by rfl) (fun w' hw' => by go_simp) ?_
    go_frame
    refine wpO_pure (v := .int .i64 E2) (by rfl) (fun w' hw' => by go_simp) ?_
    go_frame
    have Bz5 := Bz.keep K5 id
    refine wpO_store_blk (by rfl) 30 _ _ rfl b9 _ (stv vl6 vr6 D2) 30 (by rfl) (by rfl) Bz5 rfl info30 S5.ones ?_
    intro w7 B9 K7
    have hsr := HK0r.out.size
    have hsA := KA.size
    have hsB := KB.size
    have hs5 := K5.size
    have hs7 := K7.size
    have hb9r : wr.heap.size ≤ b9 := by have e : wr.drew.heap.size = wr.heap.size := rfl; omega
    have KC : Keep Noth wr w7 := KA.own K7 (fun q e => by unfold Only at e; subst e; exact hb9r)
    refine ⟨.inr ⟨B3.keep KC id, BO.keep KC id⟩, ?_⟩
    go_frame
    have S6 : StAt w7 (grow F w w7) vl6 vr6 D2 := ((S5.mono (G := grow F w w5) (fun q hq => by
     rcases hq with (hq | hq) | hq
     ·exact .inl hq
     ·exact .inr ⟨hq.1, by have := hq.2; omega⟩
     ·exact .inr ⟨by have := hq.1; omega, hq.2⟩)).stay Bz5 (by decide) (by decide) K7).later hs7
    have KK := HK0r.out.trans KC (fun _ _ h => h)
    have HRR := hid (HRh.out.keep KC (fun _ _ => id))
    have B3 := B3.keep KC id
    have B6 := B6.keep KC id
    have BO := BO.keep KC id
    clear K5 K6 K7 KA KB KC S5 Bz Bz5 Kd hb9
    refine wpO_run (v := .int .i64 E2) (w1 := w7) (by rfl) (by go_simp) (.inl rfl) (wpO_nil ?_)
    go_frame
    have HDE := hid hDE
    have HB3 := hid B3
    have HB6 := hid B6
    have HBO := hid BO
    have HB9 := hid B9
    have HS := hid S6
    have HKK := hid KK
    clear hDE B3 B6 BO B9 S6 KK
    have hw2 : D.runOps ((turnOps ns hb).take (0 + 1)) = (D2, E2) := by
     rw [Htk.out, runOps_snoc _ _ _ _ Hw.out]
     exact HDE.out
    have Hw2 := hid hw2
    clear hw2
    by_cases hez : E2 = 0
    ·have hezb : (E2 == 0) = true := by simpa using hez
     have Hez := hid hez
     clear hez
     go_wp2_with (first
      | (guard_target = wpList _ _ _ (Oper.mk _ (Op.load 30 _) _ _ _ _ :: _) _ _; refine wpList_load_blk rfl 30 _ rfl b9 0 _ (stv vl6 vr6 D2) 30 _ (by rfl) HB9.out (part0 _) Try.underlying30 rfl info30 ?_)
      | (guard_target = wpList _ _ _ (Oper.mk _ (Op.store 30 _ _) _ _ _ _ :: _) _ _; refine wpList_store_part rfl 30 _ _ rfl b4 0 _ (stv vl6 vr6 D2) 68 (by rfl) (by rfl) HB3.out (by rw [fsv_len rfl]; show 0 + 5 ≤ 11; decide) info30 HS.out.ones ?_; intro w8 B8 K8; rw [fsv_splice rfl rfl] at B8))
     have hsz := K8.size
     have hB6' := HB6.out.keep K8 (fun e => hne e.symm)
     have hBO' := HBO.out.keep K8 (fun e => hneo e.symm)
     have hS8 := (HS.out.stay HB3.out (by decide) (by decide) K8).later hsz
     have hK8 := HKK.out.own K8 (fun q e => by unfold Only at e; subst e; exact hb4w)
     have HR8 := hid (HRR.out.keep K8 (fun ad e hq => by injection e with e; subst e; unfold Only at hq; exact hgh hq))
     have HF := hid (show _ ∧ _ ∧ _ ∧ _ ∧ _ from ⟨B8, hB6', hBO', hS8, hK8⟩)
     clear B8 hB6' hBO' hS8 hK8 K8
     go_roundw
     case rel => exact ⟨0 + 1, D2, vl6, vr6, by first | rfl | go_num, by omega, by rw [Hw2.out, Hez.out], HF.out.1, HF.out.2.1, HF.out.2.2.1, HR8.out, HF.out.2.2.2.1, HF.out.2.2.2.2⟩
     case measure => simp [intOf]
    ·have hezb : (E2 == 0) = false := by simpa using hez
     have hfin : D.turn ns hb = (D2, E2) := by
      rw [turn_runOps, ← List.take_append_drop (0 + 1) (turnOps ns hb), runOps_stop _ _ _ (by rw [Hw2.out]; exact hez), Hw2.out]
     have Hfin := hid hfin
     have Hez := hid hez
     clear hez hfin
     go_wp2_with (first
      | (guard_target = wpList _ _ _ (Oper.mk _ (Op.load 30 _) _ _ _ _ :: _) _ _; refine wpList_load_blk rfl 30 _ rfl b9 0 _ (stv vl6 vr6 D2) 30 _ (by rfl) HB9.out (part0 _) Try.underlying30 rfl info30 ?_)
      | (guard_target = wpList _ _ _ (Oper.mk _ (Op.store 30 _ _) _ _ _ _ :: _) _ _; refine wpList_store_part rfl 30 _ _ rfl b4 0 _ (stv vl6 vr6 D2) 68 (by rfl) (by rfl) HB3.out (by rw [fsv_len rfl]; show 0 + 5 ≤ 11; decide) info30 HS.out.ones ?_; intro w8 B8 K8; rw [fsv_splice rfl rfl] at B8; have B68 := HB6.out.keep K8 (fun e => hne e.symm))
      | (guard_target = wpList _ _ _ (Oper.mk _ (Op.load 68 _) _ _ _ _ :: _) _ _; refine wpList_load_blk rfl 68 _ rfl b4 0 _ (fsv (stv vl6 vr6 D2) seq slot area0 used0 vL vS) 68 _ (by rfl) B8 (part0 _) Try.underlying68 rfl (by rw [fsv_len rfl]; exact info68) ?_)
      | (guard_target = wpList _ _ _ (Oper.mk _ (Op.store 68 _ _) _ _ _ _ :: _) _ _; refine wpList_store_whole rfl 68 _ _ rfl b8 _ (fsv (stv vl6 vr6 D2) seq slot area0 used0 vL vS) 68 (by rfl) (by rfl) B68 (by rw [fsv_len rfl]; rfl) (by rw [fsv_len rfl]; exact info68) (fsv_ones _ _ _ _ HS.out.ones hL hS) ?_; intro w9 B99 K9))
     refine ret_cell_tmp rfl b8 _ 68 _ (.int .i64 E2) (by rfl) (by rfl) B99 Try.underlying68 rfl (by rw [fsv_len rfl]; exact info68) rfl ?_
     have hsz := K8.size
     have hsz9 := K9.size
     rw [Hfin.out]
     exact ⟨vl6, vr6, by rw [pickV_no Hez.out], ((HS.out.stay HB3.out (by decide) (by decide) K8).stay B68 (by decide) (by decide) K9).later (by omega), (HKK.out.own K8 (fun q e => by unfold Only at e; subst e; exact hb4w)).own K9 (fun q e => by unfold Only at e; subst e; exact hb8w)⟩
  ·by_cases hj1 : j = 1
   ·subst hj1
    have hwj := hw
    have hko := runOps_ok ((turnOps ns hb).take 1) Hok.out (fun o ho => turnOps_ok hnsb (by rw [hhl]; exact Nat.le_refl _) o (List.mem_of_mem_take ho))
    rw [hw] at hko
    have hko : Dk.ok ∧ Dk.ops ≤ D.ops + ((turnOps ns hb).take 1).length ∧ Dk.row.length ≤ D.row.length + ((turnOps ns hb).take 1).length := hko
    have hln : ((turnOps ns hb).take 1).length = 1 := by rfl
    rw [hln] at hko
    have Hw := hid hw
    have Htk := hid (show (turnOps ns hb).take (1 + 1) = (turnOps ns hb).take 1 ++ [(⟨0, ns, hb, []⟩ : OpV)] from rfl)
    have hdo := fun W (hW : Keep Noth wr W) => do_calls (hSr.keep hW (Dj.noth _)) hko.1 (by omega) (by omega) (⟨0, ns, hb, []⟩ : OpV) (turnOps_ok hnsb (by rw [hhl]; exact Nat.le_refl _) _ (List.mem_of_getElem? (i := 1) rfl)) (some ⟨gh, 0, none⟩) none ch 0 ⟨by first | exact Reads.nil _ _ | exact hRh.keep hW (fun _ _ => id), Reads.nil _ _⟩
    have hst : ∀ a1 a2, stv a1 a2 Dk = [a1, a2, .int .i64 (Dk.ops : Int), .int .i64 Dk.fuse, .bool Dk.down] := fun a1 a2 => rfl
    rw [opv_write ns hb hhl (some ⟨gh, 0, none⟩) ch] at hdo
    have Hdo := hid hdo
    have HRh := hid hRh
    have HSr := hid hSr
    have HK0r := hid K0r
    clear hdo hRh hSr K0r hw hwj hko hln hst
    go_wp2_with fail
    refine wp_region_ordF [(0, true), (1, true), (2, true), (3, true), (4, true), (5, true)] 6 10 [(7, true), (8, true), (9, true), (10, false), (11, false), (12, false)] [(6, false), (7, true), (8, true), (9, true), (11, false), (12, false)] (fun W => BlockIs W b4 (fsv (stv vlj vrj Dk) seq slot area0 used0 vL vS) 68 ∧ BlockIs W bo (turnV ns (some ⟨gh, 0, none⟩) 64 ch) 36) follows_mixed (by kernel_rfl) ⟨B3.drew, BO.drew⟩ ?_
    simp only [List.map_cons, List.map_nil, List.getElem?_cons_succ, List.getElem?_cons_zero, Option.getD_some]
    refine wpO_pure (v := .pointer (some ⟨b4, 0, none⟩)) (by rfl) (fun w' hw' => by go_simp) ?_
    go_frame
    refine wpO_pure (v := .agg (stv vlj vrj Dk).toArray) (by rfl) (fun w' hw' => by exact exec_load_blk 30 _ rfl b4 0 _ (stv vlj vrj Dk) 68 _ (by rfl) hw'.1 (fsv_dev _ rfl _ _ _ _ _ _) Try.underlying30 rfl info30) ?_
    go_frame
    refine wpO_pure (v := .slice (some ⟨bo, 0, none⟩) 3 3) (by rfl) (fun w' hw' => by go_simp) ?_
    go_frame
    refine wpO_pure (v := .int .i64 1) (by rfl) (fun w' hw' => by go_simp) ?_
    go_frame
    refine wpO_pure (v := .pointer (some ⟨bo, 4, none⟩)) (by rfl) (fun w' hw' => by go_simp) ?_
    go_frame
    refine wpO_pure (v := .agg ([.int .i64 0, .int .i64 ns, .slice (some ⟨gh, 0, none⟩) 64 ch, .slice none 0 0]).toArray) (by rfl) (fun w' hw' => by exact exec_load_blk 36 _ rfl bo 4 _ ([.int .i64 0, .int .i64 ns, .slice (some ⟨gh, 0, none⟩) 64 ch, .slice none 0 0]) 36 _ (by rfl) hw'.2 (turnV_at1 _ _ _ _) Try.underlying36 rfl info36) (wpO_nil ?_)
    go_frame
    have Kd := (Keep.refl Noth wr).drew
    constructor
    ·refine wpO_call (by rfl) (exec_call' 20 _ _ rfl Try.func20 (by kernel_rfl) (by rfl) #[.agg (stv vlj vrj Dk).toArray, .agg ([.int .i64 0, .int .i64 ns, .slice (some ⟨gh, 0, none⟩) 64 ch, .slice none 0 0]).toArray] (by simp [Act.eval])) ?_
     refine (Hdo.out _ Kd).mono ?_
     rintro e w5 ⟨vl6, vr6, rfl, S5, K5⟩
     obtain ⟨D2, E2, hDE⟩ : ∃ D2 E2, Dk.doOp (⟨0, ns, hb, []⟩ : OpV) = (D2, E2) := ⟨_, _, rfl⟩
     rw [hDE] at S5 ⊢
     have KA := Kd.trans K5 (fun _ _ h => h)
     refine ⟨_, rfl, .inr ⟨B3.keep KA id, BO.keep KA id⟩, ?_⟩
     go_frame
     refine wpO_pure (v := .tuple #[.agg (stv vl6 vr6 D2).toArray, .int .i64 E2]) (by rfl) (fun w' hw' => by go_simp) ?_
     go_frame
     refine wpO_pure (v := .agg (stv vl6 vr6 D2).toArray) (by rfl) (fun w' hw' => by go_simp) ?_
     go_frame
     refine wpO_pure (v := .int .i64 E2) (by rfl) (fun w' hw' => by go_simp) ?_
     go_frame
     refine wpO_alloc_v (by rfl) 30 rfl zst info30 stz zst_cells ?_
     intro b9 w6 hb9 Bz K6
     have KB := KA.trans K6 (fun _ _ h => h)
     refine ⟨.inr ⟨B3.keep KB id, BO.keep KB id⟩, ?_⟩
     go_frame
     refine wpO_store_blk (by rfl) 30 _ _ rfl b9 _ (stv vl6 vr6 D2) 30 (by rfl) (by rfl) Bz rfl info30 S5.ones ?_
     intro w7 B9 K7
     have hsr := HK0r.out.size
     have hsA := KA.size
     have hsB := KB.size
     have hs7 := K7.size
     have hb9r : wr.heap.size ≤ b9 := by omega
     have KC : Keep Noth wr w7 := KB.own K7 (fun q e => by unfold Only at e; subst e; exact hb9r)
     refine ⟨.inr ⟨B3.keep KC id, BO.keep KC id⟩, ?_⟩
     go_frame
     have S6 : StAt w7 (grow F w w7) vl6 vr6 D2 := (((S5.mono (G := grow (grow F w wr) wr w5) (fun q hq => hq)).grown hsr hsA).keep K6 (Dj.noth _)).stay Bz (by decide) (by decide) K7 |>.later (by have := K6.size; omega)
     have KK := HK0r.out.trans KC (fun _ _ h => h)
     have HRR := hid (HRh.out.keep KC (fun _ _ => id))
     have B3 := B3.keep KC id
     have B6 := B6.keep KC id
     have BO := BO.keep KC id
     clear K5 K6 K7 KA KB KC S5 Bz Kd hb9
     refine wpO_run (v := .int .i64 E2) (w1 := w7) (by rfl) (by go_simp) (.inl rfl) (wpO_nil ?_)
     go_frame
     have HDE := hid hDE
     have HB3 := hid B3
     have HB6 := hid B6
     have HBO := hid BO
     have HB9 := hid B9
     have HS := hid S6
     have HKK := hid KK
     clear hDE B3 B6 BO B9 S6 KK
     have hw2 : D.runOps ((turnOps ns hb).take (1 + 1)) = (D2, E2) := by
      rw [Htk.out, runOps_snoc _ _ _ _ Hw.out]
      exact HDE.out
     have Hw2 := hid hw2
     clear hw2
     by_cases hez : E2 = 0
     ·have hezb : (E2 == 0) = true := by simpa using hez
      have Hez := hid hez
      clear hez
      go_wp2_with (first
       | (guard_target = wpList _ _ _ (Oper.mk _ (Op.load 30 _) _ _ _ _ :: _) _ _; refine wpList_load_blk rfl 30 _ rfl b9 0 _ (stv vl6 vr6 D2) 30 _ (by rfl) HB9.out (part0 _) Try.underlying30 rfl info30 ?_)
       | (guard_target = wpList _ _ _ (Oper.mk _ (Op.store 30 _ _) _ _ _ _ :: _) _ _; refine wpList_store_part rfl 30 _ _ rfl b4 0 _ (stv vl6 vr6 D2) 68 (by rfl) (by rfl) HB3.out (by rw [fsv_len rfl]; show 0 + 5 ≤ 11; decide) info30 HS.out.ones ?_; intro w8 B8 K8; rw [fsv_splice rfl rfl] at B8))
      have hsz := K8.size
      have hB6' := HB6.out.keep K8 (fun e => hne e.symm)
      have hBO' := HBO.out.keep K8 (fun e => hneo e.symm)
      have hS8 := (HS.out.stay HB3.out (by decide) (by decide) K8).later hsz
      have hK8 := HKK.out.own K8 (fun q e => by unfold Only at e; subst e; exact hb4w)
      have HR8 := hid (HRR.out.keep K8 (fun ad e hq => by injection e with e; subst e; unfold Only at hq; exact hgh hq))
      have HF := hid (show _ ∧ _ ∧ _ ∧ _ ∧ _ from ⟨B8, hB6', hBO', hS8, hK8⟩)
      clear B8 hB6' hBO' hS8 hK8 K8
      go_roundw
      case rel => exact ⟨1 + 1, D2, vl6, vr6, by first | rfl | go_num, by omega, by rw [Hw2.out, Hez.out], HF.out.1, HF.out.2.1, HF.out.2.2.1, HR8.out, HF.out.2.2.2.1, HF.out.2.2.2.2⟩
      case measure => simp [intOf]
     ·have hezb : (E2 == 0) = false := by simpa using hez
      have hfin : D.turn ns hb = (D2, E2) := by
       rw [turn_runOps, ← List.take_append_drop (1 + 1) (turnOps ns hb), runOps_stop _ _ _ (by rw [Hw2.out]; exact hez), Hw2.out]
      have Hfin := hid hfin
      have Hez := hid hez
      clear hez hfin
      go_wp2_with (first
       | (guard_target = wpList _ _ _ (Oper.mk _ (Op.load 30 _) _ _ _ _ :: _) _ _; refine wpList_load_blk rfl 30 _ rfl b9 0 _ (stv vl6 vr6 D2) 30 _ (by rfl) HB9.out (part0 _) Try.underlying30 rfl info30 ?_)
       | (guard_target = wpList _ _ _ (Oper.mk _ (Op.store 30 _ _) _ _ _ _ :: _) _ _; refine wpList_store_part rfl 30 _ _ rfl b4 0 _ (stv vl6 vr6 D2) 68 (by rfl) (by rfl) HB3.out (by rw [fsv_len rfl]; show 0 + 5 ≤ 11; decide) info30 HS.out.ones ?_; intro w8 B8 K8; rw [fsv_splice rfl rfl] at B8; have B68 := HB6.out.keep K8 (fun e => hne e.symm))
       | (guard_target = wpList _ _ _ (Oper.mk _ (Op.load 68 _) _ _ _ _ :: _) _ _; refine wpList_load_blk rfl 68 _ rfl b4 0 _ (fsv (stv vl6 vr6 D2) seq slot area0 used0 vL vS) 68 _ (by rfl) B8 (part0 _) Try.underlying68 rfl (by rw [fsv_len rfl]; exact info68) ?_)
       | (guard_target = wpList _ _ _ (Oper.mk _ (Op.store 68 _ _) _ _ _ _ :: _) _ _; refine wpList_store_whole rfl 68 _ _ rfl b8 _ (fsv (stv vl6 vr6 D2) seq slot area0 used0 vL vS) 68 (by rfl) (by rfl) B68 (by rw [fsv_len rfl]; rfl) (by rw [fsv_len rfl]; exact info68) (fsv_ones _ _ _ _ HS.out.ones hL hS) ?_; intro w9 B99 K9))
      refine ret_cell_tmp rfl b8 _ 68 _ (.int .i64 E2) (by rfl) (by rfl) B99 Try.underlying68 rfl (by rw [fsv_len rfl]; exact info68) rfl ?_
      have hsz := K8.size
      have hsz9 := K9.size
      rw [Hfin.out]
      exact ⟨vl6, vr6, by rw [pickV_no Hez.out], ((HS.out.stay HB3.out (by decide) (by decide) K8).stay B68 (by decide) (by decide) K9).later (by omega), (HKK.out.own K8 (fun q e => by unfold Only at e; subst e; exact hb4w)).own K9 (fun q e => by unfold Only at e; subst e; exact hb8w)⟩
    ·refine wpO_alloc_v (by rfl) 30 rfl zst info30 stz zst_cells ?_
     intro b9 w6 hb9 Bz K6
     have KB := Kd.trans K6 (fun _ _ h => h)
     refine ⟨.inr ⟨B3.keep KB id, BO.keep KB id⟩, ?_⟩
     go_frame
     refine wpO_call (by rfl) (exec_call' 20 _ _ rfl Try.func20 (by kernel_rfl) (by rfl) #[.agg (stv vlj vrj Dk).toArray, .agg ([.int .i64 0, .int .i64 ns, .slice (some ⟨gh, 0, none⟩) 64 ch, .slice none 0 0]).toArray] (by simp [Act.eval])) ?_
     refine (Hdo.out _ KB).mono ?_
     rintro e w5 ⟨vl6, vr6, rfl, S5, K5⟩
     obtain ⟨D2, E2, hDE⟩ : ∃ D2 E2, Dk.doOp (⟨0, ns, hb, []⟩ : OpV) = (D2, E2) := ⟨_, _, rfl⟩
     rw [hDE] at S5 ⊢
     have KA := KB.trans K5 (fun _ _ h => h)
     refine ⟨_, rfl, .inr ⟨B3.keep KA id, BO.keep KA id⟩, ?_⟩
     go_frame
     refine wpO_pure (v := .tuple #[.agg (stv vl6 vr6 D2).toArray, .int .i64 E2]) (by rfl) (fun w' hw' => by go_simp) ?_
     go_frame
     refine wpO_pure (v := .agg (stv vl6 vr6 D2).toArray) (by rfl) (fun w' hw' => by go_simp) ?_
     go_frame
     refine wpO_pure (v := .int .i64 E2) (by rfl) (fun w' hw' => by go_simp) ?_
     go_frame
     have Bz5 := Bz.keep K5 id
     refine wpO_store_blk (by rfl) 30 _ _ rfl b9 _ (stv vl6 vr6 D2) 30 (by rfl) (by rfl) Bz5 rfl info30 S5.ones ?_
     intro w7 B9 K7
     have hsr := HK0r.out.size
     have hsA := KA.size
     have hsB := KB.size
     have hs5 := K5.size
     have hs7 := K7.size
     have hb9r : wr.heap.size ≤ b9 := by have e : wr.drew.heap.size = wr.heap.size := rfl; omega
     have KC : Keep Noth wr w7 := KA.own K7 (fun q e => by unfold Only at e; subst e; exact hb9r)
     refine ⟨.inr ⟨B3.keep KC id, BO.keep KC id⟩, ?_⟩
     go_frame
     have S6 : StAt w7 (grow F w w7) vl6 vr6 D2 := ((S5.mono (G := grow F w w5) (fun q hq => by
      rcases hq with (hq | hq) | hq
      ·exact .inl hq
      ·exact .inr ⟨hq.1, by have := hq.2; omega⟩
      ·exact .inr ⟨by have := hq.1; omega, hq.2⟩)).stay Bz5 (by decide) (by decide) K7).later hs7
     have KK := HK0r.out.trans KC (fun _ _ h => h)
     have HRR := hid (HRh.out.keep KC (fun _ _ => id))
     have B3 := B3.keep KC id
     have B6 := B6.keep KC id
     have BO := BO.keep KC id
     clear K5 K6 K7 KA KB KC S5 Bz Bz5 Kd hb9
     refine wpO_run (v := .int .i64 E2) (w1 := w7) (by rfl) (by go_simp) (.inl rfl) (wpO_nil ?_)
     go_frame
     have HDE := hid hDE
     have HB3 := hid B3
     have HB6 := hid B6
     have HBO := hid BO
     have HB9 := hid B9
     have HS := hid S6
     have HKK := hid KK
     clear hDE B3 B6 BO B9 S6 KK
     have hw2 : D.runOps ((turnOps ns hb).take (1 + 1)) = (D2, E2) := by
      rw [Htk.out, runOps_snoc _ _ _ _ Hw.out]
      exact HDE.out
     have Hw2 := hid hw2
     clear hw2
     by_cases hez : E2 = 0
     ·have hezb : (E2 == 0) = true := by simpa using hez
      have Hez := hid hez
      clear hez
      go_wp2_with (first
       | (guard_target = wpList _ _ _ (Oper.mk _ (Op.load 30 _) _ _ _ _ :: _) _ _; refine wpList_load_blk rfl 30 _ rfl b9 0 _ (stv vl6 vr6 D2) 30 _ (by rfl) HB9.out (part0 _) Try.underlying30 rfl info30 ?_)
       | (guard_target = wpList _ _ _ (Oper.mk _ (Op.store 30 _ _) _ _ _ _ :: _) _ _; refine wpList_store_part rfl 30 _ _ rfl b4 0 _ (stv vl6 vr6 D2) 68 (by rfl) (by rfl) HB3.out (by rw [fsv_len rfl]; show 0 + 5 ≤ 11; decide) info30 HS.out.ones ?_; intro w8 B8 K8; rw [fsv_splice rfl rfl] at B8))
      have hsz := K8.size
      have hB6' := HB6.out.keep K8 (fun e => hne e.symm)
      have hBO' := HBO.out.keep K8 (fun e => hneo e.symm)
      have hS8 := (HS.out.stay HB3.out (by decide) (by decide) K8).later hsz
      have hK8 := HKK.out.own K8 (fun q e => by unfold Only at e; subst e; exact hb4w)
      have HR8 := hid (HRR.out.keep K8 (fun ad e hq => by injection e with e; subst e; unfold Only at hq; exact hgh hq))
      have HF := hid (show _ ∧ _ ∧ _ ∧ _ ∧ _ from ⟨B8, hB6', hBO', hS8, hK8⟩)
      clear B8 hB6' hBO' hS8 hK8 K8
      go_roundw
      case rel => exact ⟨1 + 1, D2, vl6, vr6, by first | rfl | go_num, by omega, by rw [Hw2.out, Hez.out], HF.out.1, HF.out.2.1, HF.out.2.2.1, HR8.out, HF.out.2.2.2.1, HF.out.2.2.2.2⟩
      case measure => simp [intOf]
     ·have hezb : (E2 == 0) = false := by simpa using hez
      have hfin : D.turn ns hb = (D2, E2) := by
       rw [turn_runOps, ← List.take_append_drop (1 + 1) (turnOps ns hb), runOps_stop _ _ _ (by rw [Hw2.out]; exact hez), Hw2.out]
      have Hfin := hid hfin
      have Hez := hid hez
      clear hez hfin
      go_wp2_with (first
       | (guard_target = wpList _ _ _ (Oper.mk _ (Op.load 30 _) _ _ _ _ :: _) _ _; refine wpList_load_blk rfl 30 _ rfl b9 0 _ (stv vl6 vr6 D2) 30 _ (by rfl) HB9.out (part0 _) Try.underlying30 rfl info30 ?_)
       | (guard_target = wpList _ _ _ (Oper.mk _ (Op.store 30 _ _) _ _ _ _ :: _) _ _; refine wpList_store_part rfl 30 _ _ rfl b4 0 _ (stv vl6 vr6 D2) 68 (by rfl) (by rfl) HB3.out (by rw [fsv_len rfl]; show 0 + 5 ≤ 11; decide) info30 HS.out.ones ?_; intro w8 B8 K8; rw [fsv_splice rfl rfl] at B8; have B68 := HB6.out.keep K8 (fun e => hne e.symm))
       | (guard_target = wpList _ _ _ (Oper.mk _ (Op.load 68 _) _ _ _ _ :: _) _ _; refine wpList_load_blk rfl 68 _ rfl b4 0 _ (fsv (stv vl6 vr6 D2) seq slot area0 used0 vL vS) 68 _ (by rfl) B8 (part0 _) Try.underlying68 rfl (by rw [fsv_len rfl]; exact info68) ?_)
       | (guard_target = wpList _ _ _ (Oper.mk _ (Op.store 68 _ _) _ _ _ _ :: _) _ _; refine wpList_store_whole rfl 68 _ _ rfl b8 _ (fsv (stv vl6 vr6 D2) seq slot area0 used0 vL vS) 68 (by rfl) (by rfl) B68 (by rw [fsv_len rfl]; rfl) (by rw [fsv_len rfl]; exact info68) (fsv_ones _ _ _ _ HS.out.ones hL hS) ?_; intro w9 B99 K9))
      refine ret_cell_tmp rfl b8 _ 68 _ (.int .i64 E2) (by rfl) (by rfl) B99 Try.underlying68 rfl (by rw [fsv_len rfl]; exact info68) rfl ?_
      have hsz := K8.size
      have hsz9 := K9.size
      rw [Hfin.out]
      exact ⟨vl6, vr6, by rw [pickV_no Hez.out], ((HS.out.stay HB3.out (by decide) (by decide) K8).stay B68 (by decide) (by decide) K9).later (by omega), (HKK.out.own K8 (fun q e => by unfold Only at e; subst e; exact hb4w)).own K9 (fun q e => by unfold Only at e; subst e; exact hb8w)⟩
   ·by_cases hj2 : j = 2
    ·subst hj2
     have hwj := hw
     have hko := runOps_ok ((turnOps ns hb).take 2) Hok.out (fun o ho => turnOps_ok hnsb (by rw [hhl]; exact Nat.le_refl _) o (List.mem_of_mem_take ho))
     rw [hw] at hko
     have hko : Dk.ok ∧ Dk.ops ≤ D.ops + ((turnOps ns hb).take 2).length ∧ Dk.row.length ≤ D.row.length + ((turnOps ns hb).take 2).length := hko
     have hln : ((turnOps ns hb).take 2).length = 2 := by rfl
     rw [hln] at hko
     have Hw := hid hw
     have Htk := hid (show (turnOps ns hb).take (2 + 1) = (turnOps ns hb).take 2 ++ [(⟨1, 0, [], []⟩ : OpV)] from rfl)
     have hdo := fun W (hW : Keep Noth wr W) => do_calls (hSr.keep hW (Dj.noth _)) hko.1 (by omega) (by omega) (⟨1, 0, [], []⟩ : OpV) (turnOps_ok hnsb (by rw [hhl]; exact Nat.le_refl _) _ (List.mem_of_getElem? (i := 2) rfl)) none none 0 0 ⟨by first | exact Reads.nil _ _ | exact hRh.keep hW (fun _ _ => id), Reads.nil _ _⟩
     have hst : ∀ a1 a2, stv a1 a2 Dk = [a1, a2, .int .i64 (Dk.ops : Int), .int .i64 Dk.fuse, .bool Dk.down] := fun a1 a2 => rfl
     rw [(show opv (⟨1, 0, [], []⟩ : OpV) none none 0 0 = flushV from rfl)] at hdo
     have Hdo := hid hdo
     have HRh := hid hRh
     have HSr := hid hSr
     have HK0r := hid K0r
     clear hdo hRh hSr K0r hw hwj hko hln hst
     go_wp2_with fail
     refine wp_region_ordF [(0, true), (1, true), (2, true), (3, true), (4, true), (5, true)] 6 10 [(7, true), (8, true), (9, true), (10, false), (11, false), (12, false)] [(6, false), (7, true), (8, true), (9, true), (11, false), (12, false)] (fun W => BlockIs W b4 (fsv (stv vlj vrj Dk) seq slot area0 used0 vL vS) 68 ∧ BlockIs W bo (turnV ns (some ⟨gh, 0, none⟩) 64 ch) 36) follows_mixed (by kernel_rfl) ⟨B3.drew, BO.drew⟩ ?_
     simp only [List.map_cons, List.map_nil, List.getElem?_cons_succ, List.getElem?_cons_zero, Option.getD_some]
     refine wpO_pure (v := .pointer (some ⟨b4, 0, none⟩)) (by rfl) (fun w' hw' => by go_simp) ?_
     go_frame
     refine wpO_pure (v := .agg (stv vlj vrj Dk).toArray) (by rfl) (fun w' hw' => by exact exec_load_blk 30 _ rfl b4 0 _ (stv vlj vrj Dk) 68 _ (by rfl) hw'.1 (fsv_dev _ rfl _ _ _ _ _ _) Try.underlying30 rfl info30) ?_
     go_frame
     refine wpO_pure (v := .slice (some ⟨bo, 0, none⟩) 3 3) (by rfl) (fun w' hw' => by go_simp) ?_
     go_frame
     refine wpO_pure (v := .int .i64 2) (by rfl) (fun w' hw' => by go_simp) ?_
     go_frame
     refine wpO_pure (v := .pointer (some ⟨bo, 8, none⟩)) (by rfl) (fun w' hw' => by go_simp) ?_
     go_frame
     refine wpO_pure (v := .agg (flushV).toArray) (by rfl) (fun w' hw' => by exact exec_load_blk 36 _ rfl bo 8 _ (flushV) 36 _ (by rfl) hw'.2 (turnV_at2 _ _ _ _) Try.underlying36 rfl info36) (wpO_nil ?_)
     go_frame
     have Kd := (Keep.refl Noth wr).drew
     constructor
     ·refine wpO_call (by rfl) (exec_call' 20 _ _ rfl Try.func20 (by kernel_rfl) (by rfl) #[.agg (stv vlj vrj Dk).toArray, .agg (flushV).toArray] (by simp [Act.eval])) ?_
      refine (Hdo.out _ Kd).mono ?_
      rintro e w5 ⟨vl6, vr6, rfl, S5, K5⟩
      obtain ⟨D2, E2, hDE⟩ : ∃ D2 E2, Dk.doOp (⟨1, 0, [], []⟩ : OpV) = (D2, E2) := ⟨_, _, rfl⟩
      rw [hDE] at S5 ⊢
      have KA := Kd.trans K5 (fun _ _ h => h)
      refine ⟨_, rfl, .inr ⟨B3.keep KA id, BO.keep KA id⟩, ?_⟩
      go_frame
      refine wpO_pure (v := .tuple #[.agg (stv vl6 vr6 D2).toArray, .int .i64 E2]) (by rfl) (fun w' hw' => by go_simp) ?_
      go_frame
      refine wpO_pure (v := .agg (stv vl6 vr6 D2).toArray) (by rfl) (fun w' hw' => by go_simp) ?_
      go_frame
      refine wpO_pure (v := .int .i64 E2) (by rfl) (fun w' hw' => by go_simp) ?_
      go_frame
      refine wpO_alloc_v (by rfl) 30 rfl zst info30 stz zst_cells ?_
      intro b9 w6 hb9 Bz K6
      have KB := KA.trans K6 (fun _ _ h => h)
      refine ⟨.inr ⟨B3.keep KB id, BO.keep KB id⟩, ?_⟩
      go_frame
      refine wpO_store_blk (by rfl) 30 _ _ rfl b9 _ (stv vl6 vr6 D2) 30 (by rfl) (by rfl) Bz rfl info30 S5.ones ?_
      intro w7 B9 K7
      have hsr := HK0r.out.size
      have hsA := KA.size
      have hsB := KB.size
      have hs7 := K7.size
      have hb9r : wr.heap.size ≤ b9 := by omega
      have KC : Keep Noth wr w7 := KB.own K7 (fun q e => by unfold Only at e; subst e; exact hb9r)
      refine ⟨.inr ⟨B3.keep KC id, BO.keep KC id⟩, ?_⟩
      go_frame
      have S6 : StAt w7 (grow F w w7) vl6 vr6 D2 := (((S5.mono (G := grow (grow F w wr) wr w5) (fun q hq => hq)).grown hsr hsA).keep K6 (Dj.noth _)).stay Bz (by decide) (by decide) K7 |>.later (by have := K6.size; omega)
      have KK := HK0r.out.trans KC (fun _ _ h => h)
      have HRR := hid (HRh.out.keep KC (fun _ _ => id))
      have B3 := B3.keep KC id
      have B6 := B6.keep KC id
      have BO := BO.keep KC id
      clear K5 K6 K7 KA KB KC S5 Bz Kd hb9
      refine wpO_run (v := .int .i64 E2) (w1 := w7) (by rfl) (by go_simp) (.inl rfl) (wpO_nil ?_)
      go_frame
      have HDE := hid hDE
      have HB3 := hid B3
      have HB6 := hid B6
      have HBO := hid BO
      have HB9 := hid B9
      have HS := hid S6
      have HKK := hid KK
      clear hDE B3 B6 BO B9 S6 KK
      have hw2 : D.runOps ((turnOps ns hb).take (2 + 1)) = (D2, E2) := by
       rw [Htk.out, runOps_snoc _ _ _ _ Hw.out]
       exact HDE.out
      have Hw2 := hid hw2
      clear hw2
      by_cases hez : E2 = 0
      ·have hezb : (E2 == 0) = true := by simpa using hez
       have Hez := hid hez
       clear hez
       go_wp2_with (first
        | (guard_target = wpList _ _ _ (Oper.mk _ (Op.load 30 _) _ _ _ _ :: _) _ _; refine wpList_load_blk rfl 30 _ rfl b9 0 _ (stv vl6 vr6 D2) 30 _ (by rfl) HB9.out (part0 _) Try.underlying30 rfl info30 ?_)
        | (guard_target = wpList _ _ _ (Oper.mk _ (Op.store 30 _ _) _ _ _ _ :: _) _ _; refine wpList_store_part rfl 30 _ _ rfl b4 0 _ (stv vl6 vr6 D2) 68 (by rfl) (by rfl) HB3.out (by rw [fsv_len rfl]; show 0 + 5 ≤ 11; decide) info30 HS.out.ones ?_; intro w8 B8 K8; rw [fsv_splice rfl rfl] at B8))
       have hsz := K8.size
       have hB6' := HB6.out.keep K8 (fun e => hne e.symm)
       have hBO' := HBO.out.keep K8 (fun e => hneo e.symm)
       have hS8 := (HS.out.stay HB3.out (by decide) (by decide) K8).later hsz
       have hK8 := HKK.out.own K8 (fun q e => by unfold Only at e; subst e; exact hb4w)
       have HR8 := hid (HRR.out.keep K8 (fun ad e hq => by injection e with e; subst e; unfold Only at hq; exact hgh hq))
       have HF := hid (show _ ∧ _ ∧ _ ∧ _ ∧ _ from ⟨B8, hB6', hBO', hS8, hK8⟩)
       clear B8 hB6' hBO' hS8 hK8 K8
       go_roundw
       case rel => exact ⟨2 + 1, D2, vl6, vr6, by first | rfl | go_num, by omega, by rw [Hw2.out, Hez.out], HF.out.1, HF.out.2.1, HF.out.2.2.1, HR8.out, HF.out.2.2.2.1, HF.out.2.2.2.2⟩
       case measure => simp [intOf]
      ·have hezb : (E2 == 0) = false := by simpa using hez
       have hfin : D.turn ns hb = (D2, E2) := by
        rw [turn_runOps, ← List.take_append_drop (2 + 1) (turnOps ns hb), runOps_stop _ _ _ (by rw [Hw2.out]; exact hez), Hw2.out]
       have Hfin := hid hfin
       have Hez := hid hez
       clear hez hfin
       go_wp2_with (first
        | (guard_target = wpList _ _ _ (Oper.mk _ (Op.load 30 _) _ _ _ _ :: _) _ _; refine wpList_load_blk rfl 30 _ rfl b9 0 _ (stv vl6 vr6 D2) 30 _ (by rfl) HB9.out (part0 _) Try.underlying30 rfl info30 ?_)
        | (guard_target = wpList _ _ _ (Oper.mk _ (Op.store 30 _ _) _ _ _ _ :: _) _ _; refine wpList_store_part rfl 30 _ _ rfl b4 0 _ (stv vl6 vr6 D2) 68 (by rfl) (by rfl) HB3.out (by rw [fsv_len rfl]; show 0 + 5 ≤ 11; decide) info30 HS.out.ones ?_; intro w8 B8 K8; rw [fsv_splice rfl rfl] at B8; have B68 := HB6.out.keep K8 (fun e => hne e.symm))
        | (guard_target = wpList _ _ _ (Oper.mk _ (Op.load 68 _) _ _ _ _ :: _) _ _; refine wpList_load_blk rfl 68 _ rfl b4 0 _ (fsv (stv vl6 vr6 D2) seq slot area0 used0 vL vS) 68 _ (by rfl) B8 (part0 _) Try.underlying68 rfl (by rw [fsv_len rfl]; exact info68) ?_)
        | (guard_target = wpList _ _ _ (Oper.mk _ (Op.store 68 _ _) _ _ _ _ :: _) _ _; refine wpList_store_whole rfl 68 _ _ rfl b8 _ (fsv (stv vl6 vr6 D2) seq slot area0 used0 vL vS) 68 (by rfl) (by rfl) B68 (by rw [fsv_len rfl]; rfl) (by rw [fsv_len rfl]; exact info68) (fsv_ones _ _ _ _ HS.out.ones hL hS) ?_; intro w9 B99 K9))
       refine ret_cell_tmp rfl b8 _ 68 _ (.int .i64 E2) (by rfl) (by rfl) B99 Try.underlying68 rfl (by rw [fsv_len rfl]; exact info68) rfl ?_
       have hsz := K8.size
       have hsz9 := K9.size
       rw [Hfin.out]
       exact ⟨vl6, vr6, by rw [pickV_no Hez.out], ((HS.out.stay HB3.out (by decide) (by decide) K8).stay B68 (by decide) (by decide) K9).later (by omega), (HKK.out.own K8 (fun q e => by unfold Only at e; subst e; exact hb4w)).own K9 (fun q e => by unfold Only at e; subst e; exact hb8w)⟩
     ·refine wpO_alloc_v (by rfl) 30 rfl zst info30 stz zst_cells ?_
      intro b9 w6 hb9 Bz K6
      have KB := Kd.trans K6 (fun _ _ h => h)
      refine ⟨.inr ⟨B3.keep KB id, BO.keep KB id⟩, ?_⟩
      go_frame
      refine wpO_call (by rfl) (exec_call' 20 _ _ rfl Try.func20 (by kernel_rfl) (by rfl) #[.agg (stv vlj vrj Dk).toArray, .agg (flushV).toArray] (by simp [Act.eval])) ?_
      refine (Hdo.out _ KB).mono ?_
      rintro e w5 ⟨vl6, vr6, rfl, S5, K5⟩
      obtain ⟨D2, E2, hDE⟩ : ∃ D2 E2, Dk.doOp (⟨1, 0, [], []⟩ : OpV) = (D2, E2) := ⟨_, _, rfl⟩
      rw [hDE] at S5 ⊢
      have KA := KB.trans K5 (fun _ _ h => h)
      refine ⟨_, rfl, .inr ⟨B3.keep KA id, BO.keep KA id⟩, ?_⟩
      go_frame
      refine wpO_pure (v := .tuple #[.agg (stv vl6 vr6 D2).toArray, .int .i64 E2]) (by rfl) (fun w' hw' => by go_simp) ?_
      go_frame
      refine wpO_pure (v := .agg (stv vl6 vr6 D2).toArray) (by rfl) (fun w' hw' => by go_simp) ?_
      go_frame
      refine wpO_pure (v := .int .i64 E2) (by rfl) (fun w' hw' => by go_simp) ?_
      go_frame
      have Bz5 := Bz.keep K5 id
      refine wpO_store_blk (by rfl) 30 _ _ rfl b9 _ (stv vl6 vr6 D2) 30 (by rfl) (by rfl) Bz5 rfl info30 S5.ones ?_
      intro w7 B9 K7
      have hsr := HK0r.out.size
      have hsA := KA.size
      have hsB := KB.size
      have hs5 := K5.size
      have hs7 := K7.size
      have hb9r : wr.heap.size ≤ b9 := by have e : wr.drew.heap.size = wr.heap.size := rfl; omega
      have KC : Keep Noth wr w7 := KA.own K7 (fun q e => by unfold Only at e; subst e; exact hb9r)
      refine ⟨.inr ⟨B3.keep KC id, BO.keep KC id⟩, ?_⟩
      go_frame
      have S6 : StAt w7 (grow F w w7) vl6 vr6 D2 := ((S5.mono (G := grow F w w5) (fun q hq => by
       rcases hq with (hq | hq) | hq
       ·exact .inl hq
       ·exact .inr ⟨hq.1, by have := hq.2; omega⟩
       ·exact .inr ⟨by have := hq.1; omega, hq.2⟩)).stay Bz5 (by decide) (by decide) K7).later hs7
      have KK := HK0r.out.trans KC (fun _ _ h => h)
      have HRR := hid (HRh.out.keep KC (fun _ _ => id))
      have B3 := B3.keep KC id
      have B6 := B6.keep KC id
      have BO := BO.keep KC id
      clear K5 K6 K7 KA KB KC S5 Bz Bz5 Kd hb9
      refine wpO_run (v := .int .i64 E2) (w1 := w7) (by rfl) (by go_simp) (.inl rfl) (wpO_nil ?_)
      go_frame
      have HDE := hid hDE
      have HB3 := hid B3
      have HB6 := hid B6
      have HBO := hid BO
      have HB9 := hid B9
      have HS := hid S6
      have HKK := hid KK
      clear hDE B3 B6 BO B9 S6 KK
      have hw2 : D.runOps ((turnOps ns hb).take (2 + 1)) = (D2, E2) := by
       rw [Htk.out, runOps_snoc _ _ _ _ Hw.out]
       exact HDE.out
      have Hw2 := hid hw2
      clear hw2
      by_cases hez : E2 = 0
      ·have hezb : (E2 == 0) = true := by simpa using hez
       have Hez := hid hez
       clear hez
       go_wp2_with (first
        | (guard_target = wpList _ _ _ (Oper.mk _ (Op.load 30 _) _ _ _ _ :: _) _ _; refine wpList_load_blk rfl 30 _ rfl b9 0 _ (stv vl6 vr6 D2) 30 _ (by rfl) HB9.out (part0 _) Try.underlying30 rfl info30 ?_)
        | (guard_target = wpList _ _ _ (Oper.mk _ (Op.store 30 _ _) _ _ _ _ :: _) _ _; refine wpList_store_part rfl 30 _ _ rfl b4 0 _ (stv vl6 vr6 D2) 68 (by rfl) (by rfl) HB3.out (by rw [fsv_len rfl]; show 0 + 5 ≤ 11; decide) info30 HS.out.ones ?_; intro w8 B8 K8; rw [fsv_splice rfl rfl] at B8))
       have hsz := K8.size
       have hB6' := HB6.out.keep K8 (fun e => hne e.symm)
       have hBO' := HBO.out.keep K8 (fun e => hneo e.symm)
       have hS8 := (HS.out.stay HB3.out (by decide) (by decide) K8).later hsz
       have hK8 := HKK.out.own K8 (fun q e => by unfold Only at e; subst e; exact hb4w)
       have HR8 := hid (HRR.out.keep K8 (fun ad e hq => by injection e with e; subst e; unfold Only at hq; exact hgh hq))
       have HF := hid (show _ ∧ _ ∧ _ ∧ _ ∧ _ from ⟨B8, hB6', hBO', hS8, hK8⟩)
       clear B8 hB6' hBO' hS8 hK8 K8
       go_roundw
       case rel => exact ⟨2 + 1, D2, vl6, vr6, by first | rfl | go_num, by omega, by rw [Hw2.out, Hez.out], HF.out.1, HF.out.2.1, HF.out.2.2.1, HR8.out, HF.out.2.2.2.1, HF.out.2.2.2.2⟩
       case measure => simp [intOf]
      ·have hezb : (E2 == 0) = false := by simpa using hez
       have hfin : D.turn ns hb = (D2, E2) := by
        rw [turn_runOps, ← List.take_append_drop (2 + 1) (turnOps ns hb), runOps_stop _ _ _ (by rw [Hw2.out]; exact hez), Hw2.out]
       have Hfin := hid hfin
       have Hez := hid hez
       clear hez hfin
       go_wp2_with (first
        | (guard_target = wpList _ _ _ (Oper.mk _ (Op.load 30 _) _ _ _ _ :: _) _ _; refine wpList_load_blk rfl 30 _ rfl b9 0 _ (stv vl6 vr6 D2) 30 _ (by rfl) HB9.out (part0 _) Try.underlying30 rfl info30 ?_)
        | (guard_target = wpList _ _ _ (Oper.mk _ (Op.store 30 _ _) _ _ _ _ :: _) _ _; refine wpList_store_part rfl 30 _ _ rfl b4 0 _ (stv vl6 vr6 D2) 68 (by rfl) (by rfl) HB3.out (by rw [fsv_len rfl]; show 0 + 5 ≤ 11; decide) info30 HS.out.ones ?_; intro w8 B8 K8; rw [fsv_splice rfl rfl] at B8; have B68 := HB6.out.keep K8 (fun e => hne e.symm))
        | (guard_target = wpList _ _ _ (Oper.mk _ (Op.load 68 _) _ _ _ _ :: _) _ _; refine wpList_load_blk rfl 68 _ rfl b4 0 _ (fsv (stv vl6 vr6 D2) seq slot area0 used0 vL vS) 68 _ (by rfl) B8 (part0 _) Try.underlying68 rfl (by rw [fsv_len rfl]; exact info68) ?_)
        | (guard_target = wpList _ _ _ (Oper.mk _ (Op.store 68 _ _) _ _ _ _ :: _) _ _; refine wpList_store_whole rfl 68 _ _ rfl b8 _ (fsv (stv vl6 vr6 D2) seq slot area0 used0 vL vS) 68 (by rfl) (by rfl) B68 (by rw [fsv_len rfl]; rfl) (by rw [fsv_len rfl]; exact info68) (fsv_ones _ _ _ _ HS.out.ones hL hS) ?_; intro w9 B99 K9))
       refine ret_cell_tmp rfl b8 _ 68 _ (.int .i64 E2) (by rfl) (by rfl) B99 Try.underlying68 rfl (by rw [fsv_len rfl]; exact info68) rfl ?_
       have hsz := K8.size
       have hsz9 := K9.size
       rw [Hfin.out]
       exact ⟨vl6, vr6, by rw [pickV_no Hez.out], ((HS.out.stay HB3.out (by decide) (by decide) K8).stay B68 (by decide) (by decide) K9).later (by omega), (HKK.out.own K8 (fun q e => by unfold Only at e; subst e; exact hb4w)).own K9 (fun q e => by unfold Only at e; subst e; exact hb8w)⟩
    ·obtain rfl : j = 3 := by omega
     have hfin : D.turn ns hb = (Dk, 0) := by rw [turn_runOps]; exact hw
     have Hfin := hid hfin
     have HSr := hid hSr
     have HK0r := hid K0r
     clear hw hfin hRh hSr K0r hj hj0 hj1 hj2
     go_wp2_with (first
      | (guard_target = wpList _ _ _ (Oper.mk _ (Op.load 30 _) _ _ _ _ :: _) _ _; refine wpList_load_blk rfl 30 _ rfl b4 0 _ (stv vlj vrj Dk) 68 _ (by rfl) B3 (fsv_dev _ rfl _ _ _ _ _ _) Try.underlying30 rfl info30 ?_)
      | (guard_target = wpList _ _ _ (Oper.mk _ (Op.build 68 _) _ _ _ _ :: _) _ _; refine wpList_run rfl _ _ (exec_build68c _ _ _ _ _ _ rfl (SV := stv vlj vrj Dk) rfl (N : Int) ns (area : Int) (used : Int) A n c (by rfl) (by rfl) (by rw [Hns1.out]; rfl) (by rfl) (by rfl) (by rfl)) ?_)
      | (guard_target = wpList _ _ _ (Oper.mk _ (Op.store 68 _ _) _ _ _ _ :: _) _ _; refine wpList_store_whole rfl 68 _ _ rfl b8 _ (fsv (stv vlj vrj Dk) (N : Int) ns (area : Int) (used : Int) (.slice A n c) (.slice none 0 0)) 68 (by rfl) (by rfl) B6 (by rw [fsv_len rfl]; rfl) (by rw [fsv_len rfl]; exact info68) (fsv_ones _ _ _ _ HSr.out.ones rfl rfl) ?_; intro w9 B99 K9))
     refine ret_cell_tmp rfl b8 _ 68 _ (.int .i64 0) (by rfl) (by rfl) B99 Try.underlying68 rfl (by rw [fsv_len rfl]; exact info68) rfl ?_
     rw [Hfin.out]
     exact ⟨vlj, vrj, by rw [pickV_ok], (HSr.out.stay B6 (by decide) (by decide) K9).later K9.size, HK0r.out.own K9 (fun q e => by unfold Only at e; subst e; exact hb8w)⟩
theorem refTurn_calls {w : World} {F : Nat → Prop} {vl vr : Value} {D : DS} (H : StAt w F vl vr D) (hok : D.ok) (ho : D.ops ≤ 1000000000) (hr : D.row.length ≤ 1000000000) (h4 : 2 ≤ D.l.length) (seq slot area0 used0 : Int) (vL vS : Value) (hL : vL.oneCell' = true) (hS : vS.oneCell' = true)
  (area used n c : Nat) (A : Option Addr) (ha : area ≤ 1048576) (hu : used ≤ 1048576) (hn : n ≤ 1099511627776) (ns : Int) (hns : ns = if slot = 0 then 1 else 0) :
  Calls Try.prog 104 #[.agg (fsv (stv vl vr D) seq slot area0 used0 vL vS).toArray, .int .i64 (area : Int), .int .i64 (used : Int), .slice A n c] w (fun e w' => ∃ vl' vr', e = .returned (.tuple #[.agg (pickV (D.turn ns (headB (nextF D) area used n)).2 (fsv (stv vl' vr' (D.turn ns (headB (nextF D) area used n)).1) (nextF D : Int) ns area used (.slice A n c) (.slice none 0 0)) (fsv (stv vl' vr' (D.turn ns (headB (nextF D) area used n)).1) seq slot area0 used0 vL vS)).toArray, .int .i64 (D.turn ns (headB (nextF D) area used n)).2]) ∧ StAt w' (grow F w w') vl' vr' (D.turn ns (headB (nextF D) area used n)).1 ∧ Keep Noth w w') := by
 by_cases hs : slot = 0
 ·exact refTurn_calls0 H hok ho hr h4 seq slot area0 used0 vL vS hL hS area used n c A ha hu hn hs ns hns
 ·exact refTurn_calls1 H hok ho hr h4 seq slot area0 used0 vL vS hL hS area used n c A ha hu hn hs ns hns
end Go.Proofs.Ytffcglfepobdjaa
set_option maxHeartbeats 2000000
namespace Go.Proofs.Ytffcglfepobdjaa
open Go.RowKit
section
variable {P : Program} {ops : Array Oper} {S : World → Prop} {r : List (Oper × Bool)} {o : Oper} {a : Act} {w : World}
theorem wpO_slice0 {Q : Act → World → Prop} (hg : Region.wanted o (yielded ops a.tmps) = true) (T E : TypeId) (size : Nat) (ho : o.op = .buildSlice T 0 #[]) (hT : P.underlying T = some (.slice E)) {i : TypeInfo} (hi : P.info? E = some i)
  (h : ∀ b w1, w.heap.size ≤ b → Rows w1 (fun q => q = b) E size (.slice (some ⟨b, 0, none⟩) 0 0) [] → Keep Noth w w1 → (r = [] ∨ S w1) ∧ wpO P ops Q S r (a.put o.dst (.slice (some ⟨b, 0, none⟩) 0 0)) w1) : wpO P ops Q S ((o, false) :: r) a w := by
 have := h _ _ (Nat.le_refl _) (Rows.empty w E size) ((Keep.refl _ _).alloc _)
 exact wpO_run hg (exec_buildSlice0 T E ho hT hi) this.1 this.2
end
theorem wpO_appendL {ops : Array Oper} {S : World → Prop} {r : List (Oper × Bool)} {o : Oper} {a : Act} {w : World} {Q : Act → World → Prop} (hg : Region.wanted o (yielded ops a.tmps) = true) (s x : Operand) (ho : o.op = .call { callee := .builtin .append, args := #[s, x], argTypes := #[63, 63] }) {F G : Nat → Prop} {v : Value} {l m : List (List UInt8)} (hs : a.eval s = v) (H : RowsL w F G v l)
  {A : Option Addr} {n c : Nat} (hx : a.eval x = .slice A n c) (hn : n = m.length) (hA : A = none → c = 0) (vs2 : List Value) (h2 : vs2.length = m.length) (hR : Reads w A vs2) (hE : ∀ (i : Nat) (x : Value) (b : List UInt8), vs2[i]? = some x → m[i]? = some b → RecVal w G x b) (hl : l.length + m.length ≤ 1099511627776)
  (hd : ∀ q, v.ownBlock = some q → ¬ G q)
  (h : ∀ v' w', RowsL w' (fun k => v.ownBlock = some k ∨ (w.heap.size ≤ k ∧ k < w'.heap.size)) G v' (l ++ m) → Keep (fun k => v.ownBlock = some k) w w' → (r = [] ∨ S w') ∧ wpO Try.prog ops Q S r (a.put o.dst v') w') : wpO Try.prog ops Q S ((o, false) :: r) a w := by
 obtain ⟨v', w', e1, e2, e3⟩ := exec_appendL s x ho hs H hx hn hA vs2 h2 hR hE hl hd
 have := h v' w' e2 e3
 exact wpO_run hg e1 this.1 this.2
theorem RowsL.empty {w : World} {F G : Nat → Prop} {v : Value} (h : Rows w F 33 1 v []) : RowsL w F G v [] := ⟨[], rfl, h, fun i x b e => by simp at e⟩
/-- The document's state in a world. -/
structure RefAt (w : World) (G : Nat → Prop) (cs : List Value) (R : RS) : Prop where
 ex : ∃ vl vr A a B b, cs = fsv (stv vl vr R.D) (R.own.seq : Int) R.slot (R.own.area : Int) (R.own.used : Int) (.slice A R.l.length a) (.slice B R.st.length b) ∧ StAt w G vl vr R.D ∧ ReadsL w G A R.l ∧ ReadsL w G B R.st ∧ (A = none → a = 0) ∧ (B = none → b = 0)
 glt : Lt G w
def RefPost (w : World) (G : Nat → Prop) (X : RS × Int) (e : Ending) (w' : World) : Prop :=
 ∃ cs, e = .returned (.tuple #[.agg cs.toArray, .int .i64 X.2]) ∧ RefAt w' (grow G w w') cs X.1 ∧ Keep Noth w w'
theorem RefAt.keep {w w' : World} {G H : Nat → Prop} {cs : List Value} {R : RS} (h : RefAt w G cs R) (k : Keep H w w') (hG : Dj G H) : RefAt w' G cs R := by
 obtain ⟨vl, vr, A, a, B, b, e, h1, h2, h3, h4, h5⟩ := h.ex
 exact ⟨⟨vl, vr, A, a, B, b, e, h1.keep k hG, h2.keep k hG, h3.keep k hG, h4, h5⟩, h.glt.up k.size⟩
theorem RefAt.grown {w w' : World} {G : Nat → Prop} {cs : List Value} {R : RS} (h : RefAt w G cs R) (k : Keep Noth w w') : RefAt w' (grow G w w') cs R := by
 obtain ⟨vl, vr, A, a, B, b, e, h1, h2, h3, h4, h5⟩ := (h.keep k (Dj.noth _)).ex
 exact ⟨⟨vl, vr, A, a, B, b, e, h1.mono (fun _ hq => .inl hq), h2.mono (fun _ hq => .inl hq), h3.mono (fun _ hq => .inl hq), h4, h5⟩, grow_lt h.glt k.size⟩
theorem RefAt.len {w : World} {G : Nat → Prop} {cs : List Value} {R : RS} (h : RefAt w G cs R) : cs.length = 11 := by
 obtain ⟨vl, vr, A, a, B, b, e, -⟩ := h.ex
 rw [e]; exact fsv_len rfl _ _ _ _ _ _
theorem RefAt.one {w : World} {G : Nat → Prop} {cs : List Value} {R : RS} (h : RefAt w G cs R) : ∀ u ∈ cs, u.oneCell' = true := by
 obtain ⟨vl, vr, A, a, B, b, e, h1, -⟩ := h.ex
 rw [e]; exact fsv_ones _ _ _ _ h1.ones rfl rfl
theorem refSeal_calls {w : World} {G : Nat → Prop} {FS : List Value} {R : RS} (H : RefAt w G FS R) (hg : R.good) (hmo : R.more = moreL R.st) (ho : R.D.ops ≤ 100000000) (hr : R.D.row.length ≤ 100000000) :
  Calls Try.prog 85 #[.agg FS.toArray] w (RefPost w G R.sealz) := by
 have hlen := H.len
 have hone := H.one
 obtain ⟨vl, vr, A, a, B, b, hFS, hst, hl, hsl, ha, hb⟩ := H.ex
 have g4 : FS[4]? = some (.bool R.D.down) := by rw [hFS]; rfl
 have g7 : FS[7]? = some (.int .i64 (R.own.area : Int)) := by rw [hFS]; rfl
 have g8 : FS[8]? = some (.int .i64 (R.own.used : Int)) := by rw [hFS]; rfl
 have g9 : FS[9]? = some (.slice A R.l.length a) := by rw [hFS]; rfl
 have g10 : FS[10]? = some (.slice B R.st.length b) := by rw [hFS]; rfl
 have hnx := fun W (hW : Keep Noth w W) => refNext_calls (hst.keep hW (Dj.noth _)) hg.dok (by omega) (by have := hg.four; omega) (R.own.seq : Int) R.slot (R.own.area : Int) (R.own.used : Int) (.slice A R.l.length a) (.slice B R.st.length b)
 rw [← hFS] at hnx
 have hnN := nextF_le R.D
 have hpost : RefPost w G R.sealz = fun e w' => RefPost w G R.sealz e w' := rfl
 rw [hpost]
 have HH := hid H
 have Hlen := hid hlen
 have Hone := hid hone
 have Hst := hid hst
 have Hl := hid hl
 have Hsl := hid hsl
 have Ha := hid ha
 have Hb := hid hb
 have Hnx := hid hnx
 have HFS := hid hFS
 have Hg := hid hg
 have Hmo := hid hmo
 clear H hlen hone hst hl hsl ha hb hnx hFS hg hpost hmo
 by_cases hst : R.st = []
 ·have hs : R.sealz = (R, 0) := by unfold RS.sealz; rw [if_pos hst]
  have t0 : ((R.st.length : Int) == 0) = true := by rw [hst]; rfl
  have Hs := hid hs
  clear hst hs
  go_enter Try.func85, Try.ntmps85
  go_wp2_with (first
   | (guard_target = wpList _ _ _ (Oper.mk _ (Op.box 68 _) _ _ _ _ :: _) _ _; refine wpList_box_v rfl 68 _ rfl FS (by rfl) ?_; intro b1 w1 hb1 B1 K1)
   | (guard_target = wpList _ _ _ (Oper.mk _ (Op.alloc 68) _ _ _ _ :: _) _ _; refine wpList_alloc_v rfl 68 rfl (.agg zfs.toArray) info68 zfs zfs_cells ?_; intro b2 w2 hb2 B2 K2; have B12 := B1.keep K2 id; have c10 : w2.cell? ⟨b1, 10, none⟩ = some (.slice B R.st.length b) := (B12.cell 10).trans g10; have c4 : w2.cell? ⟨b1, 4, none⟩ = some (.bool R.D.down) := (B12.cell 4).trans (g4.trans (by first | rfl | rw [hd])))
   | (guard_target = wpList _ _ _ (Oper.mk _ (Op.load 68 _) _ _ _ _ :: _) _ _; refine wpList_load_blk rfl 68 _ rfl b1 0 _ FS 68 _ (by rfl) B12 (part0 _) Try.underlying68 rfl (by rw [Hlen.out]; exact info68) ?_)
   | (guard_target = wpList _ _ _ (Oper.mk _ (Op.store 68 _ _) _ _ _ _ :: _) _ _; refine wpList_store_whole rfl 68 _ _ rfl b2 _ FS 68 (by rfl) (by rfl) B2 (by rw [Hlen.out]; rfl) (by rw [Hlen.out]; exact info68) Hone.out ?_; intro w9 B9 K9)
   )
  refine ret_cell_tmp rfl b2 _ 68 _ (.int .i64 0) (by rfl) (by rfl) B9 Try.underlying68 rfl (by rw [Hlen.out]; exact info68) rfl ?_
  rw [Hs.out]
  have hb2w : w.heap.size ≤ b2 := by have := K1.size; omega
  have KF := (K1.trans K2 (fun _ _ h => h)).own K9 (fun q e => by unfold Only at e; subst e; exact hb2w)
  exact ⟨FS, rfl, HH.out.grown KF, KF⟩
 have t0 : ((R.st.length : Int) == 0) = false := by
  have := List.length_pos_iff.2 hst
  simp; exact hst
 by_cases hd : R.D.down = true
 ·have hs : R.sealz = (R, 100) := by unfold RS.sealz; rw [if_neg hst, if_pos hd]
  have Hs := hid hs
  rw [hd] at g4
  clear hst hs hnN
  go_enter Try.func85, Try.ntmps85
  go_wp2_with (first
   | (guard_target = wpList _ _ _ (Oper.mk _ (Op.box 68 _) _ _ _ _ :: _) _ _; refine wpList_box_v rfl 68 _ rfl FS (by rfl) ?_; intro b1 w1 hb1 B1 K1)
   | (guard_target = wpList _ _ _ (Oper.mk _ (Op.alloc 68) _ _ _ _ :: _) _ _; refine wpList_alloc_v rfl 68 rfl (.agg zfs.toArray) info68 zfs zfs_cells ?_; intro b2 w2 hb2 B2 K2; have B12 := B1.keep K2 id; have c10 : w2.cell? ⟨b1, 10, none⟩ = some (.slice B R.st.length b) := (B12.cell 10).trans g10; have c4 : w2.cell? ⟨b1, 4, none⟩ = some (.bool R.D.down) := (B12.cell 4).trans (g4.trans (by first | rfl | rw [hd])))
   | (guard_target = wpList _ _ _ (Oper.mk _ (Op.load 68 _) _ _ _ _ :: _) _ _; refine wpList_load_blk rfl 68 _ rfl b1 0 _ FS 68 _ (by rfl) B12 (part0 _) Try.underlying68 rfl (by rw [Hlen.out]; exact info68) ?_)
   | (guard_target = wpList _ _ _ (Oper.mk _ (Op.store 68 _ _) _ _ _ _ :: _) _ _; refine wpList_store_whole rfl 68 _ _ rfl b2 _ FS 68 (by rfl) (by rfl) B2 (by rw [Hlen.out]; rfl) (by rw [Hlen.out]; exact info68) Hone.out ?_; intro w9 B9 K9)
   )
  refine ret_cell_tmp rfl b2 _ 68 _ (.int .i64 100) (by rfl) (by rfl) B9 Try.underlying68 rfl (by rw [Hlen.out]; exact info68) rfl ?_
  rw [Hs.out]
  have hb2w : w.heap.size ≤ b2 := by have := K1.size; omega
  have KF := (K1.trans K2 (fun _ _ h => h)).own K9 (fun q e => by unfold Only at e; subst e; exact hb2w)
  exact ⟨FS, rfl, HH.out.grown KF, KF⟩
 have hd : R.D.down = false := by simpa using hd
 rw [hd] at g4
 have Hst0 := hid hst
 have Hd := hid hd
 have Hn4 := hid (show 4 ≤ R.D.l.length from Hg.out.four)
 clear hst
 go_enter Try.func85, Try.ntmps85
 go_wp2_with (first
  | (guard_target = wpList _ _ _ (Oper.mk _ (Op.box 68 _) _ _ _ _ :: _) _ _; refine wpList_box_v rfl 68 _ rfl FS (by rfl) ?_; intro b1 w1 hb1 B1 K1)
  | (guard_target = wpList _ _ _ (Oper.mk _ (Op.alloc 68) _ _ _ _ :: _) _ _; refine wpList_alloc_v rfl 68 rfl (.agg zfs.toArray) info68 zfs zfs_cells ?_; intro b2 w2 hb2 B2 K2; have B12 := B1.keep K2 id; have c10 : w2.cell? ⟨b1, 10, none⟩ = some (.slice B R.st.length b) := (B12.cell 10).trans g10; have c4 : w2.cell? ⟨b1, 4, none⟩ = some (.bool R.D.down) := (B12.cell 4).trans (g4.trans (by first | rfl | rw [hd])))
  | (guard_target = wpList _ _ _ (Oper.mk _ (Op.load 68 _) _ _ _ _ :: _) _ _; refine wpList_load_blk rfl 68 _ rfl b1 0 _ FS 68 _ (by rfl) B12 (part0 _) Try.underlying68 rfl (by rw [Hlen.out]; exact info68) ?_)
  | (guard_target = wpList _ _ _ (Oper.mk _ (Op.store 68 _ _) _ _ _ _ :: _) _ _; refine wpList_store_whole rfl 68 _ _ rfl b2 _ FS 68 (by rfl) (by rfl) B2 (by rw [Hlen.out]; rfl) (by rw [Hlen.out]; exact info68) Hone.out ?_; intro w9 B9 K9)
  )
 have K02 : Keep Noth w w2 := K1.trans K2 (fun _ _ h => h)
 refine (Hnx.out w2 K02).mono ?_
 rintro e w3 ⟨rfl, K3⟩
 have K03 : Keep Noth w w3 := K02.trans K3 (fun _ _ h => h)
 have B13 := B12.keep K3 id
 have B23 := B2.keep K3 id
 have hb1w : w.heap.size ≤ b1 := hb1
 have hb2w0 : w.heap.size ≤ b2 := by have := K1.size; omega
 have hne : b1 ≠ b2 := by have := B1.lt; omega
 by_cases hfar : 1099511627776 ≤ nextF R.D
 ·have hs : R.sealz = (R, 111) := by unfold RS.sealz; rw [if_neg Hst0.out, if_neg (by rw [hd]; decide), if_pos hfar]
  have hfar' : (nextF R.D : Int) ≥ 1099511627776 := by omega
  have Hs := hid hs
  clear hs c10 c4
  go_wp2_with (first
   | (guard_target = wpList _ _ _ (Oper.mk _ (Op.load 68 _) _ _ _ _ :: _) _ _; refine wpList_load_blk rfl 68 _ rfl b1 0 _ FS 68 _ (by rfl) B13 (part0 _) Try.underlying68 rfl (by rw [Hlen.out]; exact info68) ?_)
   | (guard_target = wpList _ _ _ (Oper.mk _ (Op.store 68 _ _) _ _ _ _ :: _) _ _; refine wpList_store_whole rfl 68 _ _ rfl b2 _ FS 68 (by rfl) (by rfl) B23 (by rw [Hlen.out]; rfl) (by rw [Hlen.out]; exact info68) Hone.out ?_; intro w9 B9 K9)
   )
  refine ret_cell_tmp rfl b2 _ 68 _ (.int .i64 111) (by rfl) (by rfl) B9 Try.underlying68 rfl (by rw [Hlen.out]; exact info68) rfl ?_
  rw [Hs.out]
  have hb2w : w.heap.size ≤ b2 := by have := K1.size; omega
  have KF := (K03).own K9 (fun q e => by unfold Only at e; subst e; exact hb2w)
  exact ⟨FS, rfl, HH.out.grown KF, KF⟩
 have hs : R.sealz = R.turns R.sealHd (R.l ++ R.st) := by unfold RS.sealz; rw [if_neg Hst0.out, if_neg (by rw [hd]; decide), if_neg hfar]
 have hfar' : decide ((nextF R.D : Int) ≥ 1099511627776) = false := by simp; omega
 have Hs := hid hs
 have Hfar := hid hfar
 have HK3 := hid K03
 have Hi33 : Hid (∃ i, Try.prog.info? 33 = some i) := hid (by cases h : Try.prog.info? 33 with
  | none => have := info33; rw [h] at this; cases this
  | some i => exact ⟨i, rfl⟩)
 obtain ⟨i33, hi33⟩ := Hi33.out
 have Hi33 := hid hi33
 clear hs c10 c4 B12 B1 B2 K1 K2 K3 K02 hb1 hb2 hi33
 have q1 : IntKind.i64.wrap ((R.own.used : Int) + (moreL R.st : Int)) = ((R.own.used + R.more : Nat) : Int) := by
  have := Hg.out.used
  have := half_le Hg.out.dok
  rw [← Hmo.out, ← Int.natCast_add]; exact wrapN (by omega)
 go_wp2_with fail
 refine wp_region_ordF [(0, true), (1, true), (2, true), (3, true), (4, true), (5, true), (6, true), (10, true), (11, true), (13, true), (14, true)] 7 9 [(8, true), (9, false), (12, false), (15, false), (16, false), (17, true), (18, true), (19, false), (20, false)] [(7, false), (8, true), (12, false), (15, false), (16, false), (17, true), (18, true), (19, false), (20, false)] (fun W => BlockIs W b1 FS 68) follows_mixed (by kernel_rfl) B13.drew ?_
 simp only [List.map_cons, List.map_nil, List.getElem?_cons_succ, List.getElem?_cons_zero, Option.getD_some]
 refine wpO_pure (v := .agg FS.toArray) (by rfl) (fun w' hw' => by exact exec_load_blk 68 _ rfl b1 0 FS FS 68 _ (by rfl) hw' (part0 _) Try.underlying68 rfl (by rw [Hlen.out]; exact info68)) ?_
 go_frame
 refine wpO_pure (v := .pointer (some ⟨b1, 7, none⟩)) (by rfl) (fun w' hw' => by go_simp) ?_
 go_frame
 refine wpO_pure (v := .int .i64 (R.own.area : Int)) (by rfl) (fun w' hw' => by have hc : w'.cell? ⟨b1, 7, none⟩ = some (.int .i64 (R.own.area : Int)) := (hw'.cell 7).trans g7; go_simp) ?_
 go_frame
 refine wpO_pure (v := .pointer (some ⟨b1, 8, none⟩)) (by rfl) (fun w' hw' => by go_simp) ?_
 go_frame
 refine wpO_pure (v := .int .i64 (R.own.used : Int)) (by rfl) (fun w' hw' => by have hc : w'.cell? ⟨b1, 8, none⟩ = some (.int .i64 (R.own.used : Int)) := (hw'.cell 8).trans g8; go_simp) ?_
 go_frame
 refine wpO_pure (v := .pointer (some ⟨b1, 10, none⟩)) (by rfl) (fun w' hw' => by go_simp) ?_
 go_frame
 refine wpO_pure (v := .slice B R.st.length b) (by rfl) (fun w' hw' => by have hc : w'.cell? ⟨b1, 10, none⟩ = some (.slice B R.st.length b) := (hw'.cell 10).trans g10; go_simp) ?_
 go_frame
 refine wpO_pure (v := .pointer (some ⟨b1, 9, none⟩)) (by rfl) (fun w' hw' => by go_simp) ?_
 go_frame
 refine wpO_pure (v := .slice A R.l.length a) (by rfl) (fun w' hw' => by have hc : w'.cell? ⟨b1, 9, none⟩ = some (.slice A R.l.length a) := (hw'.cell 9).trans g9; go_simp) ?_
 go_frame
 refine wpO_pure (v := .pointer (some ⟨b1, 10, none⟩)) (by rfl) (fun w' hw' => by go_simp) ?_
 go_frame
 refine wpO_pure (v := .slice B R.st.length b) (by rfl) (fun w' hw' => by have hc : w'.cell? ⟨b1, 10, none⟩ = some (.slice B R.st.length b) := (hw'.cell 10).trans g10; go_simp) (wpO_nil ?_)
 go_frame
 have hll := Hg.out.ll
 have hstl := Hg.out.stl
 have hused := Hg.out.used
 have hhl := half_le Hg.out.dok
 have hglt := HH.out.glt
 have hmore := fun W (hW : Keep Noth w W) => more_calls W G B b R.st (Hsl.out.keep hW (Dj.noth _)) (by omega) (fun x hx => by have := Hg.out.st4 x hx; omega) (by have := Hmo.out; omega)
 have Hmore := hid hmore
 have Kd := HK3.out.trans (Keep.refl Noth w3).drew (fun _ _ h => h)
 clear hmore
 constructor
 ·refine wpO_call (by rfl) (exec_call' 83 _ _ rfl Try.func83 (by kernel_rfl) (by rfl) #[.slice B R.st.length b] (by simp [Act.eval])) ?_
  refine (Hmore.out _ Kd).mono ?_
  rintro e w' ⟨rfl, rfl⟩
  refine ⟨_, rfl, .inr B13.drew, ?_⟩
  go_frame
  refine wpO_pure (v := .int .i64 ((R.own.used + R.more : Nat) : Int)) (by rfl) (fun w' hw' => by go_simp) ?_
  go_frame
  refine wpO_slice0 (by rfl) 63 33 1 rfl sl63 Hi33.out ?_
  intro b4 w4 hb4 R4 K4
  refine ⟨.inr (B13.drew.keep K4 id), ?_⟩
  go_frame
  have KA := Kd.trans K4 (fun _ _ h => h)
  have B14 := B13.drew.keep K4 id
  have hb4w : w.heap.size ≤ b4 := by have := Kd.size; omega
  have HB24 := hid (B23.drew.keep K4 id)
  have hb12 : b1 < b4 := by have := B13.lt; have e : w3.drew.heap.size = w3.heap.size := rfl; omega
  have hb4G : ¬ G b4 := fun e => by have := hglt _ e; omega
  have hl4 := Hl.out.keep KA (Dj.noth _)
  obtain ⟨vs1, q1l, q1r, q1e⟩ := hl4.parts
  refine wpO_appendL (by rfl) _ _ rfl (F := fun q => q = b4) (G := G) (v := .slice (some ⟨b4, 0, none⟩) 0 0) (l := []) (m := R.l) (by rfl) (RowsL.empty R4) (A := A) (n := R.l.length) (c := a) (by rfl) rfl Ha.out vs1 q1l q1r q1e (by simp; omega) (fun q e => by injection e with e; subst e; exact hb4G) ?_
  intro v5 w5 R5 K5
  have K05 : Keep Noth w w5 := KA.own K5 (fun q e => by injection e with e; subst e; exact hb4w)
  have B15 := B14.keep K5 (fun e => by injection e with e; have e : b4 = b1 := e; omega)
  have HB25 := hid (HB24.out.keep K5 (fun e => by injection e with e; have e : b4 = b2 := e; have := B23.lt; have e2 : w3.drew.heap.size = w3.heap.size := rfl; omega))
  refine ⟨.inr B15, ?_⟩
  go_frame
  have hs4 : w3.heap.size ≤ w4.heap.size := K4.size
  have hb4u : b4 < w4.heap.size := (RowsL.own (RowsL.empty (G := G) R4) b4 rfl).2
  have hg4 := KA.size
  have own5 : ∀ q, v5.ownBlock = some q → w.heap.size ≤ q ∧ b1 < q ∧ b2 < q := fun q hq => by
   have h1 := B13.lt
   have h2 := B23.lt
   have h3 : w3.drew.heap.size = w3.heap.size := rfl
   rcases (R5.own q hq).1 with e | e
   ·injection e with e; have e : b4 = q := e; omega
   ·have := e.1; omega
  obtain ⟨vs2, p1l, p1r, p1e⟩ := (Hsl.out.keep K05 (Dj.noth _)).parts
  refine wpO_appendL (by rfl) _ _ rfl (G := G) (v := v5) (l := R.l) (m := R.st) (by rfl) R5 (A := B) (n := R.st.length) (c := b) (by rfl) rfl Hb.out vs2 p1l p1r p1e (by omega) (fun q e e2 => by have := (own5 q e).1; have := hglt _ e2; omega) ?_
  intro v6 w6 R6 K6
  have K06 : Keep Noth w w6 := K05.own K6 (fun q e => (own5 q e).1)
  have B16 := B15.keep K6 (fun e => by have := (own5 _ e).2.1; omega)
  have HB26 := hid (HB25.out.keep K6 (fun e => by have := (own5 _ e).2.2; omega))
  refine ⟨.inr B16, ?_⟩
  go_frame
  obtain ⟨A6, c6, hv6, hn6⟩ := R6.val
  subst hv6
  have hln : (R.l ++ R.st).length = R.l.length + R.st.length := List.length_append
  obtain ⟨n6, hn⟩ : ∃ n6, n6 = (R.l ++ R.st).length := ⟨_, rfl⟩
  have S6 := Hst.out.keep K06 (Dj.noth _)
  have hl4096 := Hg.out.dok.most
  have hn4 := Hn4.out
  have harea := Hg.out.area
  have htn := refTurn_calls S6 Hg.out.dok (by omega) (by omega) (by omega) (R.own.seq : Int) R.slot (R.own.area : Int) (R.own.used : Int) (.slice A R.l.length a) (.slice B R.st.length b) rfl rfl R.own.area (R.own.used + R.more) n6 c6 A6 (by omega) (by omega) (by omega) R.nslot rfl
  rw [← HFS.out, show headB (nextF R.D) R.own.area (R.own.used + R.more) n6 = R.sealHd.bytes by rw [hn, hln]; rfl] at htn
  rw [← hn]
  obtain ⟨T, hT⟩ : ∃ T, T = R.D.turn R.nslot R.sealHd.bytes := ⟨_, rfl⟩
  rw [← hT] at htn
  refine wpO_call (by rfl) (exec_call' 104 _ _ rfl Try.func104 (by kernel_rfl) (by rfl) #[.agg FS.toArray, .int .i64 (R.own.area : Int), .int .i64 ((R.own.used + R.more : Nat) : Int), .slice A6 n6 c6] (by simp [Act.eval])) ?_
  refine (htn).mono ?_
  rintro e w7 ⟨vl7, vr7, rfl, S7, K7⟩
  clear htn
  obtain ⟨CS, hCS⟩ : ∃ CS, CS = pickV T.2 (fsv (stv vl7 vr7 T.1) (nextF R.D : Int) R.nslot (R.own.area : Int) ((R.own.used + R.more : Nat) : Int) (.slice A6 n6 c6) (.slice none 0 0)) (fsv (stv vl7 vr7 T.1) (R.own.seq : Int) R.slot (R.own.area : Int) (R.own.used : Int) (.slice A R.l.length a) (.slice B R.st.length b)) := ⟨_, rfl⟩
  rw [← hCS]
  have hCl : CS.length = 11 := by rw [hCS]; unfold pickV; split <;> exact fsv_len rfl _ _ _ _ _ _
  have hCo : ∀ u ∈ CS, u.oneCell' = true := by rw [hCS]; unfold pickV; split <;> exact fsv_ones _ _ _ _ S7.ones rfl rfl
  refine ⟨_, rfl, .inr (B16.keep K7 id), ?_⟩
  go_frame
  refine wpO_pure (v := .agg CS.toArray) (by rfl) (fun w' hw' => by go_simp) ?_
  go_frame
  refine wpO_pure (v := .int .i64 T.2) (by rfl) (fun w' hw' => by go_simp) ?_
  go_frame
  refine wpO_store_blk (by rfl) 68 _ _ rfl b2 _ CS 68 (by rfl) (by rfl) (HB26.out.keep K7 id) (by rw [hCl]; rfl) (by rw [hCl]; exact info68) hCo ?_
  intro w8 B28 K8
  refine ⟨.inr ((B16.keep K7 id).keep K8 (fun e => hne e)), ?_⟩
  go_frame
  refine wpO_run (v := .int .i64 T.2) (w1 := w8) (by rfl) (by go_simp) (.inl rfl) (wpO_nil ?_)
  go_frame
  have K08 : Keep Noth w w8 := (K06.trans K7 (fun _ _ h => h)).own K8 (fun q e => by unfold Only at e; subst e; exact hb2w0)
  have hs6 := K06.size
  have hs7 := K7.size
  have hs8 := K8.size
  have hs5 := K05.size
  have hs56 := K6.size
  have hs45 := K5.size
  have hb2lt := B23.lt
  have hd3 : w3.drew.heap.size = w3.heap.size := rfl
  have hF6 : ∀ q, (v5.ownBlock = some q ∨ (w5.heap.size ≤ q ∧ q < w6.heap.size)) → w.heap.size ≤ q ∧ q < w8.heap.size ∧ q ≠ b2 := fun q hq => by
   rcases hq with e | e
   ·have h1 := own5 q e
    have h2 := (R5.own q e).2
    exact ⟨h1.1, by omega, by omega⟩
   ·exact ⟨by omega, by omega, by omega⟩
  have R8 := (R6.keep K7 (Dj.noth _) (Dj.noth _)).keep K8 (fun q hq e => (hF6 q hq).2.2 e) (fun q hq e => by unfold Only at e; have := hglt _ hq; omega)
  have L8 : ReadsL w8 (grow G w w8) A6 (R.l ++ R.st) := by
   have := R8.reads
   exact this.mono (fun q hq => hq.elim (fun e => .inr ⟨(hF6 q e).1, (hF6 q e).2.1⟩) .inl)
  have S8 : StAt w8 (grow G w w8) vl7 vr7 T.1 := (S7.stay (HB26.out.keep K7 id) (by decide) (by decide) K8).mono (fun q hq => hq.imp id (fun e => ⟨by have := e.1; omega, by have := e.2; omega⟩))
  have HF := hid (show _ ∧ _ ∧ _ ∧ _ ∧ _ from ⟨S8, K08, L8, hCS, hT⟩)
  have Hn := hid hn
  clear S7 K08 hCS hT R6 L8 S8 R8 hF6 own5 hn
  go_wp2_with fail
  refine ret_cell_tmp rfl b2 CS 68 _ (.int .i64 T.2) (by rfl) (by rfl) B28 Try.underlying68 rfl (by rw [hCl]; exact info68) rfl ?_
  rw [Hs.out]
  obtain ⟨S8, K08, L8, hCS, hT⟩ := HF.out
  have hgl := grow_lt hglt K08.size
  by_cases hT0 : T.2 = 0
  ·have ht : R.turns R.sealHd (R.l ++ R.st) = (⟨T.1, R.sealHd, R.nslot, R.l ++ R.st, [], 0⟩, 0) := by unfold RS.turns; rw [← hT]; simp only []; rw [if_pos hT0]
   rw [ht]
   rw [hT0] at hCS ⊢
   rw [pickV_ok, Hn.out] at hCS
   exact ⟨CS, rfl, ⟨⟨vl7, vr7, A6, c6, none, 0, hCS, S8, L8, ⟨⟨[], rfl, Reads.nil _ _, fun i v b e => by simp at e⟩, fun h => absurd rfl h⟩, hn6, fun _ => rfl⟩, hgl⟩, K08⟩
  ·have ht : R.turns R.sealHd (R.l ++ R.st) = ({ R with D := T.1 }, T.2) := by unfold RS.turns; rw [← hT]; simp only []; rw [if_neg hT0]
   rw [ht]
   rw [pickV_no hT0] at hCS
   exact ⟨CS, rfl, ⟨⟨vl7, vr7, A, a, B, b, hCS, S8, (Hl.out.keep K08 (Dj.noth _)).mono (fun _ hq => .inl hq), (Hsl.out.keep K08 (Dj.noth _)).mono (fun _ hq => .inl hq), Ha.out, Hb.out⟩, hgl⟩, K08⟩
 ·refine wpO_slice0 (by rfl) 63 33 1 rfl sl63 Hi33.out ?_
  intro b4 w4 hb4 R4 K4
  refine ⟨.inr (B13.drew.keep K4 id), ?_⟩
  go_frame
  have KA := Kd.trans K4 (fun _ _ h => h)
  have B14 := B13.drew.keep K4 id
  have hb4w : w.heap.size ≤ b4 := by have := Kd.size; omega
  refine wpO_call (by rfl) (exec_call' 83 _ _ rfl Try.func83 (by kernel_rfl) (by rfl) #[.slice B R.st.length b] (by simp [Act.eval])) ?_
  refine (Hmore.out _ KA).mono ?_
  rintro e w' ⟨rfl, rfl⟩
  refine ⟨_, rfl, .inr B14, ?_⟩
  go_frame
  refine wpO_pure (v := .int .i64 ((R.own.used + R.more : Nat) : Int)) (by rfl) (fun w' hw' => by go_simp) ?_
  go_frame
  have HB24 := hid (B23.drew.keep K4 id)
  have hb12 : b1 < b4 := by have := B13.lt; have e : w3.drew.heap.size = w3.heap.size := rfl; omega
  have hb4G : ¬ G b4 := fun e => by have := hglt _ e; omega
  have hl4 := Hl.out.keep KA (Dj.noth _)
  obtain ⟨vs1, q1l, q1r, q1e⟩ := hl4.parts
  refine wpO_appendL (by rfl) _ _ rfl (F := fun q => q = b4) (G := G) (v := .slice (some ⟨b4, 0, none⟩) 0 0) (l := []) (m := R.l) (by rfl) (RowsL.empty R4) (A := A) (n := R.l.length) (c := a) (by rfl) rfl Ha.out vs1 q1l q1r q1e (by simp; omega) (fun q e => by injection e with e; subst e; exact hb4G) ?_
  intro v5 w5 R5 K5
  have K05 : Keep Noth w w5 := KA.own K5 (fun q e => by injection e with e; subst e; exact hb4w)
  have B15 := B14.keep K5 (fun e => by injection e with e; have e : b4 = b1 := e; omega)
  have HB25 := hid (HB24.out.keep K5 (fun e => by injection e with e; have e : b4 = b2 := e; have := B23.lt; have e2 : w3.drew.heap.size = w3.heap.size := rfl; omega))
  refine ⟨.inr B15, ?_⟩
  go_frame
  have hs4 : w3.heap.size ≤ w4.heap.size := K4.size
  have hb4u : b4 < w4.heap.size := (RowsL.own (RowsL.empty (G := G) R4) b4 rfl).2
  have hg4 := KA.size
  have own5 : ∀ q, v5.ownBlock = some q → w.heap.size ≤ q ∧ b1 < q ∧ b2 < q := fun q hq => by
   have h1 := B13.lt
   have h2 := B23.lt
   have h3 : w3.drew.heap.size = w3.heap.size := rfl
   rcases (R5.own q hq).1 with e | e
   ·injection e with e; have e : b4 = q := e; omega
   ·have := e.1; omega
  obtain ⟨vs2, p1l, p1r, p1e⟩ := (Hsl.out.keep K05 (Dj.noth _)).parts
  refine wpO_appendL (by rfl) _ _ rfl (G := G) (v := v5) (l := R.l) (m := R.st) (by rfl) R5 (A := B) (n := R.st.length) (c := b) (by rfl) rfl Hb.out vs2 p1l p1r p1e (by omega) (fun q e e2 => by have := (own5 q e).1; have := hglt _ e2; omega) ?_
  intro v6 w6 R6 K6
  have K06 : Keep Noth w w6 := K05.own K6 (fun q e => (own5 q e).1)
  have B16 := B15.keep K6 (fun e => by have := (own5 _ e).2.1; omega)
  have HB26 := hid (HB25.out.keep K6 (fun e => by have := (own5 _ e).2.2; omega))
  refine ⟨.inr B16, ?_⟩
  go_frame
  obtain ⟨A6, c6, hv6, hn6⟩ := R6.val
  subst hv6
  have hln : (R.l ++ R.st).length = R.l.length + R.st.length := List.length_append
  obtain ⟨n6, hn⟩ : ∃ n6, n6 = (R.l ++ R.st).length := ⟨_, rfl⟩
  have S6 := Hst.out.keep K06 (Dj.noth _)
  have hl4096 := Hg.out.dok.most
  have hn4 := Hn4.out
  have harea := Hg.out.area
  have htn := refTurn_calls S6 Hg.out.dok (by omega) (by omega) (by omega) (R.own.seq : Int) R.slot (R.own.area : Int) (R.own.used : Int) (.slice A R.l.length a) (.slice B R.st.length b) rfl rfl R.own.area (R.own.used + R.more) n6 c6 A6 (by omega) (by omega) (by omega) R.nslot rfl
  rw [← HFS.out, show headB (nextF R.D) R.own.area (R.own.used + R.more) n6 = R.sealHd.bytes by rw [hn, hln]; rfl] at htn
  rw [← hn]
  obtain ⟨T, hT⟩ : ∃ T, T = R.D.turn R.nslot R.sealHd.bytes := ⟨_, rfl⟩
  rw [← hT] at htn
  refine wpO_call (by rfl) (exec_call' 104 _ _ rfl Try.func104 (by kernel_rfl) (by rfl) #[.agg FS.toArray, .int .i64 (R.own.area : Int), .int .i64 ((R.own.used + R.more : Nat) : Int), .slice A6 n6 c6] (by simp [Act.eval])) ?_
  refine (htn).mono ?_
  rintro e w7 ⟨vl7, vr7, rfl, S7, K7⟩
  clear htn
  obtain ⟨CS, hCS⟩ : ∃ CS, CS = pickV T.2 (fsv (stv vl7 vr7 T.1) (nextF R.D : Int) R.nslot (R.own.area : Int) ((R.own.used + R.more : Nat) : Int) (.slice A6 n6 c6) (.slice none 0 0)) (fsv (stv vl7 vr7 T.1) (R.own.seq : Int) R.slot (R.own.area : Int) (R.own.used : Int) (.slice A R.l.length a) (.slice B R.st.length b)) := ⟨_, rfl⟩
  rw [← hCS]
  have hCl : CS.length = 11 := by rw [hCS]; unfold pickV; split <;> exact fsv_len rfl _ _ _ _ _ _
  have hCo : ∀ u ∈ CS, u.oneCell' = true := by rw [hCS]; unfold pickV; split <;> exact fsv_ones _ _ _ _ S7.ones rfl rfl
  refine ⟨_, rfl, .inr (B16.keep K7 id), ?_⟩
  go_frame
  refine wpO_pure (v := .agg CS.toArray) (by rfl) (fun w' hw' => by go_simp) ?_
  go_frame
  refine wpO_pure (v := .int .i64 T.2) (by rfl) (fun w' hw' => by go_simp) ?_
  go_frame
  refine wpO_store_blk (by rfl) 68 _ _ rfl b2 _ CS 68 (by rfl) (by rfl) (HB26.out.keep K7 id) (by rw [hCl]; rfl) (by rw [hCl]; exact info68) hCo ?_
  intro w8 B28 K8
  refine ⟨.inr ((B16.keep K7 id).keep K8 (fun e => hne e)), ?_⟩
  go_frame
  refine wpO_run (v := .int .i64 T.2) (w1 := w8) (by rfl) (by go_simp) (.inl rfl) (wpO_nil ?_)
  go_frame
  have K08 : Keep Noth w w8 := (K06.trans K7 (fun _ _ h => h)).own K8 (fun q e => by unfold Only at e; subst e; exact hb2w0)
  have hs6 := K06.size
  have hs7 := K7.size
  have hs8 := K8.size
  have hs5 := K05.size
  have hs56 := K6.size
  have hs45 := K5.size
  have hb2lt := B23.lt
  have hd3 : w3.drew.heap.size = w3.heap.size := rfl
  have hF6 : ∀ q, (v5.ownBlock = some q ∨ (w5.heap.size ≤ q ∧ q < w6.heap.size)) → w.heap.size ≤ q ∧ q < w8.heap.size ∧ q ≠ b2 := fun q hq => by
   rcases hq with e | e
   ·have h1 := own5 q e
    have h2 := (R5.own q e).2
    exact ⟨h1.1, by omega, by omega⟩
   ·exact ⟨by omega, by omega, by omega⟩
  have R8 := (R6.keep K7 (Dj.noth _) (Dj.noth _)).keep K8 (fun q hq e => (hF6 q hq).2.2 e) (fun q hq e => by unfold Only at e; have := hglt _ hq; omega)
  have L8 : ReadsL w8 (grow G w w8) A6 (R.l ++ R.st) := by
   have := R8.reads
   exact this.mono (fun q hq => hq.elim (fun e => .inr ⟨(hF6 q e).1, (hF6 q e).2.1⟩) .inl)
  have S8 : StAt w8 (grow G w w8) vl7 vr7 T.1 := (S7.stay (HB26.out.keep K7 id) (by decide) (by decide) K8).mono (fun q hq => hq.imp id (fun e => ⟨by have := e.1; omega, by have := e.2; omega⟩))
  have HF := hid (show _ ∧ _ ∧ _ ∧ _ ∧ _ from ⟨S8, K08, L8, hCS, hT⟩)
  have Hn := hid hn
  clear S7 K08 hCS hT R6 L8 S8 R8 hF6 own5 hn
  go_wp2_with fail
  refine ret_cell_tmp rfl b2 CS 68 _ (.int .i64 T.2) (by rfl) (by rfl) B28 Try.underlying68 rfl (by rw [hCl]; exact info68) rfl ?_
  rw [Hs.out]
  obtain ⟨S8, K08, L8, hCS, hT⟩ := HF.out
  have hgl := grow_lt hglt K08.size
  by_cases hT0 : T.2 = 0
  ·have ht : R.turns R.sealHd (R.l ++ R.st) = (⟨T.1, R.sealHd, R.nslot, R.l ++ R.st, [], 0⟩, 0) := by unfold RS.turns; rw [← hT]; simp only []; rw [if_pos hT0]
   rw [ht]
   rw [hT0] at hCS ⊢
   rw [pickV_ok, Hn.out] at hCS
   exact ⟨CS, rfl, ⟨⟨vl7, vr7, A6, c6, none, 0, hCS, S8, L8, ⟨⟨[], rfl, Reads.nil _ _, fun i v b e => by simp at e⟩, fun h => absurd rfl h⟩, hn6, fun _ => rfl⟩, hgl⟩, K08⟩
  ·have ht : R.turns R.sealHd (R.l ++ R.st) = ({ R with D := T.1 }, T.2) := by unfold RS.turns; rw [← hT]; simp only []; rw [if_neg hT0]
   rw [ht]
   rw [pickV_no hT0] at hCS
   exact ⟨CS, rfl, ⟨⟨vl7, vr7, A, a, B, b, hCS, S8, (Hl.out.keep K08 (Dj.noth _)).mono (fun _ hq => .inl hq), (Hsl.out.keep K08 (Dj.noth _)).mono (fun _ hq => .inl hq), Ha.out, Hb.out⟩, hgl⟩, K08⟩
theorem refStage_calls {w : World} {G : Nat → Prop} {FS : List Value} {R : RS} (H : RefAt w G FS R) (hg : R.good) (hmo : R.more = moreL R.st) (ho : R.D.ops ≤ 900000) (hr : R.D.row.length ≤ 900000) (A0 : Option Addr) (c0 : Nat) (x : List UInt8) (hx : Reads w A0 (bv x)) (hxc : A0 = none → c0 = 0) (hxG : x ≠ [] → ∀ ad, A0 = some ad → G ad.block) :
  Calls Try.prog 84 #[.agg FS.toArray, .slice A0 x.length c0] w (RefPost w G (R.stage x)) := by
 have hlen := H.len
 have hone := H.one
 obtain ⟨vl, vr, A, a, B, b, hFS, hst, hl, hsl, ha, hb⟩ := H.ex
 have g7 : FS[7]? = some (.int .i64 (R.own.area : Int)) := by rw [hFS]; rfl
 have g8 : FS[8]? = some (.int .i64 (R.own.used : Int)) := by rw [hFS]; rfl
 have g10 : FS[10]? = some (.slice B R.st.length b) := by rw [hFS]; rfl
 have hpost : RefPost w G (R.stage x) = fun e w' => RefPost w G (R.stage x) e w' := rfl
 rw [hpost]
 have HH := hid H
 have Hlen := hid hlen
 have Hone := hid hone
 have Hst := hid hst
 have Hl := hid hl
 have Hsl := hid hsl
 have Ha := hid ha
 have Hb := hid hb
 have HFS := hid hFS
 have Hg := hid hg
 have Hmo := hid hmo
 have Hx := hid hx
 have Hxc := hid hxc
 have HxG := hid hxG
 clear H hlen hone hst hl hsl ha hb hFS hg hpost hmo hx hxc hxG
 by_cases h4 : 4000 < x.length
 ·have hs : R.stage x = (R, 110) := by unfold RS.stage; rw [if_pos h4]
  have h4' : (x.length : Int) > 4000 := by omega
  have Hs := hid hs
  clear hs
  go_enter Try.func84, Try.ntmps84
  go_wp2_with (first
   | (guard_target = wpList _ _ _ (Oper.mk _ (Op.box 68 _) _ _ _ _ :: _) _ _; refine wpList_box_v rfl 68 _ rfl FS (by rfl) ?_; intro b1 w1 hb1 B1 K1)
   | (guard_target = wpList _ _ _ (Oper.mk _ (Op.alloc 68) _ _ _ _ :: _) _ _; refine wpList_alloc_v rfl 68 rfl (.agg zfs.toArray) info68 zfs zfs_cells ?_; intro b2 w2 hb2 B2 K2; have B12 := B1.keep K2 id)
   | (guard_target = wpList _ _ _ (Oper.mk _ (Op.load 68 _) _ _ _ _ :: _) _ _; refine wpList_load_blk rfl 68 _ rfl b1 0 _ FS 68 _ (by rfl) B12 (part0 _) Try.underlying68 rfl (by rw [Hlen.out]; exact info68) ?_)
   | (guard_target = wpList _ _ _ (Oper.mk _ (Op.store 68 _ _) _ _ _ _ :: _) _ _; refine wpList_store_whole rfl 68 _ _ rfl b2 _ FS 68 (by rfl) (by rfl) B2 (by rw [Hlen.out]; rfl) (by rw [Hlen.out]; exact info68) Hone.out ?_; intro w9 B9 K9)
   )
  refine ret_cell_tmp rfl b2 _ 68 _ (.int .i64 110) (by rfl) (by rfl) B9 Try.underlying68 rfl (by rw [Hlen.out]; exact info68) rfl ?_
  rw [Hs.out]
  have hb2w : w.heap.size ≤ b2 := by have := K1.size; omega
  have KF := (K1.trans K2 (fun _ _ h => h)).own K9 (fun q e => by unfold Only at e; subst e; exact hb2w)
  exact ⟨FS, rfl, HH.out.grown KF, KF⟩
 have h4' : decide ((x.length : Int) > 4000) = false := by simp; omega
 have H4 := hid h4
 have hbl := blocksN_le (show x.length ≤ 4000 by omega)
 have hll := Hg.out.ll
 have hstl := Hg.out.stl
 have hused := Hg.out.used
 have hhl := half_le Hg.out.dok
 have hroomc := fun W (hW : Keep Noth w W) => refRoom_calls (vL := .slice A R.l.length a) (Hst.out.keep hW (Dj.noth _)) Hg.out.dok (R.own.seq : Int) R.slot R.own.area R.own.used B b R.st (Hsl.out.keep hW (Dj.noth _)) Hg.out.st4 (by omega) (by have := Hmo.out; omega) (by omega)
 rw [← HFS.out, show (R.D.half : Int) - R.own.used - moreL R.st = R.room by unfold RS.room; rw [Hmo.out]] at hroomc
 have Hroomc := hid hroomc
 clear hroomc h4
 go_enter Try.func84, Try.ntmps84
 go_wp2_with (first
  | (guard_target = wpList _ _ _ (Oper.mk _ (Op.box 68 _) _ _ _ _ :: _) _ _; refine wpList_box_v rfl 68 _ rfl FS (by rfl) ?_; intro b1 w1 hb1 B1 K1)
  | (guard_target = wpList _ _ _ (Oper.mk _ (Op.alloc 68) _ _ _ _ :: _) _ _; refine wpList_alloc_v rfl 68 rfl (.agg zfs.toArray) info68 zfs zfs_cells ?_; intro b2 w2 hb2 B2 K2; have B12 := B1.keep K2 id)
  | (guard_target = wpList _ _ _ (Oper.mk _ (Op.load 68 _) _ _ _ _ :: _) _ _; refine wpList_load_blk rfl 68 _ rfl b1 0 _ FS 68 _ (by rfl) B12 (part0 _) Try.underlying68 rfl (by rw [Hlen.out]; exact info68) ?_)
  | (guard_target = wpList _ _ _ (Oper.mk _ (Op.store 68 _ _) _ _ _ _ :: _) _ _; refine wpList_store_whole rfl 68 _ _ rfl b2 _ FS 68 (by rfl) (by rfl) B2 (by rw [Hlen.out]; rfl) (by rw [Hlen.out]; exact info68) Hone.out ?_; intro w9 B9 K9)
  )
 have hsb : ∀ W, Keep Noth w W → True := fun _ _ => trivial
 have K02d : Keep Noth w w2.drew := (K1.trans K2 (fun _ _ h => h)).trans (Keep.refl Noth w2).drew (fun _ _ h => h)
 refine wp_region_ordL [(0, true), (2, true), (1, false), (3, false), (4, false)] (fun W => BlockIs W b1 FS 68) follows_mixed (by kernel_rfl) B12.drew ?_
 simp only [List.map_cons, List.map_nil, List.getElem?_cons_succ, List.getElem?_cons_zero, Option.getD_some]
 refine wpO_pure (v := .slice A0 x.length c0) (by rfl) (fun w' hw' => by go_simp) ?_
 go_frame
 refine wpO_pure (v := .agg FS.toArray) (by rfl) (fun w' hw' => by exact exec_load_blk 68 _ rfl b1 0 FS FS 68 _ (by rfl) hw' (part0 _) Try.underlying68 rfl (by rw [Hlen.out]; exact info68)) ?_
 go_frame
 refine wpO_call (by rfl) (exec_call' 101 _ _ rfl Try.func101 (by kernel_rfl) (by rfl) #[.slice A0 x.length c0] (by simp [Act.eval])) ?_
 refine (refBlocks_calls w2.drew A0 c0 x (by have := H4.out; omega)).mono ?_
 rintro e w' ⟨rfl, rfl⟩
 refine ⟨_, rfl, .inr B12.drew, ?_⟩
 go_frame
 refine wpO_call (by rfl) (exec_call' 49 _ _ rfl Try.func49 (by kernel_rfl) (by rfl) #[.agg FS.toArray] (by simp [Act.eval])) ?_
 refine (Hroomc.out _ K02d).mono ?_
 rintro e w3 ⟨rfl, K3⟩
 refine ⟨_, rfl, .inr (B12.drew.keep K3 id), ?_⟩
 go_frame
 refine wpO_run (v := .bool (decide ((blocksN x : Int) > R.room))) (w1 := w3) (by rfl) (by go_simp) (.inl rfl) (wpO_nil ?_)
 go_frame
 have K03 : Keep Noth w w3 := K02d.trans K3 (fun _ _ h => h)
 have B13 := B12.drew.keep K3 id
 have B23 := B2.drew.keep K3 id
 have hb1w : w.heap.size ≤ b1 := hb1
 have hb2w0 : w.heap.size ≤ b2 := by have := K1.size; omega
 have hne : b1 ≠ b2 := by have := B1.lt; omega
 by_cases hroom : R.room < blocksN x
 ·have hs : R.stage x = (R, 111) := by unfold RS.stage; rw [if_neg H4.out, if_pos hroom]
  have hr1 : decide ((blocksN x : Int) > R.room) = true := by simp; omega
  rw [hr1]
  have Hs := hid hs
  clear hs hroom hr1
  go_wp2_with (first
   | (guard_target = wpList _ _ _ (Oper.mk _ (Op.load 68 _) _ _ _ _ :: _) _ _; refine wpList_load_blk rfl 68 _ rfl b1 0 _ FS 68 _ (by rfl) B13 (part0 _) Try.underlying68 rfl (by rw [Hlen.out]; exact info68) ?_)
   | (guard_target = wpList _ _ _ (Oper.mk _ (Op.store 68 _ _) _ _ _ _ :: _) _ _; refine wpList_store_whole rfl 68 _ _ rfl b2 _ FS 68 (by rfl) (by rfl) B23 (by rw [Hlen.out]; rfl) (by rw [Hlen.out]; exact info68) Hone.out ?_; intro w9 B9 K9)
   )
  refine ret_cell_tmp rfl b2 _ 68 _ (.int .i64 111) (by rfl) (by rfl) B9 Try.underlying68 rfl (by rw [Hlen.out]; exact info68) rfl ?_
  rw [Hs.out]
  have hb2w : w.heap.size ≤ b2 := by have := K1.size; omega
  have KF := (K03).own K9 (fun q e => by unfold Only at e; subst e; exact hb2w)
  exact ⟨FS, rfl, HH.out.grown KF, KF⟩
 have hr1 : decide ((blocksN x : Int) > R.room) = false := by simp; omega
 rw [hr1]
 obtain ⟨T, hT⟩ : ∃ T, T = R.D.writes ((2 + R.own.area * R.D.half + R.own.used + R.more : Nat) : Int) (packs x) := ⟨_, rfl⟩
 have hs : R.stage x = if T.2 = 0 then ({ R with D := T.1, st := R.st ++ [x], more := R.more + blocksN x }, 0) else ({ R with D := T.1 }, T.2) := by unfold RS.stage; rw [if_neg H4.out, if_neg hroom, hT]
 have Hs := hid hs
 have HT := hid hT
 have harea := Hg.out.area
 have hah : R.own.area * R.D.half ≤ 2047 := by rcases (show R.own.area = 0 ∨ R.own.area = 1 by omega) with e | e <;> rw [e] <;> omega
 have q1 : IntKind.i64.wrap ((R.own.area : Int) * (R.D.half : Int)) = ((R.own.area * R.D.half : Nat) : Int) := by rw [← Int.natCast_mul]; exact wrapN (by omega)
 obtain ⟨ah, hahe⟩ : ∃ ah, ah = R.own.area * R.D.half := ⟨_, rfl⟩
 rw [← hahe] at q1 hah
 have HK3 := hid K03
 clear hs hT hr1 hroom B12 B1 B2 K1 K2 K3 K02d K03 hb1 hb2
 go_wp2_with fail
 refine wp_region_ord3 [(1, true)] [(0, true), (2, true), (3, true), (4, true), (5, true), (9, true), (10, true), (12, true), (13, true), (6, false), (7, true), (8, true), (11, true), (14, false), (15, true), (16, false)] [(17, true), (18, true), (19, true), (20, false), (21, false)] 17 8 #[false, true, false, false, false, false, false, false, false, false, false, false, false, false, false, false, false, false, false, false, false, false] #[true, true, true, true, true, true, true, true, true, true, true, true, true, true, true, true, true, false, false, false, false, false] (fun W => BlockIs W b1 FS 68) follows_mixed (by kernel_rfl) ?_
 simp only [List.map_cons, List.map_nil, List.getElem?_cons_succ, List.getElem?_cons_zero, Option.getD_some]
 have Kd := HK3.out.trans (Keep.refl Noth w3).drew (fun _ _ h => h)
 obtain ⟨k1, hk1⟩ : ∃ k1, k1 = 2 + ah := ⟨_, rfl⟩
 obtain ⟨k2, hk2⟩ : ∃ k2, k2 = k1 + R.own.used := ⟨_, rfl⟩
 obtain ⟨k3, hk3⟩ : ∃ k3, k3 = k2 + R.more := ⟨_, rfl⟩
 have q2 : IntKind.i64.wrap ((2 : Int) + (ah : Int)) = (k1 : Int) := by rw [show (2 : Int) + (ah : Int) = ((2 + ah : Nat) : Int) by omega, hk1]; exact wrapN (by omega)
 have q3 : IntKind.i64.wrap ((k1 : Int) + (R.own.used : Int)) = (k2 : Int) := by rw [← Int.natCast_add, hk2]; exact wrapN (by omega)
 have q4 : IntKind.i64.wrap ((k2 : Int) + (moreL R.st : Int)) = (k3 : Int) := by rw [← Int.natCast_add, hk3, Hmo.out]; exact wrapN (by have := Hmo.out; omega)
 have hk3b : k3 ≤ 9000 := by omega
 have Hk3 := hid (show k3 = 2 + R.own.area * R.D.half + R.own.used + R.more by omega)
 clear hk1 hk2 hk3 hahe
 refine wpO_pure (v := .slice A0 x.length c0) (by rfl) (fun w' hw' => by go_simp) (wpO_nil ?_)
 go_frame
 refine ⟨B13.drew, ?_⟩
 refine wpO_pure (v := .agg FS.toArray) (by rfl) (fun w' hw' => by exact exec_load_blk 68 _ rfl b1 0 FS FS 68 _ (by rfl) hw' (part0 _) Try.underlying68 rfl (by rw [Hlen.out]; exact info68)) ?_
 go_frame
 refine wpO_pure (v := .pointer (some ⟨b1, 7, none⟩)) (by rfl) (fun w' hw' => by go_simp) ?_
 go_frame
 refine wpO_pure (v := .int .i64 (R.own.area : Int)) (by rfl) (fun w' hw' => by have hc : w'.cell? ⟨b1, 7, none⟩ = some (.int .i64 (R.own.area : Int)) := (hw'.cell 7).trans g7; go_simp) ?_
 go_frame
 refine wpO_pure (v := .pointer (some ⟨b1, 0, none⟩)) (by rfl) (fun w' hw' => by go_simp) ?_
 go_frame
 refine wpO_pure (v := .agg (stv vl vr R.D).toArray) (by rfl) (fun w' hw' => by exact exec_load_blk 30 _ rfl b1 0 FS (stv vl vr R.D) 68 _ (by rfl) hw' (by rw [HFS.out]; exact fsv_dev _ rfl _ _ _ _ _ _) Try.underlying30 rfl info30) ?_
 go_frame
 refine wpO_pure (v := .pointer (some ⟨b1, 8, none⟩)) (by rfl) (fun w' hw' => by go_simp) ?_
 go_frame
 refine wpO_pure (v := .int .i64 (R.own.used : Int)) (by rfl) (fun w' hw' => by have hc : w'.cell? ⟨b1, 8, none⟩ = some (.int .i64 (R.own.used : Int)) := (hw'.cell 8).trans g8; go_simp) ?_
 go_frame
 refine wpO_pure (v := .pointer (some ⟨b1, 10, none⟩)) (by rfl) (fun w' hw' => by go_simp) ?_
 go_frame
 refine wpO_pure (v := .slice B R.st.length b) (by rfl) (fun w' hw' => by have hc : w'.cell? ⟨b1, 10, none⟩ = some (.slice B R.st.length b) := (hw'.cell 10).trans g10; go_simp) ?_
 go_frame
 refine wpO_call (by rfl) (exec_call' 78 _ _ rfl Try.func78 (by kernel_rfl) (by rfl) #[.agg (stv vl vr R.D).toArray] (by simp [Act.eval])) ?_
 refine (refHalf_calls (Hst.out.keep Kd (Dj.noth _)) Hg.out.dok.most).mono ?_
 rintro e w4 ⟨rfl, K4⟩
 have B14 := B13.drew.keep K4 id
 have K04 := Kd.trans K4 (fun _ _ h => h)
 refine ⟨_, rfl, .inr B14, ?_⟩
 go_frame
 refine wpO_pure (v := .int .i64 (ah : Int)) (by rfl) (fun w' hw' => by go_simp) ?_
 go_frame
 refine wpO_pure (v := .int .i64 (k1 : Int)) (by rfl) (fun w' hw' => by go_simp) ?_
 go_frame
 refine wpO_pure (v := .int .i64 (k2 : Int)) (by rfl) (fun w' hw' => by go_simp) ?_
 go_frame
 refine wpO_call (by rfl) (exec_call' 83 _ _ rfl Try.func83 (by kernel_rfl) (by rfl) #[.slice B R.st.length b] (by simp [Act.eval])) ?_
 refine (more_calls w4 G B b R.st (Hsl.out.keep K04 (Dj.noth _)) (by omega) (fun y hy => by have := Hg.out.st4 y hy; omega) (by have := Hmo.out; omega)).mono ?_
 rintro e w' ⟨rfl, rfl⟩
 refine ⟨_, rfl, .inr B14, ?_⟩
 go_frame
 refine wpO_pure (v := .int .i64 (k3 : Int)) (by rfl) (fun w' hw' => by go_simp) ?_
 go_frame
 clear q1 q2 q3 q4
 have hwr := refWrite_calls (Hst.out.keep K04 (Dj.noth _)) Hg.out.dok (by omega) (by omega) (R.own.seq : Int) R.slot (R.own.area : Int) (R.own.used : Int) (.slice A R.l.length a) (.slice B R.st.length b) rfl rfl A0 c0 x (Hx.out.keep K04 (fun _ _ => id)) Hxc.out (by have := H4.out; omega) (k3 : Int) (by omega)
 rw [← HFS.out] at hwr
 have hTk : R.D.writes (k3 : Int) (packs x) = T := by rw [Hk3.out, HT.out]
 rw [hTk] at hwr
 refine wpO_call (by rfl) (exec_call' 102 _ _ rfl Try.func102 (by kernel_rfl) (by rfl) #[.agg FS.toArray, .slice A0 x.length c0, .int .i64 (k3 : Int)] (by simp [Act.eval])) ?_
 refine (hwr).mono ?_
 rintro e w5 ⟨vl5, vr5, rfl, S5, K5⟩
 clear hwr
 obtain ⟨CS, hCS⟩ : ∃ CS, CS = fsv (stv vl5 vr5 T.1) (R.own.seq : Int) R.slot (R.own.area : Int) (R.own.used : Int) (.slice A R.l.length a) (.slice B R.st.length b) := ⟨_, rfl⟩
 rw [← hCS]
 have hCl : CS.length = 11 := by rw [hCS]; exact fsv_len rfl _ _ _ _ _ _
 have hCo : ∀ u ∈ CS, u.oneCell' = true := by rw [hCS]; exact fsv_ones _ _ _ _ S5.ones rfl rfl
 have B15 := B14.keep K5 id
 refine ⟨_, rfl, .inl rfl, wpO_nil ⟨B15, ?_⟩⟩
 go_frame
 refine wpO_pure (v := .tuple #[.agg CS.toArray, .int .i64 T.2]) (by rfl) (fun w' hw' => by go_simp) ?_
 go_frame
 refine wpO_pure (v := .agg CS.toArray) (by rfl) (fun w' hw' => by go_simp) ?_
 go_frame
 refine wpO_pure (v := .int .i64 T.2) (by rfl) (fun w' hw' => by go_simp) ?_
 go_frame
 refine wpO_store_blk (by rfl) 68 _ _ rfl b1 _ CS 68 (by rfl) (by rfl) B15 (by rw [hCl, Hlen.out]) (by rw [hCl]; exact info68) hCo ?_
 intro w6 B16 K6
 refine ⟨.inr trivial, ?_⟩
 go_frame
 refine wpO_run (v := .int .i64 T.2) (w1 := w6) (by rfl) (by go_simp) (.inl rfl) (wpO_nil ?_)
 go_frame
 have K05 : Keep Noth w w5 := K04.trans K5 (fun _ _ h => h)
 have K06 : Keep Noth w w6 := K05.own K6 (fun q e => by unfold Only at e; subst e; exact hb1w)
 have hs4 := K04.size
 have hs5 := K5.size
 have hs6 := K6.size
 have S6 : StAt w6 (grow G w w6) vl5 vr5 T.1 := (S5.stay B15 (by decide) (by decide) K6).mono (fun q hq => hq.imp id (fun e => ⟨by have := e.1; omega, by have := e.2; omega⟩))
 have B26 := ((B23.drew.keep K4 id).keep K5 id).keep K6 (fun e => hne e.symm)
 have hglt := HH.out.glt
 have HF := hid (show _ ∧ _ ∧ _ from ⟨S6, K06, hCS⟩)
 clear S6 S5 K06 K05 K04 K4 K5 K6 B14 B15 hCS Kd B13 B23
 by_cases hT0 : T.2 = 0
 ·have t1 : (T.2 == 0) = true := by simpa using hT0
  have HT0 := hid hT0
  have g10' : CS[10]? = some (.slice B R.st.length b) := by rw [HF.out.2.2]; rfl
  obtain ⟨i33, hi33, -⟩ := info_parts info33
  have Hi33 := hid hi33
  have hsz6 := HF.out.2.1.size
  clear hT0 hi33
  go_wp2_with (first
   | (guard_target = wpList _ _ _ (Oper.mk _ (Op.buildSlice _ 0 _) _ _ _ _ :: _) _ _; refine wpList_slice0_v rfl 63 33 1 rfl sl63 Hi33.out ?_; intro b4 w7 hb4 R4 K7; have c10 : w7.cell? ⟨b1, 10, none⟩ = some (.slice B R.st.length b) := ((B16.keep K7 id).cell 10).trans g10')
   | (guard_target = wpList _ _ _ (Oper.mk (some 42) _ _ _ _ _ :: _) _ _
      have KA : Keep Noth w w7 := HF.out.2.1.trans K7 (fun _ _ h => h)
      have hb4w : w.heap.size ≤ b4 := by omega
      have hb4G : ¬ G b4 := fun e => by have := hglt _ e; omega
      have hb14 : b1 < b4 := by have := B16.lt; omega
      have hb24 : b2 < b4 := by have := B26.lt; omega
      have hs7 := K7.size
      obtain ⟨vs1, q1l, q1r, q1e⟩ := (Hsl.out.keep KA (Dj.noth _)).parts
      refine wpList_appendL (by rfl) _ _ rfl (F := fun q => q = b4) (G := G) (v := .slice (some ⟨b4, 0, none⟩) 0 0) (l := []) (m := R.st) (by rfl) (RowsL.empty R4) (A := B) (n := R.st.length) (c := b) (by rfl) rfl Hb.out vs1 q1l q1r q1e (by simp; omega) (fun q e => by injection e with e; subst e; exact hb4G) ?_
      intro v8 w8 R8 K8
      rw [List.nil_append] at R8
      have own8 : ∀ q, v8.ownBlock = some q → w.heap.size ≤ q ∧ b1 < q ∧ b2 < q ∧ q < w8.heap.size ∧ w6.heap.size ≤ q := fun q hq => by
       have h2 := (R8.own q hq).2
       rcases (R8.own q hq).1 with e | e
       ·injection e with e; have e : b4 = q := e; omega
       ·have := e.1; have := B16.lt; have := B26.lt; omega
      have KB : Keep Noth w w8 := KA.own K8 (fun q e => by injection e with e; subst e; exact hb4w)
      have B18 := (B16.keep K7 id).keep K8 (fun e => by injection e with e; have e : b4 = b1 := e; omega)
      have B28 := (B26.keep K7 id).keep K8 (fun e => by injection e with e; have e : b4 = b2 := e; omega)
      have Own8 := hid own8
      have hs68 : w6.heap.size ≤ w8.heap.size := by have := K8.size; omega
      have HS8 := hid ((HF.out.1.keep K7 (Dj.noth _)).keep K8 (fun q hq e => by injection e with e; have e : b4 = q := e; rcases hq with hq | hq; (have := hglt _ hq; omega); (have := hq.2; omega)))
      have HKB := hid KB
      clear own8 c10 R4 K7 K8 KA KB B16 B26 q1l q1r q1e hsz6)
   | (guard_target = wpList _ _ _ (Oper.mk _ (Op.buildSlice _ 1 _) _ _ _ _ :: _) _ _; refine wpList_slice1_v rfl 63 33 _ rfl sl63 [.slice A0 x.length c0] (.slice none 0 0) info33 rfl (by decide) (by decide) (by rfl) rfl ?_; intro b9 w9 hb9 B9 K9)
   | (guard_target = wpList _ _ _ (Oper.mk (some 45) _ _ _ _ _ :: _) _ _
      have KC : Keep Noth w w9 := HKB.out.trans K9 (fun _ _ h => h)
      refine wpList_appendL (by rfl) _ _ rfl (G := G) (v := v8) (l := R.st) (m := [x]) (by rfl) (R8.keep K9 (Dj.noth _) (Dj.noth _)) (A := some ⟨b9, 0, none⟩) (n := 1) (c := 1) (by rfl) rfl (fun e => by cases e) [.slice A0 x.length c0] rfl (Reads.of_range B9.rangeAll) (one_vs ⟨A0, c0, rfl, Hx.out.keep KC (fun _ _ => id), Hxc.out, HxG.out⟩) (by simp; omega) (fun q e e2 => by have := (Own8.out q e).1; have := hglt _ e2; omega) ?_
      intro v10 w10 R10 K10
      obtain ⟨A10, d10, hv10, hn10⟩ := R10.val
      subst hv10
      have K0A : Keep Noth w w10 := KC.own K10 (fun q e => (Own8.out q e).1)
      have B1A := (B18.keep K9 id).keep K10 (fun e => by have := (Own8.out _ e).2.1; omega)
      have B2A := (B28.keep K9 id).keep K10 (fun e => by have := (Own8.out _ e).2.2.1; omega)
      obtain ⟨N, hN⟩ : ∃ N, N = (R.st ++ [x]).length := ⟨_, rfl⟩
      have hF10 : ∀ q, (v8.ownBlock = some q ∨ (w9.heap.size ≤ q ∧ q < w10.heap.size)) → w.heap.size ≤ q ∧ q < w10.heap.size ∧ b1 < q ∧ b2 < q := fun q hq => by
       have hs := K9.size
       have hs2 := K10.size
       rcases hq with e | e
       ·have h1 := Own8.out q e
        exact ⟨h1.1, by omega, by omega, by omega⟩
       ·have := B18.lt
        have := B28.lt
        have := HKB.out.size
        exact ⟨by omega, by omega, by omega, by omega⟩
      have HF10 := hid hF10
      have h6A : w6.heap.size ≤ w10.heap.size := by have h1 := K9.size; have h2 := K10.size; omega
      have HS10 := hid ((HS8.out.keep K9 (Dj.noth _)).keep K10 (fun q hq e => by have h5 := (Own8.out _ e).2.2.2.2; rcases hq with hq | hq; (have := hglt _ hq; omega); (have := hq.2; omega)))
      have HN := hid hN
      have HR10 := hid R10.reads
      have HK0A := hid K0A
      have Hn10 := hid hn10
      rw [← hN]
      clear hN hF10 R10 K0A K10 K9 KC B18 B28 B9 R8 hb9 hn10)
   | (guard_target = wpList _ _ _ (Oper.mk _ (Op.store 63 _ _) _ _ _ _ :: _) _ _; refine wpList_store_blk rfl 63 _ _ rfl b1 10 CS 68 (.slice A10 N d10) (by rfl) (by rfl) B1A (by rw [hCl]; decide) rfl rfl info63 ?_; intro w11 B11 K11)
   | (guard_target = wpList _ _ _ (Oper.mk _ (Op.load 68 _) _ _ _ _ :: _) _ _; refine wpList_load_blk rfl 68 _ rfl b1 0 _ (CS.set 10 (.slice A10 N d10)) 68 _ (by rfl) B11 (part0 _) Try.underlying68 rfl (by rw [List.length_set, hCl]; exact info68) ?_)
   | (guard_target = wpList _ _ _ (Oper.mk _ (Op.store 68 _ _) _ _ _ _ :: _) _ _; refine wpList_store_whole rfl 68 _ _ rfl b2 _ (CS.set 10 (.slice A10 N d10)) 68 (by rfl) (by rfl) (B2A.keep K11 (fun e => hne e.symm)) (by rw [List.length_set, hCl]; rfl) (by rw [List.length_set, hCl]; exact info68) (fun u hu => (List.mem_or_eq_of_mem_set hu).elim (hCo u) (fun e => by rw [e]; rfl)) ?_; intro w12 B12 K12))
  refine ret_cell_tmp rfl b2 (CS.set 10 (.slice A10 N d10)) 68 _ (.int .i64 T.2) (by rfl) (by rfl) B12 Try.underlying68 rfl (by rw [List.length_set, hCl]; exact info68) rfl ?_
  rw [Hs.out, if_pos HT0.out, HT0.out]
  obtain ⟨S6, K06, hCS⟩ := HF.out
  have K0C := (HK0A.out.own K11 (fun q e => by unfold Only at e; subst e; exact hb1w)).own K12 (fun q e => by unfold Only at e; subst e; exact hb2w0)
  have hsA := HK0A.out.size
  have hsB := K11.size
  have hsC := K12.size
  have hs6 := K06.size
  have S12 := (HS10.out.stay B1A (by decide) (by decide) K11).stay (B2A.keep K11 (fun e => hne e.symm)) (by decide) (by decide) K12
  have L12 := (HR10.out.keep K11 (fun q hq e => by unfold Only at e; subst e; rcases hq with hq | hq; (have := (HF10.out _ hq).2.2.1; omega); (have := hglt _ hq; omega))).keep K12 (fun q hq e => by unfold Only at e; subst e; rcases hq with hq | hq; (have := (HF10.out _ hq).2.2.2; omega); (have := hglt _ hq; omega))
  exact ⟨_, rfl, ⟨⟨vl5, vr5, A, a, A10, d10, by rw [hCS, HN.out]; rfl, S12.mono (fun q hq => hq.imp id (fun e => ⟨e.1, by have := e.2; omega⟩)), (Hl.out.keep K0C (Dj.noth _)).mono (fun _ hq => .inl hq), L12.mono (fun q hq => hq.elim (fun e => .inr ⟨(HF10.out q e).1, by have := (HF10.out q e).2.1; omega⟩) .inl), Ha.out, Hn10.out⟩, grow_lt hglt K0C.size⟩, K0C⟩
 ·have t1 : (T.2 == 0) = false := by simpa using hT0
  have HT0 := hid hT0
  clear hT0
  go_wp2_with (first
   | (guard_target = wpList _ _ _ (Oper.mk _ (Op.load 68 _) _ _ _ _ :: _) _ _; refine wpList_load_blk rfl 68 _ rfl b1 0 _ CS 68 _ (by rfl) B16 (part0 _) Try.underlying68 rfl (by rw [hCl]; exact info68) ?_)
   | (guard_target = wpList _ _ _ (Oper.mk _ (Op.store 68 _ _) _ _ _ _ :: _) _ _; refine wpList_store_whole rfl 68 _ _ rfl b2 _ CS 68 (by rfl) (by rfl) B26 (by rw [hCl]; rfl) (by rw [hCl]; exact info68) hCo ?_; intro w9 B9 K9))
  refine ret_cell_tmp rfl b2 CS 68 _ (.int .i64 T.2) (by rfl) (by rfl) B9 Try.underlying68 rfl (by rw [hCl]; exact info68) rfl ?_
  rw [Hs.out, if_neg HT0.out]
  obtain ⟨S6, K06, hCS⟩ := HF.out
  have KF := K06.own K9 (fun q e => by unfold Only at e; subst e; exact hb2w0)
  exact ⟨CS, rfl, ⟨⟨vl5, vr5, A, a, B, b, hCS, (S6.stay B26 (by decide) (by decide) K9).later K9.size, (Hl.out.keep KF (Dj.noth _)).mono (fun _ hq => .inl hq), (Hsl.out.keep KF (Dj.noth _)).mono (fun _ hq => .inl hq), Ha.out, Hb.out⟩, grow_lt hglt KF.size⟩, KF⟩
theorem refReset_calls {w : World} {G : Nat → Prop} {FS : List Value} {R : RS} (H : RefAt w G FS R) (hg : R.good) (ho : R.D.ops ≤ 900000) (hr : R.D.row.length ≤ 900000) (A0 : Option Addr) (c0 : Nat) (l : List (List UInt8)) (HL : ReadsL w G A0 l) (hc0 : A0 = none → c0 = 0) (hn : l.length ≤ 1048576) (hlen : ∀ b ∈ l, b.length ≤ 1099511627776) (hm : moreL l ≤ 1099511627776) :
  Calls Try.prog 86 #[.agg FS.toArray, .slice A0 l.length c0] w (RefPost w G (R.reset l)) := by
 have hlI : (l.length : Int) ≤ 1048576 := by omega
 have hFl := H.len
 have hone := H.one
 obtain ⟨vl, vr, A, a, B, b0, hFS, hst, hl, hsl, ha, hb⟩ := H.ex
 have g4 : FS[4]? = some (.bool R.D.down) := by rw [hFS]; rfl
 have g7 : FS[7]? = some (.int .i64 (R.own.area : Int)) := by rw [hFS]; rfl
 have hpost : RefPost w G (R.reset l) = fun e w' => RefPost w G (R.reset l) e w' := rfl
 rw [hpost]
 have hnx := fun W (hW : Keep Noth w W) => refNext_calls (hst.keep hW (Dj.noth _)) hg.dok (by omega) (by have := hg.four; omega) (R.own.seq : Int) R.slot (R.own.area : Int) (R.own.used : Int) (.slice A R.l.length a) (.slice B R.st.length b0)
 rw [← hFS] at hnx
 have hmore := fun W (hW : Keep Noth w W) => more_calls W G A0 c0 l (HL.keep hW (Dj.noth _)) (by omega) hlen hm
 have HH := hid H
 have Hlen := hid hFl
 have Hone := hid hone
 have Hst := hid hst
 have Hl := hid hl
 have Hsl := hid hsl
 have Ha := hid ha
 have Hb := hid hb
 have HFS := hid hFS
 have Hg := hid hg
 have Hnx := hid hnx
 have Hmore := hid hmore
 have HL := hid HL
 have Hc0 := hid hc0
 clear H hFl hone hst hl hsl ha hb hFS hg hpost hnx hmore hc0
 go_enter Try.func86, Try.ntmps86
 go_wp2_with (first
  | (guard_target = wpList _ _ _ (Oper.mk _ (Op.box 68 _) _ _ _ _ :: _) _ _; refine wpList_box_v rfl 68 _ rfl FS (by rfl) ?_; intro b1 w1 hb1 B1 K1)
  | (guard_target = wpList _ _ _ (Oper.mk _ (Op.alloc 68) _ _ _ _ :: _) _ _; refine wpList_alloc_v rfl 68 rfl (.agg zfs.toArray) info68 zfs zfs_cells ?_; intro b2 w2 hb2 B2 K2; have B12 := B1.keep K2 id)
  )
 have K02 : Keep Noth w w2 := K1.trans K2 (fun _ _ h => h)
 have hb2w : w.heap.size ≤ b2 := by have := K1.size; omega
 have hb1w : w.heap.size ≤ b1 := hb1
 have hne : b1 ≠ b2 := by have := B1.lt; omega
 have HL2 := hid (HL.out.keep K02 (Dj.noth _))
 go_loopw [6] (fun i wr => (∃ k : Nat, i = .int .i64 k ∧ k ≤ l.length ∧ (∀ x ∈ l.take k, x.length ≤ 4000)) ∧ w2 = wr) (fun i _ => l.length - (intOf i).toNat)
 case atStart => exact ⟨⟨0, rfl, Nat.zero_le _, by simp⟩, rfl⟩
 case round =>
  obtain ⟨⟨k, rfl, hk, hk4⟩, rfl⟩ := hrel
  by_cases hlt : k < l.length
  ·have hlt' : (k : Int) < l.length := by omega
   obtain ⟨b, hb⟩ : ∃ b, b = l[k] := ⟨_, rfl⟩
   have hb' : l[k]? = some b := by rw [hb]; exact List.getElem?_eq_getElem hlt
   obtain ⟨gA, oA, hA0, B0, c', hcell, -, -, -⟩ := HL2.out.at k b hb'
   rw [hA0]
   by_cases hb4 : 4000 < b.length
   ·have hbI : (b.length : Int) > 4000 := by omega
    have hs : R.reset l = (R, 110) := by
     unfold RS.reset
     rw [if_pos (List.any_eq_true.2 ⟨b, List.mem_of_getElem? hb', by unfold longB; exact decide_eq_true (by omega)⟩)]
    have Hs := hid hs
    clear hs hb hb' hA0 hk4
    go_wp2_with (first
     | (guard_target = wpList _ _ _ (Oper.mk _ (Op.load 68 _) _ _ _ _ :: _) _ _; refine wpList_load_blk rfl 68 _ rfl b1 0 _ FS 68 _ (by rfl) B12 (part0 _) Try.underlying68 rfl (by rw [Hlen.out]; exact info68) ?_)
     | (guard_target = wpList _ _ _ (Oper.mk _ (Op.store 68 _ _) _ _ _ _ :: _) _ _; refine wpList_store_whole rfl 68 _ _ rfl b2 _ FS 68 (by rfl) (by rfl) B2 (by rw [Hlen.out]; rfl) (by rw [Hlen.out]; exact info68) Hone.out ?_; intro w9 B9 K9)
     )
    refine ret_cell_tmp rfl b2 _ 68 _ (.int .i64 110) (by rfl) (by rfl) B9 Try.underlying68 rfl (by rw [Hlen.out]; exact info68) rfl ?_
    rw [Hs.out]
    have KF := (K02).own K9 (fun q e => by unfold Only at e; subst e; exact hb2w)
    exact ⟨FS, rfl, HH.out.grown KF, KF⟩
   ·have hbI : decide ((b.length : Int) > 4000) = false := by simp; omega
    have Hk5 := hid (show ∀ x ∈ l.take (k + 1), x.length ≤ 4000 from fun x hx => by
     rw [List.take_add_one, hb'] at hx
     rcases List.mem_append.1 hx with e | e
     ·exact hk4 x e
     ·simp at e; subst e; omega)
    clear hb hb' hA0 hk4
    go_wp2_with fail
    go_roundw
    case rel => exact ⟨⟨k + 1, by go_num, hlt, Hk5.out⟩, by first | trivial | rfl⟩
    case measure => simp [intOf]; omega
  ·have hge : k = l.length := by omega
   subst hge
   rw [List.take_length] at hk4
   clear hlt hk
   have hany : l.any longB = false := by
    rw [List.any_eq_false]
    intro x hx
    have := hk4 x hx
    unfold longB
    simp; omega
   by_cases hd : R.D.down = true
   ·have hs : R.reset l = (R, 100) := by unfold RS.reset; rw [if_neg (by rw [hany]; decide), if_pos hd]
    have c4 : w2.cell? ⟨b1, 4, none⟩ = some (.bool true) := (B12.cell 4).trans (g4.trans (by rw [hd]))
    have Hs := hid hs
    clear hs hd hany hk4
    go_wp2_with (first
     | (guard_target = wpList _ _ _ (Oper.mk _ (Op.load 68 _) _ _ _ _ :: _) _ _; refine wpList_load_blk rfl 68 _ rfl b1 0 _ FS 68 _ (by rfl) B12 (part0 _) Try.underlying68 rfl (by rw [Hlen.out]; exact info68) ?_)
     | (guard_target = wpList _ _ _ (Oper.mk _ (Op.store 68 _ _) _ _ _ _ :: _) _ _; refine wpList_store_whole rfl 68 _ _ rfl b2 _ FS 68 (by rfl) (by rfl) B2 (by rw [Hlen.out]; rfl) (by rw [Hlen.out]; exact info68) Hone.out ?_; intro w9 B9 K9)
     )
    refine ret_cell_tmp rfl b2 _ 68 _ (.int .i64 100) (by rfl) (by rfl) B9 Try.underlying68 rfl (by rw [Hlen.out]; exact info68) rfl ?_
    rw [Hs.out]
    have KF := (K02).own K9 (fun q e => by unfold Only at e; subst e; exact hb2w)
    exact ⟨FS, rfl, HH.out.grown KF, KF⟩
   have hd : R.D.down = false := by simpa using hd
   have c4 : w2.cell? ⟨b1, 4, none⟩ = some (.bool false) := (B12.cell 4).trans (g4.trans (by rw [hd]))
   have Hk4 := hid hk4
   have Hany := hid hany
   have Hd := hid hd
   clear hk4 hany hd
   go_wp2_with fail
   have Kd2 : Keep Noth w w2.drew := K02.trans (Keep.refl Noth w2).drew (fun _ _ h => h)
   refine wp_region_ordL [(0, true), (2, true), (3, true), (1, false), (4, false), (5, true), (6, true), (7, true), (8, false), (9, true), (10, false)] (fun W => BlockIs W b1 FS 68) follows_mixed (by kernel_rfl) B12.drew ?_
   simp only [List.map_cons, List.map_nil, List.getElem?_cons_succ, List.getElem?_cons_zero, Option.getD_some]
   refine wpO_pure (v := .slice A0 l.length c0) (by rfl) (fun w' hw' => by go_simp) ?_
   go_frame
   refine wpO_pure (v := .pointer (some ⟨b1, 0, none⟩)) (by rfl) (fun w' hw' => by go_simp) ?_
   go_frame
   refine wpO_pure (v := .agg (stv vl vr R.D).toArray) (by rfl) (fun w' hw' => by exact exec_load_blk 30 _ rfl b1 0 FS (stv vl vr R.D) 68 _ (by rfl) hw' (by rw [HFS.out]; exact fsv_dev _ rfl _ _ _ _ _ _) Try.underlying30 rfl info30) ?_
   go_frame
   refine wpO_call (by rfl) (exec_call' 83 _ _ rfl Try.func83 (by kernel_rfl) (by rfl) #[.slice A0 l.length c0] (by simp [Act.eval])) ?_
   refine (Hmore.out _ Kd2).mono ?_
   rintro e w' ⟨rfl, rfl⟩
   refine ⟨_, rfl, .inr B12.drew, ?_⟩
   go_frame
   refine wpO_call (by rfl) (exec_call' 78 _ _ rfl Try.func78 (by kernel_rfl) (by rfl) #[.agg (stv vl vr R.D).toArray] (by simp [Act.eval])) ?_
   refine (refHalf_calls (Hst.out.keep Kd2 (Dj.noth _)) Hg.out.dok.most).mono ?_
   rintro e w3 ⟨rfl, K3⟩
   have K03 := Kd2.trans K3 (fun _ _ h => h)
   have B13 := B12.drew.keep K3 id
   have B23 := B2.drew.keep K3 id
   refine ⟨_, rfl, .inr B13, ?_⟩
   go_frame
   by_cases hmh : R.D.half < moreL l
   ·have hmI : decide ((moreL l : Int) > R.D.half) = true := by simp; omega
    have hs : R.reset l = (R, 111) := by unfold RS.reset; rw [if_neg (by rw [Hany.out]; decide), if_neg (by rw [Hd.out]; decide), if_pos (.inl hmh)]
    have Hs := hid hs
    clear hs
    refine wpO_pure (v := .bool true) (by rfl) (fun w' hw' => by go_simp) ?_
    go_frame
    refine wpO_pure (v := .bool true) (by rfl) (fun w' hw' => by go_simp) ?_
    go_frame
    refine wpO_skip (by rfl) ?_
    go_frame
    refine wpO_skipf (by rfl) (.inr B13) ?_
    go_frame
    refine wpO_skip (by rfl) ?_
    go_frame
    refine wpO_run (v := .bool true) (w1 := w3) (by rfl) (by go_simp) (.inl rfl) (wpO_nil ?_)
    go_frame
    go_wp2_with (first
     | (guard_target = wpList _ _ _ (Oper.mk _ (Op.load 68 _) _ _ _ _ :: _) _ _; refine wpList_load_blk rfl 68 _ rfl b1 0 _ FS 68 _ (by rfl) B13 (part0 _) Try.underlying68 rfl (by rw [Hlen.out]; exact info68) ?_)
     | (guard_target = wpList _ _ _ (Oper.mk _ (Op.store 68 _ _) _ _ _ _ :: _) _ _; refine wpList_store_whole rfl 68 _ _ rfl b2 _ FS 68 (by rfl) (by rfl) B23 (by rw [Hlen.out]; rfl) (by rw [Hlen.out]; exact info68) Hone.out ?_; intro w9 B9 K9)
     )
    refine ret_cell_tmp rfl b2 _ 68 _ (.int .i64 111) (by rfl) (by rfl) B9 Try.underlying68 rfl (by rw [Hlen.out]; exact info68) rfl ?_
    rw [Hs.out]
    have KF := (K03).own K9 (fun q e => by unfold Only at e; subst e; exact hb2w)
    exact ⟨FS, rfl, HH.out.grown KF, KF⟩
   have hmI : decide ((moreL l : Int) > R.D.half) = false := by simp; omega
   refine wpO_pure (v := .bool false) (by rfl) (fun w' hw' => by go_simp) ?_
   go_frame
   refine wpO_pure (v := .bool false) (by rfl) (fun w' hw' => by go_simp) ?_
   go_frame
   refine wpO_pure (v := .agg FS.toArray) (by rfl) (fun w' hw' => by exact exec_load_blk 68 _ rfl b1 0 FS FS 68 _ (by rfl) hw' (part0 _) Try.underlying68 rfl (by rw [Hlen.out]; exact info68)) ?_
   go_frame
   refine wpO_call (by rfl) (exec_call' 103 _ _ rfl Try.func103 (by kernel_rfl) (by rfl) #[.agg FS.toArray] (by simp [Act.eval])) ?_
   refine (Hnx.out _ K03).mono ?_
   rintro e w4 ⟨rfl, K4⟩
   have K04 := K03.trans K4 (fun _ _ h => h)
   have B14 := B13.keep K4 id
   have B24 := B23.keep K4 id
   refine ⟨_, rfl, .inr B14, ?_⟩
   go_frame
   by_cases hfar : 1099511627776 ≤ nextF R.D
   ·have hs : R.reset l = (R, 111) := by unfold RS.reset; rw [if_neg (by rw [Hany.out]; decide), if_neg (by rw [Hd.out]; decide), if_pos (.inr hfar)]
    have hfI : decide ((nextF R.D : Int) ≥ 1099511627776) = true := by simp; omega
    have Hs := hid hs
    clear hs
    refine wpO_pure (v := .bool true) (by rfl) (fun w' hw' => by go_simp) ?_
    go_frame
    refine wpO_run (v := .bool true) (w1 := w4) (by rfl) (by go_simp) (.inl rfl) (wpO_nil ?_)
    go_frame
    go_wp2_with (first
     | (guard_target = wpList _ _ _ (Oper.mk _ (Op.load 68 _) _ _ _ _ :: _) _ _; refine wpList_load_blk rfl 68 _ rfl b1 0 _ FS 68 _ (by rfl) B14 (part0 _) Try.underlying68 rfl (by rw [Hlen.out]; exact info68) ?_)
     | (guard_target = wpList _ _ _ (Oper.mk _ (Op.store 68 _ _) _ _ _ _ :: _) _ _; refine wpList_store_whole rfl 68 _ _ rfl b2 _ FS 68 (by rfl) (by rfl) B24 (by rw [Hlen.out]; rfl) (by rw [Hlen.out]; exact info68) Hone.out ?_; intro w9 B9 K9)
     )
    refine ret_cell_tmp rfl b2 _ 68 _ (.int .i64 111) (by rfl) (by rfl) B9 Try.underlying68 rfl (by rw [Hlen.out]; exact info68) rfl ?_
    rw [Hs.out]
    have KF := (K04).own K9 (fun q e => by unfold Only at e; subst e; exact hb2w)
    exact ⟨FS, rfl, HH.out.grown KF, KF⟩
   have hfI : decide ((nextF R.D : Int) ≥ 1099511627776) = false := by simp; omega
   refine wpO_pure (v := .bool false) (by rfl) (fun w' hw' => by go_simp) ?_
   go_frame
   refine wpO_run (v := .bool false) (w1 := w4) (by rfl) (by go_simp) (.inl rfl) (wpO_nil ?_)
   go_frame
   obtain ⟨f, hf⟩ : ∃ f, f = 2 + (1 - R.own.area) * R.D.half := ⟨_, rfl⟩
   have hres : R.reset l = if (R.D.writesL (f : Int) l).2 = 0 then ({ R with D := (R.D.writesL (f : Int) l).1 } : RS).turns (R.resetHd l) l else ({ R with D := (R.D.writesL (f : Int) l).1 }, (R.D.writesL (f : Int) l).2) := by
    unfold RS.reset
    rw [if_neg (by rw [Hany.out]; decide), if_neg (by rw [Hd.out]; decide), if_neg (by omega), ← hf]
   have hmh : moreL l ≤ R.D.half := by omega
   have hhl := half_le Hg.out.dok
   have harea := Hg.out.area
   have hother := Hg.out.other
   rw [← hf] at hother
   have hah : (1 - R.own.area) * R.D.half ≤ 2047 := by rcases (show R.own.area = 0 ∨ R.own.area = 1 by omega) with e | e <;> rw [e] <;> omega
   obtain ⟨ah, hahe⟩ : ∃ ah, ah = (1 - R.own.area) * R.D.half := ⟨_, rfl⟩
   have q1 : IntKind.i64.wrap ((1 : Int) - (R.own.area : Int)) = ((1 - R.own.area : Nat) : Int) := by rw [show (1 : Int) - (R.own.area : Int) = ((1 - R.own.area : Nat) : Int) by omega]; exact wrapN (by omega)
   have q2 : IntKind.i64.wrap (((1 - R.own.area : Nat) : Int) * (R.D.half : Int)) = (ah : Int) := by rw [← Int.natCast_mul, hahe]; exact wrapN (by omega)
   have q3 : IntKind.i64.wrap ((2 : Int) + (ah : Int)) = (f : Int) := by rw [show (2 : Int) + (ah : Int) = ((2 + ah : Nat) : Int) by omega, hf, hahe]; exact wrapN (by omega)
   have Hres := hid hres
   have hfb : f ≤ 2049 := by omega
   have hf2 : 2 ≤ f := by omega
   have HK04 := hid K04
   clear hres hf hfI hmI hahe hfar B12 B13 B2 B23 K1 K2 K3 K4 K02 K03 K04 Kd2 c4 hb1 hb2 hah
   go_wp2_with fail
   have Kd4 : Keep Noth w w4.drew := HK04.out.trans (Keep.refl Noth w4).drew (fun _ _ h => h)
   refine wp_region_ordL [(0, true), (1, true), (2, true), (3, true), (4, true), (5, false), (6, true), (7, true), (8, false)] (fun W => BlockIs W b1 FS 68) follows_mixed (by kernel_rfl) B14.drew ?_
   simp only [List.map_cons, List.map_nil, List.getElem?_cons_succ, List.getElem?_cons_zero, Option.getD_some]
   refine wpO_pure (v := .pointer (some ⟨b1, 7, none⟩)) (by rfl) (fun w' hw' => by go_simp) ?_
   go_frame
   refine wpO_pure (v := .int .i64 (R.own.area : Int)) (by rfl) (fun w' hw' => by have hc : w'.cell? ⟨b1, 7, none⟩ = some (.int .i64 (R.own.area : Int)) := (hw'.cell 7).trans g7; go_simp) ?_
   go_frame
   refine wpO_pure (v := .int .i64 ((1 - R.own.area : Nat) : Int)) (by rfl) (fun w' hw' => by go_simp) ?_
   go_frame
   refine wpO_pure (v := .pointer (some ⟨b1, 0, none⟩)) (by rfl) (fun w' hw' => by go_simp) ?_
   go_frame
   refine wpO_pure (v := .agg (stv vl vr R.D).toArray) (by rfl) (fun w' hw' => by exact exec_load_blk 30 _ rfl b1 0 FS (stv vl vr R.D) 68 _ (by rfl) hw' (by rw [HFS.out]; exact fsv_dev _ rfl _ _ _ _ _ _) Try.underlying30 rfl info30) ?_
   go_frame
   refine wpO_call (by rfl) (exec_call' 78 _ _ rfl Try.func78 (by kernel_rfl) (by rfl) #[.agg (stv vl vr R.D).toArray] (by simp [Act.eval])) ?_
   refine (refHalf_calls (Hst.out.keep Kd4 (Dj.noth _)) Hg.out.dok.most).mono ?_
   rintro e w5 ⟨rfl, K5⟩
   have B15 := B14.drew.keep K5 id
   have B25 := B24.drew.keep K5 id
   have K05 := Kd4.trans K5 (fun _ _ h => h)
   refine ⟨_, rfl, .inr B15, ?_⟩
   go_frame
   refine wpO_pure (v := .int .i64 (ah : Int)) (by rfl) (fun w' hw' => by go_simp) ?_
   go_frame
   refine wpO_pure (v := .int .i64 (f : Int)) (by rfl) (fun w' hw' => by go_simp) ?_
   go_frame
   refine wpO_run (v := .int .i64 (f : Int)) (w1 := w5) (by rfl) (by go_simp) (.inl rfl) (wpO_nil ?_)
   go_frame
   have hS5 := Hst.out.keep K05 (Dj.noth _)
   rw [HFS.out] at B15
   have HB15 := hid B15
   have HB25 := hid B25
   have HK05 := hid K05
   have HS5 := hid hS5
   clear q2 q3 B14 B15 B24 B25 K5 K05 Kd4 hS5
   have Q1 := hid q1
   clear q1
   go_wp2_with fail
   go_loopw [8, 7] (fun kv pv wr => ∃ (k : Nat) (vlk vrk : Value), kv = .int .i64 k ∧ k ≤ l.length ∧ pv = .int .i64 ((f + moreL (l.take k) : Nat) : Int) ∧ (R.D.writesL (f : Int) (l.take k)).2 = 0 ∧ BlockIs wr b1 (fsv (stv vlk vrk (R.D.writesL (f : Int) (l.take k)).1) (R.own.seq : Int) R.slot (R.own.area : Int) (R.own.used : Int) (.slice A R.l.length a) (.slice B R.st.length b0)) 68 ∧ BlockIs wr b2 zfs 68 ∧ StAt wr (grow G w wr) vlk vrk (R.D.writesL (f : Int) (l.take k)).1 ∧ Keep Noth w wr) (fun kv _ _ => l.length - (intOf kv).toNat)
   case atStart => exact ⟨0, vl, vr, rfl, Nat.zero_le _, by rw [List.take_zero]; rfl, by rw [List.take_zero]; rfl, by rw [List.take_zero]; exact HB15.out, HB25.out, by rw [List.take_zero]; exact HS5.out.mono (fun q hq => .inl hq), HK05.out⟩
   case round =>
    obtain ⟨k, vlk, vrk, rfl, hk, rfl, hz, B1, Br2, Sk, K0r⟩ := hrel
    have hgr := writesL_grow (l.take k) R.D (f : Int)
    have hkok := writesL_ok (l.take k) Hg.out.dok (f : Int)
    have hmt := moreL_take_le l k
    obtain ⟨m, hm'⟩ : ∃ m, m = moreL (l.take k) := ⟨_, rfl⟩
    obtain ⟨Dk, hDk⟩ : ∃ Dk, Dk = (R.D.writesL (f : Int) (l.take k)).1 := ⟨_, rfl⟩
    rw [← hm'] at hgr hmt ⊢
    rw [← hDk] at hgr hkok B1 Sk
    obtain ⟨CK, hCK⟩ : ∃ CK, CK = fsv (stv vlk vrk Dk) (R.own.seq : Int) R.slot (R.own.area : Int) (R.own.used : Int) (.slice A R.l.length a) (.slice B R.st.length b0) := ⟨_, rfl⟩
    rw [← hCK] at B1
    have HCK := hid (show CK.length = 11 ∧ (∀ u ∈ CK, u.oneCell' = true) ∧ CK = fsv (stv vlk vrk Dk) (R.own.seq : Int) R.slot (R.own.area : Int) (R.own.used : Int) (.slice A R.l.length a) (.slice B R.st.length b0) from ⟨by rw [hCK]; exact fsv_len rfl _ _ _ _ _ _, by rw [hCK]; exact fsv_ones _ _ _ _ Sk.ones rfl rfl, hCK⟩)
    have HK0r := hid K0r
    have hlen4 := Hg.out.dok.most
    clear hCK
    by_cases hlt : k < l.length
    ·have hlt' : (k : Int) < l.length := by omega
     obtain ⟨b, hb⟩ : ∃ b, b = l[k] := ⟨_, rfl⟩
     have hb' : l[k]? = some b := by rw [hb]; exact List.getElem?_eq_getElem hlt
     have hb4 : b.length ≤ 4000 := Hk4.out b (List.mem_of_getElem? hb')
     obtain ⟨gA, oA, hA0, B0, c', hcell, hRb, hc'n, -⟩ := (HL.out.keep K0r (Dj.noth _)).at k b hb'
     have hgA : gA ≠ b1 := fun e => by
      have h1 := HL.out.foot (fun e => by rw [e] at hlt; simp at hlt) ⟨gA, oA, none⟩ hA0
      have h2 := HH.out.glt _ h1
      have h2 : gA < w.heap.size := h2
      omega
     have htk : l.take (k + 1) = l.take k ++ [b] := by rw [List.take_add_one, hb']; rfl
     have hmk : moreL (l.take (k + 1)) = m + blocksN b := by rw [htk, moreL_append, ← hm']; simp [moreL]
     have hm1 := moreL_take_le l (k + 1)
     obtain ⟨D2, E2, hDE⟩ : ∃ D2 E2, Dk.writes ((f + m : Nat) : Int) (packs b) = (D2, E2) := ⟨_, _, rfl⟩
     have hsn : R.D.writesL (f : Int) (l.take (k + 1)) = (D2, E2) := by
      rw [htk, writesL_snoc _ _ _ _ hz, ← hDk, ← hm', ← hDE]
      congr 1
     have hwr := fun W (hW : Keep Noth wr W) => refWrite_calls (Sk.keep hW (Dj.noth _)) hkok (by omega) (by omega) (R.own.seq : Int) R.slot (R.own.area : Int) (R.own.used : Int) (.slice A R.l.length a) (.slice B R.st.length b0) rfl rfl B0 c' b (hRb.keep hW (fun _ _ => id)) hc'n hb4 ((f + m : Nat) : Int) (by omega)
     rw [hDE, ← HCK.out.2.2] at hwr
     have Hq5 := hid (show moreL (l.take (k + 1)) = moreL (l.take k) + blocksN b ∧ f + moreL (l.take (k + 1)) ≤ 100000 from ⟨by rw [hmk, hm'], by omega⟩)
     have Hwr := hid hwr
     have Hsn := hid hsn
     have Hlt := hid hlt
     subst hA0
     clear hwr hsn hDE hmk htk hb hb' hRb hc'n hz hDk hm1 hgr hkok Sk K0r hlt
     go_wp2_with fail
     have Kd := (Keep.refl Noth wr).drew
     refine wp_region_ordF [(0, true), (1, true), (2, true), (3, true), (4, true), (5, true)] 6 10 [(7, true), (8, true), (9, true), (10, false), (11, false), (12, false)] [(6, false), (7, true), (8, true), (9, true), (11, false), (12, false)] (fun W => Keep Noth wr W) follows_mixed (by kernel_rfl) Kd ?_
     simp only [List.map_cons, List.map_nil, List.getElem?_cons_succ, List.getElem?_cons_zero, Option.getD_some]
     refine wpO_pure (v := .agg CK.toArray) (by rfl) (fun w' hw' => by exact exec_load_blk 68 _ rfl b1 0 CK CK 68 _ (by rfl) (B1.keep hw' id) (part0 _) Try.underlying68 rfl (by rw [HCK.out.1]; exact info68)) ?_
     go_frame
     refine wpO_pure (v := .slice (some ⟨gA, oA, none⟩) l.length c0) (by rfl) (fun w' hw' => by go_simp) ?_
     go_frame
     refine wpO_pure (v := .int .i64 k) (by rfl) (fun w' hw' => by go_simp) ?_
     go_frame
     refine wpO_pure (v := .pointer (some ⟨gA, oA + k, none⟩)) (by rfl) (fun w' hw' => by go_simp) ?_
     go_frame
     refine wpO_pure (v := .slice B0 b.length c') (by rfl) (fun w' hw' => by have hc : w'.cell? ⟨gA, oA + k, none⟩ = some (.slice B0 b.length c') := hw'.cellAt id hcell; go_simp) ?_
     go_frame
     refine wpO_pure (v := .int .i64 ((f + m : Nat) : Int)) (by rfl) (fun w' hw' => by go_simp) (wpO_nil ?_)
     go_frame
     constructor
     ·refine wpO_call (by rfl) (exec_call' 102 _ _ rfl Try.func102 (by kernel_rfl) (by rfl) #[.agg CK.toArray, .slice B0 b.length c', .int .i64 ((f + m : Nat) : Int)] (by simp [Act.eval])) ?_
      refine (Hwr.out _ Kd).mono ?_
      rintro e w5 ⟨vl6, vr6, rfl, S5, K5⟩
      obtain ⟨CN, hCN⟩ : ∃ CN, CN = fsv (stv vl6 vr6 D2) (R.own.seq : Int) R.slot (R.own.area : Int) (R.own.used : Int) (.slice A R.l.length a) (.slice B R.st.length b0) := ⟨_, rfl⟩
      rw [← hCN]
      have HCN := hid (show CN.length = 11 ∧ (∀ u ∈ CN, u.oneCell' = true) ∧ CN = fsv (stv vl6 vr6 D2) (R.own.seq : Int) R.slot (R.own.area : Int) (R.own.used : Int) (.slice A R.l.length a) (.slice B R.st.length b0) from ⟨by rw [hCN]; exact fsv_len rfl _ _ _ _ _ _, by rw [hCN]; exact fsv_ones _ _ _ _ S5.ones rfl rfl, hCN⟩)
      clear hCN
      have KA := Kd.trans K5 (fun _ _ h => h)
      refine ⟨_, rfl, .inr KA, ?_⟩
      go_frame
      refine wpO_pure (v := .tuple #[.agg CN.toArray, .int .i64 E2]) (by rfl) (fun w' hw' => by go_simp) ?_
      go_frame
      refine wpO_pure (v := .agg CN.toArray) (by rfl) (fun w' hw' => by go_simp) ?_
      go_frame
      refine wpO_pure (v := .int .i64 E2) (by rfl) (fun w' hw' => by go_simp) ?_
      go_frame
      refine wpO_alloc_v (by rfl) 68 rfl (.agg zfs.toArray) info68 zfs zfs_cells ?_
      intro b9 w6 hb9 Bz K6
      have KB := KA.trans K6 (fun _ _ h => h)
      refine ⟨.inr KB, ?_⟩
      go_frame
      refine wpO_store_blk (by rfl) 68 _ _ rfl b9 _ CN 68 (by rfl) (by rfl) Bz (by rw [HCN.out.1]; rfl) (by rw [HCN.out.1]; exact info68) HCN.out.2.1 ?_
      intro w7 B9 K7
      have hsA := KA.size
      have hsr0 := HK0r.out.size
      have hs6 := K6.size
      have hs7 := K7.size
      have hb9' : wr.heap.size ≤ b9 := by omega
      have KC : Keep Noth wr w7 := KB.own K7 (fun q e => by unfold Only at e; subst e; exact hb9')
      refine ⟨.inr KC, ?_⟩
      go_frame
      have S7 : StAt w7 (grow G w w7) vl6 vr6 D2 := ((((S5.mono (G := grow (grow G w wr) wr w5) (fun q hq => hq)).grown hsr0 hsA).keep K6 (Dj.noth _)).stay Bz (by decide) (by decide) K7).mono (fun q hq => hq.imp id (fun e => ⟨e.1, by have := e.2; omega⟩))
      clear K5 K6 K7 KA KB S5 Bz Kd
      refine wpO_run (v := .int .i64 E2) (w1 := w7) (by rfl) (by go_simp) (.inl rfl) (wpO_nil ?_)
      go_frame
      have hsr := HK0r.out.size
      have hsC := KC.size
      have hb9r1 : b1 < b9 := by have := B1.lt; omega
      have hb9r2 : b2 < b9 := by have := Br2.lt; omega
      have KK := hid (HK0r.out.trans KC (fun _ _ h => h))
      have B17 := hid (B1.keep KC id)
      have B27 := hid (Br2.keep KC id)
      have c7 : w7.cell? ⟨gA, oA + k, none⟩ = some (.slice B0 b.length c') := KC.cellAt id hcell
      have HB9 := hid B9
      have HS7 := hid S7
      have HKC := hid KC
      clear B9 S7 KC hb9
      by_cases hez : E2 = 0
      ·have hezb : (E2 == 0) = true := by simpa using hez
       have Hez := hid hez
       have hbl := fun W => refBlocks_calls W B0 c' b (by omega)
       clear hez
       go_wp2_with (first
        | (guard_target = wpList _ _ _ (Oper.mk _ (Op.load 68 _) _ _ _ _ :: _) _ _; refine wpList_load_blk rfl 68 _ rfl b9 0 _ CN 68 _ (by rfl) HB9.out (part0 _) Try.underlying68 rfl (by rw [HCN.out.1]; exact info68) ?_)
        | (guard_target = wpList _ _ _ (Oper.mk _ (Op.store 68 _ _) _ _ _ _ :: _) _ _; refine wpList_store_whole rfl 68 _ _ rfl b1 _ CN 68 (by rfl) (by rfl) B17.out (by rw [HCN.out.1, HCK.out.1]) (by rw [HCN.out.1]; exact info68) HCN.out.2.1 ?_; intro w8 B18 K8; have c8 : w8.cell? ⟨gA, oA + k, none⟩ = some (.slice B0 b.length c') := K8.cellAt (fun e => by unfold Only at e; exact hgA e) c7))
       refine (hbl w8).mono ?_
       rintro e w' ⟨rfl, rfl⟩
       have K08 := KK.out.own K8 (fun q e => by unfold Only at e; subst e; exact hb1w)
       have B28 := B27.out.keep K8 (fun e => by unfold Only at e; exact hne e.symm)
       have S8 := HS7.out.stay B17.out (by decide) (by decide) K8
       have HF := hid (show _ ∧ _ ∧ _ ∧ _ from ⟨K08, B18, B28, S8.later K8.size⟩)
       clear K08 B18 B28 S8 K8 c7 hbl hcell
       go_wp2_with fail
       go_roundw
       case rel => exact ⟨k + 1, vl6, vr6, by go_num, Hlt.out, by first | rfl | (congr 1; unfold wrap64; have := Hq5.out.1; have := Hq5.out.2; omega), by rw [Hsn.out, Hez.out], by rw [Hsn.out, ← HCN.out.2.2]; exact HF.out.2.1, HF.out.2.2.1, by rw [Hsn.out]; exact HF.out.2.2.2, HF.out.1⟩
       case measure => simp [intOf]; have := Hlt.out; omega
      ·have hezb : (E2 == 0) = false := by simpa using hez
       have hfin : R.D.writesL (f : Int) l = (D2, E2) := by
        rw [← Hsn.out]
        conv => lhs; rw [← List.take_append_drop (k + 1) l]
        exact writesL_stop _ _ _ _ (by rw [Hsn.out]; exact hez)
       have hrs : R.reset l = ({ R with D := D2 }, E2) := by rw [Hres.out, hfin, if_neg hez]
       have Hrs := hid hrs
       clear hfin hrs hez hcell
       go_wp2_with (first
        | (guard_target = wpList _ _ _ (Oper.mk _ (Op.load 68 _) _ _ _ _ :: _) _ _; refine wpList_load_blk rfl 68 _ rfl b9 0 _ CN 68 _ (by rfl) HB9.out (part0 _) Try.underlying68 rfl (by rw [HCN.out.1]; exact info68) ?_)
        | (guard_target = wpList _ _ _ (Oper.mk _ (Op.store 68 _ _) _ _ _ _ :: _) _ _; refine wpList_store_whole rfl 68 _ _ rfl b1 _ CN 68 (by rfl) (by rfl) B17.out (by rw [HCN.out.1, HCK.out.1]) (by rw [HCN.out.1]; exact info68) HCN.out.2.1 ?_; intro w8 B18 K8; have B28 := B27.out.keep K8 (fun e => by unfold Only at e; exact hne e.symm))
        | (guard_target = wpList _ _ _ (Oper.mk _ (Op.load 68 _) _ _ _ _ :: _) _ _; refine wpList_load_blk rfl 68 _ rfl b1 0 _ CN 68 _ (by rfl) B18 (part0 _) Try.underlying68 rfl (by rw [HCN.out.1]; exact info68) ?_)
        | (guard_target = wpList _ _ _ (Oper.mk _ (Op.store 68 _ _) _ _ _ _ :: _) _ _; refine wpList_store_whole rfl 68 _ _ rfl b2 _ CN 68 (by rfl) (by rfl) B28 (by rw [HCN.out.1]; rfl) (by rw [HCN.out.1]; exact info68) HCN.out.2.1 ?_; intro w99 B99 K99))
       refine ret_cell_tmp rfl b2 _ 68 _ (.int .i64 E2) (by rfl) (by rfl) B99 Try.underlying68 rfl (by rw [HCN.out.1]; exact info68) rfl ?_
       rw [Hrs.out]
       have K09 := (KK.out.own K8 (fun q e => by unfold Only at e; subst e; exact hb1w)).own K99 (fun q e => by unfold Only at e; subst e; exact hb2w)
       have S9 := (HS7.out.stay B17.out (by decide) (by decide) K8).stay B28 (by decide) (by decide) K99
       exact ⟨CN, rfl, ⟨⟨vl6, vr6, A, a, B, b0, HCN.out.2.2, S9.later (Nat.le_trans K8.size K99.size), (Hl.out.keep K09 (Dj.noth _)).mono (fun _ hq => .inl hq), (Hsl.out.keep K09 (Dj.noth _)).mono (fun _ hq => .inl hq), Ha.out, Hb.out⟩, grow_lt HH.out.glt K09.size⟩, K09⟩
     ·refine wpO_alloc_v (by rfl) 68 rfl (.agg zfs.toArray) info68 zfs zfs_cells ?_
      intro b9 w6 hb9 Bz K6
      have KB := Kd.trans K6 (fun _ _ h => h)
      refine ⟨.inr KB, ?_⟩
      go_frame
      refine wpO_call (by rfl) (exec_call' 102 _ _ rfl Try.func102 (by kernel_rfl) (by rfl) #[.agg CK.toArray, .slice B0 b.length c', .int .i64 ((f + m : Nat) : Int)] (by simp [Act.eval])) ?_
      refine (Hwr.out _ KB).mono ?_
      rintro e w5 ⟨vl6, vr6, rfl, S5, K5⟩
      obtain ⟨CN, hCN⟩ : ∃ CN, CN = fsv (stv vl6 vr6 D2) (R.own.seq : Int) R.slot (R.own.area : Int) (R.own.used : Int) (.slice A R.l.length a) (.slice B R.st.length b0) := ⟨_, rfl⟩
      rw [← hCN]
      have HCN := hid (show CN.length = 11 ∧ (∀ u ∈ CN, u.oneCell' = true) ∧ CN = fsv (stv vl6 vr6 D2) (R.own.seq : Int) R.slot (R.own.area : Int) (R.own.used : Int) (.slice A R.l.length a) (.slice B R.st.length b0) from ⟨by rw [hCN]; exact fsv_len rfl _ _ _ _ _ _, by rw [hCN]; exact fsv_ones _ _ _ _ S5.ones rfl rfl, hCN⟩)
      clear hCN
      have KA := KB.trans K5 (fun _ _ h => h)
      refine ⟨_, rfl, .inr KA, ?_⟩
      go_frame
      refine wpO_pure (v := .tuple #[.agg CN.toArray, .int .i64 E2]) (by rfl) (fun w' hw' => by go_simp) ?_
      go_frame
      refine wpO_pure (v := .agg CN.toArray) (by rfl) (fun w' hw' => by go_simp) ?_
      go_frame
      refine wpO_pure (v := .int .i64 E2) (by rfl) (fun w' hw' => by go_simp) ?_
      go_frame
      have Bz5 := Bz.keep K5 id
      refine wpO_store_blk (by rfl) 68 _ _ rfl b9 _ CN 68 (by rfl) (by rfl) Bz5 (by rw [HCN.out.1]; rfl) (by rw [HCN.out.1]; exact info68) HCN.out.2.1 ?_
      intro w7 B9 K7
      have hsA := KA.size
      have hsB := KB.size
      have hsr0 := HK0r.out.size
      have hs5 := K5.size
      have hs7 := K7.size
      have hb9' : wr.heap.size ≤ b9 := by have e : wr.drew.heap.size = wr.heap.size := rfl; omega
      have KC : Keep Noth wr w7 := KA.own K7 (fun q e => by unfold Only at e; subst e; exact hb9')
      refine ⟨.inr KC, ?_⟩
      go_frame
      have S7 : StAt w7 (grow G w w7) vl6 vr6 D2 := ((S5.mono (G := grow G w w5) (fun q hq => by
       rcases hq with (hq | hq) | hq
       ·exact .inl hq
       ·exact .inr ⟨hq.1, by have := hq.2; omega⟩
       ·exact .inr ⟨by have := hq.1; omega, hq.2⟩)).stay Bz5 (by decide) (by decide) K7).later hs7
      clear K5 K6 K7 KA KB S5 Bz Bz5 Kd
      refine wpO_run (v := .int .i64 E2) (w1 := w7) (by rfl) (by go_simp) (.inl rfl) (wpO_nil ?_)
      go_frame
      have hsr := HK0r.out.size
      have hsC := KC.size
      have hb9r1 : b1 < b9 := by have := B1.lt; omega
      have hb9r2 : b2 < b9 := by have := Br2.lt; omega
      have KK := hid (HK0r.out.trans KC (fun _ _ h => h))
      have B17 := hid (B1.keep KC id)
      have B27 := hid (Br2.keep KC id)
      have c7 : w7.cell? ⟨gA, oA + k, none⟩ = some (.slice B0 b.length c') := KC.cellAt id hcell
      have HB9 := hid B9
      have HS7 := hid S7
      have HKC := hid KC
      clear B9 S7 KC hb9
      by_cases hez : E2 = 0
      ·have hezb : (E2 == 0) = true := by simpa using hez
       have Hez := hid hez
       have hbl := fun W => refBlocks_calls W B0 c' b (by omega)
       clear hez
       go_wp2_with (first
        | (guard_target = wpList _ _ _ (Oper.mk _ (Op.load 68 _) _ _ _ _ :: _) _ _; refine wpList_load_blk rfl 68 _ rfl b9 0 _ CN 68 _ (by rfl) HB9.out (part0 _) Try.underlying68 rfl (by rw [HCN.out.1]; exact info68) ?_)
        | (guard_target = wpList _ _ _ (Oper.mk _ (Op.store 68 _ _) _ _ _ _ :: _) _ _; refine wpList_store_whole rfl 68 _ _ rfl b1 _ CN 68 (by rfl) (by rfl) B17.out (by rw [HCN.out.1, HCK.out.1]) (by rw [HCN.out.1]; exact info68) HCN.out.2.1 ?_; intro w8 B18 K8; have c8 : w8.cell? ⟨gA, oA + k, none⟩ = some (.slice B0 b.length c') := K8.cellAt (fun e => by unfold Only at e; exact hgA e) c7))
       refine (hbl w8).mono ?_
       rintro e w' ⟨rfl, rfl⟩
       have K08 := KK.out.own K8 (fun q e => by unfold Only at e; subst e; exact hb1w)
       have B28 := B27.out.keep K8 (fun e => by unfold Only at e; exact hne e.symm)
       have S8 := HS7.out.stay B17.out (by decide) (by decide) K8
       have HF := hid (show _ ∧ _ ∧ _ ∧ _ from ⟨K08, B18, B28, S8.later K8.size⟩)
       clear K08 B18 B28 S8 K8 c7 hbl hcell
       go_wp2_with fail
       go_roundw
       case rel => exact ⟨k + 1, vl6, vr6, by go_num, Hlt.out, by first | rfl | (congr 1; unfold wrap64; have := Hq5.out.1; have := Hq5.out.2; omega), by rw [Hsn.out, Hez.out], by rw [Hsn.out, ← HCN.out.2.2]; exact HF.out.2.1, HF.out.2.2.1, by rw [Hsn.out]; exact HF.out.2.2.2, HF.out.1⟩
       case measure => simp [intOf]; have := Hlt.out; omega
      ·have hezb : (E2 == 0) = false := by simpa using hez
       have hfin : R.D.writesL (f : Int) l = (D2, E2) := by
        rw [← Hsn.out]
        conv => lhs; rw [← List.take_append_drop (k + 1) l]
        exact writesL_stop _ _ _ _ (by rw [Hsn.out]; exact hez)
       have hrs : R.reset l = ({ R with D := D2 }, E2) := by rw [Hres.out, hfin, if_neg hez]
       have Hrs := hid hrs
       clear hfin hrs hez hcell
       go_wp2_with (first
        | (guard_target = wpList _ _ _ (Oper.mk _ (Op.load 68 _) _ _ _ _ :: _) _ _; refine wpList_load_blk rfl 68 _ rfl b9 0 _ CN 68 _ (by rfl) HB9.out (part0 _) Try.underlying68 rfl (by rw [HCN.out.1]; exact info68) ?_)
        | (guard_target = wpList _ _ _ (Oper.mk _ (Op.store 68 _ _) _ _ _ _ :: _) _ _; refine wpList_store_whole rfl 68 _ _ rfl b1 _ CN 68 (by rfl) (by rfl) B17.out (by rw [HCN.out.1, HCK.out.1]) (by rw [HCN.out.1]; exact info68) HCN.out.2.1 ?_; intro w8 B18 K8; have B28 := B27.out.keep K8 (fun e => by unfold Only at e; exact hne e.symm))
        | (guard_target = wpList _ _ _ (Oper.mk _ (Op.load 68 _) _ _ _ _ :: _) _ _; refine wpList_load_blk rfl 68 _ rfl b1 0 _ CN 68 _ (by rfl) B18 (part0 _) Try.underlying68 rfl (by rw [HCN.out.1]; exact info68) ?_)
        | (guard_target = wpList _ _ _ (Oper.mk _ (Op.store 68 _ _) _ _ _ _ :: _) _ _; refine wpList_store_whole rfl 68 _ _ rfl b2 _ CN 68 (by rfl) (by rfl) B28 (by rw [HCN.out.1]; rfl) (by rw [HCN.out.1]; exact info68) HCN.out.2.1 ?_; intro w99 B99 K99))
       refine ret_cell_tmp rfl b2 _ 68 _ (.int .i64 E2) (by rfl) (by rfl) B99 Try.underlying68 rfl (by rw [HCN.out.1]; exact info68) rfl ?_
       rw [Hrs.out]
       have K09 := (KK.out.own K8 (fun q e => by unfold Only at e; subst e; exact hb1w)).own K99 (fun q e => by unfold Only at e; subst e; exact hb2w)
       have S9 := (HS7.out.stay B17.out (by decide) (by decide) K8).stay B28 (by decide) (by decide) K99
       exact ⟨CN, rfl, ⟨⟨vl6, vr6, A, a, B, b0, HCN.out.2.2, S9.later (Nat.le_trans K8.size K99.size), (Hl.out.keep K09 (Dj.noth _)).mono (fun _ hq => .inl hq), (Hsl.out.keep K09 (Dj.noth _)).mono (fun _ hq => .inl hq), Ha.out, Hb.out⟩, grow_lt HH.out.glt K09.size⟩, K09⟩
    ·have hge : k = l.length := by omega
     subst hge
     rw [List.take_length] at hz hDk hm'
     have hkp := writesL_keep l R.D f Hd.out (by omega)
     have hnx2 : nextF Dk = nextF R.D := by rw [hDk]; exact nextF_congr (fun j hj => hkp.2.1 j (.inl (by omega)))
     have hrs : R.reset l = ({ R with D := Dk } : RS).turns (R.resetHd l) l := by rw [Hres.out, if_pos hz, ← hDk]
     have Hnx2 := hid hnx2
     have Hrs := hid hrs
     have g7' : CK[7]? = some (.int .i64 (R.own.area : Int)) := by rw [HCK.out.2.2]; rfl
     have hfour := Hg.out.four
     obtain ⟨i33, hi33, -⟩ := info_parts info33
     have Hi33 := hid hi33
     have q1 := Q1.out
     clear hkp hnx2 hrs hDk hz hi33
     subst hm'
     go_wp2_with fail
     have Kd : Keep Noth wr wr.drew := (Keep.refl Noth wr).drew
     have K0d : Keep Noth w wr.drew := HK0r.out.trans Kd (fun _ _ h => h)
     refine wp_region_ordF [(0, true), (1, true), (2, true), (3, true), (4, true), (7, true)] 5 6 [(6, false), (8, false), (9, false), (10, true), (11, true), (12, false), (13, false)] [(5, false), (8, false), (9, false), (10, true), (11, true), (12, false), (13, false)] (fun W => BlockIs W b1 CK 68) follows_mixed (by kernel_rfl) B1.drew ?_
     simp only [List.map_cons, List.map_nil, List.getElem?_cons_succ, List.getElem?_cons_zero, Option.getD_some]
     refine wpO_pure (v := .agg CK.toArray) (by rfl) (fun w' hw' => by exact exec_load_blk 68 _ rfl b1 0 CK CK 68 _ (by rfl) hw' (part0 _) Try.underlying68 rfl (by rw [HCK.out.1]; exact info68)) ?_
     go_frame
     refine wpO_pure (v := .pointer (some ⟨b1, 7, none⟩)) (by rfl) (fun w' hw' => by go_simp) ?_
     go_frame
     refine wpO_pure (v := .int .i64 (R.own.area : Int)) (by rfl) (fun w' hw' => by have hc : w'.cell? ⟨b1, 7, none⟩ = some (.int .i64 (R.own.area : Int)) := (hw'.cell 7).trans g7'; go_simp) ?_
     go_frame
     refine wpO_pure (v := .int .i64 ((1 - R.own.area : Nat) : Int)) (by rfl) (fun w' hw' => by go_simp) ?_
     go_frame
     refine wpO_pure (v := .slice A0 l.length c0) (by rfl) (fun w' hw' => by go_simp) ?_
     go_frame
     refine wpO_pure (v := .slice A0 l.length c0) (by rfl) (fun w' hw' => by go_simp) (wpO_nil ?_)
     go_frame
     constructor
     ·refine wpO_call (by rfl) (exec_call' 83 _ _ rfl Try.func83 (by kernel_rfl) (by rfl) #[.slice A0 l.length c0] (by simp [Act.eval])) ?_
      refine (Hmore.out _ K0d).mono ?_
      rintro e w' ⟨rfl, rfl⟩
      refine ⟨_, rfl, .inr B1.drew, ?_⟩
      go_frame
      refine wpO_slice0 (by rfl) 63 33 1 rfl sl63 Hi33.out ?_
      intro b4 w4 hb4 R4 K4
      have KR := Kd.trans K4 (fun _ _ h => h)
      have KA := K0d.trans K4 (fun _ _ h => h)
      refine ⟨.inr (B1.keep KR id), ?_⟩
      go_frame
      have hb4r : wr.heap.size ≤ b4 := hb4
      have hb4w : w.heap.size ≤ b4 := by have := HK0r.out.size; omega
      have hb4u : b4 < w4.heap.size := (RowsL.own (RowsL.empty (G := G) R4) b4 rfl).2
      have hb4G : ¬ G b4 := fun e => by have := HH.out.glt _ e; omega
      have hb24 : b2 < b4 := by have h1 := Br2.lt; have h2 := Kd.size; omega
      have hl4' := HL.out.keep KA (Dj.noth _)
      obtain ⟨vs1, q1l, q1r, q1e⟩ := hl4'.parts
      refine wpO_appendL (by rfl) _ _ rfl (F := fun q => q = b4) (G := G) (v := .slice (some ⟨b4, 0, none⟩) 0 0) (l := []) (m := l) (by rfl) (RowsL.empty R4) (A := A0) (n := l.length) (c := c0) (by rfl) rfl Hc0.out vs1 q1l q1r q1e (by simp; omega) (fun q e => by injection e with e; subst e; exact hb4G) ?_
      intro v5 w5 R5 K5
      rw [List.nil_append] at R5
      have K05 : Keep Noth w w5 := KA.own K5 (fun q e => by injection e with e; subst e; exact hb4w)
      have B15 := (B1.keep KR id).keep K5 (fun e => by injection e with e; have e : b4 = b1 := e; have := B1.lt; omega)
      refine ⟨.inr B15, ?_⟩
      go_frame
      have B25 := (Br2.keep KR id).keep K5 (fun e => by injection e with e; have e : b4 = b2 := e; omega)
      obtain ⟨A6, c6, hv6, hn6⟩ := R5.val
      subst hv6
      obtain ⟨N, hN⟩ : ∃ N, N = l.length := ⟨_, rfl⟩
      have S5 := Sk.keep (KR.own K5 (fun q e => by injection e with e; subst e; exact hb4r)) (Dj.noth _)
      have htn := refTurn_calls S5 hkok (by omega) (by omega) (by omega) (R.own.seq : Int) R.slot (R.own.area : Int) (R.own.used : Int) (.slice A R.l.length a) (.slice B R.st.length b0) rfl rfl (1 - R.own.area) (moreL l) N c6 A6 (by omega) (by omega) (by omega) R.nslot rfl
      rw [← HCK.out.2.2, Hnx2.out, show headB (nextF R.D) (1 - R.own.area) (moreL l) N = (R.resetHd l).bytes by rw [hN]; rfl] at htn
      rw [← hN]
      obtain ⟨T, hT⟩ : ∃ T, T = Dk.turn R.nslot (R.resetHd l).bytes := ⟨_, rfl⟩
      rw [← hT] at htn
      refine wpO_call (by rfl) (exec_call' 104 _ _ rfl Try.func104 (by kernel_rfl) (by rfl) #[.agg CK.toArray, .int .i64 ((1 - R.own.area : Nat) : Int), .int .i64 (moreL l : Int), .slice A6 N c6] (by simp [Act.eval])) ?_
      refine (htn).mono ?_
      rintro e w7 ⟨vl7, vr7, rfl, S7, K7⟩
      clear htn
      obtain ⟨CS, hCS⟩ : ∃ CS, CS = pickV T.2 (fsv (stv vl7 vr7 T.1) (nextF R.D : Int) R.nslot ((1 - R.own.area : Nat) : Int) (moreL l : Int) (.slice A6 N c6) (.slice none 0 0)) (fsv (stv vl7 vr7 T.1) (R.own.seq : Int) R.slot (R.own.area : Int) (R.own.used : Int) (.slice A R.l.length a) (.slice B R.st.length b0)) := ⟨_, rfl⟩
      rw [← hCS]
      have hCl : CS.length = 11 := by rw [hCS]; unfold pickV; split <;> exact fsv_len rfl _ _ _ _ _ _
      have hCo : ∀ u ∈ CS, u.oneCell' = true := by rw [hCS]; unfold pickV; split <;> exact fsv_ones _ _ _ _ S7.ones rfl rfl
      refine ⟨_, rfl, .inr (B15.keep K7 id), ?_⟩
      go_frame
      refine wpO_pure (v := .agg CS.toArray) (by rfl) (fun w' hw' => by go_simp) ?_
      go_frame
      refine wpO_pure (v := .int .i64 T.2) (by rfl) (fun w' hw' => by go_simp) ?_
      go_frame
      refine wpO_store_blk (by rfl) 68 _ _ rfl b2 _ CS 68 (by rfl) (by rfl) (B25.keep K7 id) (by rw [hCl]; rfl) (by rw [hCl]; exact info68) hCo ?_
      intro w8 B28 K8
      refine ⟨.inr ((B15.keep K7 id).keep K8 (fun e => by unfold Only at e; exact hne e)), ?_⟩
      go_frame
      refine wpO_run (v := .int .i64 T.2) (w1 := w8) (by rfl) (by go_simp) (.inl rfl) (wpO_nil ?_)
      go_frame
      have K08 : Keep Noth w w8 := (K05.trans K7 (fun _ _ h => h)).own K8 (fun q e => by unfold Only at e; subst e; exact hb2w)
      have hs4 := KR.size
      have hs5 := K5.size
      have hs7 := K7.size
      have hs8 := K8.size
      have hs0 := KA.size
      have hsr0 := HK0r.out.size
      have hF6 : ∀ q, (some b4 = some q ∨ (w4.heap.size ≤ q ∧ q < w5.heap.size)) → w.heap.size ≤ q ∧ q < w8.heap.size ∧ q ≠ b2 := fun q hq => by
       have hb25 := B25.lt
       rcases hq with e | e
       ·injection e with e; exact ⟨by omega, by omega, by omega⟩
       ·have := Br2.lt; exact ⟨by omega, by omega, by omega⟩
      have R8 := (R5.keep K7 (Dj.noth _) (Dj.noth _)).keep K8 (fun q hq e => (hF6 q hq).2.2 e) (fun q hq e => by unfold Only at e; have := HH.out.glt _ hq; omega)
      have L8 : ReadsL w8 (grow G w w8) A6 l := by
       have := R8.reads
       exact this.mono (fun q hq => hq.elim (fun e => .inr ⟨(hF6 q e).1, (hF6 q e).2.1⟩) .inl)
      have S8 : StAt w8 (grow G w w8) vl7 vr7 T.1 := (S7.stay (B25.keep K7 id) (by decide) (by decide) K8).mono (fun q hq => by
       rcases hq with (hq | hq) | hq
       ·exact .inl hq
       ·exact .inr ⟨hq.1, by have := hq.2; omega⟩
       ·exact .inr ⟨by have := hq.1; omega, by have := hq.2; omega⟩)
      have HF := hid (show _ ∧ _ ∧ _ ∧ _ ∧ _ from ⟨S8, K08, L8, hCS, hT⟩)
      have HN := hid hN
      clear S7 K08 hCS hT R5 L8 S8 R8 hF6 hN
      go_wp2_with fail
      refine ret_cell_tmp rfl b2 CS 68 _ (.int .i64 T.2) (by rfl) (by rfl) B28 Try.underlying68 rfl (by rw [hCl]; exact info68) rfl ?_
      rw [Hrs.out]
      obtain ⟨S8, K08, L8, hCS, hT⟩ := HF.out
      have hgl := grow_lt HH.out.glt K08.size
      by_cases hT0 : T.2 = 0
      ·have ht : ({ R with D := Dk } : RS).turns (R.resetHd l) l = (⟨T.1, R.resetHd l, R.nslot, l, [], 0⟩, 0) := by unfold RS.turns; rw [show (({ R with D := Dk } : RS).D.turn ({ R with D := Dk } : RS).nslot (R.resetHd l).bytes) = T from hT.symm]; simp only []; rw [if_pos hT0]; rfl
       rw [ht]
       rw [hT0] at hCS ⊢
       rw [pickV_ok, HN.out] at hCS
       exact ⟨CS, rfl, ⟨⟨vl7, vr7, A6, c6, none, 0, hCS, S8, L8, ⟨⟨[], rfl, Reads.nil _ _, fun i v b e => by simp at e⟩, fun h => absurd rfl h⟩, hn6, fun _ => rfl⟩, hgl⟩, K08⟩
      ·have ht : ({ R with D := Dk } : RS).turns (R.resetHd l) l = ({ R with D := T.1 }, T.2) := by unfold RS.turns; rw [show (({ R with D := Dk } : RS).D.turn ({ R with D := Dk } : RS).nslot (R.resetHd l).bytes) = T from hT.symm]; simp only []; rw [if_neg hT0]
       rw [ht]
       rw [pickV_no hT0] at hCS
       exact ⟨CS, rfl, ⟨⟨vl7, vr7, A, a, B, b0, hCS, S8, (Hl.out.keep K08 (Dj.noth _)).mono (fun _ hq => .inl hq), (Hsl.out.keep K08 (Dj.noth _)).mono (fun _ hq => .inl hq), Ha.out, Hb.out⟩, hgl⟩, K08⟩
     ·refine wpO_slice0 (by rfl) 63 33 1 rfl sl63 Hi33.out ?_
      intro b4 w4 hb4 R4 K4
      have KR := Kd.trans K4 (fun _ _ h => h)
      have KA := K0d.trans K4 (fun _ _ h => h)
      refine ⟨.inr (B1.keep KR id), ?_⟩
      go_frame
      have hb4r : wr.heap.size ≤ b4 := hb4
      have hb4w : w.heap.size ≤ b4 := by have := HK0r.out.size; omega
      refine wpO_call (by rfl) (exec_call' 83 _ _ rfl Try.func83 (by kernel_rfl) (by rfl) #[.slice A0 l.length c0] (by simp [Act.eval])) ?_
      refine (Hmore.out _ KA).mono ?_
      rintro e w' ⟨rfl, rfl⟩
      refine ⟨_, rfl, .inr (B1.keep KR id), ?_⟩
      go_frame
      have hb4u : b4 < w4.heap.size := (RowsL.own (RowsL.empty (G := G) R4) b4 rfl).2
      have hb4G : ¬ G b4 := fun e => by have := HH.out.glt _ e; omega
      have hb24 : b2 < b4 := by have h1 := Br2.lt; have h2 := Kd.size; omega
      have hl4' := HL.out.keep KA (Dj.noth _)
      obtain ⟨vs1, q1l, q1r, q1e⟩ := hl4'.parts
      refine wpO_appendL (by rfl) _ _ rfl (F := fun q => q = b4) (G := G) (v := .slice (some ⟨b4, 0, none⟩) 0 0) (l := []) (m := l) (by rfl) (RowsL.empty R4) (A := A0) (n := l.length) (c := c0) (by rfl) rfl Hc0.out vs1 q1l q1r q1e (by simp; omega) (fun q e => by injection e with e; subst e; exact hb4G) ?_
      intro v5 w5 R5 K5
      rw [List.nil_append] at R5
      have K05 : Keep Noth w w5 := KA.own K5 (fun q e => by injection e with e; subst e; exact hb4w)
      have B15 := (B1.keep KR id).keep K5 (fun e => by injection e with e; have e : b4 = b1 := e; have := B1.lt; omega)
      refine ⟨.inr B15, ?_⟩
      go_frame
      have B25 := (Br2.keep KR id).keep K5 (fun e => by injection e with e; have e : b4 = b2 := e; omega)
      obtain ⟨A6, c6, hv6, hn6⟩ := R5.val
      subst hv6
      obtain ⟨N, hN⟩ : ∃ N, N = l.length := ⟨_, rfl⟩
      have S5 := Sk.keep (KR.own K5 (fun q e => by injection e with e; subst e; exact hb4r)) (Dj.noth _)
      have htn := refTurn_calls S5 hkok (by omega) (by omega) (by omega) (R.own.seq : Int) R.slot (R.own.area : Int) (R.own.used : Int) (.slice A R.l.length a) (.slice B R.st.length b0) rfl rfl (1 - R.own.area) (moreL l) N c6 A6 (by omega) (by omega) (by omega) R.nslot rfl
      rw [← HCK.out.2.2, Hnx2.out, show headB (nextF R.D) (1 - R.own.area) (moreL l) N = (R.resetHd l).bytes by rw [hN]; rfl] at htn
      rw [← hN]
      obtain ⟨T, hT⟩ : ∃ T, T = Dk.turn R.nslot (R.resetHd l).bytes := ⟨_, rfl⟩
      rw [← hT] at htn
      refine wpO_call (by rfl) (exec_call' 104 _ _ rfl Try.func104 (by kernel_rfl) (by rfl) #[.agg CK.toArray, .int .i64 ((1 - R.own.area : Nat) : Int), .int .i64 (moreL l : Int), .slice A6 N c6] (by simp [Act.eval])) ?_
      refine (htn).mono ?_
      rintro e w7 ⟨vl7, vr7, rfl, S7, K7⟩
      clear htn
      obtain ⟨CS, hCS⟩ : ∃ CS, CS = pickV T.2 (fsv (stv vl7 vr7 T.1) (nextF R.D : Int) R.nslot ((1 - R.own.area : Nat) : Int) (moreL l : Int) (.slice A6 N c6) (.slice none 0 0)) (fsv (stv vl7 vr7 T.1) (R.own.seq : Int) R.slot (R.own.area : Int) (R.own.used : Int) (.slice A R.l.length a) (.slice B R.st.length b0)) := ⟨_, rfl⟩
      rw [← hCS]
      have hCl : CS.length = 11 := by rw [hCS]; unfold pickV; split <;> exact fsv_len rfl _ _ _ _ _ _
      have hCo : ∀ u ∈ CS, u.oneCell' = true := by rw [hCS]; unfold pickV; split <;> exact fsv_ones _ _ _ _ S7.ones rfl rfl
      refine ⟨_, rfl, .inr (B15.keep K7 id), ?_⟩
      go_frame
      refine wpO_pure (v := .agg CS.toArray) (by rfl) (fun w' hw' => by go_simp) ?_
      go_frame
      refine wpO_pure (v := .int .i64 T.2) (by rfl) (fun w' hw' => by go_simp) ?_
      go_frame
      refine wpO_store_blk (by rfl) 68 _ _ rfl b2 _ CS 68 (by rfl) (by rfl) (B25.keep K7 id) (by rw [hCl]; rfl) (by rw [hCl]; exact info68) hCo ?_
      intro w8 B28 K8
      refine ⟨.inr ((B15.keep K7 id).keep K8 (fun e => by unfold Only at e; exact hne e)), ?_⟩
      go_frame
      refine wpO_run (v := .int .i64 T.2) (w1 := w8) (by rfl) (by go_simp) (.inl rfl) (wpO_nil ?_)
      go_frame
      have K08 : Keep Noth w w8 := (K05.trans K7 (fun _ _ h => h)).own K8 (fun q e => by unfold Only at e; subst e; exact hb2w)
      have hs4 := KR.size
      have hs5 := K5.size
      have hs7 := K7.size
      have hs8 := K8.size
      have hs0 := KA.size
      have hsr0 := HK0r.out.size
      have hF6 : ∀ q, (some b4 = some q ∨ (w4.heap.size ≤ q ∧ q < w5.heap.size)) → w.heap.size ≤ q ∧ q < w8.heap.size ∧ q ≠ b2 := fun q hq => by
       have hb25 := B25.lt
       rcases hq with e | e
       ·injection e with e; exact ⟨by omega, by omega, by omega⟩
       ·have := Br2.lt; exact ⟨by omega, by omega, by omega⟩
      have R8 := (R5.keep K7 (Dj.noth _) (Dj.noth _)).keep K8 (fun q hq e => (hF6 q hq).2.2 e) (fun q hq e => by unfold Only at e; have := HH.out.glt _ hq; omega)
      have L8 : ReadsL w8 (grow G w w8) A6 l := by
       have := R8.reads
       exact this.mono (fun q hq => hq.elim (fun e => .inr ⟨(hF6 q e).1, (hF6 q e).2.1⟩) .inl)
      have S8 : StAt w8 (grow G w w8) vl7 vr7 T.1 := (S7.stay (B25.keep K7 id) (by decide) (by decide) K8).mono (fun q hq => by
       rcases hq with (hq | hq) | hq
       ·exact .inl hq
       ·exact .inr ⟨hq.1, by have := hq.2; omega⟩
       ·exact .inr ⟨by have := hq.1; omega, by have := hq.2; omega⟩)
      have HF := hid (show _ ∧ _ ∧ _ ∧ _ ∧ _ from ⟨S8, K08, L8, hCS, hT⟩)
      have HN := hid hN
      clear S7 K08 hCS hT R5 L8 S8 R8 hF6 hN
      go_wp2_with fail
      refine ret_cell_tmp rfl b2 CS 68 _ (.int .i64 T.2) (by rfl) (by rfl) B28 Try.underlying68 rfl (by rw [hCl]; exact info68) rfl ?_
      rw [Hrs.out]
      obtain ⟨S8, K08, L8, hCS, hT⟩ := HF.out
      have hgl := grow_lt HH.out.glt K08.size
      by_cases hT0 : T.2 = 0
      ·have ht : ({ R with D := Dk } : RS).turns (R.resetHd l) l = (⟨T.1, R.resetHd l, R.nslot, l, [], 0⟩, 0) := by unfold RS.turns; rw [show (({ R with D := Dk } : RS).D.turn ({ R with D := Dk } : RS).nslot (R.resetHd l).bytes) = T from hT.symm]; simp only []; rw [if_pos hT0]; rfl
       rw [ht]
       rw [hT0] at hCS ⊢
       rw [pickV_ok, HN.out] at hCS
       exact ⟨CS, rfl, ⟨⟨vl7, vr7, A6, c6, none, 0, hCS, S8, L8, ⟨⟨[], rfl, Reads.nil _ _, fun i v b e => by simp at e⟩, fun h => absurd rfl h⟩, hn6, fun _ => rfl⟩, hgl⟩, K08⟩
      ·have ht : ({ R with D := Dk } : RS).turns (R.resetHd l) l = ({ R with D := T.1 }, T.2) := by unfold RS.turns; rw [show (({ R with D := Dk } : RS).D.turn ({ R with D := Dk } : RS).nslot (R.resetHd l).bytes) = T from hT.symm]; simp only []; rw [if_neg hT0]
       rw [ht]
       rw [pickV_no hT0] at hCS
       exact ⟨CS, rfl, ⟨⟨vl7, vr7, A, a, B, b0, hCS, S8, (Hl.out.keep K08 (Dj.noth _)).mono (fun _ hq => .inl hq), (Hsl.out.keep K08 (Dj.noth _)).mono (fun _ hq => .inl hq), Ha.out, Hb.out⟩, hgl⟩, K08⟩
end Go.Proofs.Ytffcglfepobdjaa
namespace Go.Proofs.Ytffcglfepobdjaa
open Go.ChangeShapes Go.WideShapes Go.ChangeAt Go.RowKit
theorem own_knob : ownKnob Try.prog.godebug = none := by kernel_rfl
theorem laid_out : laidOutB Try.prog = true := by kernel_rfl
theorem under4 : Try.prog.underlying 4 = some .bool := Try.underlying4
theorem under33 : Try.prog.underlying 33 = some (.slice 5) := Try.underlying33
theorem under5 : Try.prog.underlying 5 = some (.int .u8) := Try.underlying5
theorem cells5 : Try.prog.cellsOf 5 = 1 := by kernel_rfl
section
variable {H : Type} {enc : TypeId × Value → H} {P : Program}
theorem args_stay (hl0 : laidOutB P = true) {W W' : World} (hk : Below W.heap.size W W') {sp : Nat → Bool} : ∀ {ts : List TypeId} {vs : List Value} {ds : List (DataW H)} {ps : List MemPlace}, (∀ t ∈ ts, P.readableRec t = true ∧ t < P.types.size) →
  DataW.TrodAll enc P W 0 (fun _ => true) true ts vs ds ps → (∀ x ∈ ps, x.block < W.heap.size) → (∀ x ∈ ps, sp x.block = true) → DataW.TrodAll enc P W' 0 sp true ts vs ds ps := by
 intro ts
 induction ts with
 | nil =>
  intro vs ds ps _ h _ _
  obtain ⟨rfl, rfl, rfl⟩ := trodAll_nil h
  exact trodAll_mk0
 | cons t ts ih =>
  intro vs ds ps hr h hl hs
  obtain ⟨v, vs1, d, ds1, a, b, rfl, rfl, rfl, h1, h2⟩ := trodAll_cons h
  have h3 := ih (fun t ht => hr t (List.mem_cons_of_mem _ ht)) h2 (fun x hx => hl x (List.mem_append_right _ hx)) (fun x hx => hs x (List.mem_append_right _ hx))
  have h4 := WideElems.Trod_stays hl0 (hr t List.mem_cons_self).1 (hr t List.mem_cons_self).2 h1 (fun x hx => hk.same (hl x (List.mem_append_left _ hx))) (fun x hx => hs x (List.mem_append_left _ hx))
  exact trodAll_cons_mk h4 h3
end
section
variable {H : Type} {enc : TypeId × Value → H}
/-- The law's end: it returns true, and old memory is as it was. -/
theorem law_post {f : Func} {s : ChangeSpec} {W W' : World} {args : Array Value} {ds gs : List (DataW H)} {before : List MemPlace}
  (hW : DataW.Whole enc Try.prog f.params.toList s.vars false W args.toList ds gs before) (hf : f.resultTypes = #[4]) (hv : s.vars = []) (hr : ∀ t ∈ f.params.toList, Try.prog.readableRec t = true ∧ t < Try.prog.types.size)
  (hres : (s.fn H (ds ++ gs)).results = [.lit (.bool true)]) (hargs : (s.fn H (ds ++ gs)).args = ds) (hvars : (s.fn H (ds ++ gs)).vars = []) (hk : Keep Noth W W') :
  s.post enc Try.prog f false true false false W args (.bool true) W' := by
 have hlt := hW.lt
 have hb := hk.below
 have hW0 := hW
 obtain ⟨p, q, hA, hV, rfl, hz, -⟩ := hW
 rw [hv] at hV
 obtain ⟨rfl, rfl⟩ := trodVars_none hV
 have hstay : ∀ sp : Nat → Bool, (∀ x ∈ p, sp x.block = true) → DataW.TrodAll enc Try.prog W' 0 sp true f.params.toList args.toList (s.fn H (ds ++ [])).args p := fun sp hs => by
  rw [hargs]; exact args_stay laid_out hb hr hA (fun x hx => hlt x (by simp [hx])) hs
 have hresult : ∀ (b : Nat) (sp : Nat → Bool) (hd : Bool), DataW.TrodAll enc Try.prog W' b sp hd f.resultTypes.toList ((Value.bool true).resultList f.resultTypes.size) (s.fn H (ds ++ [])).results [] := fun b sp hd => by
  rw [hres, hf]
  exact trodAll_cons_mk (shut_bool under4 _) trodAll_mk0
 have hV' : ∀ sp : Nat → Bool, DataW.TrodVars enc Try.prog W' sp s.vars (s.fn H (ds ++ [])).vars [] := fun sp => by
  rw [hv, hvars]; rfl
 refine ⟨ds, [], _, [], p, [], hW0, hresult _ _ _, hstay _ (fun x hx => by simpa using hlt x (by simp [hx])), hV' _, hb.frame _, fun _ => ⟨ok_one hf rfl (okWide_bool_mk under4 _), _, _, ([] ++ p) ++ [], ⟨[] ++ p, [], trodAll_append (hstay _ (fun _ _ => rfl)) (hresult _ _ _), hV' _, rfl, ?_, fun h => by cases h⟩, fun x hx _ => by simpa using hx⟩⟩
 intro b off hp
 have hp' : MemPlace.cell b off ∈ p := by simpa using hp
 rw [hb.frozen (p := ⟨b, off, none⟩) (hlt (.cell b off) (by simp [hp']))]
 exact hz b off (by simp [hp'])
end
end Go.Proofs.Ytffcglfepobdjaa
namespace Go.Proofs.Ytffcglfepobdjaa
open Go.ChangeShapes Go.WideShapes Go.ChangeAt Go.RowKit Go.Deep
theorem cells3 : Try.prog.cellsOf 3 = 1 := by kernel_rfl
theorem cells33 : Try.prog.cellsOf 33 = 1 := by kernel_rfl
theorem cells34 : Try.prog.cellsOf 34 = 1 := by kernel_rfl
theorem under34 : Try.prog.underlying 34 = some (.slice 3) := Try.underlying34
theorem under3 : Try.prog.underlying 3 = some (.int .i64) := Try.underlying3
section
variable {H : Type}
theorem bulk_one (d : DataW H) : 1 ≤ Rows.uptoBulk d := by
 cases d with
 | lit l => cases l <;> simp [Rows.uptoBulk]
 | nil => simp [Rows.uptoBulk]
 | ptr d => simp [Rows.uptoBulk]
 | slice elems spare => simp [Rows.uptoBulk]
 | agg parts => simp [Rows.uptoBulk]
 | iface t d => simp [Rows.uptoBulk]
 | map entries => simp [Rows.uptoBulk]
 | held h => simp [Rows.uptoBulk]
theorem bulk_length (l : List (DataW H)) : l.length ≤ Rows.uptoBulkAll l := by
 induction l with
 | nil => simp [Rows.uptoBulkAll]
 | cons x r ih => have := bulk_one x; simp only [Rows.uptoBulkAll, List.length_cons]; omega
theorem bulk_slice (elems spare : List (DataW H)) : elems.length + 1 ≤ Rows.uptoBulk (.slice elems spare) := by
 have h1 := bulk_length elems
 simp only [Rows.uptoBulk]
 omega
theorem bulk_elems (elems spare : List (DataW H)) : Rows.uptoBulkAll elems + 1 ≤ Rows.uptoBulk (.slice elems spare) := by
 simp only [Rows.uptoBulk]
 omega
theorem bulk_bound {l : List (DataW H)} (hk : Rows.uptoSmall H l = true) : Rows.uptoBulkAll l ≤ 1048576 := of_decide_eq_true hk
end
section
variable {H : Type} {enc : TypeId × Value → H} {W : World} {n : Nat} {cs : List Value} {x : DataW H × List MemPlace}
theorem lits_length (k : IntKind) (zs : List Int) : (lits (H := H) k zs).length = zs.length := by simp [lits]
theorem trod_bytes {t : TypeId} (hu : Try.prog.underlying t = some (.slice 5)) (h : DataW.trod enc Try.prog W 0 (fun _ => true) true n t cs = some x) :
  ∃ A c b, cs = [.slice A (b : List UInt8).length c] ∧ Reads W A (bv b) ∧ b.length + 1 ≤ Rows.uptoBulk x.1 := by
 rcases open_ints hu under5 cells5 h with ⟨hcs, hx⟩ | ⟨a, len', cap', zs, hcs, _, hl, hm, hz, hx, hcell, hwz⟩
 ·exact ⟨none, 0, [], hcs, Reads.nil _ _, by rw [hx]; simp [Rows.uptoBulk]⟩
 ·simp only [if_true] at hz
  have hw : ∀ z ∈ zs, 0 ≤ z ∧ z ≤ 255 := fun z hz' => by
   have := hwz z hz'
   simpa [Lit.wf, IntKind.min, IntKind.max, IntKind.signed, IntKind.bits] using this
  have hlen : ((zs.take len').map (fun z => UInt8.ofNat z.toNat)).length = len' := by rw [List.length_map, List.length_take]; omega
  refine ⟨some a, cap', (zs.take len').map (fun z => UInt8.ofNat z.toNat), by rw [hlen]; exact hcs, ?_, ?_⟩
  ·intro j u hu'
   simp only [bv, List.map_map, List.getElem?_map, Option.map_eq_some_iff] at hu'
   obtain ⟨z, hz', rfl⟩ := hu'
   refine ⟨a, rfl, ?_⟩
   rw [List.getElem?_take] at hz'
   split at hz'
   ·have hj : j < zs.length := (List.getElem?_eq_some_iff.1 hz').1
    have hzz : zs[j] = z := (List.getElem?_eq_some_iff.1 hz').2
    rw [hcell j hj]
    have h1 := hw z (by rw [← hzz]; exact List.getElem_mem hj)
    have : zs.getD j 0 = z := by rw [List.getD, hz']; rfl
    rw [this]
    simp only [Function.comp, u8, Option.some.injEq, Value.int.injEq, true_and]
    show z = ((UInt8.ofNat z.toNat).toNat : Int)
    rw [UInt8.toNat_ofNat']
    omega
   ·cases hz'
  ·rw [hlen, hx]
   have := bulk_slice (lits (H := H) .u8 (zs.take len')) (lits .u8 (zs.drop len'))
   rw [lits_length, List.length_take] at this
   show len' + 1 ≤ Rows.uptoBulk (.slice (lits (H := H) .u8 (zs.take len')) (lits .u8 (zs.drop len')))
   omega
theorem trod_nums {t : TypeId} (hu : Try.prog.underlying t = some (.slice 3)) (h : DataW.trod enc Try.prog W 0 (fun _ => true) true n t cs = some x) :
  ∃ A c fs, cs = [.slice A (fs : List Int).length c] ∧ Reads W A (ints fs) ∧ (∀ z ∈ fs, -9223372036854775808 ≤ z ∧ z ≤ 9223372036854775807) ∧ fs.length + 1 ≤ Rows.uptoBulk x.1 := by
 rcases open_ints hu under3 cells3 h with ⟨hcs, hx⟩ | ⟨a, len', cap', zs, hcs, _, hl, hm, hz, hx, hcell, hwz⟩
 ·exact ⟨none, 0, [], hcs, Reads.nil _ _, fun z hz => (by cases hz), by rw [hx]; simp [Rows.uptoBulk]⟩
 ·simp only [if_true] at hz
  have hlen : (zs.take len').length = len' := by rw [List.length_take]; omega
  refine ⟨some a, cap', zs.take len', by rw [hlen]; exact hcs, ?_, ?_, ?_⟩
  ·intro j u hu'
   simp only [ints, List.getElem?_map, Option.map_eq_some_iff] at hu'
   obtain ⟨z, hz', rfl⟩ := hu'
   refine ⟨a, rfl, ?_⟩
   rw [List.getElem?_take] at hz'
   split at hz'
   ·have hj : j < zs.length := (List.getElem?_eq_some_iff.1 hz').1
    rw [hcell j hj]
    have : zs.getD j 0 = z := by rw [List.getD, hz']; rfl
    rw [this]
   ·cases hz'
  ·intro z hz'
   have := hwz z (List.mem_of_mem_take hz')
   simpa [Lit.wf, IntKind.min, IntKind.max, IntKind.signed, IntKind.bits] using this
  ·rw [hlen, hx]
   have := bulk_slice (lits (H := H) .i64 (zs.take len')) (lits .i64 (zs.drop len'))
   rw [lits_length, List.length_take] at this
   show len' + 1 ≤ Rows.uptoBulk (.slice (lits (H := H) .i64 (zs.take len')) (lits .i64 (zs.drop len')))
   omega
theorem int_bounds {z : Int} (h : (Lit.int .i64 z).wf = true) : -9223372036854775808 ≤ z ∧ z ≤ 9223372036854775807 := by
 simpa [Lit.wf, IntKind.min, IntKind.max, IntKind.signed, IntKind.bits] using h
theorem flatten_back {α : Type} (size : Nat) (h0 : 0 < size) : ∀ (xs : List (List α)) (j : Nat) (u : α), (∀ x ∈ xs, x.length = size) → xs.flatten[j]? = some u → ∃ (i r : Nat) (hi : i < xs.length), r < size ∧ j = i * size + r ∧ xs[i][r]? = some u
 | [], j, u, _, h => by simp at h
 | x :: xs, j, u, he, h => by
  have hx := he x (by simp)
  rw [List.flatten_cons] at h
  rcases Nat.lt_or_ge j x.length with hj | hj
  ·rw [List.getElem?_append_left hj] at h
   exact ⟨0, j, by simp, by omega, by omega, h⟩
  ·rw [List.getElem?_append_right hj] at h
   obtain ⟨i, r, hi, hr, e, h'⟩ := flatten_back size h0 xs _ u (fun y hy => he y (by simp [hy])) h
   exact ⟨i + 1, r, by simp; omega, hr, by rw [Nat.succ_mul]; omega, by simpa using h'⟩
instance : Inhabited OpC := ⟨⟨⟨0, 0, [], []⟩, none, none, 0, 0⟩⟩
end
end Go.Proofs.Ytffcglfepobdjaa
set_option maxRecDepth 10000
set_option maxHeartbeats 1500000
namespace Go.Proofs.Ytffcglfepobdjaa
open Go.ChangeShapes Go.WideShapes Go.ChangeAt Go.RowKit Go.Deep
theorem under63 : Try.prog.underlying 63 = some (.slice 33) := Try.underlying63
section
variable {H : Type} {enc : TypeId × Value → H} {W : World} {n : Nat} {cs : List Value} {x : DataW H × List MemPlace}
theorem trod_bytesN {t : TypeId} (hu : Try.prog.underlying t = some (.slice 5)) (h : DataW.trod enc Try.prog W 0 (fun _ => true) true n t cs = some x) :
  ∃ A c b, cs = [.slice A (b : List UInt8).length c] ∧ Reads W A (bv b) ∧ b.length + 1 ≤ Rows.uptoBulk x.1 ∧ (A = none → c = 0) := by
 obtain ⟨A, c, b, h1, h2, h3⟩ := trod_bytes hu h
 refine ⟨A, c, b, h1, h2, h3, fun e => ?_⟩
 subst e
 rcases open_ints hu under5 cells5 h with ⟨hcs, -⟩ | ⟨a, len', cap', zs, hcs, -⟩
 ·rw [hcs] at h1
  injection h1 with h1
  injection h1 with _ _ h1
  exact h1.symm
 ·rw [hcs] at h1
  injection h1 with h1
  injection h1 with h1
  cases h1
theorem recVal_of {A : Option Addr} {c : Nat} {b : List UInt8} (h : Reads W A (bv b)) (hc : A = none → c = 0) : RecVal W (fun q => q < W.heap.size) (.slice A b.length c) b :=
 ⟨A, c, rfl, h, hc, fun hb => h.nonempty hb⟩
def recsBulk (l : List (List UInt8)) : Nat := (l.map fun b => b.length + 1).sum
theorem sum_bulkL (f : Nat → Value × List UInt8) (D : Nat → DataW H) : ∀ n, (∀ i, i < n → (f i).2.length + 1 ≤ Rows.uptoBulk (D i)) → recsBulk ((List.range n).map fun i => (f i).2) ≤ Rows.uptoBulkAll ((List.range n).map D)
 | 0, _ => by simp [recsBulk]
 | n + 1, h => by
  have ih := sum_bulkL f D n (fun i hi => h i (by omega))
  have hn := h n (by omega)
  have happ : ∀ (l r : List (DataW H)), Rows.uptoBulkAll (l ++ r) = Rows.uptoBulkAll l + Rows.uptoBulkAll r := by
   intro l r
   induction l with
   | nil => simp [Rows.uptoBulkAll]
   | cons x l ih => simp only [List.cons_append, Rows.uptoBulkAll, ih]; omega
  rw [List.range_succ, List.map_append, List.map_append, happ]
  unfold recsBulk at ih ⊢
  rw [List.map_append, List.sum_append]
  simp only [List.map_cons, List.map_nil, List.sum_cons, List.sum_nil, Rows.uptoBulkAll]
  omega
instance : Inhabited (Value × List UInt8) := ⟨(undef, [])⟩
theorem trod_recs {t : TypeId} (hu : Try.prog.underlying t = some (.slice 33)) (h : DataW.trod enc Try.prog W 0 (fun _ => true) true n t cs = some x) :
  ∃ A c l, cs = [.slice A (l : List (List UInt8)).length c] ∧ ReadsL W (fun q => q < W.heap.size) A l ∧ (A = none → c = 0) ∧ l.length ≤ maxLen ∧ recsBulk l + 1 ≤ Rows.uptoBulk x.1 := by
 rcases open_slice hu h with ⟨hcs, hx⟩ | ⟨a, len, m, m', k, D, Pl, hcs, _, hl, hm, hmm, hx, hel⟩
 ·exact ⟨none, 0, [], hcs, ⟨⟨[], rfl, Reads.nil _ _, fun i v b e => by simp at e⟩, fun e => absurd rfl e⟩, fun _ => rfl, Nat.zero_le _, by rw [hx]; simp [Rows.uptoBulk, recsBulk]⟩
 ·simp only [if_true] at hmm
  subst hmm
  have hd : x.1 = .slice ((List.range len).map D) ((List.range (m' - len)).map fun j => D (len + j)) := by rw [hx]
  have hall := bulk_elems ((List.range len).map D) ((List.range (m' - len)).map fun j => D (len + j))
  rw [← hd] at hall
  have hone : ∀ i, i < len → ∃ y : Value × List UInt8, W.cells? 0 (a.add (i * 1)) 1 = some [y.1] ∧ RecVal W (fun q => q < W.heap.size) y.1 y.2 ∧ y.2.length + 1 ≤ Rows.uptoBulk (D i) := fun i hi => by
   obtain ⟨cs', h1, h2⟩ := hel i (by omega)
   rw [cells33] at h1
   obtain ⟨A, c, b, rfl, h3, h4, h5⟩ := trod_bytesN under33 h2
   exact ⟨(.slice A b.length c, b), h1, recVal_of h3 h5, h4⟩
  obtain ⟨f, hf⟩ := choose_lt (p := fun i (y : Value × List UInt8) => W.cells? 0 (a.add (i * 1)) 1 = some [y.1] ∧ RecVal W (fun q => q < W.heap.size) y.1 y.2 ∧ y.2.length + 1 ≤ Rows.uptoBulk (D i)) hone
  have hlen : ((List.range len).map fun i => (f i).2).length = len := by simp
  have hsum := sum_bulkL f D len (fun i hi => (hf i hi).2.2)
  have hR : Reads W (some a) ((List.range len).map fun i => (f i).1) := by
   intro j u hu
   rw [List.getElem?_map] at hu
   rcases Nat.lt_or_ge j len with hj | hj
   ·rw [List.getElem?_range hj] at hu
    simp only [Option.map_some, Option.some.injEq] at hu
    subst hu
    refine ⟨a, rfl, ?_⟩
    obtain ⟨_, _, hc⟩ := World.cells?_some (hf j hj).1
    have h4 := hc 0 (by decide)
    rw [Go.Deep.add_add] at h4
    simpa using h4
   ·rw [List.getElem?_eq_none (by simpa using hj)] at hu
    cases hu
  refine ⟨some a, m', (List.range len).map fun i => (f i).2, by rw [hlen]; exact hcs, ⟨⟨(List.range len).map fun i => (f i).1, by simp, hR, fun i v b e1 e2 => ?_⟩, fun hne ad e => ?_⟩, fun e => (by cases e), by rw [hlen]; omega, by omega⟩
  ·rw [List.getElem?_map] at e1 e2
   rcases Nat.lt_or_ge i len with hj | hj
   ·rw [List.getElem?_range hj] at e1 e2
    simp only [Option.map_some, Option.some.injEq] at e1 e2
    subst e1
    subst e2
    exact (hf i hj).2.1
   ·rw [List.getElem?_eq_none (by simpa using hj)] at e1
    cases e1
  ·injection e with e
   subst e
   have h0 : 0 < ((List.range len).map fun i => (f i).1).length := by
    have := List.length_pos_iff.2 hne
    simpa using this
   obtain ⟨g, o, e, -, hg⟩ := hR.where h0
   injection e with e
   subst e
   exact hg
end
end Go.Proofs.Ytffcglfepobdjaa
set_option maxRecDepth 100000
set_option maxHeartbeats 2000000
namespace Go.Proofs.Ytffcglfepobdjaa
open Go.RowKit
/-- A call of a script, as it lies in memory. -/
structure ROpC where
 kind : Int
 b : List UInt8
 l : List (List UInt8)
 n : Int
 fl : Nat
 Ab : Option Addr
 Al : Option Addr
 Af : Option Addr
 cb : Nat
 cl : Nat
 cf : Nat
def ROpC.cells (x : ROpC) : List Value := [.int .i64 x.kind, .slice x.Ab x.b.length x.cb, .slice x.Al x.l.length x.cl, .int .i64 x.n, .slice x.Af x.fl x.cf]
def rlen (l : List (List UInt8)) : Nat := (l.map List.length).sum
theorem recsBulk_len : ∀ l : List (List UInt8), recsBulk l = l.length + rlen l
 | [] => rfl
 | b :: l => by
  have := recsBulk_len l
  unfold recsBulk rlen at *
  simp only [List.map_cons, List.sum_cons, List.length_cons]
  omega
theorem rlen_take (l : List (List UInt8)) (k : Nat) (hk : k < l.length) : rlen (l.take (k + 1)) = rlen (l.take k) + l[k].length := by
 unfold rlen
 rw [List.take_add_one, List.getElem?_eq_getElem hk]
 simp only [List.map_append, Option.toList, List.sum_append, List.map_cons, List.map_nil, List.sum_cons, List.sum_nil, Nat.add_zero]
theorem rlen_le (l : List (List UInt8)) (k : Nat) : rlen (l.take k) ≤ rlen l := by
 unfold rlen
 have h : l = l.take k ++ l.drop k := (List.take_append_drop k l).symm
 conv => rhs; rw [h]
 rw [List.map_append, List.sum_append]
 omega
theorem rlen_mem {l : List (List UInt8)} {b : List UInt8} (h : b ∈ l) : b.length ≤ rlen l := by
 unfold rlen
 induction l with
 | nil => cases h
 | cons x l ih =>
  simp only [List.map_cons, List.sum_cons]
  rcases List.mem_cons.1 h with e | e
  ·subst e; omega
  ·have := ih e; omega
theorem moreL_rlen : ∀ l : List (List UInt8), moreL l ≤ recsBulk l + l.length
 | [] => Nat.zero_le _
 | b :: l => by
  have := moreL_rlen l
  unfold recsBulk at *
  simp only [moreL, List.map_cons, List.sum_cons, List.length_cons, blocksN] at *
  omega
def ROpC.size (x : ROpC) : Nat := x.b.length + x.fl + recsBulk x.l
def rsSize (xs : List ROpC) : Nat := (xs.map ROpC.size).sum
structure ROpC.on (w : World) (G : Nat → Prop) (x : ROpC) : Prop where
 b : Reads w x.Ab (bv x.b)
 bc : x.Ab = none → x.cb = 0
 bG : x.b ≠ [] → ∀ ad, x.Ab = some ad → G ad.block
 l : ReadsL w G x.Al x.l
 lc : x.Al = none → x.cl = 0
theorem ROpC.on.keep {w w' : World} {G : Nat → Prop} {x : ROpC} (h : x.on w G) (k : Keep Noth w w') : x.on w' G :=
 ⟨h.b.keep k (fun _ _ => id), h.bc, h.bG, h.l.keep k (Dj.noth _), h.lc⟩
structure RScript (w : World) (G : Nat → Prop) (A : Option Addr) (xs : List ROpC) : Prop where
 cells : Reads w A (xs.map ROpC.cells).flatten
 each : ∀ x ∈ xs, x.on w G
theorem RScript.keep {w w' : World} {G : Nat → Prop} {A : Option Addr} {xs : List ROpC} (h : RScript w G A xs) (k : Keep Noth w w') : RScript w' G A xs :=
 ⟨h.cells.keep k (fun _ _ => id), fun x hx => (h.each x hx).keep k⟩
theorem rop_each (xs : List ROpC) : ∀ c ∈ xs.map ROpC.cells, c.length = 5 := by
 intro c hc
 obtain ⟨x, _, rfl⟩ := List.mem_map.1 hc
 rfl
theorem rop_pos (xs : List ROpC) (h : 0 < xs.length) : 0 < (xs.map ROpC.cells).flatten.length := by
 cases xs with
 | nil => simp at h
 | cons x xs => rw [List.map_cons, List.flatten_cons, List.length_append, show x.cells.length = 5 from rfl]; omega
theorem rop_ones (x : ROpC) : ∀ u ∈ x.cells, u.oneCell' = true := by
 intro u hu
 simp only [ROpC.cells, List.mem_cons, List.not_mem_nil, or_false] at hu
 rcases hu with rfl | rfl | rfl | rfl | rfl <;> rfl
def zrop : List Value := [.int .i64 0, .slice none 0 0, .slice none 0 0, .int .i64 0, .slice none 0 0]
theorem info88 : (Try.prog.info? 88).map (fun i => (i.zero, i.size, i.bytes)) = some (some (.agg zrop.toArray), 5, 88) := by kernel_rfl
theorem zrop_cells : (Value.agg zrop.toArray).cells = zrop.toArray := by rfl
theorem size88 : (Try.prog.info? 88).map (·.size) = some 5 := by kernel_rfl
theorem rsSize_take (xs : List ROpC) (k : Nat) (hk : k < xs.length) : rsSize (xs.take (k + 1)) = rsSize (xs.take k) + xs[k].size := by
 unfold rsSize
 rw [List.take_add_one, List.getElem?_eq_getElem hk]
 simp only [List.map_append, Option.toList, List.sum_append, List.map_cons, List.map_nil, List.sum_cons, List.sum_nil, Nat.add_zero]
theorem rsSize_le (xs : List ROpC) (k : Nat) : rsSize (xs.take k) ≤ rsSize xs := by
 unfold rsSize
 have h : xs = xs.take k ++ xs.drop k := (List.take_append_drop k xs).symm
 conv => rhs; rw [h]
 rw [List.map_append, List.sum_append]
 omega
theorem rsSize_mem {xs : List ROpC} {x : ROpC} (h : x ∈ xs) : x.size ≤ rsSize xs := by
 unfold rsSize
 induction xs with
 | nil => cases h
 | cons y l ih =>
  simp only [List.map_cons, List.sum_cons]
  rcases List.mem_cons.1 h with e | e
  ·subst e; omega
  ·have := ih e; omega
/-- A call of a script is loaded into a variable of its own. -/
theorem rfew_calls (w : World) (A : Option Addr) (c : Nat) (xs : List ROpC) (hS : RScript w (fun q => q < w.heap.size) A xs) (hsz : rsSize xs + xs.length ≤ 1048576) :
  Calls Try.prog 50 #[.slice A xs.length c] w (fun e w' => e = .returned (.bool (decide (xs.length ≤ 24 ∧ rsSize xs ≤ 9000))) ∧ Keep Noth w w') := by
 have hsz' : (rsSize xs : Int) + xs.length ≤ 1048576 := by omega
 obtain ⟨fw, hfw⟩ : ∃ fw, fw = decide (xs.length ≤ 24 ∧ rsSize xs ≤ 9000) := ⟨_, rfl⟩
 rw [← hfw]
 have HS := hid hS
 have Hfw := hid hfw
 clear hS hfw
 go_enter Try.func50, Try.ntmps50
 go_wp2_with fail
 go_loopw [3, 10] (fun n i wr => ∃ k : Nat, i = .int .i64 k ∧ n = .int .i64 (rsSize (xs.take k) : Int) ∧ k ≤ xs.length ∧ Keep Noth w wr) (fun _ i _ => xs.length - (intOf i).toNat)
 case atStart => exact ⟨0, rfl, rfl, Nat.zero_le _, Keep.refl _ _⟩
 case round =>
  obtain ⟨k, rfl, rfl, hkl, HK⟩ := hrel
  by_cases hlt : k < xs.length
  ·have hlt' : (k : Int) < xs.length := by omega
   obtain ⟨g, o, hAo, hrange, hg⟩ := (HS.out.cells.keep HK (fun _ _ => id)).where (rop_pos xs (by omega))
   subst hAo
   have hk1 := rsSize_take xs k hlt
   have hk2 := rsSize_le xs (k + 1)
   obtain ⟨S, hSd⟩ : ∃ S, S = rsSize (xs.take k) := ⟨_, rfl⟩
   rw [← hSd] at hk1 ⊢
   obtain ⟨x, hx⟩ : ∃ x, x = xs[k] := ⟨_, rfl⟩
   rw [← hx] at hk1
   have hxm : x ∈ xs := by rw [hx]; exact List.getElem_mem hlt
   have HX := hid ((HS.out.each x hxm).keep HK)
   have hxc : (xs.map ROpC.cells)[k]'(by rw [List.length_map]; exact hlt) = x.cells := by rw [List.getElem_map, ← hx]
   have hrl := recsBulk_len x.l
   have hsz2 : x.size = x.b.length + x.fl + recsBulk x.l := rfl
   have hb1 : S + (x.b.length + x.fl + x.l.length) + rlen x.l ≤ 1048576 := by omega
   have Hk1 := hid (show rsSize (xs.take (k + 1)) = S + (x.b.length + x.fl + x.l.length) + rlen x.l by omega)
   have Hr := hid hrange
   have Hxc := hid hxc
   clear hrange hxc hk1 hk2 hSd hx hxm hrl hsz2
   go_wp2_with (first
    | (guard_target = wpList _ _ _ (Oper.mk _ (Op.load 88 _) _ _ _ _ :: _) _ _; refine wpList_load_elem rfl 88 _ rfl 5 g o (xs.map ROpC.cells) k _ x.cells _ Hr.out (rop_each xs) (by rw [List.length_map]; exact hlt) Hxc.out rfl (by rfl) Try.underlying88 rfl size88 ?_)
    | (guard_target = wpList _ _ _ (Oper.mk _ (Op.alloc 88) _ _ _ _ :: _) _ _; refine wpList_alloc_v rfl 88 rfl (.agg zrop.toArray) info88 zrop zrop_cells ?_; intro b5 w1 hb5 B5 K1)
    | (guard_target = wpList _ _ _ (Oper.mk _ (Op.store 88 _ _) _ _ _ _ :: _) _ _; refine wpList_store_whole rfl 88 _ _ rfl b5 _ x.cells 88 (by rfl) (by rfl) B5 rfl info88 (rop_ones x) ?_; intro w2 B6 K2; have c1 : w2.cell? ⟨b5, 1, none⟩ = some (.slice x.Ab x.b.length x.cb) := B6.cell 1; have c2 : w2.cell? ⟨b5, 2, none⟩ = some (.slice x.Al x.l.length x.cl) := B6.cell 2; have c4 : w2.cell? ⟨b5, 4, none⟩ = some (.slice x.Af x.fl x.cf) := B6.cell 4))
   have K02 : Keep Noth w w2 := (HK.trans K1 (fun _ _ h => h)).own K2 (fun q e => by unfold Only at e; subst e; have := HK.size; omega)
   have Kr2 : Keep Noth wr w2 := K1.own K2 (fun q e => by unfold Only at e; subst e; exact hb5)
   have HL := hid (HX.out.l.keep Kr2 (Dj.noth _))
   have HK2 := hid K02
   clear c1 c2 c4 B5 B6 K1 K2 K02 Kr2 HK HX
   go_loopw [3, 30] (fun n j wr => ∃ (m : Nat) (y : Int), j = .int .i64 m ∧ n = .int .i64 y ∧ y = ((S + (x.b.length + x.fl + x.l.length) + rlen (x.l.take m) : Nat) : Int) ∧ m ≤ x.l.length ∧ wr = w2) (fun _ j _ => x.l.length - (intOf j).toNat)
   case atStart => exact ⟨0, _, rfl, rfl, by rw [List.take_zero]; show _ = ((_ + 0 : Nat) : Int); omega, Nat.zero_le _, rfl⟩
   case round =>
    obtain ⟨m, y, rfl, rfl, hy, hml, rfl⟩ := hrel
    have hy1 := rlen_le x.l m
    by_cases hmt : m < x.l.length
    ·have hmt' : (m : Int) < x.l.length := by omega
     have hy2 := rlen_take x.l m hmt
     have hy3 := rlen_le x.l (m + 1)
     obtain ⟨b, hb⟩ : ∃ b, b = x.l[m] := ⟨_, rfl⟩
     rw [← hb] at hy2
     have hb' : x.l[m]? = some b := by rw [hb]; exact List.getElem?_eq_getElem hmt
     obtain ⟨gA, oA, hAl, B, c', hcell, -, -, -⟩ := HL.out.at m b hb'
     rw [hAl]
     have hy4 : y + b.length ≤ 1048576 := by omega
     have hy5 : 0 ≤ y := by omega
     have Hy := hid (show y + (b.length : Int) = ((S + (x.b.length + x.fl + x.l.length) + rlen (x.l.take (m + 1)) : Nat) : Int) by omega)
     clear hb hb' hy hy1 hy2 hy3 hAl
     go_wp2_with fail
     go_roundw
     case rel => exact ⟨m + 1, _, by go_num, rfl, Hy.out, hmt, by first | trivial | rfl⟩
     case measure => simp [intOf]; omega
    ·have hge : m = x.l.length := by omega
     subst hge
     rw [List.take_length] at hy
     have Hy := hid hy
     clear hy hy1 hmt hml
     go_wp2_with fail
     go_roundw
     case rel => exact ⟨k + 1, by go_num, by rw [Hy.out, Hk1.out], hlt, HK2.out⟩
     case measure => simp [intOf]; omega
  ·have hge : k = xs.length := by omega
   subst hge
   rw [List.take_length]
   by_cases h1 : xs.length ≤ 24
   ·have h1' : decide ((xs.length : Int) ≤ 24) = true := by simp; omega
    by_cases h2 : rsSize xs ≤ 9000
    ·have h2' : decide ((rsSize xs : Int) ≤ 9000) = true := by simp; omega
     have hf : fw = true := by rw [Hfw.out]; exact decide_eq_true (show xs.length ≤ 24 ∧ rsSize xs ≤ 9000 from ⟨h1, h2⟩)
     subst hf
     go_wp2_with fail
     go_ret
     exact ⟨rfl, HK⟩
    ·have h2' : decide ((rsSize xs : Int) ≤ 9000) = false := by simp; omega
     have hf : fw = false := by rw [Hfw.out]; exact decide_eq_false (show ¬ (xs.length ≤ 24 ∧ rsSize xs ≤ 9000) from fun e => h2 e.2)
     subst hf
     go_wp2_with fail
     go_ret
     exact ⟨rfl, HK⟩
   ·have h1' : decide ((xs.length : Int) ≤ 24) = false := by simp; omega
    have hf : fw = false := by rw [Hfw.out]; exact decide_eq_false (show ¬ (xs.length ≤ 24 ∧ rsSize xs ≤ 9000) from fun e => h1 e.1)
    subst hf
    go_wp2_with fail
    go_ret
    exact ⟨rfl, HK⟩
/-- What a call makes of a roll. -/
def RS.does (S : RS) (x : ROpC) : RS :=
 if x.kind = 0 then (S.append x.b).1 else if x.kind = 1 then (S.stage x.b).1 else if x.kind = 2 then S.sealz.1 else if x.kind = 3 then (S.reset x.l).1 else if x.kind = 6 then openS S.D else S
theorem stage_more {S : RS} (h : S.more = moreL S.st) (b : List UInt8) : (S.stage b).1.more = moreL (S.stage b).1.st := by
 unfold RS.stage
 split
 ·exact h
 ·split
  ·exact h
  ·simp only []
   split
   ·show S.more + blocksN b = moreL (S.st ++ [b])
    rw [moreL_append, h]; simp [moreL]
   ·exact h
def wxCells (g r : Nat) (FS : List Value) : List Value := .pointer (some ⟨g, 0, none⟩) :: .pointer (some ⟨r, 0, none⟩) :: FS
theorem wx_dev (g r : Nat) (FS : List Value) : ∀ j v, FS[j]? = some v → (wxCells g r FS)[2 + j]? = some v := by
 intro j v h
 rw [Nat.add_comm 2 j]
 exact h
theorem wx_splice {g r : Nat} {FS CS : List Value} (h : FS.length = 11) (h' : CS.length = 11) : splice (wxCells g r FS) 2 CS = wxCells g r CS := by
 unfold splice wxCells
 rw [h']
 simp only [List.take_succ_cons, List.take_zero, List.cons_append, List.nil_append]
 rw [List.drop_eq_nil_of_le (by simp [h]), List.append_nil]
theorem WX.parts {w0 w : World} {F G : Nat → Prop} {bw g r : Nat} {S R : RS} (X : WX w0 w F G bw g r S R) : ∃ FS, RefAt w G FS R ∧ BlockIs w bw (wxCells g r FS) 70 := by
 obtain ⟨vl, vr, A, a, B, b, h1, h2, h3, h4, h5, h6⟩ := X.ref
 exact ⟨_, ⟨⟨vl, vr, A, a, B, b, rfl, h1, h2, h3, h4, h5⟩, X.glt⟩, h6⟩
/-- Behind a call of the document's. -/
theorem WX.refd {w0 w w1 w2 : World} {F G : Nat → Prop} {bw g r : Nat} {S R R' : RS} {cs : List Value} (X : WX w0 w F G bw g r S R) (H : RefAt w1 (grow G w w1) cs R') (K1 : Keep Noth w w1) (B : BlockIs w2 bw (wxCells g r cs) 70) (K2 : Keep (Only bw) w1 w2) : WX w0 w2 F (grow G w w1) bw g r S R' := by
 obtain ⟨vl, vr, A, a, B0, b, e, h1, h2, h3, h4, h5⟩ := H.ex
 have hs1 := K1.size
 have hs2 := K2.size
 have hlt := X.wlt
 have nb : ¬ grow G w w1 bw := fun e => e.elim X.nbG (fun e => by have := e.1; omega)
 have dG : Dj (grow G w w1) (Only bw) := fun q hq e => by unfold Only at e; subst e; exact nb hq
 have dF : Dj F (Only bw) := fun q hq e => by unfold Only at e; subst e; exact X.nbF hq
 subst e
 exact ⟨(X.roll.keep K1 (Dj.noth _)).keep K2 dF, ⟨vl, vr, A, a, B0, b, h1.keep K2 dG, h2.keep K2 dG, h3.keep K2 dG, h4, h5, B⟩, X.low, fun q hq hf => hq.elim (fun e => X.off q e hf) (fun e => by have := X.rlt q hf; have := e.1; omega), X.nbF, nb, X.wlow, fun q hq => by have := H.glt q hq; omega, fun q hq => .inl (X.old q hq), (X.kept.trans K1 (fun _ _ e => e)).own K2 (fun q e => by unfold Only at e; subst e; exact X.wlow)⟩
theorem RefAt.info {w : World} {G : Nat → Prop} {cs : List Value} {R : RS} (h : RefAt w G cs R) : (Try.prog.info? 68).map (fun i => (i.zero, i.size, i.bytes)) = some (some (.agg zfs.toArray), cs.length, 152) := by rw [h.len]; exact info68
theorem Keep.drewl {F : Nat → Prop} {w w' : World} (h : Keep F w.drew w') : Keep F w w' := ⟨h.os, h.tape, h.output, h.size, h.block⟩
theorem step_calls {w0 w : World} {F G : Nat → Prop} {bw g r : Nat} {S R : RS} (X : WX w0 w F G bw g r S R) (hS : S.good) (hR : R.good) (hmo : R.more = moreL R.st) (hop : S.D.ops ≤ 800000 ∧ S.D.row.length ≤ 800000 ∧ R.D.ops ≤ 800000 ∧ R.D.row.length ≤ 800000) (x : ROpC) (hx : x.on w0 (fun q => q < w0.heap.size)) (hxs : x.size ≤ 1048576) (h45 : x.kind ≠ 4 ∧ x.kind ≠ 5) (h6 : x.kind = 6 → R.D = S.D ∧ S.D.down = false) :
  Calls Try.prog 52 #[.pointer (some ⟨bw, 0, none⟩), .agg x.cells.toArray] w (fun e w' => ∃ (B : Bool) (F' G' : Nat → Prop) (r' : Nat), e = .returned (.bool B) ∧ WX w0 w' F' G' bw g r' (S.does x) (R.does x) ∧ (∀ q, F' q → F q ∨ w.heap.size ≤ q) ∧ Keep (fun q => F q ∨ q = bw) w w' ∧ (x.kind ≠ 6 → r' = r)) := by
 have HX := hid X
 have Hxx := hid hx
 have HS := hid hS
 have HR := hid hR
 have Hmo := hid hmo
 have hxs2 : x.size = x.b.length + x.fl + recsBulk x.l := rfl
 have hrl := recsBulk_len x.l
 have hml := moreL_rlen x.l
 have hlm : ∀ b ∈ x.l, b.length ≤ 1099511627776 := fun b hb => by have := rlen_mem hb; omega
 have Hlm := hid hlm
 clear X hx hS hR hmo hlm
 go_enter Try.func52, Try.ntmps52
 by_cases k0 : x.kind = 0
 ·have kd : (x.kind == 0) = true := by rw [k0]; rfl
  have hSd : S.does x = (S.append x.b).1 := by unfold RS.does; rw [if_pos k0]
  have hRd : R.does x = (R.append x.b).1 := by unfold RS.does; rw [if_pos k0]
  have HSd := hid hSd
  have HRd := hid hRd
  clear hSd hRd k0
  go_wp2_with (first
   | (guard_target = wpList _ _ _ (Oper.mk _ (Op.box 88 _) _ _ _ _ :: _) _ _; refine wpList_box_v rfl 88 _ rfl x.cells (by rfl) ?_; intro b3 w1 hb3 B3 K1; have c0 : w1.cell? ⟨b3, 0, none⟩ = some (.int .i64 x.kind) := B3.cell 0))
  have hb3F : ¬ F b3 := fun e => by have h1 := HX.out.rlt _ e; have h2 : w.heap.size ≤ b3 := hb3; omega
  have hb3b : b3 ≠ bw := fun e => by have h1 := HX.out.wlt; have h2 : w.heap.size ≤ b3 := hb3; omega
  have X1 := HX.out.keep K1
  have Xd := X1.keep (Keep.refl Noth w1).drew
  have HKs := hid ((Keep.refl (fun q => F q ∨ q = bw) w).trans K1 (fun _ _ e => e.elim))
  have hs1 := K1.size
  obtain ⟨vl, vs, A1⟩ := Xd.roll
  have hst := stage_grow (S := S) x.b
  obtain ⟨E1, hE1⟩ : ∃ E1, E1 = (S.append x.b).2 := ⟨_, rfl⟩
  have hap := append_calls A1 HS.out.ok (by omega) (by omega) x.Ab x.cb x.b (Hxx.out.keep Xd.kept).b Hxx.out.bc (fun hb ad e hF => by have h1 := Hxx.out.bG hb ad e; have h2 := Xd.low _ hF; omega) (stage_good HS.out _).ok (by omega) (by omega)
  rw [← hE1] at hap
  clear Xd A1 K1 hb3 c0 hE1 hst
  refine wp_region_ordL [(0, true), (1, true), (2, true), (3, true), (4, true), (5, true), (6, false), (7, false)] (fun W => W.cell? ⟨bw, 1, none⟩ = some (.pointer (some ⟨r, 0, none⟩)) ∧ BlockIs W b3 x.cells 88) follows_mixed (by kernel_rfl) ⟨X1.cells.2, B3.drew⟩ ?_
  simp only [List.map_cons, List.map_nil, List.getElem?_cons_succ, List.getElem?_cons_zero, Option.getD_some]
  refine wpO_pure (v := .pointer (some ⟨bw, 0, none⟩)) (by rfl) (fun w' hw' => by go_simp) ?_
  go_frame
  refine wpO_pure (v := .pointer (some ⟨bw, 0, none⟩)) (by rfl) (fun w' hw' => by go_simp) ?_
  go_frame
  refine wpO_pure (v := .pointer (some ⟨bw, 1, none⟩)) (by rfl) (fun w' hw' => by go_simp) ?_
  go_frame
  refine wpO_pure (v := .pointer (some ⟨r, 0, none⟩)) (by rfl) (fun w' hw' => by have hc := hw'.1; go_simp) ?_
  go_frame
  refine wpO_pure (v := .pointer (some ⟨b3, 1, none⟩)) (by rfl) (fun w' hw' => by go_simp) ?_
  go_frame
  refine wpO_pure (v := .slice x.Ab x.b.length x.cb) (by rfl) (fun w' hw' => by have hc : w'.cell? ⟨b3, 1, none⟩ = some (.slice x.Ab x.b.length x.cb) := hw'.2.cell 1; go_simp) ?_
  go_frame
  refine wpO_call (by rfl) (exec_call' 40 _ _ rfl Try.func40 (by kernel_rfl) (by rfl) #[.pointer (some ⟨r, 0, none⟩), .slice x.Ab x.b.length x.cb] (by simp [Act.eval])) ?_
  refine (hap).mono ?_
  rintro e w4 ⟨rfl, R4, K4⟩
  have X4 := (X1.keep (Keep.refl Noth w1).drew).prog R4 K4
  have HK4 := hid (HKs.out.trans K4.drewl (fun _ _ e => .inl e))
  have B4 := B3.drew.keep K4 hb3F
  refine ⟨_, rfl, .inr ⟨X4.cells.2, B4⟩, ?_⟩
  go_frame
  refine wpO_run (v := .int .i64 E1) (w1 := w4) (by rfl) (by go_simp) (.inl rfl) (wpO_nil ?_)
  go_frame
  have HX4 := hid X4
  have HB4 := hid B4
  clear X4 B4 R4 K4 X1 B3
  clear hap
  obtain ⟨FS, hFS⟩ := HX4.out.parts
  have HFS := hid hFS
  have Kd := (Keep.refl Noth w4).drew
  obtain ⟨E2, hE2⟩ : ∃ E2, E2 = (R.stage x.b).2 := ⟨_, rfl⟩
  have hsc := refStage_calls (hFS.1.keep Kd (Dj.noth _)) HR.out Hmo.out (by omega) (by omega) x.Ab x.cb x.b (Hxx.out.keep (HX4.out.keep Kd).kept).b Hxx.out.bc (fun hb ad e => HX4.out.old _ (Hxx.out.bG hb ad e))
  have hpe : ∀ e W, RefPost w4.drew G (R.stage x.b) e W → ∃ cs, e = .returned (.tuple #[.agg cs.toArray, .int .i64 E2]) ∧ RefAt W (grow G w4.drew W) cs (R.stage x.b).1 ∧ Keep Noth w4.drew W := by rw [hE2]; exact fun e W h => h
  have hsc := hsc.mono hpe
  have HE2 := hid hE2
  clear hFS hE2 hpe Kd
  go_wp2_with fail
  refine wp_region_ord3 [(0, true), (1, true), (2, true), (3, true), (5, true)] [(4, true), (6, true), (7, false)] [(8, true), (9, true), (10, true), (11, true), (12, true), (13, false), (14, false)] 8 8 #[true, true, true, true, false, true, false, false, false, false, false, false, false, false, false] #[true, true, true, true, true, true, true, true, false, false, false, false, false, false, false] (fun W => BlockIs W bw (wxCells g r FS) 70 ∧ BlockIs W b3 x.cells 88) follows_mixed (by kernel_rfl) ?_
  simp only [List.map_cons, List.map_nil, List.getElem?_cons_succ, List.getElem?_cons_zero, Option.getD_some]
  refine wpO_pure (v := .pointer (some ⟨bw, 0, none⟩)) (by rfl) (fun w' hw' => by go_simp) ?_
  go_frame
  refine wpO_pure (v := .pointer (some ⟨bw, 0, none⟩)) (by rfl) (fun w' hw' => by go_simp) ?_
  go_frame
  refine wpO_pure (v := .pointer (some ⟨bw, 0, none⟩)) (by rfl) (fun w' hw' => by go_simp) ?_
  go_frame
  refine wpO_pure (v := .pointer (some ⟨bw, 2, none⟩)) (by rfl) (fun w' hw' => by go_simp) ?_
  go_frame
  refine wpO_pure (v := .pointer (some ⟨b3, 1, none⟩)) (by rfl) (fun w' hw' => by go_simp) (wpO_nil ?_)
  go_frame
  refine ⟨⟨HFS.out.2.drew, HB4.out.drew⟩, ?_⟩
  refine wpO_pure (v := .agg FS.toArray) (by rfl) (fun w' hw' => by exact exec_load_blk 68 _ rfl bw 2 _ FS 70 _ (by rfl) hw'.1 (wx_dev _ _ _) Try.underlying68 rfl HFS.out.1.info) ?_
  go_frame
  refine wpO_pure (v := .slice x.Ab x.b.length x.cb) (by rfl) (fun w' hw' => by have hc : w'.cell? ⟨b3, 1, none⟩ = some (.slice x.Ab x.b.length x.cb) := hw'.2.cell 1; go_simp) ?_
  go_frame
  refine wpO_call (by rfl) (exec_call' 84 _ _ rfl Try.func84 (by kernel_rfl) (by rfl) #[.agg FS.toArray, .slice x.Ab x.b.length x.cb] (by simp [Act.eval])) ?_
  refine (hsc).mono ?_
  rintro e w5 ⟨cs, rfl, H5, K5⟩
  have B5 := HFS.out.2.drew.keep K5 id
  have BB5 := HB4.out.drew.keep K5 id
  refine ⟨_, rfl, .inl rfl, wpO_nil ⟨⟨B5, BB5⟩, ?_⟩⟩
  go_frame
  refine wpO_pure (v := .tuple #[.agg cs.toArray, .int .i64 E2]) (by rfl) (fun w' hw' => by go_simp) ?_
  go_frame
  refine wpO_pure (v := .agg cs.toArray) (by rfl) (fun w' hw' => by go_simp) ?_
  go_frame
  refine wpO_pure (v := .int .i64 E2) (by rfl) (fun w' hw' => by go_simp) ?_
  go_frame
  refine wpO_pure (v := .pointer (some ⟨bw, 0, none⟩)) (by rfl) (fun w' hw' => by go_simp) ?_
  go_frame
  refine wpO_pure (v := .pointer (some ⟨bw, 2, none⟩)) (by rfl) (fun w' hw' => by go_simp) ?_
  go_frame
  refine wpO_store_part (by rfl) 68 _ _ rfl bw 2 _ cs 70 (by rfl) (by rfl) B5 (by rw [H5.len]; show 2 + 11 ≤ FS.length + 1 + 1; rw [HFS.out.1.len]; decide) H5.info H5.one ?_
  intro w6 B6 K6
  rw [wx_splice HFS.out.1.len H5.len] at B6
  refine ⟨.inr trivial, ?_⟩
  go_frame
  refine wpO_run (v := .int .i64 E2) (w1 := w6) (by rfl) (by go_simp) (.inl rfl) (wpO_nil ?_)
  go_frame
  have HX6 := hid (HX4.out.refd (show RefAt w5 (grow G w4 w5) cs _ from H5) K5.drewl B6 K6)
  have HB6 := hid (BB5.keep K6 (fun e => by unfold Only at e; exact hb3b e))
  have HK6 := hid ((HK4.out.trans K5.drewl (fun _ _ e => e.elim)).trans K6 (fun _ _ e => .inr e))
  clear B5 BB5 H5 K5 B6 K6
  clear hsc HX4 HFS HB4
  by_cases hz : E2 = 0
  ·have hzb : (E2 == 0) = true := by rw [hz]; rfl
   have hrap : R.append x.b = (R.stage x.b).1.sealz := by unfold RS.append; rw [if_pos (by rw [← HE2.out]; exact hz)]
   have Hrap := hid hrap
   obtain ⟨FS2, hFS2⟩ := HX6.out.parts
   have HFS2 := hid hFS2
   have hgr := stage_grow (S := R) x.b
   have hsl := refSeal_calls hFS2.1 (stage_good HR.out _) (stage_more Hmo.out _) (by omega) (by omega)
   clear hz hrap hFS2 hgr
   go_wp2_with (first
    | (guard_target = wpList _ _ _ (Oper.mk _ (Op.load 68 _) _ _ _ _ :: _) _ _; refine wpList_load_blk rfl 68 _ rfl bw 2 _ FS2 70 _ (by rfl) HFS2.out.2 (wx_dev _ _ _) Try.underlying68 rfl HFS2.out.1.info ?_))
   refine hsl.mono ?_
   rintro e w7 ⟨cs, rfl, H7, K7⟩
   have B7 := HFS2.out.2.keep K7 id
   have HH7 := hid H7
   clear hsl H7
   go_wp2_with (first
    | (guard_target = wpList _ _ _ (Oper.mk _ (Op.store 68 _ _) _ _ _ _ :: _) _ _; refine wpList_store_part rfl 68 _ _ rfl bw 2 _ cs 70 (by rfl) (by rfl) B7 (by rw [HH7.out.len]; show 2 + 11 ≤ FS2.length + 1 + 1; rw [HFS2.out.1.len]; decide) HH7.out.info HH7.out.one ?_; intro w8 B8 K8))
   go_ret
   rw [wx_splice HFS2.out.1.len HH7.out.len] at B8
   rw [HSd.out, HRd.out, Hrap.out]
   exact ⟨_, _, _, r, rfl, HX6.out.refd HH7.out K7 B8 K8, fun q hq => hq.imp id (fun e => by have e1 : w1.heap.size ≤ q := e.1; omega), (HK6.out.trans K7 (fun _ _ e => e.elim)).trans K8 (fun _ _ e => .inr e), fun _ => rfl⟩
  ·have hzb : (E2 == 0) = false := by simpa using hz
   have hrap : R.append x.b = R.stage x.b := by unfold RS.append; rw [if_neg (by rw [← HE2.out]; exact hz)]
   have Hrap := hid hrap
   clear hz hrap
   go_wp2_with fail
   go_ret
   rw [HSd.out, HRd.out, Hrap.out]
   exact ⟨_, _, _, r, rfl, HX6.out, fun q hq => hq.imp id (fun e => by have e1 : w1.heap.size ≤ q := e.1; omega), HK6.out, fun _ => rfl⟩
 have kd0 : (x.kind == 0) = false := by simpa using k0
 by_cases k1 : x.kind = 1
 ·have kd1 : (x.kind == 1) = true := by rw [k1]; rfl
  have hSd : S.does x = (S.stage x.b).1 := by unfold RS.does; rw [if_neg k0, if_pos k1]
  have hRd : R.does x = (R.stage x.b).1 := by unfold RS.does; rw [if_neg k0, if_pos k1]
  have HSd := hid hSd
  have HRd := hid hRd
  clear hSd hRd k0 k1
  go_wp2_with (first
   | (guard_target = wpList _ _ _ (Oper.mk _ (Op.box 88 _) _ _ _ _ :: _) _ _; refine wpList_box_v rfl 88 _ rfl x.cells (by rfl) ?_; intro b3 w1 hb3 B3 K1; have c0 : w1.cell? ⟨b3, 0, none⟩ = some (.int .i64 x.kind) := B3.cell 0))
  have hb3F : ¬ F b3 := fun e => by have h1 := HX.out.rlt _ e; have h2 : w.heap.size ≤ b3 := hb3; omega
  have hb3b : b3 ≠ bw := fun e => by have h1 := HX.out.wlt; have h2 : w.heap.size ≤ b3 := hb3; omega
  have X1 := HX.out.keep K1
  have Xd := X1.keep (Keep.refl Noth w1).drew
  have HKs := hid ((Keep.refl (fun q => F q ∨ q = bw) w).trans K1 (fun _ _ e => e.elim))
  have hs1 := K1.size
  obtain ⟨vl, vs, A1⟩ := Xd.roll
  obtain ⟨E1, hE1⟩ : ∃ E1, E1 = (S.stage x.b).2 := ⟨_, rfl⟩
  have hap := stage_calls A1 HS.out.ok (by omega) (by omega) x.Ab x.cb x.b (Hxx.out.keep Xd.kept).b Hxx.out.bc (fun hb ad e hF => by have h1 := Hxx.out.bG hb ad e; have h2 := Xd.low _ hF; omega)
  rw [← hE1] at hap
  clear Xd A1 K1 hb3 c0 hE1
  refine wp_region_ordL [(0, true), (1, true), (2, true), (3, true), (4, true), (5, true), (6, false), (7, false)] (fun W => W.cell? ⟨bw, 1, none⟩ = some (.pointer (some ⟨r, 0, none⟩)) ∧ BlockIs W b3 x.cells 88) follows_mixed (by kernel_rfl) ⟨X1.cells.2, B3.drew⟩ ?_
  simp only [List.map_cons, List.map_nil, List.getElem?_cons_succ, List.getElem?_cons_zero, Option.getD_some]
  refine wpO_pure (v := .pointer (some ⟨bw, 0, none⟩)) (by rfl) (fun w' hw' => by go_simp) ?_
  go_frame
  refine wpO_pure (v := .pointer (some ⟨bw, 0, none⟩)) (by rfl) (fun w' hw' => by go_simp) ?_
  go_frame
  refine wpO_pure (v := .pointer (some ⟨bw, 1, none⟩)) (by rfl) (fun w' hw' => by go_simp) ?_
  go_frame
  refine wpO_pure (v := .pointer (some ⟨r, 0, none⟩)) (by rfl) (fun w' hw' => by have hc := hw'.1; go_simp) ?_
  go_frame
  refine wpO_pure (v := .pointer (some ⟨b3, 1, none⟩)) (by rfl) (fun w' hw' => by go_simp) ?_
  go_frame
  refine wpO_pure (v := .slice x.Ab x.b.length x.cb) (by rfl) (fun w' hw' => by have hc : w'.cell? ⟨b3, 1, none⟩ = some (.slice x.Ab x.b.length x.cb) := hw'.2.cell 1; go_simp) ?_
  go_frame
  refine wpO_call (by rfl) (exec_call' 44 _ _ rfl Try.func44 (by kernel_rfl) (by rfl) #[.pointer (some ⟨r, 0, none⟩), .slice x.Ab x.b.length x.cb] (by simp [Act.eval])) ?_
  refine (hap).mono ?_
  rintro e w4 ⟨rfl, R4, K4⟩
  have X4 := (X1.keep (Keep.refl Noth w1).drew).prog R4 K4
  have HK4 := hid (HKs.out.trans K4.drewl (fun _ _ e => .inl e))
  have B4 := B3.drew.keep K4 hb3F
  refine ⟨_, rfl, .inr ⟨X4.cells.2, B4⟩, ?_⟩
  go_frame
  refine wpO_run (v := .int .i64 E1) (w1 := w4) (by rfl) (by go_simp) (.inl rfl) (wpO_nil ?_)
  go_frame
  have HX4 := hid X4
  have HB4 := hid B4
  clear X4 B4 R4 K4 X1 B3
  clear hap
  obtain ⟨FS, hFS⟩ := HX4.out.parts
  have HFS := hid hFS
  have Kd := (Keep.refl Noth w4).drew
  obtain ⟨E2, hE2⟩ : ∃ E2, E2 = (R.stage x.b).2 := ⟨_, rfl⟩
  have hsc := refStage_calls (hFS.1.keep Kd (Dj.noth _)) HR.out Hmo.out (by omega) (by omega) x.Ab x.cb x.b (Hxx.out.keep (HX4.out.keep Kd).kept).b Hxx.out.bc (fun hb ad e => HX4.out.old _ (Hxx.out.bG hb ad e))
  have hpe : ∀ e W, RefPost w4.drew G (R.stage x.b) e W → ∃ cs, e = .returned (.tuple #[.agg cs.toArray, .int .i64 E2]) ∧ RefAt W (grow G w4.drew W) cs (R.stage x.b).1 ∧ Keep Noth w4.drew W := by rw [hE2]; exact fun e W h => h
  have hsc := hsc.mono hpe
  clear hFS hE2 hpe Kd
  go_wp2_with fail
  refine wp_region_ord3 [(0, true), (1, true), (2, true), (3, true), (5, true)] [(4, true), (6, true), (7, false)] [(8, true), (9, true), (10, true), (11, true), (12, true), (13, false), (14, false)] 8 8 #[true, true, true, true, false, true, false, false, false, false, false, false, false, false, false] #[true, true, true, true, true, true, true, true, false, false, false, false, false, false, false] (fun W => BlockIs W bw (wxCells g r FS) 70 ∧ BlockIs W b3 x.cells 88) follows_mixed (by kernel_rfl) ?_
  simp only [List.map_cons, List.map_nil, List.getElem?_cons_succ, List.getElem?_cons_zero, Option.getD_some]
  refine wpO_pure (v := .pointer (some ⟨bw, 0, none⟩)) (by rfl) (fun w' hw' => by go_simp) ?_
  go_frame
  refine wpO_pure (v := .pointer (some ⟨bw, 0, none⟩)) (by rfl) (fun w' hw' => by go_simp) ?_
  go_frame
  refine wpO_pure (v := .pointer (some ⟨bw, 0, none⟩)) (by rfl) (fun w' hw' => by go_simp) ?_
  go_frame
  refine wpO_pure (v := .pointer (some ⟨bw, 2, none⟩)) (by rfl) (fun w' hw' => by go_simp) ?_
  go_frame
  refine wpO_pure (v := .pointer (some ⟨b3, 1, none⟩)) (by rfl) (fun w' hw' => by go_simp) (wpO_nil ?_)
  go_frame
  refine ⟨⟨HFS.out.2.drew, HB4.out.drew⟩, ?_⟩
  refine wpO_pure (v := .agg FS.toArray) (by rfl) (fun w' hw' => by exact exec_load_blk 68 _ rfl bw 2 _ FS 70 _ (by rfl) hw'.1 (wx_dev _ _ _) Try.underlying68 rfl HFS.out.1.info) ?_
  go_frame
  refine wpO_pure (v := .slice x.Ab x.b.length x.cb) (by rfl) (fun w' hw' => by have hc : w'.cell? ⟨b3, 1, none⟩ = some (.slice x.Ab x.b.length x.cb) := hw'.2.cell 1; go_simp) ?_
  go_frame
  refine wpO_call (by rfl) (exec_call' 84 _ _ rfl Try.func84 (by kernel_rfl) (by rfl) #[.agg FS.toArray, .slice x.Ab x.b.length x.cb] (by simp [Act.eval])) ?_
  refine (hsc).mono ?_
  rintro e w5 ⟨cs, rfl, H5, K5⟩
  have B5 := HFS.out.2.drew.keep K5 id
  have BB5 := HB4.out.drew.keep K5 id
  refine ⟨_, rfl, .inl rfl, wpO_nil ⟨⟨B5, BB5⟩, ?_⟩⟩
  go_frame
  refine wpO_pure (v := .tuple #[.agg cs.toArray, .int .i64 E2]) (by rfl) (fun w' hw' => by go_simp) ?_
  go_frame
  refine wpO_pure (v := .agg cs.toArray) (by rfl) (fun w' hw' => by go_simp) ?_
  go_frame
  refine wpO_pure (v := .int .i64 E2) (by rfl) (fun w' hw' => by go_simp) ?_
  go_frame
  refine wpO_pure (v := .pointer (some ⟨bw, 0, none⟩)) (by rfl) (fun w' hw' => by go_simp) ?_
  go_frame
  refine wpO_pure (v := .pointer (some ⟨bw, 2, none⟩)) (by rfl) (fun w' hw' => by go_simp) ?_
  go_frame
  refine wpO_store_part (by rfl) 68 _ _ rfl bw 2 _ cs 70 (by rfl) (by rfl) B5 (by rw [H5.len]; show 2 + 11 ≤ FS.length + 1 + 1; rw [HFS.out.1.len]; decide) H5.info H5.one ?_
  intro w6 B6 K6
  rw [wx_splice HFS.out.1.len H5.len] at B6
  refine ⟨.inr trivial, ?_⟩
  go_frame
  refine wpO_run (v := .int .i64 E2) (w1 := w6) (by rfl) (by go_simp) (.inl rfl) (wpO_nil ?_)
  go_frame
  have HX6 := hid (HX4.out.refd (show RefAt w5 (grow G w4 w5) cs _ from H5) K5.drewl B6 K6)
  have HB6 := hid (BB5.keep K6 (fun e => by unfold Only at e; exact hb3b e))
  have HK6 := hid ((HK4.out.trans K5.drewl (fun _ _ e => e.elim)).trans K6 (fun _ _ e => .inr e))
  clear B5 BB5 H5 K5 B6 K6
  clear hsc HX4 HFS HB4
  go_wp2_with fail
  go_ret
  rw [HSd.out, HRd.out]
  exact ⟨_, _, _, r, rfl, HX6.out, fun q hq => hq.imp id (fun e => by have e1 : w1.heap.size ≤ q := e.1; omega), HK6.out, fun _ => rfl⟩
 have kd1 : (x.kind == 1) = false := by simpa using k1
 by_cases k2 : x.kind = 2
 ·have kd2 : (x.kind == 2) = true := by rw [k2]; rfl
  have hSd : S.does x = S.sealz.1 := by unfold RS.does; rw [if_neg k0, if_neg k1, if_pos k2]
  have hRd : R.does x = R.sealz.1 := by unfold RS.does; rw [if_neg k0, if_neg k1, if_pos k2]
  have HSd := hid hSd
  have HRd := hid hRd
  clear hSd hRd k0 k1 k2
  have hcl : ∀ W, Keep Noth w W → W.cell? ⟨bw, 1, none⟩ = some (.pointer (some ⟨r, 0, none⟩)) := fun W hW => (HX.out.keep hW).cells.2
  have Hcl := hid hcl
  clear hcl
  go_wp2_with (first
   | (guard_target = wpList _ _ _ (Oper.mk _ (Op.box 88 _) _ _ _ _ :: _) _ _; refine wpList_box_v rfl 88 _ rfl x.cells (by rfl) ?_; intro b3 w1 hb3 B3 K1; have c0 : w1.cell? ⟨b3, 0, none⟩ = some (.int .i64 x.kind) := B3.cell 0; have c1 := Hcl.out w1 K1))
  have X1 := HX.out.keep K1
  obtain ⟨vl, vs, A1⟩ := X1.roll
  refine (seal_calls A1 HS.out.ok (by omega) (by omega)).mono ?_
  rintro e w4 ⟨rfl, R4, K4⟩
  have HX4 := hid (X1.prog R4 K4)
  have HK4 := hid (((Keep.refl (fun q => F q ∨ q = bw) w).trans K1 (fun _ _ e => e.elim)).trans K4 (fun _ _ e => .inl e))
  have hs1 := K1.size
  obtain ⟨FS, hFS⟩ := HX4.out.parts
  have HFS := hid hFS
  have hsl := refSeal_calls hFS.1 HR.out Hmo.out (by omega) (by omega)
  clear hFS A1 R4 K4 X1 K1 B3 c0 c1
  go_wp2_with (first
   | (guard_target = wpList _ _ _ (Oper.mk _ (Op.load 68 _) _ _ _ _ :: _) _ _; refine wpList_load_blk rfl 68 _ rfl bw 2 _ FS 70 _ (by rfl) HFS.out.2 (wx_dev _ _ _) Try.underlying68 rfl HFS.out.1.info ?_))
  refine hsl.mono ?_
  rintro e w7 ⟨cs, rfl, H7, K7⟩
  have B7 := HFS.out.2.keep K7 id
  have HH7 := hid H7
  clear hsl H7
  go_wp2_with (first
   | (guard_target = wpList _ _ _ (Oper.mk _ (Op.store 68 _ _) _ _ _ _ :: _) _ _; refine wpList_store_part rfl 68 _ _ rfl bw 2 _ cs 70 (by rfl) (by rfl) B7 (by rw [HH7.out.len]; show 2 + 11 ≤ FS.length + 1 + 1; rw [HFS.out.1.len]; decide) HH7.out.info HH7.out.one ?_; intro w8 B8 K8))
  go_ret
  rw [wx_splice HFS.out.1.len HH7.out.len] at B8
  rw [HSd.out, HRd.out]
  exact ⟨_, _, _, r, rfl, HX4.out.refd HH7.out K7 B8 K8, fun q hq => hq.imp id (fun e => by have e1 : w1.heap.size ≤ q := e.1; omega), (HK4.out.trans K7 (fun _ _ e => e.elim)).trans K8 (fun _ _ e => .inr e), fun _ => rfl⟩
 have kd2 : (x.kind == 2) = false := by simpa using k2
 by_cases k3 : x.kind = 3
 ·have kd3 : (x.kind == 3) = true := by rw [k3]; rfl
  have hSd : S.does x = (S.reset x.l).1 := by unfold RS.does; rw [if_neg k0, if_neg k1, if_neg k2, if_pos k3]
  have hRd : R.does x = (R.reset x.l).1 := by unfold RS.does; rw [if_neg k0, if_neg k1, if_neg k2, if_pos k3]
  have HSd := hid hSd
  have HRd := hid hRd
  clear hSd hRd k0 k1 k2 k3
  go_wp2_with (first
   | (guard_target = wpList _ _ _ (Oper.mk _ (Op.box 88 _) _ _ _ _ :: _) _ _; refine wpList_box_v rfl 88 _ rfl x.cells (by rfl) ?_; intro b3 w1 hb3 B3 K1; have c0 : w1.cell? ⟨b3, 0, none⟩ = some (.int .i64 x.kind) := B3.cell 0))
  have hb3F : ¬ F b3 := fun e => by have h1 := HX.out.rlt _ e; have h2 : w.heap.size ≤ b3 := hb3; omega
  have hb3b : b3 ≠ bw := fun e => by have h1 := HX.out.wlt; have h2 : w.heap.size ≤ b3 := hb3; omega
  have X1 := HX.out.keep K1
  have Xd := X1.keep (Keep.refl Noth w1).drew
  have HKs := hid ((Keep.refl (fun q => F q ∨ q = bw) w).trans K1 (fun _ _ e => e.elim))
  have hs1 := K1.size
  obtain ⟨vl, vs, A1⟩ := Xd.roll
  obtain ⟨E1, hE1⟩ : ∃ E1, E1 = (S.reset x.l).2 := ⟨_, rfl⟩
  have hap := reset_calls A1 HS.out.ok (by omega) (by omega) x.Al x.cl x.l (Hxx.out.keep Xd.kept).l (fun q hq hF => by have h2 := Xd.low _ hF; omega) (by omega) Hlm.out (by omega)
  rw [← hE1] at hap
  clear Xd A1 K1 hb3 c0 hE1
  refine wp_region_ordL [(0, true), (1, true), (2, true), (3, true), (4, true), (5, true), (6, false), (7, false)] (fun W => W.cell? ⟨bw, 1, none⟩ = some (.pointer (some ⟨r, 0, none⟩)) ∧ BlockIs W b3 x.cells 88) follows_mixed (by kernel_rfl) ⟨X1.cells.2, B3.drew⟩ ?_
  simp only [List.map_cons, List.map_nil, List.getElem?_cons_succ, List.getElem?_cons_zero, Option.getD_some]
  refine wpO_pure (v := .pointer (some ⟨bw, 0, none⟩)) (by rfl) (fun w' hw' => by go_simp) ?_
  go_frame
  refine wpO_pure (v := .pointer (some ⟨bw, 0, none⟩)) (by rfl) (fun w' hw' => by go_simp) ?_
  go_frame
  refine wpO_pure (v := .pointer (some ⟨bw, 1, none⟩)) (by rfl) (fun w' hw' => by go_simp) ?_
  go_frame
  refine wpO_pure (v := .pointer (some ⟨r, 0, none⟩)) (by rfl) (fun w' hw' => by have hc := hw'.1; go_simp) ?_
  go_frame
  refine wpO_pure (v := .pointer (some ⟨b3, 2, none⟩)) (by rfl) (fun w' hw' => by go_simp) ?_
  go_frame
  refine wpO_pure (v := .slice x.Al x.l.length x.cl) (by rfl) (fun w' hw' => by have hc : w'.cell? ⟨b3, 2, none⟩ = some (.slice x.Al x.l.length x.cl) := hw'.2.cell 2; go_simp) ?_
  go_frame
  refine wpO_call (by rfl) (exec_call' 43 _ _ rfl Try.func43 (by kernel_rfl) (by rfl) #[.pointer (some ⟨r, 0, none⟩), .slice x.Al x.l.length x.cl] (by simp [Act.eval])) ?_
  refine (hap).mono ?_
  rintro e w4 ⟨rfl, R4, K4⟩
  have X4 := (X1.keep (Keep.refl Noth w1).drew).prog R4 K4
  have HK4 := hid (HKs.out.trans K4.drewl (fun _ _ e => .inl e))
  have B4 := B3.drew.keep K4 hb3F
  refine ⟨_, rfl, .inr ⟨X4.cells.2, B4⟩, ?_⟩
  go_frame
  refine wpO_run (v := .int .i64 E1) (w1 := w4) (by rfl) (by go_simp) (.inl rfl) (wpO_nil ?_)
  go_frame
  have HX4 := hid X4
  have HB4 := hid B4
  clear X4 B4 R4 K4 X1 B3
  clear hap
  obtain ⟨FS, hFS⟩ := HX4.out.parts
  have HFS := hid hFS
  have Kd := (Keep.refl Noth w4).drew
  obtain ⟨E2, hE2⟩ : ∃ E2, E2 = (R.reset x.l).2 := ⟨_, rfl⟩
  have hsc := refReset_calls (hFS.1.keep Kd (Dj.noth _)) HR.out (by omega) (by omega) x.Al x.cl x.l ((Hxx.out.keep (HX4.out.keep Kd).kept).l.mono (fun q hq => HX4.out.old q hq)) Hxx.out.lc (by omega) Hlm.out (by omega)
  have hpe : ∀ e W, RefPost w4.drew G (R.reset x.l) e W → ∃ cs, e = .returned (.tuple #[.agg cs.toArray, .int .i64 E2]) ∧ RefAt W (grow G w4.drew W) cs (R.reset x.l).1 ∧ Keep Noth w4.drew W := by rw [hE2]; exact fun e W h => h
  have hsc := hsc.mono hpe
  clear hFS hE2 hpe Kd
  go_wp2_with fail
  refine wp_region_ord3 [(0, true), (1, true), (2, true), (3, true), (5, true)] [(4, true), (6, true), (7, false)] [(8, true), (9, true), (10, true), (11, true), (12, true), (13, false), (14, false)] 8 8 #[true, true, true, true, false, true, false, false, false, false, false, false, false, false, false] #[true, true, true, true, true, true, true, true, false, false, false, false, false, false, false] (fun W => BlockIs W bw (wxCells g r FS) 70 ∧ BlockIs W b3 x.cells 88) follows_mixed (by kernel_rfl) ?_
  simp only [List.map_cons, List.map_nil, List.getElem?_cons_succ, List.getElem?_cons_zero, Option.getD_some]
  refine wpO_pure (v := .pointer (some ⟨bw, 0, none⟩)) (by rfl) (fun w' hw' => by go_simp) ?_
  go_frame
  refine wpO_pure (v := .pointer (some ⟨bw, 0, none⟩)) (by rfl) (fun w' hw' => by go_simp) ?_
  go_frame
  refine wpO_pure (v := .pointer (some ⟨bw, 0, none⟩)) (by rfl) (fun w' hw' => by go_simp) ?_
  go_frame
  refine wpO_pure (v := .pointer (some ⟨bw, 2, none⟩)) (by rfl) (fun w' hw' => by go_simp) ?_
  go_frame
  refine wpO_pure (v := .pointer (some ⟨b3, 2, none⟩)) (by rfl) (fun w' hw' => by go_simp) (wpO_nil ?_)
  go_frame
  refine ⟨⟨HFS.out.2.drew, HB4.out.drew⟩, ?_⟩
  refine wpO_pure (v := .agg FS.toArray) (by rfl) (fun w' hw' => by exact exec_load_blk 68 _ rfl bw 2 _ FS 70 _ (by rfl) hw'.1 (wx_dev _ _ _) Try.underlying68 rfl HFS.out.1.info) ?_
  go_frame
  refine wpO_pure (v := .slice x.Al x.l.length x.cl) (by rfl) (fun w' hw' => by have hc : w'.cell? ⟨b3, 2, none⟩ = some (.slice x.Al x.l.length x.cl) := hw'.2.cell 2; go_simp) ?_
  go_frame
  refine wpO_call (by rfl) (exec_call' 86 _ _ rfl Try.func86 (by kernel_rfl) (by rfl) #[.agg FS.toArray, .slice x.Al x.l.length x.cl] (by simp [Act.eval])) ?_
  refine (hsc).mono ?_
  rintro e w5 ⟨cs, rfl, H5, K5⟩
  have B5 := HFS.out.2.drew.keep K5 id
  have BB5 := HB4.out.drew.keep K5 id
  refine ⟨_, rfl, .inl rfl, wpO_nil ⟨⟨B5, BB5⟩, ?_⟩⟩
  go_frame
  refine wpO_pure (v := .tuple #[.agg cs.toArray, .int .i64 E2]) (by rfl) (fun w' hw' => by go_simp) ?_
  go_frame
  refine wpO_pure (v := .agg cs.toArray) (by rfl) (fun w' hw' => by go_simp) ?_
  go_frame
  refine wpO_pure (v := .int .i64 E2) (by rfl) (fun w' hw' => by go_simp) ?_
  go_frame
  refine wpO_pure (v := .pointer (some ⟨bw, 0, none⟩)) (by rfl) (fun w' hw' => by go_simp) ?_
  go_frame
  refine wpO_pure (v := .pointer (some ⟨bw, 2, none⟩)) (by rfl) (fun w' hw' => by go_simp) ?_
  go_frame
  refine wpO_store_part (by rfl) 68 _ _ rfl bw 2 _ cs 70 (by rfl) (by rfl) B5 (by rw [H5.len]; show 2 + 11 ≤ FS.length + 1 + 1; rw [HFS.out.1.len]; decide) H5.info H5.one ?_
  intro w6 B6 K6
  rw [wx_splice HFS.out.1.len H5.len] at B6
  refine ⟨.inr trivial, ?_⟩
  go_frame
  refine wpO_run (v := .int .i64 E2) (w1 := w6) (by rfl) (by go_simp) (.inl rfl) (wpO_nil ?_)
  go_frame
  have HX6 := hid (HX4.out.refd (show RefAt w5 (grow G w4 w5) cs _ from H5) K5.drewl B6 K6)
  have HB6 := hid (BB5.keep K6 (fun e => by unfold Only at e; exact hb3b e))
  have HK6 := hid ((HK4.out.trans K5.drewl (fun _ _ e => e.elim)).trans K6 (fun _ _ e => .inr e))
  clear B5 BB5 H5 K5 B6 K6
  clear hsc HX4 HFS HB4
  go_wp2_with fail
  go_ret
  rw [HSd.out, HRd.out]
  exact ⟨_, _, _, r, rfl, HX6.out, fun q hq => hq.imp id (fun e => by have e1 : w1.heap.size ≤ q := e.1; omega), HK6.out, fun _ => rfl⟩
 have kd3 : (x.kind == 3) = false := by simpa using k3
 have kd4 : (x.kind == 4) = false := by simpa using h45.1
 have kd5 : (x.kind == 5) = false := by simpa using h45.2
 by_cases k6 : x.kind = 6
 ·have kd6 : (x.kind == 6) = true := by rw [k6]; rfl
  have hSd : S.does x = openS S.D := by unfold RS.does; rw [if_neg k0, if_neg k1, if_neg k2, if_neg k3, if_pos k6]
  have hRd : R.does x = openS S.D := by unfold RS.does; rw [if_neg k0, if_neg k1, if_neg k2, if_neg k3, if_pos k6, (h6 k6).1]
  have HSd := hid hSd
  have HRd := hid hRd
  obtain ⟨hD, hdn⟩ := h6 k6
  have k6e := k6
  clear hSd hRd k0 k1 k2 k3 k6 h6
  go_wp2_with (first
   | (guard_target = wpList _ _ _ (Oper.mk _ (Op.box 88 _) _ _ _ _ :: _) _ _; refine wpList_box_v rfl 88 _ rfl x.cells (by rfl) ?_; intro b3 w1 hb3 B3 K1; have c0 : w1.cell? ⟨b3, 0, none⟩ = some (.int .i64 x.kind) := B3.cell 0))
  have X1 := HX.out.keep K1
  obtain ⟨va, vs, A1⟩ := X1.roll
  obtain ⟨vl, vr, A, a, B, b, g1, g2, g3, g4, g5, g6⟩ := X1.ref
  rw [hD] at g1 g6
  refine (wopen_calls A1.dev g1 g6 rfl HS.out.dok (by omega) hdn HS.out.four X1.nbF X1.nbG).mono ?_
  rintro e w4 ⟨rfl, F', G', r', A', c', p1, p2, p3, p4, p5, p6, p7, p8, p9⟩
  have hrlt := X1.rlt
  have hs := p9.size
  have hwl := X1.wlt
  have XN : WX w0 w4 F' (fun q => G q ∨ G' q) bw g r' (openS S.D) (openS S.D) := by
   refine ⟨p4, ⟨vl, vr, A', c', none, 0, by rw [openS_D]; exact p5.mono (fun q hq => .inl hq), p6.mono (fun q hq => .inr hq), by rw [openS_st]; exact ⟨⟨[], rfl, Reads.nil _ _, fun i v b e => by simp at e⟩, fun h => absurd rfl h⟩, p7, fun _ => rfl, by rw [openS_D, openS_st]; exact p8⟩, fun q hq => ?_, fun q hq hf => ?_, fun hf => ?_, fun hq => ?_, X1.wlow, fun q hq => ?_, fun q hq => .inl (X1.old q hq), X1.kept.own p9 (fun q e => by unfold Only at e; subst e; exact X1.wlow)⟩
   ·rcases p1 q hq with e | e
    ·exact X1.low q e
    ·have := e.1; have := X1.kept.size; omega
   ·rcases hq with hq | hq
    ·rcases p1 q hf with e | e
     ·exact X1.off q hq e
     ·have := X1.glt q hq; have := e.1; omega
    ·exact p3 q hq hf
   ·rcases p1 bw hf with e | e
    ·exact X1.nbF e
    ·have := e.1; omega
   ·rcases hq with hq | hq
    ·exact X1.nbG hq
    ·have := (p2 bw hq).1; omega
   ·rcases hq with hq | hq
    ·have := X1.glt q hq; omega
    ·exact (p2 q hq).2
  have HXN := hid XN
  have hs1 := K1.size
  have HFN := hid (show (∀ q, F' q → F q ∨ w.heap.size ≤ q) ∧ Keep (fun q => F q ∨ q = bw) w w4 from ⟨fun q hq => (p1 q hq).imp id (fun e => by have := e.1; omega), ((Keep.refl (fun q => F q ∨ q = bw) w).trans K1 (fun _ _ e => e.elim)).trans p9 (fun _ _ e => .inr e)⟩)
  have Hk6 := hid k6e
  clear XN p1 p2 p3 p4 p5 p6 p7 p8 p9 g1 g2 g3 g6 A1 X1 K1 B3 c0
  go_wp2_with fail
  go_ret
  rw [HSd.out, HRd.out]
  exact ⟨_, _, _, r', rfl, HXN.out, HFN.out.1, HFN.out.2, fun e => absurd Hk6.out e⟩
 have kd6 : (x.kind == 6) = false := by simpa using k6
 have hSd : S.does x = S := by unfold RS.does; rw [if_neg k0, if_neg k1, if_neg k2, if_neg k3, if_neg k6]
 have hRd : R.does x = R := by unfold RS.does; rw [if_neg k0, if_neg k1, if_neg k2, if_neg k3, if_neg k6]
 have HSd := hid hSd
 have HRd := hid hRd
 clear hSd hRd k0 k1 k2 k3 k6 h6
 go_wp2_with (first
  | (guard_target = wpList _ _ _ (Oper.mk _ (Op.box 88 _) _ _ _ _ :: _) _ _; refine wpList_box_v rfl 88 _ rfl x.cells (by rfl) ?_; intro b3 w1 hb3 B3 K1; have c0 : w1.cell? ⟨b3, 0, none⟩ = some (.int .i64 x.kind) := B3.cell 0))
 go_ret
 rw [HSd.out, HRd.out]
 exact ⟨_, _, _, r, rfl, HX.out.keep K1, fun q hq => .inl hq, (Keep.refl (fun q => F q ∨ q = bw) w).trans K1 (fun _ _ e => e.elim), fun _ => rfl⟩
end Go.Proofs.Ytffcglfepobdjaa
