/- What the blocks, the rolls and the document's rolls do, step by step and as plain data: texts L5 L6 L7 L8 K13 K14 K15 L9 K16 M1 M2 M3 M4 M5 N1 P1 Q1 P2 Q2 Q3 Q4 Q5a; no conditions beside those that each theorem states. -/
import Derived.Test.YtffcglfepobdjaaX2
import Derived.Lib.AppendZeros
import Derived.Lib.SlBytesConst
set_option linter.unusedVariables false
set_option linter.unusedSimpArgs false
set_option maxRecDepth 100000
set_option maxHeartbeats 2000000
namespace Go.Proofs.Ytffcglfepobdjaa
open Go.RowKit
section
variable {P : Program} {ops : Array Oper} {rest : List Oper} {o : Oper} {a : Act} {w : World}
theorem exec_callv (x : Operand) (ho : o.op = .call { callee := .value x, args := #[], argTypes := #[] }) (f : FuncId) (bd fr : Array Value) (hx : a.eval x = .func (.func f) bd fr) {fn : Func} (hf : P.funcs[f]? = some fn) (hn : (fn.name == "runtime.NumGoroutine") = false) (hb : fn.body.isNone = false) :
  (execOp a.eval o).run P w = .ok (.enter f (bd ++ fr)) w := by
 have h1 : ¬ fn.name = "runtime.NumGoroutine" := by simpa using hn
 have h2 : ¬ fn.body = none := by intro h; rw [h] at hb; cases hb
 simp [execOp, ho, resolve, Deferred.ofValue, hx, invoke, callFunc, Sem.run_bind, Sem.run_pure, Result.andThen, hf, h1, h2]
theorem wpList_enter {Q : Exit → Act → World → Prop} (hgd : o.guard = none) {f : FuncId} {args : Array Value} (hv : (execOp a.eval o).run P w = .ok (.enter f args) w)
  (h : Calls P f args w (fun e w1 => ∃ v, e = .returned v ∧ wpList P ops Q rest (a.put o.dst v) w1)) : wpList P ops Q (o :: rest) a w := by
 refine wpList_plain hgd fun K hK => ?_
 unfold Oper.wp
 rw [hv, Oper.upon_enter]
 refine h.mono fun e w1 ⟨v, he, hr⟩ => ?_
 subst he
 exact hK _ _ hr
theorem wpO_store_part {Q : Act → World → Prop} {S : World → Prop} {r : List (Oper × Bool)} (hg : Region.wanted o (yielded ops a.tmps) = true) (ty : TypeId) (x y : Operand) (ho : o.op = .store ty x y) (b k : Nat) (zs cs : List Value) (t : TypeId) {z : Option Value} {bytes : Nat}
  (hx : a.eval x = .pointer (some ⟨b, k, none⟩)) (hy : a.eval y = .agg cs.toArray) (hb : BlockIs w b zs t) (hl : k + cs.length ≤ zs.length) (hi : (P.info? ty).map (fun i => (i.zero, i.size, i.bytes)) = some (z, cs.length, bytes)) (h1 : ∀ u ∈ cs, u.oneCell' = true)
  (h : ∀ w1, BlockIs w1 b (splice zs k cs) t → Keep (Only b) w w1 → (r = [] ∨ S w1) ∧ wpO P ops Q S r (a.put o.dst undef) w1) : wpO P ops Q S ((o, false) :: r) a w := by
 have hr := run_store_there (P := P) ty b k cs (hb.there k _ hl) hi h1
 have he : (execOp a.eval o).run P w = .ok .skip (w.setCells b k cs) := by simp [execOp, ho, hx, hy, hr, Result.andThen]
 have := h _ (BlockIs.setCells cs k w zs hb hl) (Keep.setCells _ _ (Keep.refl _ _) (fun _ => rfl))
 exact wpO_store hg he this.1 this.2
theorem wpO_store_cell {Q : Act → World → Prop} {S : World → Prop} {r : List (Oper × Bool)} (hg : Region.wanted o (yielded ops a.tmps) = true) (ty : TypeId) (x y : Operand) (ho : o.op = .store ty x y) (b k : Nat) (zs : List Value) (t : TypeId) (v : Value) {z : Option Value} {bytes : Nat}
  (hx : a.eval x = .pointer (some ⟨b, k, none⟩)) (hy : a.eval y = v) (hb : BlockIs w b zs t) (hk : k < zs.length) (h1 : v.oneCell' = true) (hc : v.cells = #[v]) (hi : (P.info? ty).map (fun i => (i.zero, i.size, i.bytes)) = some (z, 1, bytes))
  (h : ∀ w1, BlockIs w1 b (zs.set k v) t → Keep (Only b) w w1 → (r = [] ∨ S w1) ∧ wpO P ops Q S r (a.put o.dst undef) w1) : wpO P ops Q S ((o, false) :: r) a w := by
 have := h _ (hb.set k v) ((Keep.refl _ _).cell k v)
 exact wpO_store hg (exec_store_cell ty x y ho b k v zs t hx hy hb hk h1 hc hi) this.1 this.2
end
structure Clo where
 f : FuncId
 bd : Array Value
 fr : Array Value
def Clo.v (c : Clo) : Value := .func (.func c.f) c.bd c.fr
def Clo.ok (c : Clo) : Prop := ∃ fn, Try.prog.funcs[c.f]? = some fn ∧ (fn.name == "runtime.NumGoroutine") = false ∧ fn.body.isNone = false
theorem allf_calls (cs : List Clo) (hcs : ∀ c ∈ cs, c.ok) (hlen : cs.length ≤ 16) (b : Nat) (I : Nat → World → Prop) (R : Int → World → Prop) (hI : ∀ i W, I i W → BlockIs W b (cs.map Clo.v) 56)
  (hc : ∀ i c W, cs[i]? = some c → I i W → Calls Try.prog c.f (c.bd ++ c.fr) W (fun e W' => ∃ n : Int, e = .returned (.int .i64 n) ∧ (n = 0 → I (i + 1) W') ∧ (n ≠ 0 → R n W'))) (w : World) (h0 : I 0 w) :
  Calls Try.prog 65 #[.slice (some ⟨b, 0, none⟩) cs.length cs.length] w (fun e w' => ∃ n : Int, e = .returned (.int .i64 n) ∧ (n = 0 → I cs.length w') ∧ (n ≠ 0 → R n w')) := by
 have hl : (cs.length : Int) ≤ 16 := by omega
 obtain ⟨N, hN⟩ : ∃ N, N = cs.length := ⟨_, rfl⟩
 rw [← hN] at hl ⊢
 have HN := hid hN
 have HI := hid hI
 have Hc := hid hc
 have Hcs := hid hcs
 clear hI hc hN hlen hcs
 go_enter Try.func65, Try.ntmps65
 go_wp2_with fail
 go_loopw [8] (fun k wr => ∃ i : Nat, k = .int .i64 i ∧ i ≤ N ∧ I i wr) (fun k _ => N - (intOf k).toNat)
 case atStart => exact ⟨0, rfl, Nat.zero_le _, h0⟩
 case round =>
  obtain ⟨i, rfl, hi, hw⟩ := hrel
  clear h0
  by_cases hlt : i < N
  ·have hlt' : (i : Int) < N := by omega
   obtain ⟨c, hci⟩ : ∃ c, cs[i]? = some c := ⟨_, List.getElem?_eq_getElem (by rw [← HN.out]; exact hlt)⟩
   have hcell : wr.cell? ⟨b, i, none⟩ = some (.func (.func c.f) c.bd c.fr) := by
    rw [(HI.out i wr hw).cell, List.getElem?_map, hci]; rfl
   have hcl := Hc.out i c wr hci hw
   obtain ⟨fn, hf, hn, hb⟩ := Hcs.out c (List.mem_of_getElem? hci)
   have Hf := hid hf
   have Hn := hid hn
   have Hb := hid hb
   have Hi := hid hlt
   clear hf hn hb hci hlt hi hw
   go_wp2_with (guard_target = wpList _ _ _ (Oper.mk _ (Op.call { callee := .value (.tmp 12), args := #[], argTypes := #[] }) _ _ _ _ :: _) _ _; refine wpList_enter rfl (exec_callv (.tmp 12) rfl c.f c.bd c.fr (by rfl) Hf.out Hn.out Hb.out) ?_; refine hcl.mono ?_; rintro e w' ⟨n, rfl, hn0, hn1⟩; refine ⟨_, rfl, ?_⟩; by_cases hz : n = 0; subst hz)
   ·have hP := hn0 rfl
    have Hi' := Hi.out
    exact ⟨⟨i + 1, rfl, Hi', hP⟩, by simp [intOf]; omega⟩
   ·have hP := hn1 hz
    go_ret
    exact ⟨n, rfl, fun e => absurd e hz, fun _ => hP⟩
  ·obtain rfl : i = N := by omega
   clear hi hlt
   go_wp2_with fail
   go_ret
   exact ⟨0, rfl, fun _ => hw, fun e => absurd rfl e⟩
theorem hd_bytes_length (h : Hd) : h.bytes.length = 64 := headB_length _ _ _ _
theorem turnsHead_calls {w : World} {F : Nat → Prop} {g r b3 b4 b7 : Nat} {D : DS} {rest : List Value} {h : Hd} {k : Int} (B3 : BlockIs w b3 [.pointer (some ⟨r, 0, none⟩)] 66) (B4 : BlockIs w b4 h.cells 112) (B7 : BlockIs w b7 [.int .i64 k] 3) (BR : BlockIs w r (.pointer (some ⟨g, 0, none⟩) :: rest) 114)
  (hD : DevIs w F g D) (hok : D.ok) (ho : D.ops ≤ 1099511627776) (hr : D.row.length ≤ 1099511627776) (hs : h.seq < 18446744073709551616) (ha : h.area ≤ 9223372036854775807) (hu : h.used ≤ 9223372036854775807) (hc : h.count ≤ 9223372036854775807)
  (n3 : ¬ F b3) (n4 : ¬ F b4) (n7 : ¬ F b7) (nr : ¬ F r) :
  Calls Try.prog 93 #[.pointer (some ⟨b3, 0, none⟩), .pointer (some ⟨b7, 0, none⟩), .pointer (some ⟨b4, 0, none⟩)] w (fun e w' => e = .returned (.int .i64 (D.write k h.bytes).2) ∧ DevIs w' (grow F w w') g (D.write k h.bytes).1 ∧ Keep F w w') := by
 have hhb := headBytes_calls w.drew h.seq h.area h.used h.count hs ha hu hc
 have hbl := hd_bytes_length h
 have HD := hid hD
 clear hD hs ha hu hc
 go_enter Try.func93, Try.ntmps93
 go_wp2_with fail
 refine wp_region_ordL [(0, true), (1, true), (2, true), (3, true), (4, true), (5, true), (6, false), (7, false), (8, false)] (fun w' => BlockIs w' b3 [.pointer (some ⟨r, 0, none⟩)] 66 ∧ BlockIs w' b4 h.cells 112 ∧ BlockIs w' b7 [.int .i64 k] 3 ∧ BlockIs w' r (.pointer (some ⟨g, 0, none⟩) :: rest) 114) follows_mixed (by kernel_rfl) ⟨B3.drew, B4.drew, B7.drew, BR.drew⟩ ?_
 simp only [List.map_cons, List.map_nil, List.getElem?_cons_succ, List.getElem?_cons_zero, Option.getD_some]
 refine wpO_pure (v := .pointer (some ⟨r, 0, none⟩)) (by rfl) (fun w' hw' => by have hc : w'.cell? ⟨b3, 0, none⟩ = some (.pointer (some ⟨r, 0, none⟩)) := hw'.1.cell 0; go_simp) ?_
 go_frame
 refine wpO_pure (v := .pointer (some ⟨r, 0, none⟩)) (by rfl) (fun w' hw' => by go_simp) ?_
 go_frame
 refine wpO_pure (v := .pointer (some ⟨r, 0, none⟩)) (by rfl) (fun w' hw' => by go_simp) ?_
 go_frame
 refine wpO_pure (v := .pointer (some ⟨g, 0, none⟩)) (by rfl) (fun w' hw' => by have hc : w'.cell? ⟨r, 0, none⟩ = some (.pointer (some ⟨g, 0, none⟩)) := hw'.2.2.2.cell 0; go_simp) ?_
 go_frame
 refine wpO_pure (v := .int .i64 k) (by rfl) (fun w' hw' => by have hc : w'.cell? ⟨b7, 0, none⟩ = some (.int .i64 k) := hw'.2.2.1.cell 0; go_simp) ?_
 go_frame
 refine wpO_pure (v := .agg h.cells.toArray) (by rfl) (fun w' hw' => by exact exec_load_blk 112 _ rfl b4 0 h.cells h.cells 112 _ (by rfl) hw'.2.1 (part0 _) Try.underlying112 rfl info112) ?_
 go_frame
 refine wpO_call (by rfl) (exec_call' 94 _ _ rfl Try.func94 (by kernel_rfl) (by rfl) #[.agg h.cells.toArray] (by simp [Act.eval])) ?_
 refine (hhb).mono ?_
 rintro e w1 ⟨gb, rfl, HH, K1⟩
 clear hhb
 have hwr := write_calls ((HD.out.keep (Keep.refl Noth _).drew (Dj.noth _)).keep K1 (Dj.noth _)) hok ho hr k (some ⟨gb, 0, none⟩) 64 h.bytes (by rw [hbl]; decide) (Bytes.same_as HH)
 rw [hbl] at hwr
 have Kd := (Keep.refl Noth w).drew.trans K1 (fun _ _ h => h)
 refine ⟨_, rfl, .inr ⟨B3.drew.keep K1 id, B4.drew.keep K1 id, B7.drew.keep K1 id, BR.drew.keep K1 id⟩, ?_⟩
 go_frame
 refine wpO_call (by rfl) (exec_call' 36 _ _ rfl Try.func36 (by kernel_rfl) (by rfl) #[.pointer (some ⟨g, 0, none⟩), .int .i64 k, .slice (some ⟨gb, 0, none⟩) 64 64] (by simp [Act.eval])) ?_
 refine (hwr).mono ?_
 rintro e w2 ⟨rfl, HD2, K2⟩
 have KK : Keep F w w2 := (Kd.mono (fun q _ h => h.elim)).trans K2 (fun _ _ h => h)
 have hgs : ∀ q, grow F w1 w2 q → grow F w w2 q := fun q hq => hq.imp id (fun h => ⟨by have := Kd.size; omega, h.2⟩)
 have HD3 := HD2.mono hgs (grow_lt HD.out.lt KK.size)
 refine ⟨_, rfl, .inr ⟨(B3.drew.keep K1 id).keep K2 n3, (B4.drew.keep K1 id).keep K2 n4, (B7.drew.keep K1 id).keep K2 n7, (BR.drew.keep K1 id).keep K2 nr⟩, ?_⟩
 go_frame
 clear hwr HD2 K2 K1 HH
 obtain ⟨en, hen⟩ : ∃ en, en = (D.write k h.bytes).2 := ⟨_, rfl⟩
 rw [← hen]
 have Hen := hid hen
 clear hen
 refine wpO_run (v := .int .i64 en) (w1 := w2) (by rfl) (by go_simp) (.inl rfl) (wpO_nil ?_)
 go_frame
 go_wp2_with fail
 go_ret
 exact ⟨by rw [Hen.out]; rfl, HD3, KK⟩
/-- What a turn makes of a device. -/
def DS.turn (D : DS) (k : Int) (b : List UInt8) : DS × Int :=
 if D.flush.2 = 0 then (if (D.flush.1.write k b).2 = 0 then (D.flush.1.write k b).1.flush else D.flush.1.write k b) else D.flush
def RS.nslot (S : RS) : Int := if S.slot = 0 then 1 else 0
def RS.turns (S : RS) (h : Hd) (l : List (List UInt8)) : RS × Int :=
 let T := S.D.turn S.nslot h.bytes
 if T.2 = 0 then (⟨T.1, h, S.nslot, l, [], 0⟩, 0) else ({ S with D := T.1 }, T.2)
/-- Where a turn stands. -/
structure TurnJ (w : World) (F : Nat → Prop) (g r b3 b4 b7 bs : Nat) (vl vs vn : Value) (S : RS) (h : Hd) (l : List (List UInt8)) (D : DS) (W : World) : Prop where
 c3 : BlockIs W b3 [.pointer (some ⟨r, 0, none⟩)] 66
 c4 : BlockIs W b4 h.cells 112
 c7 : BlockIs W b7 [.int .i64 S.nslot] 3
 cs : BlockIs W bs [.func (.func 31) #[.pointer (some ⟨g, 0, none⟩)] #[], .func (.func 93) #[] #[.pointer (some ⟨b3, 0, none⟩), .pointer (some ⟨b7, 0, none⟩), .pointer (some ⟨b4, 0, none⟩)], .func (.func 31) #[.pointer (some ⟨g, 0, none⟩)] #[]] 56
 roll : RollAt W (grow F w W) g r vl vs { S with D := D }
 new : Recs W (grow F w W) vn l
 kept : Keep F w W
theorem TurnJ.step {w W W' : World} {F : Nat → Prop} {g r b3 b4 b7 bs : Nat} {vl vs vn a b : Value} {S : RS} {h : Hd} {l : List (List UInt8)} {D D' : DS} (H : TurnJ w F g r b3 b4 b7 bs vl vs vn S h l D W) (hD : DevAt W (Least g a b) g a b D) (hF : ∀ q, Least g a b q → grow F w W q)
  (K : Keep (Least g a b) W W') (hD' : DevIs W' (grow (Least g a b) W W') g D') : TurnJ w F g r b3 b4 b7 bs vl vs vn S h l D' W' := by
 have h1 := H.roll.dev' hD hF K hD'
 have hs0 := H.kept.size
 have hs1 := K.size
 have hg : ∀ q, grow (grow F w W) W W' q → grow F w W' q := fun q hq => by
  rcases hq with (hq | hq) | hq
  ·exact .inl hq
  ·exact .inr ⟨hq.1, by have := hq.2; omega⟩
  ·exact .inr ⟨by have := hq.1; omega, hq.2⟩
 have hlt : Lt (grow F w W') W' := fun q hq => by
  rcases hq with hq | hq
  ·have := H.roll.lt q (.inl hq); omega
  ·exact hq.2
 have hKF : Keep F w W' := H.kept.trans K (fun i hi e => (hF i e).elim id (fun e => by have := e.1; omega))
 have ap := fun (x : Nat) (cs : List Value) (t : TypeId) (B : BlockIs W x cs t) (h1 : (96 : TypeId) ≠ t) (h2 : (103 : TypeId) ≠ t) (h3 : (105 : TypeId) ≠ t) (e : Least g a b x) => hD.apart B h1 h2 h3 x e rfl
 exact ⟨H.c3.keep K (ap _ _ _ H.c3 (by decide) (by decide) (by decide)), H.c4.keep K (ap _ _ _ H.c4 (by decide) (by decide) (by decide)), H.c7.keep K (ap _ _ _ H.c7 (by decide) (by decide) (by decide)), H.cs.keep K (ap _ _ _ H.cs (by decide) (by decide) (by decide)),
  h1.1.mono hg hlt, (H.new.apart hD K).mono (fun q hq => hq.imp id (fun e => ⟨e.1, by have := e.2; omega⟩)), hKF⟩
theorem clo31 (p : Value) : (⟨31, #[p], #[]⟩ : Clo).ok := ⟨_, Try.func31, by kernel_rfl, rfl⟩
theorem clo93 (x : Array Value) : (⟨93, #[], x⟩ : Clo).ok := ⟨_, Try.func93, by kernel_rfl, rfl⟩
/-- The three calls. -/
theorem turn_all {w W : World} {F : Nat → Prop} {g r b3 b4 b7 bs : Nat} {vl vs vn : Value} {S : RS} {h : Hd} {l : List (List UInt8)} (H : TurnJ w F g r b3 b4 b7 bs vl vs vn S h l S.D W) (hok : S.D.ok) (ho : S.D.ops ≤ 1000000000) (hr : S.D.row.length ≤ 1000000000)
  (hs : h.seq < 18446744073709551616) (ha : h.area ≤ 9223372036854775807) (hu : h.used ≤ 9223372036854775807) (hc : h.count ≤ 9223372036854775807) :
  Calls Try.prog 65 #[.slice (some ⟨bs, 0, none⟩) 3 3] W (fun e W' => e = .returned (.int .i64 (S.D.turn S.nslot h.bytes).2) ∧ TurnJ w F g r b3 b4 b7 bs vl vs vn S h l (S.D.turn S.nslot h.bytes).1 W') := by
 obtain ⟨T, hT⟩ : ∃ T, T = S.D.turn S.nslot h.bytes := ⟨_, rfl⟩
 obtain ⟨J, hJ⟩ : ∃ J : DS → World → Prop, J = fun D W => TurnJ w F g r b3 b4 b7 bs vl vs vn S h l D W := ⟨_, rfl⟩
 have hg1 : ∀ D : DS, D.flush.1.ops ≤ D.ops + 1 ∧ D.flush.1.row.length ≤ D.row.length := fun D => by unfold DS.flush; split; exact ⟨by simp, Nat.le_refl _⟩; split <;> simp [DS.tick, DS.flushed]
 have hg2 : ∀ (D : DS) (k : Int) (b : List UInt8), (D.write k b).1.ops ≤ D.ops + 1 ∧ (D.write k b).1.row.length ≤ D.row.length + 1 := fun D k b => by unfold DS.write; (repeat' split) <;> simp [DS.tick, DS.put]
 have f1 := hg1 S.D
 have f2 := hg2 S.D.flush.1 S.nslot h.bytes
 have k1 := flush_ds_ok hok
 have k2 := write_ds_ok k1 S.nslot h.bytes
 have hall := allf_calls [⟨31, #[.pointer (some ⟨g, 0, none⟩)], #[]⟩, ⟨93, #[], #[.pointer (some ⟨b3, 0, none⟩), .pointer (some ⟨b7, 0, none⟩), .pointer (some ⟨b4, 0, none⟩)]⟩, ⟨31, #[.pointer (some ⟨g, 0, none⟩)], #[]⟩]
  (by intro c hc; simp only [List.mem_cons, List.not_mem_nil, or_false] at hc; rcases hc with rfl | rfl | rfl; exact clo31 _; exact clo93 _; exact clo31 _) (by simp) bs
  (fun i W => ∃ D, TurnJ w F g r b3 b4 b7 bs vl vs vn S h l D W ∧ ((i = 0 ∧ D = S.D) ∨ (i = 1 ∧ S.D.flush.2 = 0 ∧ D = S.D.flush.1) ∨ (i = 2 ∧ S.D.flush.2 = 0 ∧ (S.D.flush.1.write S.nslot h.bytes).2 = 0 ∧ D = (S.D.flush.1.write S.nslot h.bytes).1) ∨ (i = 3 ∧ T.2 = 0 ∧ D = T.1)))
  (fun n W => TurnJ w F g r b3 b4 b7 bs vl vs vn S h l T.1 W ∧ n = T.2)
  (fun i W hI => by obtain ⟨D, hJ, -⟩ := hI; exact hJ.cs) ?_ W ⟨_, H, .inl ⟨rfl, rfl⟩⟩
 ·refine hall.mono ?_
  rintro e w' ⟨n, rfl, h0, h1⟩
  by_cases hz : n = 0
  ·obtain ⟨D, hJ, h⟩ := h0 hz
   simp only [List.length_cons, List.length_nil] at h
   rcases h with h | h | h | h
   ·omega
   ·omega
   ·omega
   ·rw [← hT, hz, h.2.1]; rw [h.2.2] at hJ; exact ⟨rfl, hJ⟩
  ·obtain ⟨hJ, e⟩ := h1 hz
   rw [← hT, e]; exact ⟨rfl, hJ⟩
 ·intro i c W1 hic hI
  obtain ⟨D, hJ, hcase⟩ := hI
  obtain ⟨a, b, hDv⟩ := hJ.roll.dev
  obtain ⟨hL0, hLF, -⟩ := hDv.least
  have hL : DevAt W1 (Least g a b) g a b D := hL0
  clear hL0
  have n3 : ¬ Least g a b b3 := fun e => hL.apart hJ.c3 (by decide) (by decide) (by decide) b3 e rfl
  have n4 : ¬ Least g a b b4 := fun e => hL.apart hJ.c4 (by decide) (by decide) (by decide) b4 e rfl
  have n7 : ¬ Least g a b b7 := fun e => hL.apart hJ.c7 (by decide) (by decide) (by decide) b7 e rfl
  have nr : ¬ Least g a b r := fun e => hL.apart hJ.roll.blk (by decide) (by decide) (by decide) r e rfl
  rcases hcase with ⟨rfl, rfl⟩ | ⟨rfl, e1, rfl⟩ | ⟨rfl, e1, e2, rfl⟩ | ⟨rfl, -⟩
  ·obtain rfl : _ = c := by simpa using hic
   refine (flush_calls ⟨_, _, hL⟩ hok (by omega) (by omega)).mono ?_
   rintro e W2 ⟨rfl, hD2, K2⟩
   have hJ2 := hJ.step hL hLF K2 hD2
   refine ⟨_, rfl, fun hz => ⟨_, hJ2, .inr (.inl ⟨rfl, hz, rfl⟩)⟩, fun hz => ?_⟩
   have : T = S.D.flush := by rw [hT]; unfold DS.turn; rw [if_neg hz]
   rw [this]; exact ⟨hJ2, rfl⟩
  ·obtain rfl : _ = c := by simpa using hic
   refine (turnsHead_calls hJ.c3 hJ.c4 hJ.c7 hJ.roll.blk ⟨_, _, hL⟩ k1 (by omega) (by omega) hs ha hu hc n3 n4 n7 nr).mono ?_
   rintro e W2 ⟨rfl, hD2, K2⟩
   have hJ2 := hJ.step hL hLF K2 hD2
   refine ⟨_, rfl, fun hz => ⟨_, hJ2, .inr (.inr (.inl ⟨rfl, e1, hz, rfl⟩))⟩, fun hz => ?_⟩
   have : T = S.D.flush.1.write S.nslot h.bytes := by rw [hT]; unfold DS.turn; rw [if_pos e1, if_neg hz]
   rw [this]; exact ⟨hJ2, rfl⟩
  ·obtain rfl : _ = c := by simpa using hic
   refine (flush_calls ⟨_, _, hL⟩ k2 (by omega) (by omega)).mono ?_
   rintro e W2 ⟨rfl, hD2, K2⟩
   have hJ2 := hJ.step hL hLF K2 hD2
   have : T = (S.D.flush.1.write S.nslot h.bytes).1.flush := by rw [hT]; unfold DS.turn; rw [if_pos e1, if_pos e2]
   refine ⟨_, rfl, fun hz => ⟨_, hJ2, .inr (.inr (.inr ⟨rfl, by rw [this]; exact hz, by rw [this]⟩))⟩, fun hz => ?_⟩
   rw [this]; exact ⟨hJ2, rfl⟩
  ·simp at hic
theorem sl140 : Try.prog.underlying 140 = some (.slice 56) := by kernel_rfl
theorem info56 : (Try.prog.info? 56).map (fun i => (i.zero, i.size, i.bytes)) = some (some .nilFunc, 1, 8) := by kernel_rfl
theorem turns_calls {w : World} {F : Nat → Prop} {g r : Nat} {vl vs vn : Value} {S : RS} {h : Hd} {l : List (List UInt8)} (H : RollAt w F g r vl vs S) (hok : S.ok) (hn : Recs w F vn l) (ho : S.D.ops ≤ 1000000000) (hr : S.D.row.length ≤ 1000000000)
  (hs : h.seq < 18446744073709551616) (ha : h.area ≤ 9223372036854775807) (hu : h.used ≤ 9223372036854775807) (hc : h.count ≤ 9223372036854775807) :
  Calls Try.prog 74 #[.pointer (some ⟨r, 0, none⟩), .agg h.cells.toArray, vn] w (fun e w' => e = .returned (.int .i64 (S.turns h l).2) ∧ RollIs w' (grow F w w') g r (S.turns h l).1 ∧ Keep F w w') := by
 obtain ⟨A, n, rfl⟩ := hn.val
 obtain ⟨D9, n9, hT⟩ : ∃ D9 n9, S.D.turn S.nslot h.bytes = (D9, n9) := ⟨_, _, rfl⟩
 have HT := hid hT
 have HBR := hid H.blk
 clear hT
 have hrl := H.blk.lt
 have hslot := hok.slot
 have HcS : Hid ((rollCells g S vl vs)[5]? = some (.int .i64 S.slot)) := hid rfl
 have HH := hid H
 have Hn := hid hn
 have Hs := hid hs
 have Ha := hid ha
 have Hu := hid hu
 have Hc := hid hc
 have Hok := hid hok
 have Ho := hid ho
 have Hr := hid hr
 clear H hn hs ha hu hc hok ho hr
 rcases (show S.slot = -1 ∨ S.slot = 0 ∨ S.slot = 1 by omega) with hsl | hsl | hsl
 ·have hns : S.nslot = 0 := by unfold RS.nslot; rw [if_neg (by omega)]
  rw [hsl] at HcS
  clear hsl hslot
  go_enter Try.func74, Try.ntmps74
  go_wp2_with (first
   | (guard_target = wpList _ _ _ (Oper.mk _ (Op.box 66 _) _ _ _ _ :: _) _ _; refine wpList_box_v rfl 66 _ rfl [.pointer (some ⟨r, 0, none⟩)] (by rfl) ?_; intro b3 w1 hb3 B3 K1)
   | (guard_target = wpList _ _ _ (Oper.mk _ (Op.box 112 _) _ _ _ _ :: _) _ _; refine wpList_box_v rfl 112 _ rfl h.cells (by rfl) ?_; intro b4 w2 hb4 B4 K2; have B32 := B3.keep K2 id; have c3 := B32.cell 0; simp only [List.getElem?_cons_zero] at c3; have R2 := (HBR.out.keep K1 id).keep K2 id; have c5 := R2.cell 5; rw [HcS.out] at c5; have n34 : b3 ≠ b4 := (by have := B3.lt; omega); have hnr3 : r ≠ b3 := (by omega); have hnr4 : r ≠ b4 := (by have := K1.size; omega))
   | (guard_target = wpList _ _ _ (Oper.mk _ (Op.alloc 3) _ _ _ _ :: _) _ _; refine wpList_alloc_v rfl 3 rfl (.int .i64 0) info3 [.int .i64 0] rfl ?_; intro b7 w3 hb7 B7 K3; have B33 := B32.keep K3 id; have B43 := B4.keep K3 id; have R3 := R2.keep K3 id; have n37 : b3 ≠ b7 := (by have := B32.lt; omega); have n47 : b4 ≠ b7 := (by have := B4.lt; omega); have n7r : r ≠ b7 := (by have := R2.lt; omega); clear c3 c5)
   | (guard_target = wpList _ _ _ (Oper.mk _ (Op.store 3 (.tmp 7) (.tmp 14)) _ _ _ _ :: _) _ _; refine wpList_store_blk rfl 3 _ _ rfl b7 0 _ 3 (.int .i64 1) (by rfl) (by rfl) B7 (by decide) rfl rfl info3 ?_; intro w4 B74 K4; have B34 := B33.keep K4 n37; have B44 := B43.keep K4 n47; have R4 := R3.keep K4 n7r; have c3 := B34.cell 0; simp only [List.getElem?_cons_zero] at c3; have c5 := R4.cell 5; rw [HcS.out] at c5)
   | (guard_target = wpList _ _ _ (Oper.mk _ (Op.store 3 (.tmp 7) (.const _)) _ _ _ _ :: _) _ _; refine wpList_store_blk rfl 3 _ _ rfl b7 0 _ 3 (.int .i64 0) (by rfl) (by rfl) B74 (by decide) rfl rfl info3 ?_; intro w5 B75 K5; have B35 := B34.keep K5 n37; have B45 := B44.keep K5 n47; have R5 := R4.keep K5 n7r; clear c3 c5))
  have hb7w : w.heap.size ≤ b7 := by have := K1.size; have := K2.size; omega
  have KN : Keep Noth w w5 := ((((K1.trans K2 (fun _ _ h => h)).trans K3 (fun _ _ h => h)).own K4 (fun q e => by unfold Only at e; subst e; exact hb7w)).own K5 (fun q e => by unfold Only at e; subst e; exact hb7w))
  refine wp_region_ordL [(0, true), (1, true), (2, true), (3, true), (4, true), (5, true), (6, true), (7, true), (8, true), (9, true), (10, true), (11, false), (12, false), (13, false)] (fun w' => BlockIs w' b3 [.pointer (some ⟨r, 0, none⟩)] 66 ∧ BlockIs w' r (rollCells g S vl vs) 114) follows_mixed (by kernel_rfl) ⟨B35.drew, R5.drew⟩ ?_
  simp only [List.map_cons, List.map_nil, List.getElem?_cons_succ, List.getElem?_cons_zero, Option.getD_some]
  refine wpO_pure (v := .pointer (some ⟨r, 0, none⟩)) (by rfl) (fun w' hw' => by have hc : w'.cell? ⟨b3, 0, none⟩ = some (.pointer (some ⟨r, 0, none⟩)) := hw'.1.cell 0; go_simp) ?_
  go_frame
  refine wpO_pure (v := .pointer (some ⟨r, 0, none⟩)) (by rfl) (fun w' hw' => by go_simp) ?_
  go_frame
  refine wpO_pure (v := .pointer (some ⟨r, 0, none⟩)) (by rfl) (fun w' hw' => by go_simp) ?_
  go_frame
  refine wpO_pure (v := .pointer (some ⟨g, 0, none⟩)) (by rfl) (fun w' hw' => by have hc : w'.cell? ⟨r, 0, none⟩ = some (.pointer (some ⟨g, 0, none⟩)) := hw'.2.cell 0; go_simp) ?_
  go_frame
  refine wpO_pure (v := .func (.func 31) #[.pointer (some ⟨g, 0, none⟩)] #[]) (by rfl) (fun w' hw' => by go_simp) ?_
  go_frame
  refine wpO_pure (v := .func (.func 93) #[] #[.pointer (some ⟨b3, 0, none⟩), .pointer (some ⟨b7, 0, none⟩), .pointer (some ⟨b4, 0, none⟩)]) (by rfl) (fun w' hw' => by go_simp) ?_
  go_frame
  refine wpO_pure (v := .pointer (some ⟨r, 0, none⟩)) (by rfl) (fun w' hw' => by have hc : w'.cell? ⟨b3, 0, none⟩ = some (.pointer (some ⟨r, 0, none⟩)) := hw'.1.cell 0; go_simp) ?_
  go_frame
  refine wpO_pure (v := .pointer (some ⟨r, 0, none⟩)) (by rfl) (fun w' hw' => by go_simp) ?_
  go_frame
  refine wpO_pure (v := .pointer (some ⟨r, 0, none⟩)) (by rfl) (fun w' hw' => by go_simp) ?_
  go_frame
  refine wpO_pure (v := .pointer (some ⟨g, 0, none⟩)) (by rfl) (fun w' hw' => by have hc : w'.cell? ⟨r, 0, none⟩ = some (.pointer (some ⟨g, 0, none⟩)) := hw'.2.cell 0; go_simp) ?_
  go_frame
  refine wpO_pure (v := .func (.func 31) #[.pointer (some ⟨g, 0, none⟩)] #[]) (by rfl) (fun w' hw' => by go_simp) ?_
  go_frame
  refine wpO_sliceN (by rfl) 140 56 3 _ rfl sl140 info56 rfl [.func (.func 31) #[.pointer (some ⟨g, 0, none⟩)] #[], .func (.func 93) #[] #[.pointer (some ⟨b3, 0, none⟩), .pointer (some ⟨b7, 0, none⟩), .pointer (some ⟨b4, 0, none⟩)], .func (.func 31) #[.pointer (some ⟨g, 0, none⟩)] #[]] rfl (by decide) (by decide) (by simp [Act.eval]) (by intro v hv; simp at hv; rcases hv with rfl | rfl | rfl <;> rfl) ?_
  intro bs w8 hbs B8 K8
  have KN8 : Keep Noth w w8 := KN.drew.trans K8 (fun _ _ h => h)
  have hJ : TurnJ w F g r b3 b4 b7 bs vl vs (.slice A l.length n) S h l S.D w8 := ⟨B35.drew.keep K8 id, B45.drew.keep K8 id, by rw [hns]; exact B75.drew.keep K8 id, B8, (HH.out.keep KN8 (Dj.noth _)).mono (fun q hq => .inl hq) (grow_lt HH.out.lt KN8.size), (Hn.out.keep KN8 (Dj.noth _)).mono (fun q hq => .inl hq), KN8.mono (fun _ _ e => e.elim)⟩
  refine ⟨.inr ⟨B35.drew.keep K8 id, R5.drew.keep K8 id⟩, ?_⟩
  clear K8 B8 B35 B45 B75 R5
  go_frame
  have hta := turn_all hJ Hok.out.dok Ho.out Hr.out Hs.out Ha.out Hu.out Hc.out
  rw [HT.out] at hta
  refine wpO_call (by rfl) (exec_call' 65 _ _ rfl Try.func65 (by kernel_rfl) (by rfl) #[.slice (some ⟨bs, 0, none⟩) 3 3] (by simp [Act.eval])) ?_
  refine (hta).mono ?_
  rintro e w9 ⟨rfl, hJ9⟩
  clear hta hJ
  refine ⟨_, rfl, .inr ⟨hJ9.c3, hJ9.roll.blk⟩, ?_⟩
  go_frame
  refine wpO_run (v := .int .i64 n9) (w1 := w9) (by rfl) (by go_simp) (.inl rfl) (wpO_nil ?_)
  go_frame
  by_cases hz : n9 = 0
  ·subst hz
   have hrb := hJ9.roll.blk
   have hj3 := hJ9.c3
   have hj4 := hJ9.c4
   have hj7 := hJ9.c7
   have n3 : r ≠ b3 := fun e => hrb.tyne hj3 (by decide) e
   have n4 : r ≠ b4 := fun e => hrb.tyne hj4 (by decide) e
   have n7 : r ≠ b7 := fun e => hrb.tyne hj7 (by decide) e
   have HJ9 := hid hJ9
   clear hJ9
   go_wp2_with fail
   refine wp_region_ordL [(0, true), (1, true), (2, true), (3, true), (4, true), (5, true), (6, true), (7, true), (8, true), (9, true), (10, false), (11, true), (12, true), (13, false), (14, true), (15, true), (16, false), (17, true), (18, true), (19, false), (20, true), (21, true), (22, false)] (fun w' => BlockIs w' b3 [.pointer (some ⟨r, 0, none⟩)] 66 ∧ BlockIs w' b4 h.cells 112 ∧ BlockIs w' b7 [.int .i64 S.nslot] 3) follows_mixed (by kernel_rfl) ⟨hj3.drew, hj4.drew, hj7.drew⟩ ?_
   simp only [List.map_cons, List.map_nil, List.getElem?_cons_succ, List.getElem?_cons_zero, Option.getD_some]
   refine wpO_pure (v := .pointer (some ⟨r, 0, none⟩)) (by rfl) (fun w' hw' => by have hc : w'.cell? ⟨b3, 0, none⟩ = some (.pointer (some ⟨r, 0, none⟩)) := hw'.1.cell 0; go_simp) ?_
   go_frame
   refine wpO_pure (v := .pointer (some ⟨r, 0, none⟩)) (by rfl) (fun w' hw' => by have hc : w'.cell? ⟨b3, 0, none⟩ = some (.pointer (some ⟨r, 0, none⟩)) := hw'.1.cell 0; go_simp) ?_
   go_frame
   refine wpO_pure (v := .pointer (some ⟨r, 0, none⟩)) (by rfl) (fun w' hw' => by have hc : w'.cell? ⟨b3, 0, none⟩ = some (.pointer (some ⟨r, 0, none⟩)) := hw'.1.cell 0; go_simp) ?_
   go_frame
   refine wpO_pure (v := .pointer (some ⟨r, 0, none⟩)) (by rfl) (fun w' hw' => by have hc : w'.cell? ⟨b3, 0, none⟩ = some (.pointer (some ⟨r, 0, none⟩)) := hw'.1.cell 0; go_simp) ?_
   go_frame
   refine wpO_pure (v := .pointer (some ⟨r, 0, none⟩)) (by rfl) (fun w' hw' => by have hc : w'.cell? ⟨b3, 0, none⟩ = some (.pointer (some ⟨r, 0, none⟩)) := hw'.1.cell 0; go_simp) ?_
   go_frame
   refine wpO_pure (v := .agg h.cells.toArray) (by rfl) (fun w' hw' => by exact exec_load_blk 112 _ rfl b4 0 h.cells h.cells 112 _ (by rfl) hw'.2.1 (part0 _) Try.underlying112 rfl info112) ?_
   go_frame
   refine wpO_pure (v := .int .i64 S.nslot) (by rfl) (fun w' hw' => by have hc : w'.cell? ⟨b7, 0, none⟩ = some (.int .i64 S.nslot) := hw'.2.2.cell 0; go_simp) ?_
   go_frame
   refine wpO_pure (v := .slice A l.length n) (by rfl) (fun w' hw' => by go_simp) ?_
   go_frame
   refine wpO_pure (v := .pointer (some ⟨r, 0, none⟩)) (by rfl) (fun w' hw' => by go_simp) ?_
   go_frame
   refine wpO_pure (v := .pointer (some ⟨r, 1, none⟩)) (by rfl) (fun w' hw' => by go_simp) ?_
   go_frame
   refine wpO_store_part (by rfl) 112 _ _ rfl r 1 _ h.cells 114 (by rfl) (by rfl) hrb.drew (Nat.le_of_ble_eq_true rfl) info112 (hd_one h) ?_
   intro x1 X1 Y1
   refine ⟨.inr ⟨hj3.drew.keep Y1 (fun e => n3 e.symm), hj4.drew.keep Y1 (fun e => n4 e.symm), hj7.drew.keep Y1 (fun e => n7 e.symm)⟩, ?_⟩
   have Z1 : Keep (Only r) w9 x1 := (Keep.refl _ w9).drew.trans Y1 (fun _ _ h => h)
   go_frame
   refine wpO_pure (v := .pointer (some ⟨r, 0, none⟩)) (by rfl) (fun w' hw' => by go_simp) ?_
   go_frame
   refine wpO_pure (v := .pointer (some ⟨r, 5, none⟩)) (by rfl) (fun w' hw' => by go_simp) ?_
   go_frame
   refine wpO_store_cell (by rfl) 3 _ _ rfl r 5 _ 114 (.int .i64 S.nslot) (by rfl) (by rfl) X1 (Nat.le_of_ble_eq_true rfl) rfl rfl info3 ?_
   intro x2 X2 Y2
   have Z2 : Keep (Only r) w9 x2 := Z1.trans Y2 (fun _ _ h => h)
   refine ⟨.inr ⟨hj3.keep Z2 (fun e => n3 e.symm), hj4.keep Z2 (fun e => n4 e.symm), hj7.keep Z2 (fun e => n7 e.symm)⟩, ?_⟩
   go_frame
   refine wpO_pure (v := .pointer (some ⟨r, 0, none⟩)) (by rfl) (fun w' hw' => by go_simp) ?_
   go_frame
   refine wpO_pure (v := .pointer (some ⟨r, 6, none⟩)) (by rfl) (fun w' hw' => by go_simp) ?_
   go_frame
   refine wpO_store_cell (by rfl) 63 _ _ rfl r 6 _ 114 (.slice A l.length n) (by rfl) (by rfl) X2 (Nat.le_of_ble_eq_true rfl) rfl rfl info63 ?_
   intro x3 X3 Y3
   have Z3 : Keep (Only r) w9 x3 := Z2.trans Y3 (fun _ _ h => h)
   refine ⟨.inr ⟨hj3.keep Z3 (fun e => n3 e.symm), hj4.keep Z3 (fun e => n4 e.symm), hj7.keep Z3 (fun e => n7 e.symm)⟩, ?_⟩
   go_frame
   refine wpO_pure (v := .pointer (some ⟨r, 0, none⟩)) (by rfl) (fun w' hw' => by go_simp) ?_
   go_frame
   refine wpO_pure (v := .pointer (some ⟨r, 7, none⟩)) (by rfl) (fun w' hw' => by go_simp) ?_
   go_frame
   refine wpO_store_cell (by rfl) 63 _ _ rfl r 7 _ 114 (.slice none 0 0) (by rfl) (by rfl) X3 (Nat.le_of_ble_eq_true rfl) rfl rfl info63 ?_
   intro x4 X4 Y4
   have Z4 : Keep (Only r) w9 x4 := Z3.trans Y4 (fun _ _ h => h)
   refine ⟨.inr ⟨hj3.keep Z4 (fun e => n3 e.symm), hj4.keep Z4 (fun e => n4 e.symm), hj7.keep Z4 (fun e => n7 e.symm)⟩, ?_⟩
   go_frame
   refine wpO_pure (v := .pointer (some ⟨r, 0, none⟩)) (by rfl) (fun w' hw' => by go_simp) ?_
   go_frame
   refine wpO_pure (v := .pointer (some ⟨r, 8, none⟩)) (by rfl) (fun w' hw' => by go_simp) ?_
   go_frame
   refine wpO_store_cell (by rfl) 3 _ _ rfl r 8 _ 114 (.int .i64 0) (by rfl) (by rfl) X4 (Nat.le_of_ble_eq_true rfl) rfl rfl info3 ?_
   intro x5 X5 Y5
   have Z5 : Keep (Only r) w9 x5 := Z4.trans Y5 (fun _ _ h => h)
   refine ⟨.inl rfl, wpO_nil ?_⟩
   clear Y1 Y2 Y3 Y4 Y5 Z1 Z2 Z3 Z4 X1 X2 X3 X4 hrb hj3 hj4 hj7
   go_frame
   have X6 : BlockIs x5 r (rollCells g ⟨D9, h, S.nslot, l, [], 0⟩ (.slice A l.length n) (.slice none 0 0)) 114 := X5
   clear X5
   go_wp2_with fail
   go_ret
   have hst : S.turns h l = (⟨D9, h, S.nslot, l, [], 0⟩, 0) := by unfold RS.turns; rw [HT.out]; rfl
   rw [hst]
   have hs5 := Z5.size
   have hgx : ∀ q, grow F w w9 q → grow F w x5 q := fun q hq => hq.imp id (fun e => ⟨e.1, by have := e.2; omega⟩)
   have hlx : Lt (grow F w x5) x5 := fun q hq => by
    rcases hq with hq | hq
    ·have := HJ9.out.roll.lt q (.inl hq); omega
    ·exact hq.2
   refine ⟨rfl, ⟨_, _, hlx, hgx _ HJ9.out.roll.here, X6, ?_, (HJ9.out.new.stay HJ9.out.roll.blk (by decide) (by decide) Z5).mono hgx, Recs.nil _ _, fun q _ e => by cases e⟩, HJ9.out.kept.trans Z5 (fun i _ e => by unfold Only at e; subst e; exact HH.out.here)⟩
   obtain ⟨a, b, hd⟩ := HJ9.out.roll.dev
   have hd' : DevAt w9 (grow F w w9) g a b D9 := hd
   exact DevIs.mono ⟨a, b, fun q hq => Nat.lt_of_lt_of_le (hd'.lt q hq) hs5, hd'.here, hd'.blk.keep Z5 (fun e => hd'.blk.tyne HJ9.out.roll.blk (by decide) e), hd'.l.stay Z5 (fun q hq e => hd'.l.ne HJ9.out.roll.blk (by decide) (by unfold Only at e; rw [hq, e])), hd'.row.stay Z5 (fun q hq e => hd'.row.ne HJ9.out.roll.blk (by decide) (by unfold Only at e; rw [hq, e]))⟩ hgx hlx
  ·have Hz := hid hz
   clear hz
   have hbz : (n9 == 0) = false := by have := Hz.out; simp [this]
   have hz := Hz.out
   have HJ9 := hid hJ9
   clear hJ9
   go_wp2_with fail
   go_ret
   have hst : S.turns h l = ({ S with D := D9 }, n9) := by unfold RS.turns; rw [HT.out]; exact if_neg hz
   rw [hst]
   exact ⟨rfl, ⟨_, _, HJ9.out.roll⟩, HJ9.out.kept⟩
 ·have hns : S.nslot = 1 := by unfold RS.nslot; rw [if_pos (by omega)]
  rw [hsl] at HcS
  clear hsl hslot
  go_enter Try.func74, Try.ntmps74
  go_wp2_with (first
   | (guard_target = wpList _ _ _ (Oper.mk _ (Op.box 66 _) _ _ _ _ :: _) _ _; refine wpList_box_v rfl 66 _ rfl [.pointer (some ⟨r, 0, none⟩)] (by rfl) ?_; intro b3 w1 hb3 B3 K1)
   | (guard_target = wpList _ _ _ (Oper.mk _ (Op.box 112 _) _ _ _ _ :: _) _ _; refine wpList_box_v rfl 112 _ rfl h.cells (by rfl) ?_; intro b4 w2 hb4 B4 K2; have B32 := B3.keep K2 id; have c3 := B32.cell 0; simp only [List.getElem?_cons_zero] at c3; have R2 := (HBR.out.keep K1 id).keep K2 id; have c5 := R2.cell 5; rw [HcS.out] at c5; have n34 : b3 ≠ b4 := (by have := B3.lt; omega); have hnr3 : r ≠ b3 := (by omega); have hnr4 : r ≠ b4 := (by have := K1.size; omega))
   | (guard_target = wpList _ _ _ (Oper.mk _ (Op.alloc 3) _ _ _ _ :: _) _ _; refine wpList_alloc_v rfl 3 rfl (.int .i64 0) info3 [.int .i64 0] rfl ?_; intro b7 w3 hb7 B7 K3; have B33 := B32.keep K3 id; have B43 := B4.keep K3 id; have R3 := R2.keep K3 id; have n37 : b3 ≠ b7 := (by have := B32.lt; omega); have n47 : b4 ≠ b7 := (by have := B4.lt; omega); have n7r : r ≠ b7 := (by have := R2.lt; omega); clear c3 c5)
   | (guard_target = wpList _ _ _ (Oper.mk _ (Op.store 3 (.tmp 7) (.tmp 14)) _ _ _ _ :: _) _ _; refine wpList_store_blk rfl 3 _ _ rfl b7 0 _ 3 (.int .i64 1) (by rfl) (by rfl) B7 (by decide) rfl rfl info3 ?_; intro w4 B74 K4; have B34 := B33.keep K4 n37; have B44 := B43.keep K4 n47; have R4 := R3.keep K4 n7r; have c3 := B34.cell 0; simp only [List.getElem?_cons_zero] at c3; have c5 := R4.cell 5; rw [HcS.out] at c5)
   | (guard_target = wpList _ _ _ (Oper.mk _ (Op.store 3 (.tmp 7) (.const _)) _ _ _ _ :: _) _ _; refine wpList_store_blk rfl 3 _ _ rfl b7 0 _ 3 (.int .i64 0) (by rfl) (by rfl) B74 (by decide) rfl rfl info3 ?_; intro w5 B75 K5; have B35 := B34.keep K5 n37; have B45 := B44.keep K5 n47; have R5 := R4.keep K5 n7r; clear c3 c5))
  have hb7w : w.heap.size ≤ b7 := by have := K1.size; have := K2.size; omega
  have KN : Keep Noth w w4 := (((K1.trans K2 (fun _ _ h => h)).trans K3 (fun _ _ h => h)).own K4 (fun q e => by unfold Only at e; subst e; exact hb7w))
  refine wp_region_ordL [(0, true), (1, true), (2, true), (3, true), (4, true), (5, true), (6, true), (7, true), (8, true), (9, true), (10, true), (11, false), (12, false), (13, false)] (fun w' => BlockIs w' b3 [.pointer (some ⟨r, 0, none⟩)] 66 ∧ BlockIs w' r (rollCells g S vl vs) 114) follows_mixed (by kernel_rfl) ⟨B34.drew, R4.drew⟩ ?_
  simp only [List.map_cons, List.map_nil, List.getElem?_cons_succ, List.getElem?_cons_zero, Option.getD_some]
  refine wpO_pure (v := .pointer (some ⟨r, 0, none⟩)) (by rfl) (fun w' hw' => by have hc : w'.cell? ⟨b3, 0, none⟩ = some (.pointer (some ⟨r, 0, none⟩)) := hw'.1.cell 0; go_simp) ?_
  go_frame
  refine wpO_pure (v := .pointer (some ⟨r, 0, none⟩)) (by rfl) (fun w' hw' => by go_simp) ?_
  go_frame
  refine wpO_pure (v := .pointer (some ⟨r, 0, none⟩)) (by rfl) (fun w' hw' => by go_simp) ?_
  go_frame
  refine wpO_pure (v := .pointer (some ⟨g, 0, none⟩)) (by rfl) (fun w' hw' => by have hc : w'.cell? ⟨r, 0, none⟩ = some (.pointer (some ⟨g, 0, none⟩)) := hw'.2.cell 0; go_simp) ?_
  go_frame
  refine wpO_pure (v := .func (.func 31) #[.pointer (some ⟨g, 0, none⟩)] #[]) (by rfl) (fun w' hw' => by go_simp) ?_
  go_frame
  refine wpO_pure (v := .func (.func 93) #[] #[.pointer (some ⟨b3, 0, none⟩), .pointer (some ⟨b7, 0, none⟩), .pointer (some ⟨b4, 0, none⟩)]) (by rfl) (fun w' hw' => by go_simp) ?_
  go_frame
  refine wpO_pure (v := .pointer (some ⟨r, 0, none⟩)) (by rfl) (fun w' hw' => by have hc : w'.cell? ⟨b3, 0, none⟩ = some (.pointer (some ⟨r, 0, none⟩)) := hw'.1.cell 0; go_simp) ?_
  go_frame
  refine wpO_pure (v := .pointer (some ⟨r, 0, none⟩)) (by rfl) (fun w' hw' => by go_simp) ?_
  go_frame
  refine wpO_pure (v := .pointer (some ⟨r, 0, none⟩)) (by rfl) (fun w' hw' => by go_simp) ?_
  go_frame
  refine wpO_pure (v := .pointer (some ⟨g, 0, none⟩)) (by rfl) (fun w' hw' => by have hc : w'.cell? ⟨r, 0, none⟩ = some (.pointer (some ⟨g, 0, none⟩)) := hw'.2.cell 0; go_simp) ?_
  go_frame
  refine wpO_pure (v := .func (.func 31) #[.pointer (some ⟨g, 0, none⟩)] #[]) (by rfl) (fun w' hw' => by go_simp) ?_
  go_frame
  refine wpO_sliceN (by rfl) 140 56 3 _ rfl sl140 info56 rfl [.func (.func 31) #[.pointer (some ⟨g, 0, none⟩)] #[], .func (.func 93) #[] #[.pointer (some ⟨b3, 0, none⟩), .pointer (some ⟨b7, 0, none⟩), .pointer (some ⟨b4, 0, none⟩)], .func (.func 31) #[.pointer (some ⟨g, 0, none⟩)] #[]] rfl (by decide) (by decide) (by simp [Act.eval]) (by intro v hv; simp at hv; rcases hv with rfl | rfl | rfl <;> rfl) ?_
  intro bs w8 hbs B8 K8
  have KN8 : Keep Noth w w8 := KN.drew.trans K8 (fun _ _ h => h)
  have hJ : TurnJ w F g r b3 b4 b7 bs vl vs (.slice A l.length n) S h l S.D w8 := ⟨B34.drew.keep K8 id, B44.drew.keep K8 id, by rw [hns]; exact B74.drew.keep K8 id, B8, (HH.out.keep KN8 (Dj.noth _)).mono (fun q hq => .inl hq) (grow_lt HH.out.lt KN8.size), (Hn.out.keep KN8 (Dj.noth _)).mono (fun q hq => .inl hq), KN8.mono (fun _ _ e => e.elim)⟩
  refine ⟨.inr ⟨B34.drew.keep K8 id, R4.drew.keep K8 id⟩, ?_⟩
  clear K8 B8 B34 B44 B74 R4
  go_frame
  have hta := turn_all hJ Hok.out.dok Ho.out Hr.out Hs.out Ha.out Hu.out Hc.out
  rw [HT.out] at hta
  refine wpO_call (by rfl) (exec_call' 65 _ _ rfl Try.func65 (by kernel_rfl) (by rfl) #[.slice (some ⟨bs, 0, none⟩) 3 3] (by simp [Act.eval])) ?_
  refine (hta).mono ?_
  rintro e w9 ⟨rfl, hJ9⟩
  clear hta hJ
  refine ⟨_, rfl, .inr ⟨hJ9.c3, hJ9.roll.blk⟩, ?_⟩
  go_frame
  refine wpO_run (v := .int .i64 n9) (w1 := w9) (by rfl) (by go_simp) (.inl rfl) (wpO_nil ?_)
  go_frame
  by_cases hz : n9 = 0
  ·subst hz
   have hrb := hJ9.roll.blk
   have hj3 := hJ9.c3
   have hj4 := hJ9.c4
   have hj7 := hJ9.c7
   have n3 : r ≠ b3 := fun e => hrb.tyne hj3 (by decide) e
   have n4 : r ≠ b4 := fun e => hrb.tyne hj4 (by decide) e
   have n7 : r ≠ b7 := fun e => hrb.tyne hj7 (by decide) e
   have HJ9 := hid hJ9
   clear hJ9
   go_wp2_with fail
   refine wp_region_ordL [(0, true), (1, true), (2, true), (3, true), (4, true), (5, true), (6, true), (7, true), (8, true), (9, true), (10, false), (11, true), (12, true), (13, false), (14, true), (15, true), (16, false), (17, true), (18, true), (19, false), (20, true), (21, true), (22, false)] (fun w' => BlockIs w' b3 [.pointer (some ⟨r, 0, none⟩)] 66 ∧ BlockIs w' b4 h.cells 112 ∧ BlockIs w' b7 [.int .i64 S.nslot] 3) follows_mixed (by kernel_rfl) ⟨hj3.drew, hj4.drew, hj7.drew⟩ ?_
   simp only [List.map_cons, List.map_nil, List.getElem?_cons_succ, List.getElem?_cons_zero, Option.getD_some]
   refine wpO_pure (v := .pointer (some ⟨r, 0, none⟩)) (by rfl) (fun w' hw' => by have hc : w'.cell? ⟨b3, 0, none⟩ = some (.pointer (some ⟨r, 0, none⟩)) := hw'.1.cell 0; go_simp) ?_
   go_frame
   refine wpO_pure (v := .pointer (some ⟨r, 0, none⟩)) (by rfl) (fun w' hw' => by have hc : w'.cell? ⟨b3, 0, none⟩ = some (.pointer (some ⟨r, 0, none⟩)) := hw'.1.cell 0; go_simp) ?_
   go_frame
   refine wpO_pure (v := .pointer (some ⟨r, 0, none⟩)) (by rfl) (fun w' hw' => by have hc : w'.cell? ⟨b3, 0, none⟩ = some (.pointer (some ⟨r, 0, none⟩)) := hw'.1.cell 0; go_simp) ?_
   go_frame
   refine wpO_pure (v := .pointer (some ⟨r, 0, none⟩)) (by rfl) (fun w' hw' => by have hc : w'.cell? ⟨b3, 0, none⟩ = some (.pointer (some ⟨r, 0, none⟩)) := hw'.1.cell 0; go_simp) ?_
   go_frame
   refine wpO_pure (v := .pointer (some ⟨r, 0, none⟩)) (by rfl) (fun w' hw' => by have hc : w'.cell? ⟨b3, 0, none⟩ = some (.pointer (some ⟨r, 0, none⟩)) := hw'.1.cell 0; go_simp) ?_
   go_frame
   refine wpO_pure (v := .agg h.cells.toArray) (by rfl) (fun w' hw' => by exact exec_load_blk 112 _ rfl b4 0 h.cells h.cells 112 _ (by rfl) hw'.2.1 (part0 _) Try.underlying112 rfl info112) ?_
   go_frame
   refine wpO_pure (v := .int .i64 S.nslot) (by rfl) (fun w' hw' => by have hc : w'.cell? ⟨b7, 0, none⟩ = some (.int .i64 S.nslot) := hw'.2.2.cell 0; go_simp) ?_
   go_frame
   refine wpO_pure (v := .slice A l.length n) (by rfl) (fun w' hw' => by go_simp) ?_
   go_frame
   refine wpO_pure (v := .pointer (some ⟨r, 0, none⟩)) (by rfl) (fun w' hw' => by go_simp) ?_
   go_frame
   refine wpO_pure (v := .pointer (some ⟨r, 1, none⟩)) (by rfl) (fun w' hw' => by go_simp) ?_
   go_frame
   refine wpO_store_part (by rfl) 112 _ _ rfl r 1 _ h.cells 114 (by rfl) (by rfl) hrb.drew (Nat.le_of_ble_eq_true rfl) info112 (hd_one h) ?_
   intro x1 X1 Y1
   refine ⟨.inr ⟨hj3.drew.keep Y1 (fun e => n3 e.symm), hj4.drew.keep Y1 (fun e => n4 e.symm), hj7.drew.keep Y1 (fun e => n7 e.symm)⟩, ?_⟩
   have Z1 : Keep (Only r) w9 x1 := (Keep.refl _ w9).drew.trans Y1 (fun _ _ h => h)
   go_frame
   refine wpO_pure (v := .pointer (some ⟨r, 0, none⟩)) (by rfl) (fun w' hw' => by go_simp) ?_
   go_frame
   refine wpO_pure (v := .pointer (some ⟨r, 5, none⟩)) (by rfl) (fun w' hw' => by go_simp) ?_
   go_frame
   refine wpO_store_cell (by rfl) 3 _ _ rfl r 5 _ 114 (.int .i64 S.nslot) (by rfl) (by rfl) X1 (Nat.le_of_ble_eq_true rfl) rfl rfl info3 ?_
   intro x2 X2 Y2
   have Z2 : Keep (Only r) w9 x2 := Z1.trans Y2 (fun _ _ h => h)
   refine ⟨.inr ⟨hj3.keep Z2 (fun e => n3 e.symm), hj4.keep Z2 (fun e => n4 e.symm), hj7.keep Z2 (fun e => n7 e.symm)⟩, ?_⟩
   go_frame
   refine wpO_pure (v := .pointer (some ⟨r, 0, none⟩)) (by rfl) (fun w' hw' => by go_simp) ?_
   go_frame
   refine wpO_pure (v := .pointer (some ⟨r, 6, none⟩)) (by rfl) (fun w' hw' => by go_simp) ?_
   go_frame
   refine wpO_store_cell (by rfl) 63 _ _ rfl r 6 _ 114 (.slice A l.length n) (by rfl) (by rfl) X2 (Nat.le_of_ble_eq_true rfl) rfl rfl info63 ?_
   intro x3 X3 Y3
   have Z3 : Keep (Only r) w9 x3 := Z2.trans Y3 (fun _ _ h => h)
   refine ⟨.inr ⟨hj3.keep Z3 (fun e => n3 e.symm), hj4.keep Z3 (fun e => n4 e.symm), hj7.keep Z3 (fun e => n7 e.symm)⟩, ?_⟩
   go_frame
   refine wpO_pure (v := .pointer (some ⟨r, 0, none⟩)) (by rfl) (fun w' hw' => by go_simp) ?_
   go_frame
   refine wpO_pure (v := .pointer (some ⟨r, 7, none⟩)) (by rfl) (fun w' hw' => by go_simp) ?_
   go_frame
   refine wpO_store_cell (by rfl) 63 _ _ rfl r 7 _ 114 (.slice none 0 0) (by rfl) (by rfl) X3 (Nat.le_of_ble_eq_true rfl) rfl rfl info63 ?_
   intro x4 X4 Y4
   have Z4 : Keep (Only r) w9 x4 := Z3.trans Y4 (fun _ _ h => h)
   refine ⟨.inr ⟨hj3.keep Z4 (fun e => n3 e.symm), hj4.keep Z4 (fun e => n4 e.symm), hj7.keep Z4 (fun e => n7 e.symm)⟩, ?_⟩
   go_frame
   refine wpO_pure (v := .pointer (some ⟨r, 0, none⟩)) (by rfl) (fun w' hw' => by go_simp) ?_
   go_frame
   refine wpO_pure (v := .pointer (some ⟨r, 8, none⟩)) (by rfl) (fun w' hw' => by go_simp) ?_
   go_frame
   refine wpO_store_cell (by rfl) 3 _ _ rfl r 8 _ 114 (.int .i64 0) (by rfl) (by rfl) X4 (Nat.le_of_ble_eq_true rfl) rfl rfl info3 ?_
   intro x5 X5 Y5
   have Z5 : Keep (Only r) w9 x5 := Z4.trans Y5 (fun _ _ h => h)
   refine ⟨.inl rfl, wpO_nil ?_⟩
   clear Y1 Y2 Y3 Y4 Y5 Z1 Z2 Z3 Z4 X1 X2 X3 X4 hrb hj3 hj4 hj7
   go_frame
   have X6 : BlockIs x5 r (rollCells g ⟨D9, h, S.nslot, l, [], 0⟩ (.slice A l.length n) (.slice none 0 0)) 114 := X5
   clear X5
   go_wp2_with fail
   go_ret
   have hst : S.turns h l = (⟨D9, h, S.nslot, l, [], 0⟩, 0) := by unfold RS.turns; rw [HT.out]; rfl
   rw [hst]
   have hs5 := Z5.size
   have hgx : ∀ q, grow F w w9 q → grow F w x5 q := fun q hq => hq.imp id (fun e => ⟨e.1, by have := e.2; omega⟩)
   have hlx : Lt (grow F w x5) x5 := fun q hq => by
    rcases hq with hq | hq
    ·have := HJ9.out.roll.lt q (.inl hq); omega
    ·exact hq.2
   refine ⟨rfl, ⟨_, _, hlx, hgx _ HJ9.out.roll.here, X6, ?_, (HJ9.out.new.stay HJ9.out.roll.blk (by decide) (by decide) Z5).mono hgx, Recs.nil _ _, fun q _ e => by cases e⟩, HJ9.out.kept.trans Z5 (fun i _ e => by unfold Only at e; subst e; exact HH.out.here)⟩
   obtain ⟨a, b, hd⟩ := HJ9.out.roll.dev
   have hd' : DevAt w9 (grow F w w9) g a b D9 := hd
   exact DevIs.mono ⟨a, b, fun q hq => Nat.lt_of_lt_of_le (hd'.lt q hq) hs5, hd'.here, hd'.blk.keep Z5 (fun e => hd'.blk.tyne HJ9.out.roll.blk (by decide) e), hd'.l.stay Z5 (fun q hq e => hd'.l.ne HJ9.out.roll.blk (by decide) (by unfold Only at e; rw [hq, e])), hd'.row.stay Z5 (fun q hq e => hd'.row.ne HJ9.out.roll.blk (by decide) (by unfold Only at e; rw [hq, e]))⟩ hgx hlx
  ·have Hz := hid hz
   clear hz
   have hbz : (n9 == 0) = false := by have := Hz.out; simp [this]
   have hz := Hz.out
   have HJ9 := hid hJ9
   clear hJ9
   go_wp2_with fail
   go_ret
   have hst : S.turns h l = ({ S with D := D9 }, n9) := by unfold RS.turns; rw [HT.out]; exact if_neg hz
   rw [hst]
   exact ⟨rfl, ⟨_, _, HJ9.out.roll⟩, HJ9.out.kept⟩
 ·have hns : S.nslot = 0 := by unfold RS.nslot; rw [if_neg (by omega)]
  rw [hsl] at HcS
  clear hsl hslot
  go_enter Try.func74, Try.ntmps74
  go_wp2_with (first
   | (guard_target = wpList _ _ _ (Oper.mk _ (Op.box 66 _) _ _ _ _ :: _) _ _; refine wpList_box_v rfl 66 _ rfl [.pointer (some ⟨r, 0, none⟩)] (by rfl) ?_; intro b3 w1 hb3 B3 K1)
   | (guard_target = wpList _ _ _ (Oper.mk _ (Op.box 112 _) _ _ _ _ :: _) _ _; refine wpList_box_v rfl 112 _ rfl h.cells (by rfl) ?_; intro b4 w2 hb4 B4 K2; have B32 := B3.keep K2 id; have c3 := B32.cell 0; simp only [List.getElem?_cons_zero] at c3; have R2 := (HBR.out.keep K1 id).keep K2 id; have c5 := R2.cell 5; rw [HcS.out] at c5; have n34 : b3 ≠ b4 := (by have := B3.lt; omega); have hnr3 : r ≠ b3 := (by omega); have hnr4 : r ≠ b4 := (by have := K1.size; omega))
   | (guard_target = wpList _ _ _ (Oper.mk _ (Op.alloc 3) _ _ _ _ :: _) _ _; refine wpList_alloc_v rfl 3 rfl (.int .i64 0) info3 [.int .i64 0] rfl ?_; intro b7 w3 hb7 B7 K3; have B33 := B32.keep K3 id; have B43 := B4.keep K3 id; have R3 := R2.keep K3 id; have n37 : b3 ≠ b7 := (by have := B32.lt; omega); have n47 : b4 ≠ b7 := (by have := B4.lt; omega); have n7r : r ≠ b7 := (by have := R2.lt; omega); clear c3 c5)
   | (guard_target = wpList _ _ _ (Oper.mk _ (Op.store 3 (.tmp 7) (.tmp 14)) _ _ _ _ :: _) _ _; refine wpList_store_blk rfl 3 _ _ rfl b7 0 _ 3 (.int .i64 0) (by rfl) (by rfl) B7 (by decide) rfl rfl info3 ?_; intro w4 B74 K4; have B34 := B33.keep K4 n37; have B44 := B43.keep K4 n47; have R4 := R3.keep K4 n7r; have c3 := B34.cell 0; simp only [List.getElem?_cons_zero] at c3; have c5 := R4.cell 5; rw [HcS.out] at c5)
   | (guard_target = wpList _ _ _ (Oper.mk _ (Op.store 3 (.tmp 7) (.const _)) _ _ _ _ :: _) _ _; refine wpList_store_blk rfl 3 _ _ rfl b7 0 _ 3 (.int .i64 0) (by rfl) (by rfl) B74 (by decide) rfl rfl info3 ?_; intro w5 B75 K5; have B35 := B34.keep K5 n37; have B45 := B44.keep K5 n47; have R5 := R4.keep K5 n7r; clear c3 c5))
  have hb7w : w.heap.size ≤ b7 := by have := K1.size; have := K2.size; omega
  have KN : Keep Noth w w4 := (((K1.trans K2 (fun _ _ h => h)).trans K3 (fun _ _ h => h)).own K4 (fun q e => by unfold Only at e; subst e; exact hb7w))
  refine wp_region_ordL [(0, true), (1, true), (2, true), (3, true), (4, true), (5, true), (6, true), (7, true), (8, true), (9, true), (10, true), (11, false), (12, false), (13, false)] (fun w' => BlockIs w' b3 [.pointer (some ⟨r, 0, none⟩)] 66 ∧ BlockIs w' r (rollCells g S vl vs) 114) follows_mixed (by kernel_rfl) ⟨B34.drew, R4.drew⟩ ?_
  simp only [List.map_cons, List.map_nil, List.getElem?_cons_succ, List.getElem?_cons_zero, Option.getD_some]
  refine wpO_pure (v := .pointer (some ⟨r, 0, none⟩)) (by rfl) (fun w' hw' => by have hc : w'.cell? ⟨b3, 0, none⟩ = some (.pointer (some ⟨r, 0, none⟩)) := hw'.1.cell 0; go_simp) ?_
  go_frame
  refine wpO_pure (v := .pointer (some ⟨r, 0, none⟩)) (by rfl) (fun w' hw' => by go_simp) ?_
  go_frame
  refine wpO_pure (v := .pointer (some ⟨r, 0, none⟩)) (by rfl) (fun w' hw' => by go_simp) ?_
  go_frame
  refine wpO_pure (v := .pointer (some ⟨g, 0, none⟩)) (by rfl) (fun w' hw' => by have hc : w'.cell? ⟨r, 0, none⟩ = some (.pointer (some ⟨g, 0, none⟩)) := hw'.2.cell 0; go_simp) ?_
  go_frame
  refine wpO_pure (v := .func (.func 31) #[.pointer (some ⟨g, 0, none⟩)] #[]) (by rfl) (fun w' hw' => by go_simp) ?_
  go_frame
  refine wpO_pure (v := .func (.func 93) #[] #[.pointer (some ⟨b3, 0, none⟩), .pointer (some ⟨b7, 0, none⟩), .pointer (some ⟨b4, 0, none⟩)]) (by rfl) (fun w' hw' => by go_simp) ?_
  go_frame
  refine wpO_pure (v := .pointer (some ⟨r, 0, none⟩)) (by rfl) (fun w' hw' => by have hc : w'.cell? ⟨b3, 0, none⟩ = some (.pointer (some ⟨r, 0, none⟩)) := hw'.1.cell 0; go_simp) ?_
  go_frame
  refine wpO_pure (v := .pointer (some ⟨r, 0, none⟩)) (by rfl) (fun w' hw' => by go_simp) ?_
  go_frame
  refine wpO_pure (v := .pointer (some ⟨r, 0, none⟩)) (by rfl) (fun w' hw' => by go_simp) ?_
  go_frame
  refine wpO_pure (v := .pointer (some ⟨g, 0, none⟩)) (by rfl) (fun w' hw' => by have hc : w'.cell? ⟨r, 0, none⟩ = some (.pointer (some ⟨g, 0, none⟩)) := hw'.2.cell 0; go_simp) ?_
  go_frame
  refine wpO_pure (v := .func (.func 31) #[.pointer (some ⟨g, 0, none⟩)] #[]) (by rfl) (fun w' hw' => by go_simp) ?_
  go_frame
  refine wpO_sliceN (by rfl) 140 56 3 _ rfl sl140 info56 rfl [.func (.func 31) #[.pointer (some ⟨g, 0, none⟩)] #[], .func (.func 93) #[] #[.pointer (some ⟨b3, 0, none⟩), .pointer (some ⟨b7, 0, none⟩), .pointer (some ⟨b4, 0, none⟩)], .func (.func 31) #[.pointer (some ⟨g, 0, none⟩)] #[]] rfl (by decide) (by decide) (by simp [Act.eval]) (by intro v hv; simp at hv; rcases hv with rfl | rfl | rfl <;> rfl) ?_
  intro bs w8 hbs B8 K8
  have KN8 : Keep Noth w w8 := KN.drew.trans K8 (fun _ _ h => h)
  have hJ : TurnJ w F g r b3 b4 b7 bs vl vs (.slice A l.length n) S h l S.D w8 := ⟨B34.drew.keep K8 id, B44.drew.keep K8 id, by rw [hns]; exact B74.drew.keep K8 id, B8, (HH.out.keep KN8 (Dj.noth _)).mono (fun q hq => .inl hq) (grow_lt HH.out.lt KN8.size), (Hn.out.keep KN8 (Dj.noth _)).mono (fun q hq => .inl hq), KN8.mono (fun _ _ e => e.elim)⟩
  refine ⟨.inr ⟨B34.drew.keep K8 id, R4.drew.keep K8 id⟩, ?_⟩
  clear K8 B8 B34 B44 B74 R4
  go_frame
  have hta := turn_all hJ Hok.out.dok Ho.out Hr.out Hs.out Ha.out Hu.out Hc.out
  rw [HT.out] at hta
  refine wpO_call (by rfl) (exec_call' 65 _ _ rfl Try.func65 (by kernel_rfl) (by rfl) #[.slice (some ⟨bs, 0, none⟩) 3 3] (by simp [Act.eval])) ?_
  refine (hta).mono ?_
  rintro e w9 ⟨rfl, hJ9⟩
  clear hta hJ
  refine ⟨_, rfl, .inr ⟨hJ9.c3, hJ9.roll.blk⟩, ?_⟩
  go_frame
  refine wpO_run (v := .int .i64 n9) (w1 := w9) (by rfl) (by go_simp) (.inl rfl) (wpO_nil ?_)
  go_frame
  by_cases hz : n9 = 0
  ·subst hz
   have hrb := hJ9.roll.blk
   have hj3 := hJ9.c3
   have hj4 := hJ9.c4
   have hj7 := hJ9.c7
   have n3 : r ≠ b3 := fun e => hrb.tyne hj3 (by decide) e
   have n4 : r ≠ b4 := fun e => hrb.tyne hj4 (by decide) e
   have n7 : r ≠ b7 := fun e => hrb.tyne hj7 (by decide) e
   have HJ9 := hid hJ9
   clear hJ9
   go_wp2_with fail
   refine wp_region_ordL [(0, true), (1, true), (2, true), (3, true), (4, true), (5, true), (6, true), (7, true), (8, true), (9, true), (10, false), (11, true), (12, true), (13, false), (14, true), (15, true), (16, false), (17, true), (18, true), (19, false), (20, true), (21, true), (22, false)] (fun w' => BlockIs w' b3 [.pointer (some ⟨r, 0, none⟩)] 66 ∧ BlockIs w' b4 h.cells 112 ∧ BlockIs w' b7 [.int .i64 S.nslot] 3) follows_mixed (by kernel_rfl) ⟨hj3.drew, hj4.drew, hj7.drew⟩ ?_
   simp only [List.map_cons, List.map_nil, List.getElem?_cons_succ, List.getElem?_cons_zero, Option.getD_some]
   refine wpO_pure (v := .pointer (some ⟨r, 0, none⟩)) (by rfl) (fun w' hw' => by have hc : w'.cell? ⟨b3, 0, none⟩ = some (.pointer (some ⟨r, 0, none⟩)) := hw'.1.cell 0; go_simp) ?_
   go_frame
   refine wpO_pure (v := .pointer (some ⟨r, 0, none⟩)) (by rfl) (fun w' hw' => by have hc : w'.cell? ⟨b3, 0, none⟩ = some (.pointer (some ⟨r, 0, none⟩)) := hw'.1.cell 0; go_simp) ?_
   go_frame
   refine wpO_pure (v := .pointer (some ⟨r, 0, none⟩)) (by rfl) (fun w' hw' => by have hc : w'.cell? ⟨b3, 0, none⟩ = some (.pointer (some ⟨r, 0, none⟩)) := hw'.1.cell 0; go_simp) ?_
   go_frame
   refine wpO_pure (v := .pointer (some ⟨r, 0, none⟩)) (by rfl) (fun w' hw' => by have hc : w'.cell? ⟨b3, 0, none⟩ = some (.pointer (some ⟨r, 0, none⟩)) := hw'.1.cell 0; go_simp) ?_
   go_frame
   refine wpO_pure (v := .pointer (some ⟨r, 0, none⟩)) (by rfl) (fun w' hw' => by have hc : w'.cell? ⟨b3, 0, none⟩ = some (.pointer (some ⟨r, 0, none⟩)) := hw'.1.cell 0; go_simp) ?_
   go_frame
   refine wpO_pure (v := .agg h.cells.toArray) (by rfl) (fun w' hw' => by exact exec_load_blk 112 _ rfl b4 0 h.cells h.cells 112 _ (by rfl) hw'.2.1 (part0 _) Try.underlying112 rfl info112) ?_
   go_frame
   refine wpO_pure (v := .int .i64 S.nslot) (by rfl) (fun w' hw' => by have hc : w'.cell? ⟨b7, 0, none⟩ = some (.int .i64 S.nslot) := hw'.2.2.cell 0; go_simp) ?_
   go_frame
   refine wpO_pure (v := .slice A l.length n) (by rfl) (fun w' hw' => by go_simp) ?_
   go_frame
   refine wpO_pure (v := .pointer (some ⟨r, 0, none⟩)) (by rfl) (fun w' hw' => by go_simp) ?_
   go_frame
   refine wpO_pure (v := .pointer (some ⟨r, 1, none⟩)) (by rfl) (fun w' hw' => by go_simp) ?_
   go_frame
   refine wpO_store_part (by rfl) 112 _ _ rfl r 1 _ h.cells 114 (by rfl) (by rfl) hrb.drew (Nat.le_of_ble_eq_true rfl) info112 (hd_one h) ?_
   intro x1 X1 Y1
   refine ⟨.inr ⟨hj3.drew.keep Y1 (fun e => n3 e.symm), hj4.drew.keep Y1 (fun e => n4 e.symm), hj7.drew.keep Y1 (fun e => n7 e.symm)⟩, ?_⟩
   have Z1 : Keep (Only r) w9 x1 := (Keep.refl _ w9).drew.trans Y1 (fun _ _ h => h)
   go_frame
   refine wpO_pure (v := .pointer (some ⟨r, 0, none⟩)) (by rfl) (fun w' hw' => by go_simp) ?_
   go_frame
   refine wpO_pure (v := .pointer (some ⟨r, 5, none⟩)) (by rfl) (fun w' hw' => by go_simp) ?_
   go_frame
   refine wpO_store_cell (by rfl) 3 _ _ rfl r 5 _ 114 (.int .i64 S.nslot) (by rfl) (by rfl) X1 (Nat.le_of_ble_eq_true rfl) rfl rfl info3 ?_
   intro x2 X2 Y2
   have Z2 : Keep (Only r) w9 x2 := Z1.trans Y2 (fun _ _ h => h)
   refine ⟨.inr ⟨hj3.keep Z2 (fun e => n3 e.symm), hj4.keep Z2 (fun e => n4 e.symm), hj7.keep Z2 (fun e => n7 e.symm)⟩, ?_⟩
   go_frame
   refine wpO_pure (v := .pointer (some ⟨r, 0, none⟩)) (by rfl) (fun w' hw' => by go_simp) ?_
   go_frame
   refine wpO_pure (v := .pointer (some ⟨r, 6, none⟩)) (by rfl) (fun w' hw' => by go_simp) ?_
   go_frame
   refine wpO_store_cell (by rfl) 63 _ _ rfl r 6 _ 114 (.slice A l.length n) (by rfl) (by rfl) X2 (Nat.le_of_ble_eq_true rfl) rfl rfl info63 ?_
   intro x3 X3 Y3
   have Z3 : Keep (Only r) w9 x3 := Z2.trans Y3 (fun _ _ h => h)
   refine ⟨.inr ⟨hj3.keep Z3 (fun e => n3 e.symm), hj4.keep Z3 (fun e => n4 e.symm), hj7.keep Z3 (fun e => n7 e.symm)⟩, ?_⟩
   go_frame
   refine wpO_pure (v := .pointer (some ⟨r, 0, none⟩)) (by rfl) (fun w' hw' => by go_simp) ?_
   go_frame
   refine wpO_pure (v := .pointer (some ⟨r, 7, none⟩)) (by rfl) (fun w' hw' => by go_simp) ?_
   go_frame
   refine wpO_store_cell (by rfl) 63 _ _ rfl r 7 _ 114 (.slice none 0 0) (by rfl) (by rfl) X3 (Nat.le_of_ble_eq_true rfl) rfl rfl info63 ?_
   intro x4 X4 Y4
   have Z4 : Keep (Only r) w9 x4 := Z3.trans Y4 (fun _ _ h => h)
   refine ⟨.inr ⟨hj3.keep Z4 (fun e => n3 e.symm), hj4.keep Z4 (fun e => n4 e.symm), hj7.keep Z4 (fun e => n7 e.symm)⟩, ?_⟩
   go_frame
   refine wpO_pure (v := .pointer (some ⟨r, 0, none⟩)) (by rfl) (fun w' hw' => by go_simp) ?_
   go_frame
   refine wpO_pure (v := .pointer (some ⟨r, 8, none⟩)) (by rfl) (fun w' hw' => by go_simp) ?_
   go_frame
   refine wpO_store_cell (by rfl) 3 _ _ rfl r 8 _ 114 (.int .i64 0) (by rfl) (by rfl) X4 (Nat.le_of_ble_eq_true rfl) rfl rfl info3 ?_
   intro x5 X5 Y5
   have Z5 : Keep (Only r) w9 x5 := Z4.trans Y5 (fun _ _ h => h)
   refine ⟨.inl rfl, wpO_nil ?_⟩
   clear Y1 Y2 Y3 Y4 Y5 Z1 Z2 Z3 Z4 X1 X2 X3 X4 hrb hj3 hj4 hj7
   go_frame
   have X6 : BlockIs x5 r (rollCells g ⟨D9, h, S.nslot, l, [], 0⟩ (.slice A l.length n) (.slice none 0 0)) 114 := X5
   clear X5
   go_wp2_with fail
   go_ret
   have hst : S.turns h l = (⟨D9, h, S.nslot, l, [], 0⟩, 0) := by unfold RS.turns; rw [HT.out]; rfl
   rw [hst]
   have hs5 := Z5.size
   have hgx : ∀ q, grow F w w9 q → grow F w x5 q := fun q hq => hq.imp id (fun e => ⟨e.1, by have := e.2; omega⟩)
   have hlx : Lt (grow F w x5) x5 := fun q hq => by
    rcases hq with hq | hq
    ·have := HJ9.out.roll.lt q (.inl hq); omega
    ·exact hq.2
   refine ⟨rfl, ⟨_, _, hlx, hgx _ HJ9.out.roll.here, X6, ?_, (HJ9.out.new.stay HJ9.out.roll.blk (by decide) (by decide) Z5).mono hgx, Recs.nil _ _, fun q _ e => by cases e⟩, HJ9.out.kept.trans Z5 (fun i _ e => by unfold Only at e; subst e; exact HH.out.here)⟩
   obtain ⟨a, b, hd⟩ := HJ9.out.roll.dev
   have hd' : DevAt w9 (grow F w w9) g a b D9 := hd
   exact DevIs.mono ⟨a, b, fun q hq => Nat.lt_of_lt_of_le (hd'.lt q hq) hs5, hd'.here, hd'.blk.keep Z5 (fun e => hd'.blk.tyne HJ9.out.roll.blk (by decide) e), hd'.l.stay Z5 (fun q hq e => hd'.l.ne HJ9.out.roll.blk (by decide) (by unfold Only at e; rw [hq, e])), hd'.row.stay Z5 (fun q hq e => hd'.row.ne HJ9.out.roll.blk (by decide) (by unfold Only at e; rw [hq, e]))⟩ hgx hlx
  ·have Hz := hid hz
   clear hz
   have hbz : (n9 == 0) = false := by have := Hz.out; simp [this]
   have hz := Hz.out
   have HJ9 := hid hJ9
   clear hJ9
   go_wp2_with fail
   go_ret
   have hst : S.turns h l = ({ S with D := D9 }, n9) := by unfold RS.turns; rw [HT.out]; exact if_neg hz
   rw [hst]
   exact ⟨rfl, ⟨_, _, HJ9.out.roll⟩, HJ9.out.kept⟩
end Go.Proofs.Ytffcglfepobdjaa
set_option maxRecDepth 10000
set_option maxHeartbeats 1500000
namespace Go.Proofs.Ytffcglfepobdjaa
open Go.RowKit
section
variable {P : Program} {ops : Array Oper} {S : World → Prop}
theorem wpQn {o : Oper} {a : Act} {w : World} {K K' Q Q' : Act → World → Prop} (h : ∀ a w, K a w → K' a w) (hh : o.wp P a w K (Qn Q)) : o.wp P a w K' (Qn Q') := by
 have hno : LetsOut (Qn Q) → LetsOut (Qn Q') := fun ⟨_, _, h⟩ => h.elim
 unfold Oper.wp at *
 generalize (execOp a.eval o).run P w = r at *
 cases r with
 | ok n w' =>
  cases n <;> simp only [Oper.upon] at hh ⊢ <;>
   first
    | exact h _ _ hh
    | exact Calls.mono hh (fun e w'' he => by cases e <;> first | exact h _ _ he | exact he.elim | exact hno he)
    | exact _root_.Go.Rows.mono hh (fun _ _ he => h _ _ he)
    | exact hh
    | exact hh.elim
 | halt x w' => cases x <;> simp only [Oper.upon] at hh ⊢ <;> first | exact hh | exact hh.elim | exact hno hh
theorem wpOpQn {i : Nat} {a : Act} {w : World} {K K' Q Q' : Act → World → Prop} (h : ∀ a w, K a w → K' a w) (hh : wpOp P ops (Qn Q) i K a w) : wpOp P ops (Qn Q') i K' a w := by
 unfold wpOp at *
 split
 ·exact h _ _ (by simpa [*] using hh)
 ·rename_i o ho
  simp only [ho] at hh
  split
  ·rename_i hw; simp only [hw, if_true] at hh; exact hh.imp (wpQn h) (fun e => ⟨e.1, by obtain ⟨_, _, h⟩ := e.2; exact h.elim⟩)
  ·rename_i hw; simp only [hw] at hh; exact h _ _ hh
def wpAnyT (P : Program) (md : Region.Mode) (ops : Array Oper) (Q : Exit → Act → World → Prop) (S : World → Prop) (n : Nat) : Nat → Array Bool → Act → World → Prop
 | 0, listed, a, w => Region.ready md ops listed = [] ∧ Q .normal a w
 | fuel + 1, listed, a, w =>
  (Region.ready md ops listed = [] → Q .normal a w) ∧
  ∀ i ∈ Region.ready md ops listed, wpOp P ops Q i (fun a' w' => (n ≤ i ∨ S w') ∧ wpAnyT P md ops Q S n fuel (listed.setIfInBounds i true) a' w') a w
theorem wpAny_of_T {md : Region.Mode} {Q : Exit → Act → World → Prop} {n : Nat} : ∀ (fuel : Nat) (listed : Array Bool) (a : Act) (w : World), wpAnyT P md ops Q S n fuel listed a w → wpAny P md ops Q fuel listed a w
 | 0, _, _, _, h => h
 | fuel + 1, _, _, _, h => ⟨h.1, fun i hi => wpOp_mono (fun a' w' h' => wpAny_of_T fuel _ a' w' h'.2) (h.2 i hi)⟩
theorem wpAnyT_first {md : Region.Mode} {Q : Exit → Act → World → Prop} {n i : Nat} {oi : Oper} {v : Value} (hi : ops[i]? = some oi) (hsel : ∀ (j : Nat) (o : Oper) cs b, ops[j]? = some o → o.op ≠ .select cs b)
  (hQ : ∀ c a w, Q (.panic c) (a.put oi.dst v) w → Q (.panic c) a w) (hs : Region.sinkB md ops n = true) (hc : Region.chainB md ops n = true) (hn : n < ops.size) (hin : i < n) :
  ∀ (fuel : Nat) (listed : Array Bool) (a : Act) (w : World), HeadInv md ops n listed →
   (∀ j oj, ops[j]? = some oj → j ≠ i → listed.getD j true = false → (∀ e ∈ oj.after, Region.binds md e = true → e.on ≠ i) → oi.apart ops oj = true) →
   i ∈ Region.ready md ops listed → YieldsIf P ops S oi v a → S w →
   wpAnyT P md ops Q S n fuel (listed.setIfInBounds i true) (a.put oi.dst v) w → wpAnyT P md ops Q S n (fuel + 1) listed a w := by
 intro fuel
 induction fuel with
 | zero =>
  intro listed a w inv _ hr hy hS H
  refine ⟨fun h => (by rw [h] at hr; cases hr), fun j hj => ?_⟩
  by_cases hji : j = i
  ·subst hji; exact hy.wpOp hi hS ⟨.inr hS, H⟩
  ·have := ready_mono hj hji
   rw [H.1] at this
   cases this
 | succ fuel ih =>
  intro listed a w inv hfree hr hy hS H
  have hun := (mem_ready.1 hr).1
  refine ⟨fun h => (by rw [h] at hr; cases hr), fun j hj => ?_⟩
  by_cases hji : j = i
  ·subst hji; exact hy.wpOp hi hS ⟨.inr hS, H⟩
  ·have hjn : j < n := by
    rcases Nat.lt_or_ge j n with h | h
    ·exact h
    ·exact absurd hj (tail_waits hs hc hn inv _ i rfl hin hun j h)
   have h1 := H.2 j (ready_mono hj hji)
   obtain ⟨hjun, oj, hoj, hall⟩ := mem_ready.1 hj
   have hnot : ∀ e ∈ oj.after, Region.binds md e = true → e.on ≠ i := fun e he hb heq => by
    have h1 := hall e he hb
    rw [heq, getD_both hun] at h1
    cases h1
   have h2 := wpOp_putIf hoj (hfree j oj hoj hji hjun hnot) (fun cs b => hsel i oi cs b hi) (fun cs b => hsel j oj cs b hoj) hQ hy h1
   have hfree' : ∀ k ok, ops[k]? = some ok → k ≠ i → (listed.setIfInBounds j true).getD k true = false →
     (∀ e ∈ ok.after, Region.binds md e = true → e.on ≠ i) → oi.apart ops ok = true := fun k ok hk hki hun hno => by
    refine hfree k ok hk hki ?_ hno
    by_cases hjk : j = k
    ·subst hjk; exact hjun
    ·rw [getD_set_ne true hjk] at hun; exact hun
   refine wpOp_mono (fun a' w' h3 => ?_) h2
   have hS' : S w' := h3.2.1.resolve_left (by omega)
   refine ⟨.inr hS', ih (listed.setIfInBounds j true) a' w' (inv.set hj hjn) hfree' (ready_mono hr (Ne.symm hji)) h3.1 hS' ?_⟩
   rw [Array.setIfInBounds_comm _ _ hji]
   exact h3.2.2
def tailB (md : Region.Mode) (ops : Array Oper) (n : Nat) : List Nat → Array Bool → Bool
 | [], listed => (Region.ready md ops listed).isEmpty
 | i :: r, listed => decide (n ≤ i) && decide (Region.ready md ops listed = [i]) && tailB md ops n r (listed.setIfInBounds i true)
theorem tail_sound {md : Region.Mode} {Q : Act → World → Prop} {n : Nat} : ∀ (tl : List Nat) (listed : Array Bool) (a : Act) (w : World), tailB md ops n tl listed = true →
  wpOrdL P ops Q (fun _ => True) (tl.map fun i => (i, false)) a w → wpAnyT P md ops (Qn Q) S n tl.length listed a w
 | [], listed, a, w, hB, h => ⟨by simpa [tailB, List.isEmpty_iff] using hB, h⟩
 | i :: r, listed, a, w, hB, h => by
  simp only [tailB, Bool.and_eq_true, decide_eq_true_eq] at hB
  obtain ⟨⟨hin, hr⟩, hB⟩ := hB
  refine ⟨fun h0 => (by rw [hr] at h0; cases h0), fun j hj => ?_⟩
  rw [hr] at hj
  have : j = i := by simpa using hj
  subst this
  exact wpOp_mono (fun a' w' h' => ⟨.inl hin, tail_sound r _ a' w' hB h'.2⟩) h
def ordTB (md : Region.Mode) (ops : Array Oper) (n : Nat) (tl : List Nat) : List (Nat × Bool) → Array Bool → Bool
 | [], _ => false
 | (i, true) :: r, listed => decide (i < n) && (Region.ready md ops listed).contains i && Region.free md ops listed i && ordTB md ops n tl r (listed.setIfInBounds i true)
 | (i, false) :: r, listed => decide (Region.ready md ops listed = [i]) && ((decide (i < n) && !r.isEmpty && ordTB md ops n tl r (listed.setIfInBounds i true)) || (decide (i = n) && r.isEmpty && tailB md ops n tl (listed.setIfInBounds i true)))
theorem wpOrdT_sound {md : Region.Mode} {Q : Act → World → Prop} {n : Nat} {tl : List Nat} (hsel : Region.noSelect ops = true) (hs : Region.sinkB md ops n = true) (hc : Region.chainB md ops n = true) (hn : n < ops.size) :
  ∀ (ord : List (Nat × Bool)) (listed : Array Bool) (a : Act) (w : World), HeadInv md ops n listed → ordTB md ops n tl ord listed = true → S w →
  wpOrdL P ops (fun a w => wpOrdL P ops Q (fun _ => True) (tl.map fun i => (i, false)) a w) S ord a w → wpAnyT P md ops (Qn Q) S n (ord.length + tl.length) listed a w
 | [], listed, a, w, _, hB, _, h => by cases hB
 | (i, true) :: r, listed, a, w, inv, hB, hS, h => by
  obtain ⟨o, v, hi, hy, h'⟩ := h
  simp only [ordTB, Bool.and_eq_true, decide_eq_true_eq] at hB
  obtain ⟨⟨⟨hin, hr⟩, hf⟩, hB⟩ := hB
  have hr' : i ∈ Region.ready md ops listed := by simpa using hr
  rw [show ((i, true) :: r).length + tl.length = (r.length + tl.length) + 1 by simp only [List.length_cons]; omega]
  exact wpAnyT_first hi (Region.noSelect_spec hsel) (fun _ _ _ h => h.elim) hs hc hn hin _ listed a w inv (Region.free_spec hi hf) hr' hy hS
   (wpOrdT_sound hsel hs hc hn r _ _ _ (inv.set hr' hin) hB hS h')
 | (i, false) :: r, listed, a, w, inv, hB, hS, h => by
  simp only [ordTB, Bool.and_eq_true, Bool.or_eq_true, Bool.not_eq_true', decide_eq_true_eq, List.isEmpty_iff] at hB
  obtain ⟨hr, hB⟩ := hB
  rw [show ((i, false) :: r).length + tl.length = (r.length + tl.length) + 1 by simp only [List.length_cons]; omega]
  refine ⟨fun h0 => (by rw [hr] at h0; cases h0), fun j hj => ?_⟩
  have hj' := hj
  rw [hr] at hj
  have : j = i := by simpa using hj
  subst this
  refine wpOpQn (fun a' w' h' => ?_) h
  rcases hB with ⟨⟨hin, hne⟩, hB⟩ | ⟨⟨rfl, hin⟩, hB⟩
  ·have hne' : r ≠ [] := fun e => by rw [e] at hne; cases hne
   have hS' := h'.1.resolve_left hne'
   exact ⟨.inr hS', wpOrdT_sound hsel hs hc hn r _ _ _ (inv.set hj' hin) hB hS' h'.2⟩
  ·subst hin
   exact ⟨.inl (Nat.le_refl _), by rw [List.length_nil, Nat.zero_add]; exact tail_sound tl _ a' w' hB h'.2⟩
theorem wp_region_ordT {id : Nat} {Q : Exit → Act → World → Prop} {a : Act} {w : World} {l : List Oper} (ord : List (Nat × Bool)) (n : Nat) (tl : List Nat) (S : World → Prop) (hm : P.follows .mixedOrders = true)
  (hB : (decide (ord.length + tl.length = l.length) && Region.noSelect l.toArray && decide (n < l.toArray.size) && Region.sinkB .any l.toArray n && Region.chainB .any l.toArray n && ordTB .any l.toArray n tl ord (Array.replicate l.toArray.size false) && ord.all (fun p => decide (p.1 < l.length)) && tl.all (fun i => decide (i < l.length))) = true) (hS : S w.drew)
  (h : wpO P l.toArray (fun a1 w1 => wpO P l.toArray (fun a' w' => Q .normal a' w') (fun _ => True) (tl.map fun i => ((l[i]?).getD default, false)) a1 w1) S (ord.map fun p => ((l[p.1]?).getD default, p.2)) a w.drew) : (Code.region id l.toArray true).wp P Q a w := by
 simp only [Bool.and_eq_true, decide_eq_true_eq, List.all_eq_true] at hB
 obtain ⟨⟨⟨⟨⟨⟨⟨h1, h2⟩, h3⟩, h4⟩, h5⟩, h6⟩, h7⟩, h8⟩ := hB
 refine wp_mono (Q := Qn (fun a' w' => Q .normal a' w')) (wp_region_any hm ?_) (fun e a w h => by cases e <;> first | exact h | exact h.elim)
 have inv0 : HeadInv .any l.toArray n (Array.replicate l.toArray.size false) :=
  ⟨by simp, fun j oj _ hl => (by rw [getD_replicate_false] at hl; cases hl), fun t _ ht => getD_in (by simpa using ht) (getD_replicate_false _ _)⟩
 have hQ : (fun a1 w1 => wpO P l.toArray (fun a' w' => Q .normal a' w') (fun _ => True) (tl.map fun i => ((l[i]?).getD default, false)) a1 w1) = (fun a1 w1 => wpO P l.toArray (fun a' w' => Q .normal a' w') (fun _ => True) ((tl.map fun i => (i, false)).map fun p => ((l.toArray.toList[p.1]?).getD default, p.2)) a1 w1) := by
  funext a1 w1; simp [List.map_map, Function.comp_def]
 have h' := wpOrdL_of_O (ops := l.toArray) ord a w.drew (fun p hp => by simpa using h7 p hp) (by simpa using h)
 have hmono : ∀ (ord : List (Nat × Bool)) (Q1 Q2 : Act → World → Prop) (hq : ∀ a w, Q1 a w → Q2 a w) a w, wpOrdL P l.toArray Q1 S ord a w → wpOrdL P l.toArray Q2 S ord a w := by
  intro ord
  induction ord with
  | nil => intro Q1 Q2 hq a w h; exact hq _ _ h
  | cons p r ih =>
   intro Q1 Q2 hq a w h
   obtain ⟨i, b⟩ := p
   cases b with
   | true => obtain ⟨o, v, e1, e2, e3⟩ := h; exact ⟨o, v, e1, e2, ih Q1 Q2 hq _ _ e3⟩
   | false => exact wpOpQn (fun a' w' h' => ⟨h'.1, ih Q1 Q2 hq _ _ h'.2⟩) h
 have h'' := hmono ord _ (fun a1 w1 => wpOrdL P l.toArray (fun a' w' => Q .normal a' w') (fun _ => True) (tl.map fun i => (i, false)) a1 w1) (fun a1 w1 h => wpOrdL_of_O (ops := l.toArray) _ a1 w1 (fun p hp => by
  obtain ⟨i, hi, rfl⟩ := List.mem_map.1 hp
  simpa using h8 i hi) (by simpa [List.map_map, Function.comp_def] using h)) _ _ h'
 have := wpAny_of_T _ _ _ _ (wpOrdT_sound (md := .any) h2 h4 h5 h3 ord _ a w.drew inv0 h6 hS h'')
 rw [h1] at this
 simpa using this
end
section
variable {P : Program} {ops : Array Oper} {o : Oper} {a : Act} {w : World}
theorem exec_append_rec (hu : P.underlying 63 = some (.slice 33)) (hin : (P.info? 33).map (fun i => (i.zero, i.size, i.bytes)) = some (some (.slice none 0 0), 1, 24)) (s x : Operand) (ho : o.op = .call { callee := .builtin .append, args := #[s, x], argTypes := #[63, 63] })
  (F G : Nat → Prop) (v xv : Value) (l : List (List UInt8)) (r : List UInt8) (hs : a.eval s = v) (H : Recs w F v l) (b : Nat) (hx : a.eval x = .slice (some ⟨b, 0, none⟩) 1 1) (HB : BlockIs w b [xv] 33) (Hx : Bytes w G xv r) (hl : l.length ≤ 1099511627776) :
  ∃ v' w', (execOp a.eval o).run P w = .ok (.value v') w' ∧ Recs w' (fun k => F k ∨ G k ∨ (w.heap.size ≤ k ∧ k < w'.heap.size)) v' (l ++ [r]) ∧ Keep (fun k => v.ownBlock = some k) w w' ∧ ∀ q, v'.ownBlock = some q → v.ownBlock = some q ∨ w.heap.size ≤ q := by
 obtain ⟨es, e1, e2, e3⟩ := H
 obtain ⟨v', w', hr, R, K⟩ := run_append_rows (P := P) (w := w) 63 o.type 33 (.slice none 0 0) 1 24 hu hin rfl (by decide) (by decide) F v _ [[xv]] e2 (some ⟨b, 0, none⟩) 1 1 rfl (fun e => by cases e) (by simp) (by simpa using Reads.of_range HB.rangeAll) (by simpa using Hx.one_val.1) (by rw [List.length_map]; rw [e1, List.length_map] at hl; omega)
 have f3 : ∀ e ∈ es, Bytes w' F e.1 e.2 := fun e he => (e3 e he).stay K (fun q hq e' => (e3 e he).ne2 e2 (by decide) q hq e')
 have fx : Bytes w' G xv r := Hx.stay K (fun q hq e' => Hx.ne2 e2 (by decide) q hq e')
 refine ⟨v', w', exec_append s x 63 ho hs hx hr, ⟨es ++ [(xv, r)], by rw [List.map_append, e1]; rfl, ?_, fun e he => ?_⟩, K, fun q hq => (R.foot q hq).imp id (fun e => e.1)⟩
 ·rw [List.map_append]
  exact R.mono (fun q hq => hq.elim (fun e => .inl (e2.foot q e)) (fun e => .inr (.inr e)))
 ·rcases List.mem_append.1 he with he | he
  ·exact (f3 e he).mono (fun q hq => .inl hq)
  ·rw [List.mem_singleton.1 he]; exact fx.mono (fun q hq => .inr (.inl hq))
theorem wpO_append_rec {Q : Act → World → Prop} {S : World → Prop} {rr : List (Oper × Bool)} (hg : Region.wanted o (yielded ops a.tmps) = true) (hu : P.underlying 63 = some (.slice 33)) (hin : (P.info? 33).map (fun i => (i.zero, i.size, i.bytes)) = some (some (.slice none 0 0), 1, 24)) (s x : Operand) (ho : o.op = .call { callee := .builtin .append, args := #[s, x], argTypes := #[63, 63] })
  (F G : Nat → Prop) (v xv : Value) (l : List (List UInt8)) (r : List UInt8) (hs : a.eval s = v) (H : Recs w F v l) (b : Nat) (hx : a.eval x = .slice (some ⟨b, 0, none⟩) 1 1) (HB : BlockIs w b [xv] 33) (Hx : Bytes w G xv r) (hl : l.length ≤ 1099511627776)
  (h : ∀ v' w', Recs w' (fun k => F k ∨ G k ∨ (w.heap.size ≤ k ∧ k < w'.heap.size)) v' (l ++ [r]) → Keep (fun k => v.ownBlock = some k) w w' → (∀ q, v'.ownBlock = some q → v.ownBlock = some q ∨ w.heap.size ≤ q) → (rr = [] ∨ S w') ∧ wpO P ops Q S rr (a.put o.dst v') w') : wpO P ops Q S ((o, false) :: rr) a w := by
 obtain ⟨v', w', h1, h2, h3, h4⟩ := exec_append_rec hu hin s x ho F G v xv l r hs H b hx HB Hx hl
 have := h v' w' h2 h3 h4
 exact wpO_run hg h1 this.1 this.2
end
theorem Recs.foot {w : World} {F : Nat → Prop} {v : Value} {l : List (List UInt8)} (h : Recs w F v l) (q : Nat) (hq : v.ownBlock = some q) : F q := by
 obtain ⟨es, e1, e2, e3⟩ := h
 exact e2.foot q hq
theorem Recs.ownlt {w : World} {F : Nat → Prop} {v : Value} {l : List (List UInt8)} (h : Recs w F v l) (q : Nat) (hq : v.ownBlock = some q) : q < w.heap.size := by
 obtain ⟨es, e1, e2, e3⟩ := h
 obtain ⟨o, ho, -⟩ := e2.cellsAt q hq
 exact (Array.getElem?_eq_some_iff.1 ho).1
/-- Records lie in no other row of records. -/
theorem Recs.other {w w' : World} {F G : Nat → Prop} {v u : Value} {l m : List (List UInt8)} (h : Recs w F v l) (hu : Recs w G u m) (hne : ∀ q, v.ownBlock = some q → u.ownBlock ≠ some q) (K : Keep (fun k => u.ownBlock = some k) w w') : Recs w' F v l := by
 obtain ⟨es, e1, e2, e3⟩ := h
 obtain ⟨fs, f1, f2, f3⟩ := hu
 exact ⟨es, e1, e2.stay K (fun q hq e => hne q hq e), fun e he => (e3 e he).stay K (fun q hq e' => (e3 e he).ne2 f2 (by decide) q hq e')⟩
/-- A device lies in no row of records. -/
theorem DevIs.other {w w' : World} {F G : Nat → Prop} {g : Nat} {D : DS} {u : Value} {m : List (List UInt8)} (h : DevIs w F g D) (hu : Recs w G u m) (K : Keep (fun k => u.ownBlock = some k) w w') : DevIs w' F g D := by
 obtain ⟨a, b, hd⟩ := h
 obtain ⟨fs, f1, f2, f3⟩ := hu
 exact ⟨a, b, fun q hq => Nat.lt_of_lt_of_le (hd.lt q hq) K.size, hd.here, hd.blk.keep K (fun e => f2.ne hd.blk (by decide) e), hd.l.stay K (fun q hq e => hd.l.ne2 f2 (by decide) q hq e), hd.row.stay K (fun q hq e => hd.row.ne2 f2 (by decide) q hq e)⟩
theorem DevIs.apartR {w w' : World} {F : Nat → Prop} {g r : Nat} {D : DS} {cs : List Value} (h : DevIs w F g D) (B : BlockIs w r cs 114) (K : Keep (Only r) w w') : DevIs w' F g D := by
 obtain ⟨a, b, hd⟩ := h
 exact ⟨a, b, fun q hq => Nat.lt_of_lt_of_le (hd.lt q hq) K.size, hd.here, hd.blk.keep K (fun e => hd.blk.tyne B (by decide) e), hd.l.stay K (fun q hq e => hd.l.ne B (by decide) (by unfold Only at e; rw [hq, e])), hd.row.stay K (fun q hq e => hd.row.ne B (by decide) (by unfold Only at e; rw [hq, e]))⟩
def RS.stage (S : RS) (b : List UInt8) : RS × Int :=
 if 4000 < b.length then (S, 110)
 else if S.room < blocksN b then (S, 111)
 else
  let T := S.D.writes ((2 + S.own.area * S.D.half + S.own.used + S.more : Nat) : Int) (packs b)
  if T.2 = 0 then ({ S with D := T.1, st := S.st ++ [b], more := S.more + blocksN b }, 0) else ({ S with D := T.1 }, T.2)
section
variable {P : Program} {ops : Array Oper} {S : World → Prop} {md : Region.Mode}
structure Cl (md : Region.Mode) (ops : Array Oper) (listed : Array Bool) : Prop where
 size : listed.size = ops.size
 closed : ∀ j oj, ops[j]? = some oj → listed.getD j false = true → ∀ e ∈ oj.after, Region.binds md e = true → listed.getD e.on false = true
theorem Cl.set {i : Nat} {listed : Array Bool} (inv : Cl md ops listed) (hi : i ∈ Region.ready md ops listed) : Cl md ops (listed.setIfInBounds i true) := by
 obtain ⟨_, oi, hoi, hall⟩ := mem_ready.1 hi
 refine ⟨by simp [inv.size], fun j oj hj hl e he hb => ?_⟩
 by_cases hij : i = j
 ·subst hij
  have : oj = oi := Option.some.inj (hj.symm.trans hoi)
  subst this
  exact getD_set_true (hall e he hb)
 ·rw [getD_set_ne false hij] at hl
  exact getD_set_true (inv.closed j oj hj hl e he hb)
def waitsT (md : Region.Mode) (ops : Array Oper) : Nat → Nat → Nat → Bool
 | 0, j, i => Region.waitsFor md ops j i
 | f + 1, j, i => Region.waitsFor md ops j i || (List.range j).any fun k => decide (i < k) && Region.waitsFor md ops j k && waitsT md ops f k i
theorem wait_one {listed : Array Bool} {j k : Nat} (inv : Cl md ops listed) (hk : listed.getD k false = false) (h : Region.waitsFor md ops j k = true) : listed.getD j false = false ∧ j ∉ Region.ready md ops listed := by
 obtain ⟨oj, hoj, e, he, hb, hon⟩ := Region.waitsFor_spec h
 refine ⟨?_, fun hr => ?_⟩
 ·cases hl : listed.getD j false with
  | false => rfl
  | true => have := inv.closed j oj hoj hl e he hb; rw [hon, hk] at this; cases this
 ·obtain ⟨_, o, ho, hall⟩ := mem_ready.1 hr
  have : o = oj := Option.some.inj (ho.symm.trans hoj)
  subst this
  have := hall e he hb
  rw [hon, hk] at this
  cases this
theorem wait_all {listed : Array Bool} {i : Nat} (inv : Cl md ops listed) (hi : listed.getD i false = false) : ∀ (f j : Nat), waitsT md ops f j i = true → listed.getD j false = false ∧ j ∉ Region.ready md ops listed
 | 0, j, h => wait_one inv hi h
 | f + 1, j, h => by
  simp only [waitsT, Bool.or_eq_true, List.any_eq_true, Bool.and_eq_true, decide_eq_true_eq] at h
  rcases h with h | ⟨k, hk, ⟨_, h1⟩, h2⟩
  ·exact wait_one inv hi h
  ·exact wait_one inv (wait_all inv hi f k h2).1 h1
theorem wpAnyU_first {Q : Exit → Act → World → Prop} {n i : Nat} {oi : Oper} {v : Value} (hi : ops[i]? = some oi) (hsel : ∀ (j : Nat) (o : Oper) cs b, ops[j]? = some o → o.op ≠ .select cs b)
  (hQ : ∀ c a w, Q (.panic c) (a.put oi.dst v) w → Q (.panic c) a w) (f : Nat) (hlate : ∀ j, n ≤ j → j < ops.size → waitsT md ops f j i = true) :
  ∀ (fuel : Nat) (listed : Array Bool) (a : Act) (w : World), Cl md ops listed →
   (∀ j oj, ops[j]? = some oj → j ≠ i → listed.getD j true = false → (∀ e ∈ oj.after, Region.binds md e = true → e.on ≠ i) → oi.apart ops oj = true) →
   i ∈ Region.ready md ops listed → YieldsIf P ops S oi v a → S w →
   wpAnyT P md ops Q S n fuel (listed.setIfInBounds i true) (a.put oi.dst v) w → wpAnyT P md ops Q S n (fuel + 1) listed a w := by
 intro fuel
 induction fuel with
 | zero =>
  intro listed a w inv _ hr hy hS H
  refine ⟨fun h => (by rw [h] at hr; cases hr), fun j hj => ?_⟩
  by_cases hji : j = i
  ·subst hji; exact hy.wpOp hi hS ⟨.inr hS, H⟩
  ·have := ready_mono hj hji
   rw [H.1] at this
   cases this
 | succ fuel ih =>
  intro listed a w inv hfree hr hy hS H
  have hun := (mem_ready.1 hr).1
  refine ⟨fun h => (by rw [h] at hr; cases hr), fun j hj => ?_⟩
  by_cases hji : j = i
  ·subst hji; exact hy.wpOp hi hS ⟨.inr hS, H⟩
  ·obtain ⟨hjun, oj, hoj, hall⟩ := mem_ready.1 hj
   have hjn : j < n := by
    rcases Nat.lt_or_ge j n with h | h
    ·exact h
    ·exact absurd hj (wait_all inv (getD_both hun) f j (hlate j h (Array.getElem?_eq_some_iff.1 hoj).1)).2
   have h1 := H.2 j (ready_mono hj hji)
   have hnot : ∀ e ∈ oj.after, Region.binds md e = true → e.on ≠ i := fun e he hb heq => by
    have h1 := hall e he hb
    rw [heq, getD_both hun] at h1
    cases h1
   have h2 := wpOp_putIf hoj (hfree j oj hoj hji hjun hnot) (fun cs b => hsel i oi cs b hi) (fun cs b => hsel j oj cs b hoj) hQ hy h1
   have hfree' : ∀ k ok, ops[k]? = some ok → k ≠ i → (listed.setIfInBounds j true).getD k true = false →
     (∀ e ∈ ok.after, Region.binds md e = true → e.on ≠ i) → oi.apart ops ok = true := fun k ok hk hki hun hno => by
    refine hfree k ok hk hki ?_ hno
    by_cases hjk : j = k
    ·subst hjk; exact hjun
    ·rw [getD_set_ne true hjk] at hun; exact hun
   refine wpOp_mono (fun a' w' h3 => ?_) h2
   have hS' : S w' := h3.2.1.resolve_left (by omega)
   refine ⟨.inr hS', ih (listed.setIfInBounds j true) a' w' (inv.set hj) hfree' (ready_mono hr (Ne.symm hji)) h3.1 hS' ?_⟩
   rw [Array.setIfInBounds_comm _ _ hji]
   exact h3.2.2
/-- A part of a walk: 'true' is taken first; 'false' comes up alone. -/
def ordU (md : Region.Mode) (ops : Array Oper) (n f : Nat) : List (Nat × Bool) → Array Bool → Option (Array Bool)
 | [], listed => some listed
 | (i, true) :: r, listed => if (Region.ready md ops listed).contains i && Region.free md ops listed i && ((List.range ops.size).all fun j => decide (j < n) || waitsT md ops f j i) then ordU md ops n f r (listed.setIfInBounds i true) else none
 | (i, false) :: r, listed => if Region.ready md ops listed = [i] then ordU md ops n f r (listed.setIfInBounds i true) else none
/-- The same for the operations. -/
def wpU (P : Program) (ops : Array Oper) (Q : Act → World → Prop) (S : World → Prop) : List (Nat × Bool) → Act → World → Prop
 | [], a, w => Q a w
 | (i, true) :: r, a, w => ∃ o v, ops[i]? = some o ∧ YieldsIf P ops S o v a ∧ wpU P ops Q S r (a.put o.dst v) w
 | (i, false) :: r, a, w => ∃ Q' : Act → World → Prop, wpOp P ops (Qn Q') i (fun a' w' => S w' ∧ wpU P ops Q S r a' w') a w
theorem wpU_sound {Q : Act → World → Prop} {n f : Nat} {listed1 : Array Bool} (hsel : Region.noSelect ops = true) (m : Nat) : ∀ (ord : List (Nat × Bool)) (listed : Array Bool) (a : Act) (w : World), Cl md ops listed → ordU md ops n f ord listed = some listed1 → S w →
  wpU P ops (fun a1 w1 => S w1 → Cl md ops listed1 → wpAnyT P md ops (Qn Q) S n m listed1 a1 w1) S ord a w → wpAnyT P md ops (Qn Q) S n (ord.length + m) listed a w
 | [], listed, a, w, inv, hB, hS, h => by
  injection hB with hB
  subst hB
  rw [List.length_nil, Nat.zero_add]
  exact h hS inv
 | (i, true) :: r, listed, a, w, inv, hB, hS, h => by
  obtain ⟨o, v, hi, hy, h'⟩ := h
  simp only [ordU] at hB
  split at hB
  ·rename_i hc
   simp only [Bool.and_eq_true, List.all_eq_true, Bool.or_eq_true, decide_eq_true_eq, List.mem_range] at hc
   obtain ⟨⟨hr, hf⟩, hl⟩ := hc
   have hr' : i ∈ Region.ready md ops listed := by simpa using hr
   rw [show ((i, true) :: r).length + m = (r.length + m) + 1 by simp only [List.length_cons]; omega]
   exact wpAnyU_first hi (Region.noSelect_spec hsel) (fun _ _ _ h => h.elim) f (fun j h1 h2 => (hl j h2).resolve_left (by omega)) _ listed a w inv (Region.free_spec hi hf) hr' hy hS
    (wpU_sound hsel m r _ _ _ (inv.set hr') hB hS h')
  ·cases hB
 | (i, false) :: r, listed, a, w, inv, hB, hS, h => by
  obtain ⟨Q', h⟩ := h
  simp only [ordU] at hB
  split at hB
  ·rename_i hr
   rw [show ((i, false) :: r).length + m = (r.length + m) + 1 by simp only [List.length_cons]; omega]
   refine ⟨fun h0 => (by rw [hr] at h0; cases h0), fun j hj => ?_⟩
   have hj' := hj
   rw [hr] at hj
   have : j = i := by simpa using hj
   subst this
   exact wpOpQn (fun a' w' h' => ⟨.inr h'.1, wpU_sound hsel m r _ a' w' (inv.set hj') hB h'.1 h'.2⟩) h
  ·cases hB
theorem wpU_of_O {Q : Act → World → Prop} : ∀ (ord : List (Nat × Bool)) (a : Act) (w : World), (∀ p ∈ ord, p.1 < ops.size) → wpO P ops (fun a w => S w ∧ Q a w) S (ord.map fun p => ((ops.toList[p.1]?).getD default, p.2)) a w → S w → wpU P ops Q S ord a w
 | [], _, _, _, h, _ => h.2
 | (i, true) :: r, a, w, hl, h, hS => by
  have hi : i < ops.size := hl (i, true) (by simp)
  have he : ops[i]? = some ((ops.toList[i]?).getD default) := by simp [hi]
  obtain ⟨v, hy, h'⟩ := h
  exact ⟨_, v, he, hy, wpU_of_O r _ _ (fun p hp => hl p (by simp [hp])) h' hS⟩
 | (i, false) :: r, a, w, hl, h, hS => by
  have hi : i < ops.size := hl (i, false) (by simp)
  have he : ops[i]? = some ((ops.toList[i]?).getD default) := by simp [hi]
  have hsol : ∀ a' w', ((r.map fun p => ((ops.toList[p.1]?).getD default, p.2)) = [] ∨ S w') ∧ wpO P ops (fun a w => S w ∧ Q a w) S (r.map fun p => ((ops.toList[p.1]?).getD default, p.2)) a' w' → S w' ∧ wpU P ops Q S r a' w' := fun a' w' h' => by
   have hS' : S w' := by
    rcases h'.1 with e | e
    ·have h2 := h'.2
     rw [e] at h2
     exact h2.1
    ·exact e
   exact ⟨hS', wpU_of_O r a' w' (fun p hp => hl p (by simp [hp])) h'.2 hS'⟩
  refine ⟨(fun a w => S w ∧ Q a w), ?_⟩
  unfold wpOp
  rw [he]
  simp only [List.map_cons, wpO] at h
  show if Region.wanted ((ops.toList[i]?).getD default) (yielded ops a.tmps) = true then _ else _
  split
  ·rename_i hw
   rw [if_pos hw] at h
   exact .inl (Oper.wp_mono (fun a' w' h' => hsol a' w' h') h)
  ·rename_i hw
   rw [if_neg hw] at h
   exact hsol _ _ h
theorem wpO_monoQ {Q Q' : Act → World → Prop} : ∀ (ord : List (Oper × Bool)) (a : Act) (w : World), (∀ a w, Q a w → Q' a w) → wpO P ops Q S ord a w → wpO P ops Q' S ord a w
 | [], a, w, hq, h => hq a w h
 | (o, true) :: r, a, w, hq, h => by
  obtain ⟨v, hy, h'⟩ := h
  exact ⟨v, hy, wpO_monoQ r _ _ hq h'⟩
 | (o, false) :: r, a, w, hq, h => by
  simp only [wpO] at h ⊢
  split
  ·rename_i hw
   rw [if_pos hw] at h
   exact wpQn (fun a' w' h' => ⟨h'.1, wpO_monoQ r a' w' hq h'.2⟩) h
  ·rename_i hw
   rw [if_neg hw] at h
   exact ⟨h.1, wpO_monoQ r _ _ hq h.2⟩
theorem getD_set_true' {listed : Array Bool} {i k : Nat} (h : listed.getD k true = true) : (listed.setIfInBounds i true).getD k true = true := by
 by_cases e : i = k
 ·subst e; simp [Array.getElem?_setIfInBounds]
  split <;> simp_all
 ·rw [getD_set_ne true e]; exact h
theorem wpAnyT_of_any {S : World → Prop} {Q : Exit → Act → World → Prop} {n : Nat} : ∀ (fuel : Nat) (listed : Array Bool) (a : Act) (w : World), (∀ i, i < n → i < ops.size → listed.getD i true = true) → wpAny P md ops Q fuel listed a w → wpAnyT P md ops Q S n fuel listed a w
 | 0, _, _, _, _, h => h
 | fuel + 1, listed, _, _, hl, h => ⟨h.1, fun i hi => wpOp_mono (fun a' w' h' => ⟨.inl (by
   obtain ⟨hun, o, ho, -⟩ := mem_ready.1 hi
   rcases Nat.lt_or_ge i n with hlt | hge
   ·rw [hl i hlt (Array.getElem?_eq_some_iff.1 ho).1] at hun; cases hun
   ·exact hge), wpAnyT_of_any fuel _ a' w' (fun k hk hk' => getD_set_true' (hl k hk hk')) h'⟩) (h.2 i hi)⟩
theorem wpAnyT_of_all {S : World → Prop} (hS : ∀ w, S w) {Q : Exit → Act → World → Prop} {n : Nat} : ∀ (fuel : Nat) (listed : Array Bool) (a : Act) (w : World), wpAny P md ops Q fuel listed a w → wpAnyT P md ops Q S n fuel listed a w
 | 0, _, _, _, h => h
 | fuel + 1, listed, _, _, h => ⟨h.1, fun i hi => wpOp_mono (fun a' w' h' => ⟨.inr (hS _), wpAnyT_of_all hS fuel _ a' w' h'⟩) (h.2 i hi)⟩
def trueTo (n : Nat) (listed : Array Bool) : Bool := (List.range n).all fun i => decide (listed.size ≤ i) || listed.getD i true
/-- A region in three parts. -/
theorem wp_region_ord3 {id : Nat} {Q : Exit → Act → World → Prop} {a : Act} {w : World} {l : List Oper} (A0 A B : List (Nat × Bool)) (n f : Nat) (L1 L2 : Array Bool) (S : World → Prop) (hm : P.follows .mixedOrders = true)
  (hB : (decide (A0.length + (A.length + B.length) = l.length) && Region.noSelect l.toArray && decide (ordU .any l.toArray l.length 0 A0 (Array.replicate l.toArray.size false) = some L1) && decide (ordU .any l.toArray n f A L1 = some L2) && trueTo n L2 && (match ordU .any l.toArray l.length 0 B L2 with | some L3 => (Region.ready .any l.toArray L3).isEmpty | none => false) && A0.all (fun p => decide (p.1 < l.length)) && A.all (fun p => decide (p.1 < l.length)) && B.all (fun p => decide (p.1 < l.length))) = true)
  (h : wpO P l.toArray (fun a1 w1 => S w1 ∧ wpO P l.toArray (fun a2 w2 => S w2 ∧ wpO P l.toArray (fun a' w' => Q .normal a' w') (fun _ => True) (B.map fun p => ((l[p.1]?).getD default, p.2)) a2 w2) S (A.map fun p => ((l[p.1]?).getD default, p.2)) a1 w1) (fun _ => True) (A0.map fun p => ((l[p.1]?).getD default, p.2)) a w.drew) : (Code.region id l.toArray true).wp P Q a w := by
 simp only [Bool.and_eq_true, decide_eq_true_eq, List.all_eq_true] at hB
 obtain ⟨⟨⟨⟨⟨⟨⟨⟨h1, h2⟩, h3⟩, h4⟩, h5⟩, h6⟩, h7⟩, h8⟩, h9⟩ := hB
 refine wp_mono (Q := Qn (fun a' w' => Q .normal a' w')) (wp_region_any hm ?_) (fun e a w h => by cases e <;> first | exact h | exact h.elim)
 have inv0 : Cl .any l.toArray (Array.replicate l.toArray.size false) := ⟨by simp, fun j oj _ hl => (by rw [getD_replicate_false] at hl; cases hl)⟩
 have hlT : ∀ (L : Array Bool), trueTo n L = true → Cl .any l.toArray L → ∀ i, i < n → i < l.toArray.size → L.getD i true = true := fun L hL hc i hi hi' => by
  unfold trueTo at hL
  rw [List.all_eq_true] at hL
  have := hL i (List.mem_range.2 hi)
  simp only [Bool.or_eq_true, decide_eq_true_eq] at this
  rcases this with h | h
  ·rw [hc.size] at h; omega
  ·exact h
 have key : wpAnyT P .any l.toArray (Qn fun a' w' => Q .normal a' w') (fun _ => True) l.length (A0.length + (A.length + B.length)) (Array.replicate l.toArray.size false) a w.drew := by
  refine wpU_sound h2 (A.length + B.length) A0 _ a _ inv0 h3 trivial (wpU_of_O A0 a _ (fun p hp => by simpa using h7 p hp) ?_ trivial)
  refine wpO_monoQ _ _ _ (fun a1 w1 hq => ⟨trivial, fun _ hc1 => ?_⟩) (by simpa using h)
  have hA : wpAnyT P .any l.toArray (Qn fun a' w' => Q .normal a' w') S n (A.length + B.length) L1 a1 w1 := by
   refine wpU_sound h2 B.length A _ a1 w1 hc1 h4 hq.1 (wpU_of_O A a1 w1 (fun p hp => by simpa using h8 p hp) ?_ hq.1)
   refine wpO_monoQ (Q := fun a2 w2 => S w2 ∧ wpO P l.toArray (fun a' w' => Q .normal a' w') (fun _ => True) (B.map fun p => ((l[p.1]?).getD default, p.2)) a2 w2) _ _ _ (fun a2 w2 hq2 => ⟨hq2.1, fun _ hc2 => ?_⟩) (by simpa using hq.2)
   have hB2 : wpO P l.toArray (fun a' w' => Q .normal a' w') (fun _ => True) (B.map fun p => ((l.toArray.toList[p.1]?).getD default, p.2)) a2 w2 := by simpa using hq2.2
   refine wpAnyT_of_any _ _ _ _ (hlT L2 h5 hc2) ?_
   split at h6
   ·rename_i L3 hL3
    have := wpU_sound (Q := fun a' w' => Q .normal a' w') (S := fun _ => True) (P := P) h2 0 B L2 a2 w2 hc2 hL3 trivial (wpU_of_O B a2 w2 (fun p hp => by simpa using h9 p hp) (wpO_monoQ (Q := fun a' w' => Q .normal a' w') _ _ _ (fun a3 w3 hq3 => ⟨trivial, fun _ _ => (⟨by simpa [List.isEmpty_iff] using h6, hq3⟩ : wpAnyT P .any l.toArray (Qn fun a' w' => Q .normal a' w') (fun _ => True) l.length 0 L3 a3 w3)⟩) hB2) trivial)
    exact wpAny_of_T _ _ _ _ this
   ·cases h6
  exact wpAnyT_of_all (fun _ => trivial) _ _ _ _ (wpAny_of_T _ _ _ _ hA)
 have := wpAny_of_T _ _ _ _ key
 rw [h1] at this
 simpa using this
end
end Go.Proofs.Ytffcglfepobdjaa
set_option maxRecDepth 100000
set_option maxHeartbeats 2000000
namespace Go.Proofs.Ytffcglfepobdjaa
open Go.RowKit
theorem wrapN {n : Nat} (h : n < 9223372036854775808) : IntKind.i64.wrap (n : Int) = n := wrapI (by omega) (by omega)
theorem Bytes.val' {w : World} {F : Nat → Prop} {v : Value} {b : List UInt8} (h : Bytes w F v b) : v.oneCell' = true ∧ v.cells = #[v] := by
 obtain ⟨A, c, hv⟩ := h.valm
 subst hv
 exact ⟨rfl, rfl⟩
theorem stage_calls {w : World} {F : Nat → Prop} {g r : Nat} {vl vs : Value} {S : RS} (H : RollAt w F g r vl vs S) (hok : S.ok) (ho : S.D.ops ≤ 1000000) (hrow : S.D.row.length ≤ 1000000)
  (A : Option Addr) (c : Nat) (b : List UInt8) (hA : Reads w A (bv b)) (hAc : A = none → c = 0) (hAF : b ≠ [] → ∀ ad, A = some ad → ¬ F ad.block) :
  Calls Try.prog 44 #[.pointer (some ⟨r, 0, none⟩), .slice A b.length c] w (fun e w' => e = .returned (.int .i64 (S.stage b).2) ∧ RollIs w' (grow F w w') g r (S.stage b).1 ∧ Keep F w w') := by
 have same : RollIs w (grow F w w) g r S := ⟨_, _, H.mono (fun q hq => .inl hq) (grow_lt H.lt (Nat.le_refl _))⟩
 by_cases h4 : 4000 < b.length
 ·have hs : S.stage b = (S, 110) := by unfold RS.stage; rw [if_pos h4]
  have h4' : (4000 : Int) < b.length := by omega
  rw [hs]
  have Hs := hid same
  clear hs h4 same H hA
  go_enter Try.func44, Try.ntmps44
  go_wp2_with fail
  go_ret
  exact ⟨rfl, Hs.out, Keep.refl _ _⟩
 have h4' : ¬ (4000 : Int) < b.length := by omega
 have hbl := blocks_calls w A c b (by omega)
 have hrm := room_calls H hok
 have hbb := blocksN_bound b
 by_cases hrb : S.room < blocksN b
 ·have hs : S.stage b = (S, 111) := by unfold RS.stage; rw [if_neg h4, if_pos hrb]
  rw [hs]
  have HH := hid H
  clear hs h4 same H hA hbb
  go_enter Try.func44, Try.ntmps44
  go_wp2_with fail
  refine hbl.mono ?_
  rintro e w' ⟨rfl, rfl⟩
  go_wp2_with fail
  refine hrm.mono ?_
  rintro e w1 ⟨rfl, K1⟩
  go_wp2_with fail
  go_ret
  exact ⟨rfl, ⟨_, _, (HH.out.keep K1 (Dj.noth _)).mono (fun q hq => .inl hq) (grow_lt HH.out.lt K1.size)⟩, K1.mono (fun _ _ e => e.elim)⟩
 obtain ⟨D2, n2, hT⟩ : ∃ D2 n2, S.D.writes ((2 + S.own.area * S.D.half + S.own.used + S.more : Nat) : Int) (packs b) = (D2, n2) := ⟨_, _, rfl⟩
 have hst : S.stage b = if n2 = 0 then ({ S with D := D2, st := S.st ++ [b], more := S.more + blocksN b }, 0) else ({ S with D := D2 }, n2) := by unfold RS.stage; rw [if_neg h4, if_neg hrb, hT]
 have hus := hok.used
 have har := hok.area
 have hmost := hok.dok.most
 have hh : S.D.half * 2 + 2 ≤ S.D.l.length := by have := hok.four; unfold DS.half; omega
 have hff : 2 + S.own.area * S.D.half ≤ 5000 := by rcases (show S.own.area = 0 ∨ S.own.area = 1 by omega) with e | e <;> rw [e] <;> omega
 obtain ⟨f, hf⟩ : ∃ f, f = 2 + S.own.area * S.D.half := ⟨_, rfl⟩
 rw [← hf] at hT hff
 have hfl := fun (W : World) (hD : ∃ a b, DevAt W F g a b S.D) => first_calls hD.choose_spec.choose_spec hok.dok S.own.area har
 rw [← hf] at hfl
 obtain ⟨As, cs, rfl⟩ := H.st.val
 have HH := hid H
 have HA := hid hA
 have Hst := hid hst
 have HT := hid hT
 have Hok := hid hok
 have Hbb := hid hbb
 have Hus := hid hus
 have Hhh := hid hh
 have Hff := hid hff
 have hb4 : b.length ≤ 4000 := by omega
 have Hb4 := hid hb4
 clear same H hA hst hT hok hbb har hh hff hf h4 hb4
 go_enter Try.func44, Try.ntmps44
 go_wp2_with fail
 refine hbl.mono ?_
 rintro e w' ⟨rfl, rfl⟩
 go_wp2_with fail
 refine hrm.mono ?_
 rintro e w1 ⟨rfl, K1⟩
 clear hbl hrm
 have H1 := HH.out.keep K1 (Dj.noth _)
 obtain ⟨da, db, hDv⟩ := H1.dev
 have hfl1 := hfl w1.drew ⟨_, _, hDv.keep (Keep.refl Noth _).drew (Dj.noth _)⟩
 have hB1 := H1.blk
 have H1' := hid H1
 have HDv := hid hDv
 clear H1 hDv hfl hus
 go_wp2_with fail
 refine wp_region_ordL [(0, true), (1, true), (2, true), (3, true), (4, true), (5, true), (6, true), (7, true), (8, true), (9, true), (10, true), (12, true), (13, true), (14, true), (15, true), (16, true), (18, true), (19, true), (20, true), (21, true), (11, false), (17, true), (22, true), (23, false), (24, false)] (fun w' => BlockIs w' r (rollCells g S vl (.slice As S.st.length cs)) 114) follows_mixed (by kernel_rfl) hB1.drew ?_
 simp only [List.map_cons, List.map_nil, List.getElem?_cons_succ, List.getElem?_cons_zero, Option.getD_some]
 refine wpO_pure (v := .pointer (some ⟨r, 0, none⟩)) (by rfl) (fun w' hw' => by go_simp) ?_
 go_frame
 refine wpO_pure (v := .slice A b.length c) (by rfl) (fun w' hw' => by go_simp) ?_
 go_frame
 refine wpO_pure (v := .pointer (some ⟨r, 0, none⟩)) (by rfl) (fun w' hw' => by go_simp) ?_
 go_frame
 refine wpO_pure (v := .pointer (some ⟨r, 0, none⟩)) (by rfl) (fun w' hw' => by go_simp) ?_
 go_frame
 refine wpO_pure (v := .pointer (some ⟨r, 0, none⟩)) (by rfl) (fun w' hw' => by go_simp) ?_
 go_frame
 refine wpO_pure (v := .pointer (some ⟨g, 0, none⟩)) (by rfl) (fun w' hw' => by have hc : w'.cell? ⟨r, 0, none⟩ = some (.pointer (some ⟨g, 0, none⟩)) := hw'.cell 0; go_simp) ?_
 go_frame
 refine wpO_pure (v := .pointer (some ⟨r, 0, none⟩)) (by rfl) (fun w' hw' => by go_simp) ?_
 go_frame
 refine wpO_pure (v := .pointer (some ⟨r, 0, none⟩)) (by rfl) (fun w' hw' => by go_simp) ?_
 go_frame
 refine wpO_pure (v := .pointer (some ⟨r, 1, none⟩)) (by rfl) (fun w' hw' => by go_simp) ?_
 go_frame
 refine wpO_pure (v := .pointer (some ⟨r, 2, none⟩)) (by rfl) (fun w' hw' => by go_simp) ?_
 go_frame
 refine wpO_pure (v := .int .i64 (S.own.area : Int)) (by rfl) (fun w' hw' => by have hc : w'.cell? ⟨r, 2, none⟩ = some (.int .i64 (S.own.area : Int)) := hw'.cell 2; go_simp) ?_
 go_frame
 refine wpO_pure (v := .pointer (some ⟨r, 0, none⟩)) (by rfl) (fun w' hw' => by go_simp) ?_
 go_frame
 refine wpO_pure (v := .pointer (some ⟨r, 0, none⟩)) (by rfl) (fun w' hw' => by go_simp) ?_
 go_frame
 refine wpO_pure (v := .pointer (some ⟨r, 1, none⟩)) (by rfl) (fun w' hw' => by go_simp) ?_
 go_frame
 refine wpO_pure (v := .pointer (some ⟨r, 3, none⟩)) (by rfl) (fun w' hw' => by go_simp) ?_
 go_frame
 refine wpO_pure (v := .int .i64 (S.own.used : Int)) (by rfl) (fun w' hw' => by have hc : w'.cell? ⟨r, 3, none⟩ = some (.int .i64 (S.own.used : Int)) := hw'.cell 3; go_simp) ?_
 go_frame
 refine wpO_pure (v := .pointer (some ⟨r, 0, none⟩)) (by rfl) (fun w' hw' => by go_simp) ?_
 go_frame
 refine wpO_pure (v := .pointer (some ⟨r, 0, none⟩)) (by rfl) (fun w' hw' => by go_simp) ?_
 go_frame
 refine wpO_pure (v := .pointer (some ⟨r, 8, none⟩)) (by rfl) (fun w' hw' => by go_simp) ?_
 go_frame
 refine wpO_pure (v := .int .i64 (S.more : Int)) (by rfl) (fun w' hw' => by have hc : w'.cell? ⟨r, 8, none⟩ = some (.int .i64 (S.more : Int)) := hw'.cell 8; go_simp) ?_
 go_frame
 refine wpO_call (by rfl) (exec_call' 72 _ _ rfl Try.func72 (by kernel_rfl) (by rfl) #[.pointer (some ⟨g, 0, none⟩), .int .i64 (S.own.area : Int)] (by simp [Act.eval])) ?_
 refine (hfl1).mono ?_
 rintro e w' ⟨rfl, rfl⟩
 refine ⟨_, rfl, .inr hB1.drew, ?_⟩
 go_frame
 refine wpO_pure (v := .int .i64 ((f + S.own.used : Nat) : Int)) (by rfl) (fun w' hw' => by go_simp; rw [← Int.natCast_add]; exact wrapN (by have := Hus.out; have := Hff.out; have := Hhh.out; omega)) ?_
 go_frame
 refine wpO_pure (v := .int .i64 ((f + S.own.used + S.more : Nat) : Int)) (by rfl) (fun w' hw' => by go_simp; rw [← Int.natCast_add, ← Int.natCast_add]; exact wrapN (by have := Hus.out; have := Hff.out; have := Hhh.out; omega)) ?_
 go_frame
 obtain ⟨hL, hLF, -⟩ := HDv.out.least
 have hLd := hL.keep (Keep.refl Noth _).drew (Dj.noth _)
 have hrw := rollWrite_calls (w := w1.drew) (F := Least g da db) (g := g) (r := r) (D := S.D) hB1.drew (fun e => hL.apart hB1 (by decide) (by decide) (by decide) r e rfl) ⟨_, _, hLd⟩ Hok.out.dok ho hrow A c b (HA.out.keep K1.drew (fun _ _ => id)) Hb4.out ((f + S.own.used + S.more : Nat) : Int) (by have := Hus.out; have := Hff.out; have := Hhh.out; omega)
 rw [HT.out] at hrw
 refine wpO_call (by rfl) (exec_call' 73 _ _ rfl Try.func73 (by kernel_rfl) (by rfl) #[.pointer (some ⟨r, 0, none⟩), .slice A b.length c, .int .i64 ((f + S.own.used + S.more : Nat) : Int)] (by simp [Act.eval])) ?_
 refine (hrw).mono ?_
 rintro e w2 ⟨rfl, hD2, K2⟩
 have K2' : Keep (Least g da db) w1 w2 := (Keep.refl _ w1).drew.trans K2 (fun _ _ h => h)
 have hdev := H1'.out.dev' hL hLF K2' hD2
 obtain ⟨H2, K2F⟩ := hdev
 have HA2 : Reads w2 A (bv b) := by
  by_cases hb : b = []
  ·subst hb; exact Reads.nil _ _
  ·exact (HA.out.keep K1 (fun _ _ => id)).keep K2F (hAF hb)
 have K02 : Keep F w w2 := (K1.mono (fun _ _ e => e.elim)).trans K2F (fun _ _ e => e)
 have hs1 := K1.size
 have hs2 := K2F.size
 have hg2 : ∀ q, grow F w1 w2 q → grow F w w2 q := fun q hq => hq.imp id (fun e => ⟨by have := e.1; omega, e.2⟩)
 have H3 := H2.mono hg2 (grow_lt HH.out.lt K02.size)
 have hB3 : BlockIs w2 r (rollCells g S vl (.slice As S.st.length cs)) 114 := H3.blk
 refine ⟨_, rfl, .inr hB3, ?_⟩
 go_frame
 clear hrw hD2 K2 H2 hLd hL K2' K2F hfl1
 refine wpO_run (v := .int .i64 n2) (w1 := w2) (by rfl) (by go_simp) (.inl rfl) (wpO_nil ?_)
 go_frame
 by_cases hz : n2 = 0
 ·subst hz
  have hst' : S.stage b = ({ S with D := D2, st := S.st ++ [b], more := S.more + blocksN b }, 0) := by rw [Hst.out]; rfl
  have Hst' := hid hst'
  have H3' := hid H3
  clear H3 hst'
  have hcl := clone75_calls w2.drew A c b HA2 hAc (by have := Hb4.out; omega)
  go_wp2_with fail
  refine wp_region_ord3 [(0, true), (1, true)] [(2, true), (3, true), (4, true), (5, true), (6, true), (10, true), (11, true), (12, true), (13, true), (14, true), (7, false), (8, false), (9, false), (15, false)] [(16, true), (17, true), (18, true), (19, false), (20, true), (21, true), (22, false)] 16 8 #[true, true, false, false, false, false, false, false, false, false, false, false, false, false, false, false, false, false, false, false, false, false, false] #[true, true, true, true, true, true, true, true, true, true, true, true, true, true, true, true, false, false, false, false, false, false, false] (fun w' => BlockIs w' r (rollCells g S vl (.slice As S.st.length cs)) 114) follows_mixed (by kernel_rfl) ?_
  simp only [List.map_cons, List.map_nil, List.getElem?_cons_succ, List.getElem?_cons_zero, Option.getD_some]
  refine wpO_pure (v := .pointer (some ⟨r, 0, none⟩)) (by rfl) (fun w' hw' => by go_simp) ?_
  go_frame
  refine wpO_pure (v := .pointer (some ⟨r, 0, none⟩)) (by rfl) (fun w' hw' => by go_simp) (wpO_nil ?_)
  go_frame
  refine ⟨hB3.drew, ?_⟩
  refine wpO_pure (v := .pointer (some ⟨r, 0, none⟩)) (by rfl) (fun w' hw' => by go_simp) ?_
  go_frame
  refine wpO_pure (v := .pointer (some ⟨r, 0, none⟩)) (by rfl) (fun w' hw' => by go_simp) ?_
  go_frame
  refine wpO_pure (v := .pointer (some ⟨r, 7, none⟩)) (by rfl) (fun w' hw' => by go_simp) ?_
  go_frame
  refine wpO_pure (v := .slice As S.st.length cs) (by rfl) (fun w' hw' => by have hc : w'.cell? ⟨r, 7, none⟩ = some (.slice As S.st.length cs) := hw'.cell 7; go_simp) ?_
  go_frame
  refine wpO_pure (v := .slice A b.length c) (by rfl) (fun w' hw' => by go_simp) ?_
  go_frame
  refine wpO_pure (v := .pointer (some ⟨r, 0, none⟩)) (by rfl) (fun w' hw' => by go_simp) ?_
  go_frame
  refine wpO_pure (v := .pointer (some ⟨r, 0, none⟩)) (by rfl) (fun w' hw' => by go_simp) ?_
  go_frame
  refine wpO_pure (v := .pointer (some ⟨r, 8, none⟩)) (by rfl) (fun w' hw' => by go_simp) ?_
  go_frame
  refine wpO_pure (v := .int .i64 (S.more : Int)) (by rfl) (fun w' hw' => by have hc : w'.cell? ⟨r, 8, none⟩ = some (.int .i64 (S.more : Int)) := hw'.cell 8; go_simp) ?_
  go_frame
  refine wpO_pure (v := .slice A b.length c) (by rfl) (fun w' hw' => by go_simp) ?_
  go_frame
  refine wpO_call (by rfl) (exec_call' 75 _ _ rfl Try.func75 (by kernel_rfl) (by rfl) #[.slice A b.length c] (by simp [Act.eval])) ?_
  refine (hcl).mono ?_
  rintro e w3 ⟨v3, rfl, HB3, K3⟩
  clear hcl
  refine ⟨_, rfl, .inr (hB3.drew.keep K3 id), ?_⟩
  go_frame
  refine wpO_sliceN (by rfl) 63 33 1 _ rfl sl63 info33 rfl [v3] rfl (by decide) (by decide) (by simp [Act.eval]) (by intro v hv; simp at hv; subst hv; exact HB3.val'.1) ?_
  intro b8 w4 hb8 B8 K4
  refine ⟨.inr ((hB3.drew.keep K3 id).keep K4 id), ?_⟩
  have K24 : Keep Noth w2 w4 := ((Keep.refl Noth w2).drew.trans K3 (fun _ _ h => h)).trans K4 (fun _ _ h => h)
  have H4 := H3'.out.keep K24 (Dj.noth _)
  have HB4 := HB3.keep K4 (Dj.noth _)
  have hs3 := K3.size
  have hs4 := K4.size
  have hsd : w2.drew.heap.size = w2.heap.size := rfl
  have hst4 : Recs w4 (grow F w w2) (.slice As S.st.length cs) S.st := H4.st
  have hB4 : BlockIs w4 r (rollCells g S vl (.slice As S.st.length cs)) 114 := H4.blk
  go_frame
  refine wpO_append_rec (by rfl) sl63 info33 _ _ rfl (grow F w w2) (Fresh w2.drew w3) (.slice As S.st.length cs) v3 S.st b (by rfl) hst4 b8 (by rfl) B8 HB4 (by have := Hok.out.stl; omega) ?_
  intro v8 w5 HR5 K5 hv8
  have hs5 := K5.size
  have hB5 : BlockIs w5 r (rollCells g S vl (.slice As S.st.length cs)) 114 := by
   obtain ⟨es, e1, e2, e3⟩ := hst4
   exact hB4.keep K5 (fun e => e2.ne hB4 (by decide) e)
  refine ⟨.inr hB5, ?_⟩
  go_frame
  refine wpO_call (by rfl) (exec_call' 68 _ _ rfl Try.func68 (by kernel_rfl) (by rfl) #[.slice A b.length c] (by simp [Act.eval])) ?_
  refine (blocks_calls w5 A c b (by have := Hb4.out; omega)).mono ?_
  rintro e w' ⟨rfl, rfl⟩
  refine ⟨_, rfl, .inl rfl, wpO_nil ⟨hB5, ?_⟩⟩
  go_frame
  refine wpO_pure (v := .int .i64 ((S.more + blocksN b : Nat) : Int)) (by rfl) (fun w' hw' => by go_simp; rw [← Int.natCast_add]; exact wrapN (by have := Hus.out; have := Hhh.out; have := Hbb.out; have := Hb4.out; omega)) ?_
  go_frame
  refine wpO_pure (v := .pointer (some ⟨r, 0, none⟩)) (by rfl) (fun w' hw' => by go_simp) ?_
  go_frame
  refine wpO_pure (v := .pointer (some ⟨r, 7, none⟩)) (by rfl) (fun w' hw' => by go_simp) ?_
  go_frame
  refine wpO_store_cell (by rfl) 63 _ _ rfl r 7 _ 114 v8 (by rfl) (by rfl) hB5 (Nat.le_of_ble_eq_true rfl) HR5.one_val.1 HR5.one_val.2 info63 ?_
  intro w6 B6 K6
  refine ⟨.inr trivial, ?_⟩
  go_frame
  refine wpO_pure (v := .pointer (some ⟨r, 0, none⟩)) (by rfl) (fun w' hw' => by go_simp) ?_
  go_frame
  refine wpO_pure (v := .pointer (some ⟨r, 8, none⟩)) (by rfl) (fun w' hw' => by go_simp) ?_
  go_frame
  refine wpO_store_cell (by rfl) 3 _ _ rfl r 8 _ 114 (.int .i64 ((S.more + blocksN b : Nat) : Int)) (by rfl) (by rfl) B6 (Nat.le_of_ble_eq_true rfl) rfl rfl info3 ?_
  intro w7 B7 K7
  refine ⟨.inl rfl, wpO_nil ?_⟩
  have X7 : BlockIs w7 r (rollCells g { S with D := D2, st := S.st ++ [b], more := S.more + blocksN b } vl v8) 114 := B7
  have KR : Keep (Only r) w5 w7 := K6.trans K7 (fun _ _ h => h)
  have hs7 := KR.size
  clear B6 B7 K6 K7
  go_frame
  go_wp2_with fail
  go_ret
  rw [Hst'.out]
  have hvF : ∀ q, (Value.slice As S.st.length cs).ownBlock = some q → grow F w w2 q := fun q hq => hst4.foot q hq
  have K07 : Keep F w w7 := ((K02.trans K24 (fun _ _ e => e.elim)).trans K5 (fun i hi e => (hvF i e).elim id (fun e => by have := e.1; omega))).trans KR (fun i hi e => by unfold Only at e; subst e; exact HH.out.here)
  have hg7 : ∀ q, grow F w w2 q → grow F w w7 q := fun q hq => hq.imp id (fun e => ⟨e.1, by have := e.2; omega⟩)
  have hl7 : Lt (grow F w w7) w7 := grow_lt HH.out.lt K07.size
  refine ⟨rfl, ⟨vl, v8, hl7, .inl HH.out.here, X7, ?_, ?_, ?_, ?_⟩, K07⟩
  ·exact ((H4.dev.other hst4 K5).apartR hB5 KR).mono hg7 hl7
  ·exact ((H4.l.other hst4 H4.ne K5).stay hB5 (by decide) (by decide) KR).mono hg7
  ·refine (HR5.stay hB5 (by decide) (by decide) KR).mono (fun q hq => ?_)
   rcases hq with hq | hq | hq
   ·exact hg7 q hq
   ·exact .inr ⟨by have := hq.1; omega, by have := hq.2; omega⟩
   ·exact .inr ⟨by have := hq.1; omega, by have := hq.2; omega⟩
  ·intro q h1 h2
   rcases hv8 q h2 with h3 | h3
   ·exact H4.ne q h1 h3
   ·have := H4.l.ownlt q h1; omega
 ·have hst' : S.stage b = ({ S with D := D2 }, n2) := by rw [Hst.out, if_neg hz]
  have Hst' := hid hst'
  have hbz : (n2 == 0) = false := by simpa using hz
  have H3' := hid H3
  clear H3 hst'
  go_wp2_with fail
  go_ret
  rw [Hst'.out]
  exact ⟨rfl, ⟨_, _, H3'.out⟩, K02⟩
end Go.Proofs.Ytffcglfepobdjaa
set_option maxRecDepth 10000
set_option maxHeartbeats 1500000
namespace Go.Proofs.Ytffcglfepobdjaa
open Go.RowKit
section
variable {P : Program} {ops : Array Oper} {S : World → Prop} {md : Region.Mode}
def ordFB (md : Region.Mode) (ops : Array Oper) (n i j : Nat) (R1 R2 : List (Nat × Bool)) : List (Nat × Bool) → Array Bool → Bool
 | [], listed => decide (Region.ready md ops listed = [i, j]) && decide (i < n) && decide (j < n) && !R1.isEmpty && !R2.isEmpty && ordLB md ops n R1 (listed.setIfInBounds i true) && ordLB md ops n R2 (listed.setIfInBounds j true)
 | (k, true) :: r, listed => decide (k < n) && (Region.ready md ops listed).contains k && Region.free md ops listed k && ordFB md ops n i j R1 R2 r (listed.setIfInBounds k true)
 | (k, false) :: r, listed => false
theorem wpOrdF_sound {Q : Act → World → Prop} {n i j : Nat} {R1 R2 : List (Nat × Bool)} (hlen : R1.length = R2.length) (hsel : Region.noSelect ops = true) (hs : Region.sinkB md ops n = true) (hc : Region.chainB md ops n = true) (hn : n < ops.size) :
  ∀ (ord : List (Nat × Bool)) (listed : Array Bool) (a : Act) (w : World), HeadInv md ops n listed → ordFB md ops n i j R1 R2 ord listed = true → S w →
  wpOrdL P ops (fun a w => wpOrdL P ops Q S ((i, false) :: R1) a w ∧ wpOrdL P ops Q S ((j, false) :: R2) a w) S ord a w → wpAnyK P md ops (Qn Q) S n (ord.length + (R1.length + 1)) listed a w
 | [], listed, a, w, inv, hB, hS, h => by
  simp only [ordFB, Bool.and_eq_true, decide_eq_true_eq, Bool.not_eq_true'] at hB
  obtain ⟨⟨⟨⟨⟨⟨hr, hi⟩, hj⟩, e1⟩, e2⟩, hB1⟩, hB2⟩ := hB
  have ne1 : R1 ≠ [] := fun e => by rw [e] at e1; cases e1
  have ne2 : R2 ≠ [] := fun e => by rw [e] at e2; cases e2
  rw [List.length_nil, Nat.zero_add]
  refine ⟨fun h0 => (by rw [hr] at h0; cases h0), fun k hk => ?_⟩
  have hk' := hk
  rw [hr] at hk
  simp only [List.mem_cons, List.not_mem_nil, or_false] at hk
  rcases hk with rfl | rfl
  ·refine wpOp_mono (fun a' w' h' => ?_) h.1
   have hS' := h'.1.resolve_left ne1
   exact ⟨.inr hS', wpOrdL_sound hsel hs hc hn R1 _ a' w' (fun _ => inv.set hk' hi) hB1 (fun _ => hS') h'.2⟩
  ·refine wpOp_mono (fun a' w' h' => ?_) h.2
   have hS' := h'.1.resolve_left ne2
   rw [hlen]
   exact ⟨.inr hS', wpOrdL_sound hsel hs hc hn R2 _ a' w' (fun _ => inv.set hk' hj) hB2 (fun _ => hS') h'.2⟩
 | (k, true) :: r, listed, a, w, inv, hB, hS, h => by
  obtain ⟨o, v, hi, hy, h'⟩ := h
  simp only [ordFB, Bool.and_eq_true, decide_eq_true_eq] at hB
  obtain ⟨⟨⟨hin, hr⟩, hf⟩, hB⟩ := hB
  have hr' : k ∈ Region.ready md ops listed := by simpa using hr
  rw [show ((k, true) :: r).length + (R1.length + 1) = (r.length + (R1.length + 1)) + 1 by simp only [List.length_cons]; omega]
  exact wpAnyK_first hi (Region.noSelect_spec hsel) (fun _ _ _ h => h.elim) hs hc hn hin _ listed a w inv (Region.free_spec hi hf) hr' hy hS
   (wpOrdF_sound hlen hsel hs hc hn r _ _ _ (inv.set hr' hin) hB hS h')
 | (k, false) :: r, listed, a, w, inv, hB, hS, h => by cases hB
theorem wpOrdL_monoT {Q Q' : Act → World → Prop} : ∀ (ord : List (Nat × Bool)) (a : Act) (w : World), (∀ a w, Q a w → Q' a w) → wpOrdL P ops Q S ord a w → wpOrdL P ops Q' S ord a w
 | [], a, w, hq, h => hq a w h
 | (i, true) :: r, a, w, hq, h => by obtain ⟨o, v, e1, e2, e3⟩ := h; exact ⟨o, v, e1, e2, wpOrdL_monoT r _ _ hq e3⟩
 | (i, false) :: r, a, w, hq, h => wpOpQn (fun a' w' h' => ⟨h'.1, wpOrdL_monoT r a' w' hq h'.2⟩) h
/-- The last operation waits for all others; two come up at once. -/
theorem wp_region_ordF {id : Nat} {Q : Exit → Act → World → Prop} {a : Act} {w : World} {l : List Oper} (A : List (Nat × Bool)) (i j : Nat) (R1 R2 : List (Nat × Bool)) (S : World → Prop) (hm : P.follows .mixedOrders = true)
  (hB : (decide (A.length + (R1.length + 1) = l.length) && decide (R1.length = R2.length) && Region.noSelect l.toArray && decide (l.length - 1 < l.toArray.size) && Region.sinkB .any l.toArray (l.length - 1) && Region.chainB .any l.toArray (l.length - 1) && ordFB .any l.toArray (l.length - 1) i j R1 R2 A (Array.replicate l.toArray.size false) && A.all (fun p => decide (p.1 < l.length)) && ((i, false) :: R1).all (fun p => decide (p.1 < l.length)) && ((j, false) :: R2).all (fun p => decide (p.1 < l.length))) = true) (hS : S w.drew)
  (h : wpO P l.toArray (fun a1 w1 => wpO P l.toArray (fun a' w' => Q .normal a' w') S (((i, false) :: R1).map fun p => ((l[p.1]?).getD default, p.2)) a1 w1 ∧ wpO P l.toArray (fun a' w' => Q .normal a' w') S (((j, false) :: R2).map fun p => ((l[p.1]?).getD default, p.2)) a1 w1) S (A.map fun p => ((l[p.1]?).getD default, p.2)) a w.drew) : (Code.region id l.toArray true).wp P Q a w := by
 simp only [Bool.and_eq_true, decide_eq_true_eq] at hB
 obtain ⟨⟨⟨⟨⟨⟨⟨⟨⟨h1, h0⟩, h2⟩, h3⟩, h4⟩, h5⟩, h6⟩, h7⟩, h8⟩, h9⟩ := hB
 rw [List.all_eq_true] at h7 h8 h9
 simp only [decide_eq_true_eq] at h7 h8 h9
 refine wp_mono (Q := Qn (fun a' w' => Q .normal a' w')) (wp_region_any hm ?_) (fun e a w h => by cases e <;> first | exact h | exact h.elim)
 have inv0 : HeadInv .any l.toArray (l.length - 1) (Array.replicate l.toArray.size false) :=
  ⟨by simp, fun j oj _ hl => (by rw [getD_replicate_false] at hl; cases hl), fun t _ ht => getD_in (by simpa using ht) (getD_replicate_false _ _)⟩
 have h' := wpOrdL_of_O (ops := l.toArray) A a w.drew (fun p hp => by simpa using h7 p hp) (by simpa using h)
 have h'' := wpOrdL_monoT (Q' := fun a1 w1 => wpOrdL P l.toArray (fun a' w' => Q .normal a' w') S ((i, false) :: R1) a1 w1 ∧ wpOrdL P l.toArray (fun a' w' => Q .normal a' w') S ((j, false) :: R2) a1 w1) A a w.drew (fun a1 w1 hq =>
  ⟨wpOrdL_of_O (ops := l.toArray) _ a1 w1 (fun p hp => by simpa using h8 p hp) (by simpa using hq.1), wpOrdL_of_O (ops := l.toArray) _ a1 w1 (fun p hp => by simpa using h9 p hp) (by simpa using hq.2)⟩) h'
 have := wpAny_of_K _ _ _ _ (wpOrdF_sound (md := .any) h0 h2 h4 h5 h3 A _ a w.drew inv0 h6 hS h'')
 rw [h1] at this
 simpa using this
end
theorem wpO_alloc_v {P : Program} {ops : Array Oper} {Q : Act → World → Prop} {S : World → Prop} {r : List (Oper × Bool)} {o : Oper} {a : Act} {w : World} (hg : Region.wanted o (yielded ops a.tmps) = true) (t : TypeId) (ho : o.op = .alloc t) (z : Value) {size bytes : Nat} (hz : (P.info? t).map (fun i => (i.zero, i.size, i.bytes)) = some (some z, size, bytes)) (zs : List Value) (hzs : z.cells = zs.toArray)
  (h : ∀ b w1, w.heap.size ≤ b → BlockIs w1 b zs t → Keep Noth w w1 → (r = [] ∨ S w1) ∧ wpO P ops Q S r (a.put o.dst (.pointer (some ⟨b, 0, none⟩))) w1) : wpO P ops Q S ((o, false) :: r) a w := by
 have := h _ _ (Nat.le_refl _) (BlockIs.new w zs t) ((Keep.refl _ _).alloc _)
 refine wpO_run hg (v := .pointer (some ⟨w.heap.size, 0, none⟩)) (w1 := w.alloc (.cells zs.toArray t)) ?_ this.1 this.2
 cases hq : P.info? t with
 | none => simp [hq] at hz
 | some i =>
  have hi : i.zero = some z := by simp [hq] at hz; exact hz.1
  simp [execOp, ho, Instr.alloc, zeroValue, typeInfo, hq, hi, newVar, newRow, hzs, Result.andThen]
end Go.Proofs.Ytffcglfepobdjaa
set_option maxRecDepth 100000
set_option maxHeartbeats 2000000
namespace Go.Proofs.Ytffcglfepobdjaa
open Go.RowKit
theorem info33s : ∃ i, Try.prog.info? 33 = some i ∧ i.zero = some (.slice none 0 0) ∧ i.size = 1 ∧ i.bytes = 24 := by
 have h := info33
 cases hq : Try.prog.info? 33 with
 | none => rw [hq] at h; cases h
 | some i =>
  rw [hq] at h
  simp only [Option.map_some, Option.some.injEq, Prod.mk.injEq] at h
  exact ⟨i, rfl, h.1, h.2.1, h.2.2⟩
theorem zeroCells_size (n : Nat) : (Builtin.zeroCells (Value.slice none 0 0).cells n).size = n := by
 simp [Builtin.zeroCells, Value.cells]
/-- Grow of nothing: a new row, empty, that has room. -/
theorem growN_calls (w : World) (n : Nat) (h0 : 0 < n) (hn : n ≤ 1099511627776) :
  Calls Try.prog 95 #[.slice none 0 0, .int .i64 (n : Int)] w (fun e w' => ∃ v, e = .returned v ∧ Rows w' (Fresh w w') 33 1 v [] ∧ Keep Noth w w') := by
 obtain ⟨i, hi, hz, hs, hb⟩ := info33s
 have hrz := fun ty => Lib.run_append_nil_zeros w 63 3 ty 33 i (.slice none 0 0) .i64 .i64 sl63 Try.underlying3 hi hz n h0 (by omega) (by omega) (by rw [hb]; omega)
 have hG := grownCap_ge w n 0 33
 have hGm := grownCap_le_maxLen w n 0 33 (by unfold maxLen; omega)
 obtain ⟨G, hGG⟩ : ∃ G, G = grownCap w n 0 33 := ⟨_, rfl⟩
 rw [← hGG] at hrz hG hGm
 have hG63 : G ≤ 9223372036854775807 := by unfold maxLen at hGm; omega
 have hsz : (Builtin.zeroCells (Value.slice none 0 0).cells n ++ Builtin.zeroCells (Value.slice none 0 0).cells (G - n)).size = G * 1 := by
  rw [Array.size_append, zeroCells_size, zeroCells_size]; omega
 have hfin : ∀ cur : Array Value, cur.size = G * 1 → Rows (w.drew.alloc (.cells cur 33)) (Fresh w (w.drew.alloc (.cells cur 33))) 33 1 (.slice (some ⟨w.heap.size, 0, none⟩) 0 G) [] := fun cur hc =>
  ⟨World.ownsRow_made w.drew cur G (Nat.zero_le _) hGm hc, by simp, fun q hq => by
   simp only [Value.ownBlock, Option.some.injEq] at hq
   subst hq
   exact ⟨Nat.le_refl _, (Array.getElem?_eq_some_iff.1 (heap_alloc_new w.drew _)).1⟩⟩
 generalize Builtin.zeroCells (Value.slice none 0 0).cells n ++ Builtin.zeroCells (Value.slice none 0 0).cells (G - n) = cur at *
 have hF := hid (hfin cur hsz)
 have h1 : ¬ ((n : Int) < 0) := by omega
 have h3 : wrap64 ((n : Int) - 0) = (n : Int) := by unfold wrap64; omega
 have h3' : wrap64 (n : Int) = (n : Int) := by unfold wrap64; omega
 have h4 : (n : Int) > 0 := by omega
 clear hfin hsz hGG hi hz hs hb hn
 go_enter Try.func95, Try.ntmps95
 go_wp2_with (at_builtin; refine Lib.wpList_append_run _ rfl _ _ _ _ rfl _ _ rfl rfl _ _ (hrz _) ?_)
 go_ret
 exact ⟨_, rfl, hF.out, (Keep.refl _ _).drew.alloc _⟩
def twoParts (a b : List (List Value)) : Nat → List (List Value)
 | 0 => []
 | 1 => a
 | _ => a ++ b
theorem recs_ones {w : World} {F : Nat → Prop} {es : List (Value × List UInt8)} (h : ∀ e ∈ es, Bytes w F e.1 e.2) : ∀ u ∈ (es.map fun e => [e.1]).flatten, u.oneCell' = true := by
 intro u hu
 simp only [List.mem_flatten, List.mem_map] at hu
 obtain ⟨x, ⟨e, he, rfl⟩, hx⟩ := hu
 rw [List.mem_singleton.1 hx]
 exact (h e he).one_val.1
/-- Concat of two rows of records. -/
theorem concat_calls {w : World} {F : Nat → Prop} {b : Nat} {v1 v2 : Value} {l1 l2 : List (List UInt8)} (B : BlockIs w b [v1, v2] 63) (hh1 : Recs w F v1 l1) (hh2 : Recs w F v2 l2) (hn : l1.length + l2.length ≤ 1099511627776) (h0 : 0 < l1.length + l2.length) :
  Calls Try.prog 76 #[.slice (some ⟨b, 0, none⟩) 2 2] w (fun e w' => ∃ v', e = .returned v' ∧ Recs w' (grow F w w') v' (l1 ++ l2) ∧ Keep Noth w w') := by
 obtain ⟨es1, rfl, R1, E1⟩ := hh1
 obtain ⟨es2, rfl, R2, E2⟩ := hh2
 obtain ⟨A1, c1, rfl⟩ := R1.valm
 obtain ⟨A2, c2, rfl⟩ := R2.valm
 rw [List.length_map, List.length_map] at hn h0
 have hc0 : w.cell? ⟨b, 0, none⟩ = some (.slice A1 es1.length c1) := B.cell 0
 have hc1 : w.cell? ⟨b, 1, none⟩ = some (.slice A2 es2.length c2) := B.cell 1
 have hf0 := B.frozen 0
 have hf1 := B.frozen 1
 have i0 : wrap64 (0 + (es1.length : Int)) = es1.length := by unfold wrap64; omega
 have i1 : wrap64 ((es1.length : Int) + es2.length) = ((es1.length : Int) + es2.length) := by unfold wrap64; omega
 have j0 : ¬ ((es1.length : Int) < 0) := by omega
 have j1 : ¬ ((es1.length : Int) + es2.length < 0) := by omega
 have hg := growN_calls w (es1.length + es2.length) h0 hn
 rw [Int.natCast_add] at hg
 have HB := hid B
 have HR1 := hid R1
 have HR2 := hid R2
 have HE1 := hid E1
 have HE2 := hid E2
 clear B R1 R2 E1 E2
 go_enter Try.func76, Try.ntmps76
 go_wp2_with fail
 go_loopw [11, 3] (fun i s wr => ((i = .int .i64 0 ∧ s = .int .i64 0) ∨ (i = .int .i64 1 ∧ s = .int .i64 (es1.length : Int)) ∨ (i = .int .i64 2 ∧ s = .int .i64 ((es1.length : Int) + es2.length))) ∧ w = wr) (fun i _ _ => 2 - (intOf i).toNat)
 case atStart => exact ⟨.inl ⟨rfl, rfl⟩, rfl⟩
 case round =>
  obtain ⟨hd, rfl⟩ := hrel
  rcases hd with ⟨rfl, rfl⟩ | ⟨rfl, rfl⟩ | ⟨rfl, rfl⟩
  ·go_wp2_with fail
   go_roundw
   case rel => exact ⟨.inr (.inl ⟨rfl, rfl⟩), trivial⟩
   case measure => decide
  ·go_wp2_with fail
   go_roundw
   case rel => exact ⟨.inr (.inr ⟨rfl, rfl⟩), trivial⟩
   case measure => decide
  ·go_wp2_with fail
   refine hg.mono ?_
   rintro e w1 ⟨v, rfl, RV, K1⟩
   have c0 := K1.cellAt (q := b) id hc0
   have c1' := K1.cellAt (q := b) id hc1
   clear hg hc0 hc1 hf0 hf1 i0 i1 j0 j1
   go_wp2_with fail
   go_loopw [27, 6] (fun i v wr => ∃ k : Nat, i = .int .i64 k ∧ k ≤ 2 ∧ Rows wr (Fresh w wr) 33 1 v (twoParts (es1.map (fun e => [e.1])) (es2.map (fun e => [e.1])) k) ∧ Keep Noth w wr) (fun i _ _ => 2 - (intOf i).toNat)
   case atStart => exact ⟨0, rfl, by omega, RV, K1⟩
   case round =>
    obtain ⟨k, rfl, hk, HR, HK⟩ := hrel
    have HBr := HB.out.keep HK id
    have c0 := HBr.cell 0
    have c1' := HBr.cell 1
    simp only [List.getElem?_cons_zero, List.getElem?_cons_succ] at c0 c1'
    have X1 := HR1.out.keep HK (Dj.noth _)
    have X2 := HR2.out.keep HK (Dj.noth _)
    have Y1 := hid (recs_ones HE1.out)
    have Y2 := hid (recs_ones HE2.out)
    have HX1 := hid X1
    have HX2 := hid X2
    clear X1 X2 HBr
    rcases (show k = 0 ∨ k = 1 ∨ k = 2 by omega) with rfl | rfl | rfl
    ·have HR' := hid HR
     clear HR
     go_wp2_with (at_builtin; refine wpList_append_rows rfl _ _ 63 rfl 33 (.slice none 0 0) 1 24 sl63 info33 rfl (by decide) (by decide) (Fresh w wr) _ _ (es1.map fun e => [e.1]) (by rfl) HR'.out A1 es1.length c1 (by rfl) (by rw [List.length_map]) HX1.out.none_cap HX1.out.each (rd_of_own HX1.out) Y1.out (by rw [twoParts, List.length_nil]; omega) ?_; intro v3 w3 HR3 K3)
     have hs3 := K3.size
     go_roundw
     case rel => exact ⟨1, by rfl, by omega, HR3.mono (fun q hq => hq.elim (fun e => ⟨(HR'.out.foot q e).1, by have := (HR'.out.foot q e).2; omega⟩) (fun e => ⟨by have := HK.size; omega, e.2⟩)), HK.own K3 (fun q e => (HR'.out.foot q e).1)⟩
     case measure => decide
    ·have HR' := hid HR
     clear HR
     go_wp2_with (at_builtin; refine wpList_append_rows rfl _ _ 63 rfl 33 (.slice none 0 0) 1 24 sl63 info33 rfl (by decide) (by decide) (Fresh w wr) _ _ (es2.map fun e => [e.1]) (by rfl) HR'.out A2 es2.length c2 (by rfl) (by rw [List.length_map]) HX2.out.none_cap HX2.out.each (rd_of_own HX2.out) Y2.out (by rw [twoParts, List.length_map]; omega) ?_; intro v3 w3 HR3 K3)
     have hs3 := K3.size
     go_roundw
     case rel => exact ⟨2, by rfl, by omega, HR3.mono (fun q hq => hq.elim (fun e => ⟨(HR'.out.foot q e).1, by have := (HR'.out.foot q e).2; omega⟩) (fun e => ⟨by have := HK.size; omega, e.2⟩)), HK.own K3 (fun q e => (HR'.out.foot q e).1)⟩
     case measure => decide
    ·have HR' := hid HR
     clear HR
     go_wp2_with fail
     go_ret
     refine ⟨_, rfl, ⟨es1 ++ es2, by rw [List.map_append], by rw [List.map_append]; exact HR'.out.mono (fun q hq => .inr hq), fun e he => ?_⟩, HK⟩
     rcases List.mem_append.1 he with he | he
     ·exact ((HE1.out e he).keep HK (Dj.noth _)).mono (fun q hq => .inl hq)
     ·exact ((HE2.out e he).keep HK (Dj.noth _)).mono (fun q hq => .inl hq)
theorem sl148 : Try.prog.underlying 148 = some (.slice 63) := by kernel_rfl
theorem grow_grow {F : Nat → Prop} {w w1 w2 : World} (h1 : w.heap.size ≤ w1.heap.size) (h2 : w1.heap.size ≤ w2.heap.size) : ∀ q, grow (grow F w w1) w1 w2 q → grow F w w2 q := fun q hq => by
 rcases hq with (hq | hq) | hq
 ·exact .inl hq
 ·exact .inr ⟨hq.1, by have := hq.2; omega⟩
 ·exact .inr ⟨by have := hq.1; omega, hq.2⟩
theorem RollIs.grown {w w1 w2 : World} {F : Nat → Prop} {g r : Nat} {S : RS} (h : RollIs w2 (grow (grow F w w1) w1 w2) g r S) (hl : Lt F w) (h1 : w.heap.size ≤ w1.heap.size) (h2 : w1.heap.size ≤ w2.heap.size) : RollIs w2 (grow F w w2) g r S :=
 h.mono (grow_grow h1 h2) (grow_lt hl (Nat.le_trans h1 h2))
theorem Keep.grown2 {F : Nat → Prop} {w w1 w2 : World} (k1 : Keep Noth w w1) (k2 : Keep (grow F w w1) w1 w2) : Keep F w w2 :=
 (k1.mono (fun _ _ e => e.elim)).trans k2 (fun i hi e => e.elim id (fun e => by have := e.1; omega))
def RS.sealHd (S : RS) : Hd := ⟨nextF S.D, S.own.area, S.own.used + S.more, S.l.length + S.st.length⟩
def RS.sealz (S : RS) : RS × Int :=
 if S.st = [] then (S, 0) else if S.D.down = true then (S, 100) else if 1099511627776 ≤ nextF S.D then (S, 111)
 else S.turns S.sealHd (S.l ++ S.st)
theorem seal_calls {w : World} {F : Nat → Prop} {g r : Nat} {vl vs : Value} {S : RS} (H : RollAt w F g r vl vs S) (hok : S.ok) (ho : S.D.ops ≤ 1000000000) (hrow : S.D.row.length ≤ 1000000000) :
  Calls Try.prog 46 #[.pointer (some ⟨r, 0, none⟩)] w (fun e w' => e = .returned (.int .i64 (S.sealz).2) ∧ RollIs w' (grow F w w') g r (S.sealz).1 ∧ Keep F w w') := by
 have same : RollIs w (grow F w w) g r S := ⟨_, _, H.mono (fun q hq => .inl hq) (grow_lt H.lt (Nat.le_refl _))⟩
 obtain ⟨A1, c1, rfl⟩ := H.l.val
 obtain ⟨A2, c2, rfl⟩ := H.st.val
 have c7 : w.cell? ⟨r, 7, none⟩ = some (.slice A2 S.st.length c2) := H.blk.cell 7
 have c0 : w.cell? ⟨r, 0, none⟩ = some (.pointer (some ⟨g, 0, none⟩)) := H.blk.cell 0
 by_cases hst : S.st = []
 ·have hs : S.sealz = (S, 0) := by unfold RS.sealz; rw [if_pos hst]
  have hl0 : ((S.st.length : Nat) : Int) = 0 := by rw [hst]; rfl
  rw [hs]
  have Hs := hid same
  clear hs hst same H c0
  go_enter Try.func46, Try.ntmps46
  go_wp2_with fail
  go_ret
  exact ⟨rfl, Hs.out, Keep.refl _ _⟩
 have hpos : 0 < S.st.length := List.length_pos_iff.2 hst
 have hl0 : ¬ (((S.st.length : Nat) : Int) = 0) := by omega
 obtain ⟨da, db, hDv⟩ := H.dev
 have hdw := down_calls hDv
 by_cases hd : S.D.down = true
 ·have hs : S.sealz = (S, 100) := by unfold RS.sealz; rw [if_neg hst, if_pos hd]
  rw [hs]
  rw [hd] at hdw
  have Hs := hid same
  clear hs hst same H hDv
  go_enter Try.func46, Try.ntmps46
  go_wp2_with fail
  refine hdw.mono ?_
  rintro e w' ⟨rfl, rfl⟩
  go_wp2_with fail
  go_ret
  exact ⟨rfl, Hs.out, Keep.refl _ _⟩
 have hd : S.D.down = false := by simpa using hd
 rw [hd] at hdw
 have Hst := hid hst
 have Hd := hid hd
 have Hpos := hid hpos
 have HH := hid H
 have Hok := hid hok
 have Ho := hid ho
 have Hr := hid hrow
 have hB := H.blk
 have hnx : ∀ W, Keep Noth w W → Calls Try.prog 71 #[.pointer (some ⟨r, 0, none⟩)] W (fun e w' => e = .returned (.int .u64 (nextF S.D : Int)) ∧ Keep Noth W w') := fun W hW => next_calls (HH.out.keep hW (Dj.noth _)) Hok.out Hd.out (by have := Hr.out; omega)
 have hus := hok.used
 have hmost := hok.dok.most
 have hhf : S.D.half * 2 ≤ S.D.l.length := by unfold DS.half; omega
 have q1 : IntKind.i64.wrap ((S.own.used : Int) + S.more) = ((S.own.used + S.more : Nat) : Int) := by rw [← Int.natCast_add]; exact wrapN (by omega)
 have q2 : IntKind.i64.wrap ((S.l.length : Int) + S.st.length) = ((S.l.length + S.st.length : Nat) : Int) := by rw [← Int.natCast_add]; exact wrapN (by have := hok.ll; have := hok.stl; omega)
 have Hnx := hid hnx
 clear same hst hd hpos H hok ho hrow hnx hDv hus hmost hhf
 go_enter Try.func46, Try.ntmps46
 go_wp2_with fail
 refine hdw.mono ?_
 rintro e w' ⟨rfl, rfl⟩
 clear hdw
 go_wp2_with fail
 clear c0 c7
 refine wp_region_ordF [(0, true), (2, true), (3, true), (4, true), (5, true), (6, true), (7, true), (8, true), (9, true), (10, true), (11, true), (12, true), (13, true), (14, true), (15, true), (16, true), (17, true), (18, true), (19, true), (20, true), (21, true), (22, true), (23, true), (24, true), (25, true), (26, true), (27, true)] 1 29 [(28, true), (29, false), (30, false)] [(1, false), (28, true), (30, false)] (fun w' => BlockIs w' r (rollCells g S (.slice A1 S.l.length c1) (.slice A2 S.st.length c2)) 114) follows_mixed (by kernel_rfl) hB.drew ?_
 simp only [List.map_cons, List.map_nil, List.getElem?_cons_succ, List.getElem?_cons_zero, Option.getD_some]
 refine wpO_pure (v := .pointer (some ⟨r, 0, none⟩)) (by rfl) (fun w' hw' => by go_simp) ?_
 go_frame
 refine wpO_pure (v := .pointer (some ⟨r, 0, none⟩)) (by rfl) (fun w' hw' => by go_simp) ?_
 go_frame
 refine wpO_pure (v := .pointer (some ⟨r, 0, none⟩)) (by rfl) (fun w' hw' => by go_simp) ?_
 go_frame
 refine wpO_pure (v := .pointer (some ⟨r, 1, none⟩)) (by rfl) (fun w' hw' => by go_simp) ?_
 go_frame
 refine wpO_pure (v := .pointer (some ⟨r, 2, none⟩)) (by rfl) (fun w' hw' => by go_simp) ?_
 go_frame
 refine wpO_pure (v := .int .i64 (S.own.area : Int)) (by rfl) (fun w' hw' => by have hc : w'.cell? ⟨r, 2, none⟩ = some (.int .i64 (S.own.area : Int)) := hw'.cell 2; go_simp) ?_
 go_frame
 refine wpO_pure (v := .pointer (some ⟨r, 0, none⟩)) (by rfl) (fun w' hw' => by go_simp) ?_
 go_frame
 refine wpO_pure (v := .pointer (some ⟨r, 0, none⟩)) (by rfl) (fun w' hw' => by go_simp) ?_
 go_frame
 refine wpO_pure (v := .pointer (some ⟨r, 1, none⟩)) (by rfl) (fun w' hw' => by go_simp) ?_
 go_frame
 refine wpO_pure (v := .pointer (some ⟨r, 3, none⟩)) (by rfl) (fun w' hw' => by go_simp) ?_
 go_frame
 refine wpO_pure (v := .int .i64 (S.own.used : Int)) (by rfl) (fun w' hw' => by have hc : w'.cell? ⟨r, 3, none⟩ = some (.int .i64 (S.own.used : Int)) := hw'.cell 3; go_simp) ?_
 go_frame
 refine wpO_pure (v := .pointer (some ⟨r, 0, none⟩)) (by rfl) (fun w' hw' => by go_simp) ?_
 go_frame
 refine wpO_pure (v := .pointer (some ⟨r, 0, none⟩)) (by rfl) (fun w' hw' => by go_simp) ?_
 go_frame
 refine wpO_pure (v := .pointer (some ⟨r, 8, none⟩)) (by rfl) (fun w' hw' => by go_simp) ?_
 go_frame
 refine wpO_pure (v := .int .i64 (S.more : Int)) (by rfl) (fun w' hw' => by have hc : w'.cell? ⟨r, 8, none⟩ = some (.int .i64 (S.more : Int)) := hw'.cell 8; go_simp) ?_
 go_frame
 refine wpO_pure (v := .int .i64 ((S.own.used + S.more : Nat) : Int)) (by rfl) (fun w' hw' => by go_simp) ?_
 go_frame
 refine wpO_pure (v := .pointer (some ⟨r, 0, none⟩)) (by rfl) (fun w' hw' => by go_simp) ?_
 go_frame
 refine wpO_pure (v := .pointer (some ⟨r, 0, none⟩)) (by rfl) (fun w' hw' => by go_simp) ?_
 go_frame
 refine wpO_pure (v := .pointer (some ⟨r, 6, none⟩)) (by rfl) (fun w' hw' => by go_simp) ?_
 go_frame
 refine wpO_pure (v := .slice A1 S.l.length c1) (by rfl) (fun w' hw' => by have hc : w'.cell? ⟨r, 6, none⟩ = some (.slice A1 S.l.length c1) := hw'.cell 6; go_simp) ?_
 go_frame
 refine wpO_pure (v := .int .i64 (S.l.length : Int)) (by rfl) (fun w' hw' => by go_simp) ?_
 go_frame
 refine wpO_pure (v := .pointer (some ⟨r, 0, none⟩)) (by rfl) (fun w' hw' => by go_simp) ?_
 go_frame
 refine wpO_pure (v := .pointer (some ⟨r, 0, none⟩)) (by rfl) (fun w' hw' => by go_simp) ?_
 go_frame
 refine wpO_pure (v := .pointer (some ⟨r, 7, none⟩)) (by rfl) (fun w' hw' => by go_simp) ?_
 go_frame
 refine wpO_pure (v := .slice A2 S.st.length c2) (by rfl) (fun w' hw' => by have hc : w'.cell? ⟨r, 7, none⟩ = some (.slice A2 S.st.length c2) := hw'.cell 7; go_simp) ?_
 go_frame
 refine wpO_pure (v := .int .i64 (S.st.length : Int)) (by rfl) (fun w' hw' => by go_simp) ?_
 go_frame
 refine wpO_pure (v := .int .i64 ((S.l.length + S.st.length : Nat) : Int)) (by rfl) (fun w' hw' => by go_simp) (wpO_nil ?_)
 go_frame
 clear q1 q2
 constructor
 ·refine wpO_call (by rfl) (exec_call' 71 _ _ rfl Try.func71 (by kernel_rfl) (by rfl) #[.pointer (some ⟨r, 0, none⟩)] (by simp [Act.eval])) ?_
  refine (Hnx.out _ (Keep.refl Noth w).drew).mono ?_
  rintro e w2 ⟨rfl, K2⟩
  refine ⟨_, rfl, .inr (hB.drew.keep K2 id), ?_⟩
  go_frame
  refine wpO_pure (v := .agg S.sealHd.cells.toArray) (by rfl) (fun w' hw' => by exact exec_build112 _ _ _ _ rfl _ _ _ _ (by rfl) (by rfl) (by rfl) (by rfl)) ?_
  go_frame
  refine wpO_alloc_v (by rfl) 112 rfl (.agg zhead.toArray) info112 zhead rfl ?_
  intro b3 w3 hb3 Bz K3
  refine ⟨.inr ((hB.drew.keep K2 id).keep K3 id), ?_⟩
  go_frame
  refine wpO_store_blk (by rfl) 112 _ _ rfl b3 _ S.sealHd.cells 112 (by rfl) (by rfl) Bz rfl info112 (hd_one _) ?_
  intro w4 B3 K4s
  refine ⟨.inl rfl, wpO_nil ?_⟩
  have hb3w : w.heap.size ≤ b3 := by have := K2.size; have e : w.drew.heap.size = w.heap.size := rfl; omega
  have K4 : Keep Noth w w4 := (((Keep.refl Noth w).drew.trans K2 (fun _ _ h => h)).trans K3 (fun _ _ h => h)).own K4s (fun q e => by unfold Only at e; subst e; exact hb3w)
  clear K2 K3 K4s Bz hB
  go_frame
  have hcn : w4.cell? ⟨b3, 0, none⟩ = some (.int .u64 (nextF S.D : Int)) := B3.cell 0
  by_cases hfar : 1099511627776 ≤ nextF S.D
  ·have hs : S.sealz = (S, 111) := by unfold RS.sealz; rw [if_neg Hst.out, if_neg (by rw [Hd.out]; decide), if_pos hfar]
   have hfar' : (nextF S.D : Int) ≥ 1099511627776 := by omega
   have HK4 := hid K4
   have Hs := hid hs
   clear hs hfar K4 B3
   go_wp2_with fail
   go_ret
   rw [Hs.out]
   exact ⟨rfl, ⟨_, _, (HH.out.keep HK4.out (Dj.noth _)).mono (fun q hq => .inl hq) (grow_lt HH.out.lt HK4.out.size)⟩, HK4.out.mono (fun _ _ e => e.elim)⟩
  have hs : S.sealz = S.turns S.sealHd (S.l ++ S.st) := by unfold RS.sealz; rw [if_neg Hst.out, if_neg (by rw [Hd.out]; decide), if_neg hfar]
  have hfar' : ¬ ((nextF S.D : Int) ≥ 1099511627776) := by omega
  have Hs := hid hs
  have H4 := HH.out.keep K4 (Dj.noth _)
  have hB4 := H4.blk
  have HK4 := hid K4
  have H4' := hid H4
  have Hfar := hid hfar
  clear hs hfar H4 K4
  go_wp2_with fail
  refine wp_region_ordT [(0, true), (1, true), (2, true), (3, true), (4, true), (5, true), (6, true), (7, true), (8, true), (9, true), (10, false), (11, false), (12, false)] 12 [13] (fun w' => BlockIs w' r (rollCells g S (.slice A1 S.l.length c1) (.slice A2 S.st.length c2)) 114 ∧ BlockIs w' b3 S.sealHd.cells 112) follows_mixed (by kernel_rfl) ⟨hB4.drew, B3.drew⟩ ?_
  simp only [List.map_cons, List.map_nil, List.getElem?_cons_succ, List.getElem?_cons_zero, Option.getD_some]
  refine wpO_pure (v := .pointer (some ⟨r, 0, none⟩)) (by rfl) (fun w' hw' => by go_simp) ?_
  go_frame
  refine wpO_pure (v := .agg S.sealHd.cells.toArray) (by rfl) (fun w' hw' => by exact exec_load_blk 112 _ rfl b3 0 S.sealHd.cells S.sealHd.cells 112 _ (by rfl) hw'.2 (part0 _) Try.underlying112 rfl info112) ?_
  go_frame
  refine wpO_pure (v := .pointer (some ⟨r, 0, none⟩)) (by rfl) (fun w' hw' => by go_simp) ?_
  go_frame
  refine wpO_pure (v := .pointer (some ⟨r, 0, none⟩)) (by rfl) (fun w' hw' => by go_simp) ?_
  go_frame
  refine wpO_pure (v := .pointer (some ⟨r, 6, none⟩)) (by rfl) (fun w' hw' => by go_simp) ?_
  go_frame
  refine wpO_pure (v := .slice A1 S.l.length c1) (by rfl) (fun w' hw' => by have hc : w'.cell? ⟨r, 6, none⟩ = some (.slice A1 S.l.length c1) := hw'.1.cell 6; go_simp) ?_
  go_frame
  refine wpO_pure (v := .pointer (some ⟨r, 0, none⟩)) (by rfl) (fun w' hw' => by go_simp) ?_
  go_frame
  refine wpO_pure (v := .pointer (some ⟨r, 0, none⟩)) (by rfl) (fun w' hw' => by go_simp) ?_
  go_frame
  refine wpO_pure (v := .pointer (some ⟨r, 7, none⟩)) (by rfl) (fun w' hw' => by go_simp) ?_
  go_frame
  refine wpO_pure (v := .slice A2 S.st.length c2) (by rfl) (fun w' hw' => by have hc : w'.cell? ⟨r, 7, none⟩ = some (.slice A2 S.st.length c2) := hw'.1.cell 7; go_simp) ?_
  go_frame
  refine wpO_sliceN (by rfl) 148 63 2 _ rfl sl148 info63 rfl [.slice A1 S.l.length c1, .slice A2 S.st.length c2] rfl (by decide) (by decide) (by simp [Act.eval]) (by intro v hv; simp at hv; rcases hv with rfl | rfl <;> rfl) ?_
  intro b5 w5 hb5 B5 K5
  have K45 : Keep Noth w4 w5 := (Keep.refl Noth w4).drew.trans K5 (fun _ _ h => h)
  have H5 := H4'.out.keep K45 (Dj.noth _)
  refine ⟨.inr ⟨H5.blk, B3.keep K45 id⟩, ?_⟩
  go_frame
  refine wpO_call (by rfl) (exec_call' 76 _ _ rfl Try.func76 (by kernel_rfl) (by rfl) #[.slice (some ⟨b5, 0, none⟩) 2 2] (by simp [Act.eval])) ?_
  refine (concat_calls B5 H5.l H5.st (by have := Hok.out.ll; have := Hok.out.stl; omega) (by have := Hpos.out; omega)).mono ?_
  rintro e w6 ⟨vn, rfl, HR6, K6⟩
  have H6 := H5.keep K6 (Dj.noth _)
  have H6' : RollAt w6 (grow F w5 w6) g r (.slice A1 S.l.length c1) (.slice A2 S.st.length c2) S := H6.mono (fun q hq => .inl hq) (grow_lt H5.lt K6.size)
  refine ⟨_, rfl, .inr ⟨H6.blk, (B3.keep K45 id).keep K6 id⟩, ?_⟩
  go_frame
  have hnx := nextF_le S.D
  have hus := Hok.out.used
  have hmost := Hok.out.dok.most
  have hhf : S.D.half * 2 ≤ S.D.l.length := by unfold DS.half; omega
  refine wpO_call (by rfl) (exec_call' 74 _ _ rfl Try.func74 (by kernel_rfl) (by rfl) #[.pointer (some ⟨r, 0, none⟩), .agg S.sealHd.cells.toArray, vn] (by simp [Act.eval])) ?_
  refine (turns_calls (h := S.sealHd) H6' Hok.out HR6 Ho.out Hr.out (by show nextF S.D < _; omega) (by show S.own.area ≤ _; have := Hok.out.area; omega) (by show S.own.used + S.more ≤ _; omega) (by show S.l.length + S.st.length ≤ _; have := Hok.out.ll; have := Hok.out.stl; omega)).mono ?_
  rintro e w7 ⟨rfl, HR7, K7⟩
  have K06 : Keep Noth w w6 := (HK4.out.trans K45 (fun _ _ h => h)).trans K6 (fun _ _ h => h)
  have K5s := (HK4.out.trans K45 (fun _ _ h => h)).size
  have HR7' : RollIs w7 (grow (grow F w w6) w6 w7) g r (S.turns S.sealHd (S.l ++ S.st)).1 := HR7.mono (fun q hq => by
   rcases hq with (hq | hq) | hq
   ·exact .inl (.inl hq)
   ·exact .inl (.inr ⟨by have := hq.1; omega, hq.2⟩)
   ·exact .inr hq) (fun q hq => by
   have := K7.size
   rcases hq with (hq | hq) | hq
   ·have := HH.out.lt q hq; have := K06.size; omega
   ·have := hq.2; omega
   ·exact hq.2)
  have K7' : Keep (grow F w w6) w6 w7 := K7.mono (fun q _ hq => hq.imp id (fun e => ⟨by have := e.1; omega, e.2⟩))
  clear K7 HR7 H6' HR6 H6 H5
  refine ⟨_, rfl, .inl rfl, wpO_nil ?_⟩
  go_frame
  refine wpO_run (v := .int .i64 (S.turns S.sealHd (S.l ++ S.st)).2) (w1 := w7) (by rfl) (by go_simp) (.inl rfl) (wpO_nil ?_)
  go_frame
  go_wp2_with fail
  go_ret
  rw [Hs.out]
  exact ⟨rfl, HR7'.grown HH.out.lt K06.size K7'.size, Keep.grown2 K06 K7'⟩
 ·refine wpO_alloc_v (by rfl) 112 rfl (.agg zhead.toArray) info112 zhead rfl ?_
  intro b3 w3 hb3 Bz K3
  have K03 : Keep Noth w w3 := (Keep.refl Noth w).drew.trans K3 (fun _ _ h => h)
  refine ⟨.inr (hB.keep K03 id), ?_⟩
  go_frame
  refine wpO_call (by rfl) (exec_call' 71 _ _ rfl Try.func71 (by kernel_rfl) (by rfl) #[.pointer (some ⟨r, 0, none⟩)] (by simp [Act.eval])) ?_
  refine (Hnx.out _ K03).mono ?_
  rintro e w2 ⟨rfl, K2⟩
  refine ⟨_, rfl, .inr ((hB.keep K03 id).keep K2 id), ?_⟩
  go_frame
  refine wpO_pure (v := .agg S.sealHd.cells.toArray) (by rfl) (fun w' hw' => by exact exec_build112 _ _ _ _ rfl _ _ _ _ (by rfl) (by rfl) (by rfl) (by rfl)) ?_
  go_frame
  refine wpO_store_blk (by rfl) 112 _ _ rfl b3 _ S.sealHd.cells 112 (by rfl) (by rfl) (Bz.keep K2 id) rfl info112 (hd_one _) ?_
  intro w4 B3 K4s
  refine ⟨.inl rfl, wpO_nil ?_⟩
  have K4 : Keep Noth w w4 := (K03.trans K2 (fun _ _ h => h)).own K4s (fun q e => by unfold Only at e; subst e; exact hb3)
  clear K2 K3 K03 K4s Bz hB
  go_frame
  have hcn : w4.cell? ⟨b3, 0, none⟩ = some (.int .u64 (nextF S.D : Int)) := B3.cell 0
  by_cases hfar : 1099511627776 ≤ nextF S.D
  ·have hs : S.sealz = (S, 111) := by unfold RS.sealz; rw [if_neg Hst.out, if_neg (by rw [Hd.out]; decide), if_pos hfar]
   have hfar' : (nextF S.D : Int) ≥ 1099511627776 := by omega
   have HK4 := hid K4
   have Hs := hid hs
   clear hs hfar K4 B3
   go_wp2_with fail
   go_ret
   rw [Hs.out]
   exact ⟨rfl, ⟨_, _, (HH.out.keep HK4.out (Dj.noth _)).mono (fun q hq => .inl hq) (grow_lt HH.out.lt HK4.out.size)⟩, HK4.out.mono (fun _ _ e => e.elim)⟩
  have hs : S.sealz = S.turns S.sealHd (S.l ++ S.st) := by unfold RS.sealz; rw [if_neg Hst.out, if_neg (by rw [Hd.out]; decide), if_neg hfar]
  have hfar' : ¬ ((nextF S.D : Int) ≥ 1099511627776) := by omega
  have Hs := hid hs
  have H4 := HH.out.keep K4 (Dj.noth _)
  have hB4 := H4.blk
  have HK4 := hid K4
  have H4' := hid H4
  have Hfar := hid hfar
  clear hs hfar H4 K4
  go_wp2_with fail
  refine wp_region_ordT [(0, true), (1, true), (2, true), (3, true), (4, true), (5, true), (6, true), (7, true), (8, true), (9, true), (10, false), (11, false), (12, false)] 12 [13] (fun w' => BlockIs w' r (rollCells g S (.slice A1 S.l.length c1) (.slice A2 S.st.length c2)) 114 ∧ BlockIs w' b3 S.sealHd.cells 112) follows_mixed (by kernel_rfl) ⟨hB4.drew, B3.drew⟩ ?_
  simp only [List.map_cons, List.map_nil, List.getElem?_cons_succ, List.getElem?_cons_zero, Option.getD_some]
  refine wpO_pure (v := .pointer (some ⟨r, 0, none⟩)) (by rfl) (fun w' hw' => by go_simp) ?_
  go_frame
  refine wpO_pure (v := .agg S.sealHd.cells.toArray) (by rfl) (fun w' hw' => by exact exec_load_blk 112 _ rfl b3 0 S.sealHd.cells S.sealHd.cells 112 _ (by rfl) hw'.2 (part0 _) Try.underlying112 rfl info112) ?_
  go_frame
  refine wpO_pure (v := .pointer (some ⟨r, 0, none⟩)) (by rfl) (fun w' hw' => by go_simp) ?_
  go_frame
  refine wpO_pure (v := .pointer (some ⟨r, 0, none⟩)) (by rfl) (fun w' hw' => by go_simp) ?_
  go_frame
  refine wpO_pure (v := .pointer (some ⟨r, 6, none⟩)) (by rfl) (fun w' hw' => by go_simp) ?_
  go_frame
  refine wpO_pure (v := .slice A1 S.l.length c1) (by rfl) (fun w' hw' => by have hc : w'.cell? ⟨r, 6, none⟩ = some (.slice A1 S.l.length c1) := hw'.1.cell 6; go_simp) ?_
  go_frame
  refine wpO_pure (v := .pointer (some ⟨r, 0, none⟩)) (by rfl) (fun w' hw' => by go_simp) ?_
  go_frame
  refine wpO_pure (v := .pointer (some ⟨r, 0, none⟩)) (by rfl) (fun w' hw' => by go_simp) ?_
  go_frame
  refine wpO_pure (v := .pointer (some ⟨r, 7, none⟩)) (by rfl) (fun w' hw' => by go_simp) ?_
  go_frame
  refine wpO_pure (v := .slice A2 S.st.length c2) (by rfl) (fun w' hw' => by have hc : w'.cell? ⟨r, 7, none⟩ = some (.slice A2 S.st.length c2) := hw'.1.cell 7; go_simp) ?_
  go_frame
  refine wpO_sliceN (by rfl) 148 63 2 _ rfl sl148 info63 rfl [.slice A1 S.l.length c1, .slice A2 S.st.length c2] rfl (by decide) (by decide) (by simp [Act.eval]) (by intro v hv; simp at hv; rcases hv with rfl | rfl <;> rfl) ?_
  intro b5 w5 hb5 B5 K5
  have K45 : Keep Noth w4 w5 := (Keep.refl Noth w4).drew.trans K5 (fun _ _ h => h)
  have H5 := H4'.out.keep K45 (Dj.noth _)
  refine ⟨.inr ⟨H5.blk, B3.keep K45 id⟩, ?_⟩
  go_frame
  refine wpO_call (by rfl) (exec_call' 76 _ _ rfl Try.func76 (by kernel_rfl) (by rfl) #[.slice (some ⟨b5, 0, none⟩) 2 2] (by simp [Act.eval])) ?_
  refine (concat_calls B5 H5.l H5.st (by have := Hok.out.ll; have := Hok.out.stl; omega) (by have := Hpos.out; omega)).mono ?_
  rintro e w6 ⟨vn, rfl, HR6, K6⟩
  have H6 := H5.keep K6 (Dj.noth _)
  have H6' : RollAt w6 (grow F w5 w6) g r (.slice A1 S.l.length c1) (.slice A2 S.st.length c2) S := H6.mono (fun q hq => .inl hq) (grow_lt H5.lt K6.size)
  refine ⟨_, rfl, .inr ⟨H6.blk, (B3.keep K45 id).keep K6 id⟩, ?_⟩
  go_frame
  have hnx := nextF_le S.D
  have hus := Hok.out.used
  have hmost := Hok.out.dok.most
  have hhf : S.D.half * 2 ≤ S.D.l.length := by unfold DS.half; omega
  refine wpO_call (by rfl) (exec_call' 74 _ _ rfl Try.func74 (by kernel_rfl) (by rfl) #[.pointer (some ⟨r, 0, none⟩), .agg S.sealHd.cells.toArray, vn] (by simp [Act.eval])) ?_
  refine (turns_calls (h := S.sealHd) H6' Hok.out HR6 Ho.out Hr.out (by show nextF S.D < _; omega) (by show S.own.area ≤ _; have := Hok.out.area; omega) (by show S.own.used + S.more ≤ _; omega) (by show S.l.length + S.st.length ≤ _; have := Hok.out.ll; have := Hok.out.stl; omega)).mono ?_
  rintro e w7 ⟨rfl, HR7, K7⟩
  have K06 : Keep Noth w w6 := (HK4.out.trans K45 (fun _ _ h => h)).trans K6 (fun _ _ h => h)
  have K5s := (HK4.out.trans K45 (fun _ _ h => h)).size
  have HR7' : RollIs w7 (grow (grow F w w6) w6 w7) g r (S.turns S.sealHd (S.l ++ S.st)).1 := HR7.mono (fun q hq => by
   rcases hq with (hq | hq) | hq
   ·exact .inl (.inl hq)
   ·exact .inl (.inr ⟨by have := hq.1; omega, hq.2⟩)
   ·exact .inr hq) (fun q hq => by
   have := K7.size
   rcases hq with (hq | hq) | hq
   ·have := HH.out.lt q hq; have := K06.size; omega
   ·have := hq.2; omega
   ·exact hq.2)
  have K7' : Keep (grow F w w6) w6 w7 := K7.mono (fun q _ hq => hq.imp id (fun e => ⟨by have := e.1; omega, e.2⟩))
  clear K7 HR7 H6' HR6 H6 H5
  refine ⟨_, rfl, .inl rfl, wpO_nil ?_⟩
  go_frame
  refine wpO_run (v := .int .i64 (S.turns S.sealHd (S.l ++ S.st)).2) (w1 := w7) (by rfl) (by go_simp) (.inl rfl) (wpO_nil ?_)
  go_frame
  go_wp2_with fail
  go_ret
  rw [Hs.out]
  exact ⟨rfl, HR7'.grown HH.out.lt K06.size K7'.size, Keep.grown2 K06 K7'⟩
def RS.append (S : RS) (b : List UInt8) : RS × Int := if (S.stage b).2 = 0 then (S.stage b).1.sealz else S.stage b
structure AppJ (w : World) (F : Nat → Prop) (g r b2 b3 bs : Nat) (A : Option Addr) (n c : Nat) (S : RS) (W : World) : Prop where
 c2 : BlockIs W b2 [.pointer (some ⟨r, 0, none⟩)] 66
 c3 : BlockIs W b3 [.slice A n c] 33
 cs : BlockIs W bs [.func (.func 66) #[] #[.pointer (some ⟨b2, 0, none⟩), .pointer (some ⟨b3, 0, none⟩)], .func (.func 46) #[.pointer (some ⟨r, 0, none⟩)] #[]] 56
 roll : ∃ G, RollIs W G g r S ∧ (¬ G b2 ∧ ¬ G b3 ∧ ¬ G bs) ∧ ∀ q, G q → grow F w W q
 kept : Keep F w W
theorem AppJ.step {w W W' : World} {F G : Nat → Prop} {g r b2 b3 bs : Nat} {A : Option Addr} {n c : Nat} {S S' : RS} (H : AppJ w F g r b2 b3 bs A n c S W) (hn : ¬ G b2 ∧ ¬ G b3 ∧ ¬ G bs) (hG : ∀ q, G q → grow F w W q) (K : Keep G W W') (R : RollIs W' (grow G W W') g r S') : AppJ w F g r b2 b3 bs A n c S' W' := by
 have hs := K.size
 have hs0 := H.kept.size
 refine ⟨H.c2.keep K hn.1, H.c3.keep K hn.2.1, H.cs.keep K hn.2.2, ⟨_, R, ⟨fun e => e.elim hn.1 (fun e => ?_), fun e => e.elim hn.2.1 (fun e => ?_), fun e => e.elim hn.2.2 (fun e => ?_)⟩, fun q hq => ?_⟩, H.kept.trans K (fun i hi e => (hG i e).elim id (fun e => by have := e.1; omega))⟩
 ·have := e.1; have := H.c2.lt; omega
 ·have := e.1; have := H.c3.lt; omega
 ·have := e.1; have := H.cs.lt; omega
 ·rcases hq with hq | hq
  ·exact (hG q hq).imp id (fun e => ⟨e.1, by have := e.2; omega⟩)
  ·exact .inr ⟨by have := hq.1; omega, hq.2⟩
theorem clo66 (x : Array Value) : (⟨66, #[], x⟩ : Clo).ok := ⟨_, Try.func66, by kernel_rfl, rfl⟩
theorem clo46 (p : Value) : (⟨46, #[p], #[]⟩ : Clo).ok := ⟨_, Try.func46, by kernel_rfl, rfl⟩
theorem Reads.nonempty {w : World} {A : Option Addr} {b : List UInt8} (h : Reads w A (bv b)) (hb : b ≠ []) : ∀ ad, A = some ad → ad.block < w.heap.size := by
 obtain ⟨g, o, rfl, hr, hg⟩ := h.where (by rw [bv_length]; exact List.length_pos_iff.2 hb)
 intro ad e
 injection e with e
 subst e
 exact hg
/-- The first of Append's two calls (f66). -/
theorem app1_calls {w W : World} {F : Nat → Prop} {g r b2 b3 bs : Nat} {A : Option Addr} {c : Nat} {b : List UInt8} {S : RS} (H : AppJ w F g r b2 b3 bs A b.length c S W) (hok : S.ok) (ho : S.D.ops ≤ 1000000) (hrow : S.D.row.length ≤ 1000000)
  (hA : Reads w A (bv b)) (hAc : A = none → c = 0) (hAF : b ≠ [] → ∀ ad, A = some ad → ¬ F ad.block) :
  Calls Try.prog 66 #[.pointer (some ⟨b2, 0, none⟩), .pointer (some ⟨b3, 0, none⟩)] W (fun e W' => e = .returned (.int .i64 (S.stage b).2) ∧ AppJ w F g r b2 b3 bs A b.length c (S.stage b).1 W') := by
 obtain ⟨G, ⟨vl, vs, HR⟩, hn, hG⟩ := H.roll
 have hA' : Reads W A (bv b) := by
  by_cases hb : b = []
  ·subst hb; exact Reads.nil _ _
  ·exact hA.keep H.kept (hAF hb)
 have hAG : b ≠ [] → ∀ ad, A = some ad → ¬ G ad.block := fun hb ad e hg => (hG _ hg).elim (hAF hb ad e) (fun e' => by have := hA.nonempty hb ad e; have := e'.1; omega)
 have hst := stage_calls HR hok ho hrow A c b hA' hAc hAG
 have c2 : W.cell? ⟨b2, 0, none⟩ = some (.pointer (some ⟨r, 0, none⟩)) := H.c2.cell 0
 have c3 : W.cell? ⟨b3, 0, none⟩ = some (.slice A b.length c) := H.c3.cell 0
 have HH := hid H
 have Hn := hid hn
 have HG := hid hG
 clear H hA hA' hAF hAG HR hn hG hok ho hrow
 go_enter Try.func66, Try.ntmps66
 go_wp2_with fail
 refine hst.mono ?_
 rintro e W' ⟨rfl, R', K'⟩
 clear hst c2 c3
 go_wp2_with fail
 go_ret
 exact ⟨rfl, HH.out.step Hn.out HG.out K' R'⟩
theorem append_calls {w : World} {F : Nat → Prop} {g r : Nat} {vl vs : Value} {S : RS} (H : RollAt w F g r vl vs S) (hok : S.ok) (ho : S.D.ops ≤ 1000000) (hrow : S.D.row.length ≤ 1000000)
  (A : Option Addr) (c : Nat) (b : List UInt8) (hA : Reads w A (bv b)) (hAc : A = none → c = 0) (hAF : b ≠ [] → ∀ ad, A = some ad → ¬ F ad.block)
  (hok2 : (S.stage b).1.ok) (ho2 : (S.stage b).1.D.ops ≤ 1000000000) (hrow2 : (S.stage b).1.D.row.length ≤ 1000000000) :
  Calls Try.prog 40 #[.pointer (some ⟨r, 0, none⟩), .slice A b.length c] w (fun e w' => e = .returned (.int .i64 (S.append b).2) ∧ RollIs w' (grow F w w') g r (S.append b).1 ∧ Keep F w w') := by
 have HH := hid H
 have HA := hid hA
 have HAF := hid hAF
 have HAc := hid hAc
 have Hok := hid hok
 have Ho := hid ho
 have Hr := hid hrow
 have Hok2 := hid hok2
 have Ho2 := hid ho2
 have Hr2 := hid hrow2
 have hlt := H.lt
 have hrl := H.blk.lt
 clear H hA hAF hAc hok ho hrow hok2 ho2 hrow2
 go_enter Try.func40, Try.ntmps40
 go_wp2_with (first
  | (guard_target = wpList _ _ _ (Oper.mk _ (Op.box 66 _) _ _ _ _ :: _) _ _; refine wpList_box_v rfl 66 _ rfl [.pointer (some ⟨r, 0, none⟩)] (by rfl) ?_; intro b2 w1 hb2 B2 K1)
  | (guard_target = wpList _ _ _ (Oper.mk _ (Op.box 33 _) _ _ _ _ :: _) _ _; refine wpList_box_v rfl 33 _ rfl [.slice A b.length c] (by rfl) ?_; intro b3 w2 hb3 B3 K2; have B2' := B2.keep K2 id; have c2 : w2.cell? ⟨b2, 0, none⟩ = some (.pointer (some ⟨r, 0, none⟩)) := B2'.cell 0)
  | (guard_target = wpList _ _ _ (Oper.mk _ (Op.buildSlice _ _ _) _ _ _ _ :: _) _ _; refine wpList_sliceN rfl 140 56 2 _ rfl sl140 info56 rfl [.func (.func 66) #[] #[.pointer (some ⟨b2, 0, none⟩), .pointer (some ⟨b3, 0, none⟩)], .func (.func 46) #[.pointer (some ⟨r, 0, none⟩)] #[]] rfl (by decide) (by decide) (by simp [Act.eval]) (by intro v hv; simp at hv; rcases hv with rfl | rfl <;> rfl) ?_; intro bs w3 hbs B4 K3))
 have KN : Keep Noth w w3 := (K1.trans K2 (fun _ _ h => h)).trans K3 (fun _ _ h => h)
 have hs1 := K1.size
 have hs2 := K2.size
 have hJ : AppJ w F g r b2 b3 bs A b.length c S w3 := ⟨B2'.keep K3 id, B3.keep K3 id, B4, ⟨F, ⟨_, _, HH.out.keep KN (Dj.noth _)⟩, ⟨fun e => by have := hlt _ e; omega, fun e => by have := hlt _ e; omega, fun e => by have := hlt _ e; omega⟩, fun q hq => .inl hq⟩, KN.mono (fun _ _ e => e.elim)⟩
 have hall := allf_calls [⟨66, #[], #[.pointer (some ⟨b2, 0, none⟩), .pointer (some ⟨b3, 0, none⟩)]⟩, ⟨46, #[.pointer (some ⟨r, 0, none⟩)], #[]⟩] (fun x hx => by
   simp at hx
   rcases hx with rfl | rfl
   ·exact clo66 _
   ·exact clo46 _) (Nat.le_of_ble_eq_true rfl) bs
  (fun i W => (i = 0 ∧ AppJ w F g r b2 b3 bs A b.length c S W) ∨ (i = 1 ∧ (S.stage b).2 = 0 ∧ AppJ w F g r b2 b3 bs A b.length c (S.stage b).1 W) ∨ (i = 2 ∧ (S.append b).2 = 0 ∧ AppJ w F g r b2 b3 bs A b.length c (S.append b).1 W))
  (fun n W => (S.append b).2 = n ∧ AppJ w F g r b2 b3 bs A b.length c (S.append b).1 W)
  (fun i W h => by rcases h with ⟨_, h⟩ | ⟨_, _, h⟩ | ⟨_, _, h⟩ <;> exact h.cs)
  (fun i x W hx h => by
   rcases h with ⟨rfl, h⟩ | ⟨rfl, hz, h⟩ | ⟨rfl, hz, h⟩
   ·injection hx with hx
    subst hx
    refine (app1_calls h Hok.out Ho.out Hr.out HA.out HAc.out HAF.out).mono ?_
    rintro e W' ⟨rfl, h'⟩
    refine ⟨_, rfl, fun hz => .inr (.inl ⟨rfl, hz, h'⟩), fun hz => ?_⟩
    have : S.append b = S.stage b := by unfold RS.append; rw [if_neg hz]
    rw [this]
    exact ⟨rfl, h'⟩
   ·injection hx with hx
    subst hx
    obtain ⟨G, ⟨vl', vs', HR⟩, hn, hG⟩ := h.roll
    have ha : S.append b = (S.stage b).1.sealz := by unfold RS.append; rw [if_pos hz]
    refine (seal_calls HR Hok2.out Ho2.out Hr2.out).mono ?_
    rintro e W' ⟨rfl, R', K'⟩
    rw [ha]
    have h' := h.step hn hG K' R'
    exact ⟨_, rfl, fun hz => .inr (.inr ⟨rfl, hz, h'⟩), fun hz => ⟨rfl, h'⟩⟩
   ·cases hx) w3 (.inl ⟨rfl, hJ⟩)
 clear hJ KN B2' B3 B4 B2 K1 K2 K3 c2
 refine (show Calls Try.prog 65 #[.slice (some ⟨bs, 0, none⟩) 2 2] w3 _ from hall).mono ?_
 rintro e w4 ⟨n, rfl, h0, h1⟩
 clear hall
 have hfin : (S.append b).2 = n ∧ AppJ w F g r b2 b3 bs A b.length c (S.append b).1 w4 := by
  by_cases hn : n = 0
  ·rcases h0 hn with ⟨e, h⟩ | ⟨e, h⟩ | ⟨e, hz, h⟩
   ·cases e
   ·cases e
   ·exact ⟨by rw [hz, hn], h⟩
  ·exact h1 hn
 clear h0 h1
 obtain ⟨hf, hj⟩ := hfin
 subst hf
 have HJ := hid hj
 clear hj
 go_wp2_with fail
 go_ret
 obtain ⟨G, HR, hn, hG⟩ := HJ.out.roll
 exact ⟨rfl, HR.mono hG (grow_lt hlt HJ.out.kept.size), HJ.out.kept⟩
def longB (b : List UInt8) : Bool := decide ((4000 : Int) < b.length)
theorem long1_calls (w : World) (A : Option Addr) (c : Nat) (b : List UInt8) : Calls Try.prog 70 #[.slice A b.length c] w (fun e w' => e = .returned (.bool (longB b)) ∧ w = w') := by
 go_enter Try.func70, Try.ntmps70
 go_wp2_with fail
 go_ret
 exact ⟨rfl, rfl⟩
theorem indexL_calls (w : World) (G : Nat → Prop) (A : Option Addr) (c : Nat) (l : List (List UInt8)) (H : ReadsL w G A l) (hn : l.length ≤ 1099511627776) :
  Calls Try.prog 89 #[.slice A l.length c, .func (.func 70) #[] #[]] w (fun e w' => ∃ z : Int, e = .returned (.int .i64 z) ∧ (0 ≤ z ↔ l.any longB = true) ∧ w = w') := by
 have hb' : (l.length : Int) ≤ 1099511627776 := by omega
 have HA := hid H
 clear H
 go_enter Try.func89, Try.ntmps89
 go_wp2_with fail
 go_loopw [8] (fun i wr => ∃ k : Nat, i = .int .i64 k ∧ k ≤ l.length ∧ (l.take k).any longB = false ∧ wr = w) (fun i _ => l.length - (intOf i).toNat)
 case atStart => exact ⟨0, rfl, Nat.zero_le _, rfl, rfl⟩
 case round =>
  obtain ⟨k, rfl, hk, hz, rfl⟩ := hrel
  by_cases hlt : k < l.length
  ·have hlt' : (k : Int) < l.length := by omega
   obtain ⟨b, hb⟩ : ∃ b, l[k]? = some b := ⟨_, List.getElem?_eq_getElem hlt⟩
   obtain ⟨g, o, rfl, B, c', hcell, -, -, -⟩ := HA.out.at k b hb
   have htk : l.take (k + 1) = l.take k ++ [b] := by rw [List.take_add_one, hb]; rfl
   have hmem : b ∈ l := List.mem_of_getElem? hb
   have Htk := hid htk
   have Hz := hid hz
   have hlc := long1_calls wr B c' b
   clear htk hz hb
   cases hy : longB b with
   | false =>
    rw [hy] at hlc
    have Hy := hid hy
    clear hy
    go_wp2_with fail
    refine hlc.mono ?_
    rintro e w' ⟨rfl, rfl⟩
    clear hlc
    go_wp2_with fail
    go_roundw
    case rel => exact ⟨k + 1, by go_num, hlt, by rw [Htk.out, List.any_append, Hz.out]; simp [Hy.out], trivial⟩
    case measure => simp [intOf]; omega
   | true =>
    rw [hy] at hlc
    have Hy := hid hy
    clear hy
    go_wp2_with fail
    refine hlc.mono ?_
    rintro e w' ⟨rfl, rfl⟩
    clear hlc
    go_wp2_with fail
    go_ret
    exact ⟨(k : Int), rfl, ⟨fun _ => List.any_eq_true.2 ⟨b, hmem, Hy.out⟩, fun _ => by omega⟩, rfl⟩
  ·have hge : k = l.length := by omega
   subst hge
   rw [List.take_length] at hz
   have Hz := hid hz
   clear hz
   go_wp2_with fail
   go_ret
   exact ⟨-1, rfl, ⟨fun h => absurd h (by decide), fun h => by rw [Hz.out] at h; cases h⟩, rfl⟩
theorem containsL_calls (w : World) (G : Nat → Prop) (A : Option Addr) (c : Nat) (l : List (List UInt8)) (H : ReadsL w G A l) (hn : l.length ≤ 1099511627776) :
  Calls Try.prog 69 #[.slice A l.length c, .func (.func 70) #[] #[]] w (fun e w' => e = .returned (.bool (l.any longB)) ∧ w = w') := by
 have hi := indexL_calls w G A c l H hn
 clear H
 go_enter Try.func69, Try.ntmps69
 go_wp2_with fail
 refine hi.mono ?_
 rintro e w' ⟨z, rfl, hz, rfl⟩
 cases ha : l.any longB with
 | true =>
  have h0 : 0 ≤ z := hz.2 ha
  have Ha := hid ha
  clear hz hi ha
  go_wp2_with fail
  go_ret
  exact ⟨by rw [Ha.out]; simp [h0], rfl⟩
 | false =>
  have h0 : z < 0 := by
   rcases Int.lt_or_le z 0 with h | h
   ·exact h
   ·have := hz.1 h; rw [ha] at this; cases this
  have Ha := hid ha
  clear hz hi ha
  go_wp2_with fail
  go_ret
  exact ⟨by rw [Ha.out]; simp [h0], rfl⟩
def moreL (l : List (List UInt8)) : Nat := (l.map blocksN).sum
theorem moreL_take (l : List (List UInt8)) (k : Nat) (b : List UInt8) (hb : l[k]? = some b) : moreL (l.take (k + 1)) = moreL (l.take k) + blocksN b := by
 rw [List.take_add_one, hb]; simp [moreL]
theorem moreL_le (l : List (List UInt8)) : ∀ k, moreL (l.take k) ≤ moreL l := by
 induction l with
 | nil => intro k; simp [moreL]
 | cons b l ih =>
  intro k
  cases k with
  | zero => simp [moreL]
  | succ k =>
   have := ih k
   simp only [moreL, List.take_succ_cons, List.map_cons, List.sum_cons] at this ⊢
   omega
theorem moreL_length (l : List (List UInt8)) : l.length ≤ moreL l := by
 induction l with
 | nil => simp [moreL]
 | cons b l ih =>
  simp only [moreL, List.map_cons, List.sum_cons, List.length_cons] at ih ⊢
  have : 1 ≤ blocksN b := by unfold blocksN; omega
  omega
theorem moreL_append (l m : List (List UInt8)) : moreL (l ++ m) = moreL l + moreL m := by simp [moreL]
def DS.writesL (D : DS) (k : Int) : List (List UInt8) → DS × Int
 | [] => (D, 0)
 | b :: l => if (D.writes k (packs b)).2 = 0 then (D.writes k (packs b)).1.writesL (k + blocksN b) l else D.writes k (packs b)
theorem writesL_snoc : ∀ (l : List (List UInt8)) (D : DS) (k : Int) (b : List UInt8), (D.writesL k l).2 = 0 → D.writesL k (l ++ [b]) = (D.writesL k l).1.writes (k + moreL l) (packs b)
 | [], D, k, b, _ => by
  have e : k + ((moreL [] : Nat) : Int) = k := by simp [moreL]
  rw [List.nil_append, e]
  simp only [DS.writesL]
  split
  ·rename_i h; exact Prod.ext rfl h.symm
  ·rfl
 | a :: l, D, k, b, h => by
  simp only [DS.writesL] at h
  split at h
  ·rename_i h0
   rw [List.cons_append]
   simp only [DS.writesL]
   rw [if_pos h0, if_pos h0, writesL_snoc l _ _ b h]
   congr 1
   simp only [moreL, List.map_cons, List.sum_cons]
   omega
  ·rename_i h0; exact absurd h h0
theorem writesL_stop : ∀ (l l' : List (List UInt8)) (D : DS) (k : Int), (D.writesL k l).2 ≠ 0 → D.writesL k (l ++ l') = D.writesL k l
 | [], _, D, k, h => absurd rfl h
 | a :: l, l', D, k, h => by
  simp only [DS.writesL] at h
  rw [List.cons_append]
  simp only [DS.writesL]
  split
  ·rename_i h0
   rw [if_pos h0] at h
   exact writesL_stop l l' _ _ h
  ·rfl
theorem packs_length (b : List UInt8) : (packs b).length = blocksN b := by simp [packs]
theorem packs_64 (b : List UInt8) : ∀ x ∈ packs b, x.length = 64 := by
 intro x hx
 simp only [packs, List.mem_map, List.mem_range] at hx
 obtain ⟨j, hj, rfl⟩ := hx
 rw [List.length_take, List.length_drop, packB_length]
 omega
theorem writes_ok' : ∀ (l : List Bk) {D : DS} (h : D.ok) (k : Int), (D.writes k l).1.ok
 | [], D, h, k => h
 | x :: l, D, h, k => by
  simp only [DS.writes]
  split
  ·exact writes_ok' l (write_ds_ok h _ _) _
  ·exact write_ds_ok h _ _
theorem writes_grow : ∀ (l : List Bk) (D : DS) (k : Int), (D.writes k l).1.ops ≤ D.ops + l.length ∧ (D.writes k l).1.row.length ≤ D.row.length + l.length ∧ (D.writes k l).1.l.length = D.l.length
 | [], D, k => ⟨Nat.le_refl _, Nat.le_refl _, rfl⟩
 | x :: l, D, k => by
  have h0 := write_grow D k x
  simp only [DS.writes]
  split
  ·have h1 := writes_grow l (D.write k x).1 (k + 1)
   rw [List.length_cons]
   exact ⟨by omega, by omega, by omega⟩
  ·rw [List.length_cons]
   exact ⟨by omega, by omega, by omega⟩
theorem writesL_ok : ∀ (l : List (List UInt8)) {D : DS} (h : D.ok) (k : Int), (D.writesL k l).1.ok
 | [], D, h, k => h
 | x :: l, D, h, k => by
  simp only [DS.writesL]
  split
  ·exact writesL_ok l (writes_ok' _ h _) _
  ·exact writes_ok' _ h _
theorem writesL_grow : ∀ (l : List (List UInt8)) (D : DS) (k : Int), (D.writesL k l).1.ops ≤ D.ops + moreL l ∧ (D.writesL k l).1.row.length ≤ D.row.length + moreL l ∧ (D.writesL k l).1.l.length = D.l.length
 | [], D, k => ⟨Nat.le_refl _, Nat.le_refl _, rfl⟩
 | x :: l, D, k => by
  have h0 := writes_grow (packs x) D k
  rw [packs_length] at h0
  have hm : moreL (x :: l) = blocksN x + moreL l := by simp [moreL]
  simp only [DS.writesL]
  split
  ·have h1 := writesL_grow l (D.writes k (packs x)).1 (k + blocksN x)
   exact ⟨by omega, by omega, by omega⟩
  ·exact ⟨by omega, by omega, by omega⟩
def RS.resetHd (S : RS) (l : List (List UInt8)) : Hd := ⟨nextF S.D, 1 - S.own.area, moreL l, l.length⟩
def RS.reset (S : RS) (l : List (List UInt8)) : RS × Int :=
 if l.any longB = true then (S, 110) else if S.D.down = true then (S, 100)
 else if S.D.half < moreL l ∨ 1099511627776 ≤ nextF S.D then (S, 111)
 else if (S.D.writesL ((2 + (1 - S.own.area) * S.D.half : Nat) : Int) l).2 = 0 then ({ S with D := (S.D.writesL ((2 + (1 - S.own.area) * S.D.half : Nat) : Int) l).1 } : RS).turns (S.resetHd l) l
 else ({ S with D := (S.D.writesL ((2 + (1 - S.own.area) * S.D.half : Nat) : Int) l).1 }, (S.D.writesL ((2 + (1 - S.own.area) * S.D.half : Nat) : Int) l).2)
structure ResJ (w : World) (F : Nat → Prop) (g r b9 : Nat) (vl vs : Value) (S : RS) (h : Hd) (W : World) : Prop where
 c9 : BlockIs W b9 h.cells 112
 roll : RollAt W (grow F w W) g r vl vs S
 kept : Keep F w W
theorem ResJ.step {w W W' : World} {F : Nat → Prop} {g r b9 : Nat} {vl vs a b : Value} {S : RS} {h : Hd} {D' : DS} (H : ResJ w F g r b9 vl vs S h W) (hD : DevAt W (Least g a b) g a b S.D) (hF : ∀ q, Least g a b q → grow F w W q)
  (K : Keep (Least g a b) W W') (hD' : DevIs W' (grow (Least g a b) W W') g D') : ResJ w F g r b9 vl vs { S with D := D' } h W' := by
 obtain ⟨h1, h2⟩ := H.roll.dev' hD hF K hD'
 have hs := K.size
 have hs0 := H.kept.size
 refine ⟨H.c9.keep K (fun e => hD.apart H.c9 (by decide) (by decide) (by decide) b9 e rfl), h1.mono (fun q hq => ?_) ?_, H.kept.trans h2 (fun i hi e => e.elim id (fun e => by have := e.1; omega))⟩
 ·exact grow_grow hs0 hs q hq
 ·intro q hq
  rcases hq with hq | hq
  ·have := H.roll.lt q (.inl hq); omega
  ·exact hq.2
theorem reset_calls {w : World} {F G : Nat → Prop} {g r : Nat} {vl vs : Value} {S : RS} (H : RollAt w F g r vl vs S) (hok : S.ok) (ho : S.D.ops ≤ 900000) (hrow : S.D.row.length ≤ 900000)
  (A : Option Addr) (c : Nat) (l : List (List UInt8)) (HL : ReadsL w G A l) (hG : Dj G F) (hn : l.length ≤ 1099511627776) (hlen : ∀ b ∈ l, b.length ≤ 1099511627776) (hm : moreL l ≤ 1099511627776) :
  Calls Try.prog 43 #[.pointer (some ⟨r, 0, none⟩), .slice A l.length c] w (fun e w' => e = .returned (.int .i64 (S.reset l).2) ∧ RollIs w' (grow F w w') g r (S.reset l).1 ∧ Keep F w w') := by
 have same : RollIs w (grow F w w) g r S := ⟨_, _, H.mono (fun q hq => .inl hq) (grow_lt H.lt (Nat.le_refl _))⟩
 have Hs := hid same
 have HH := hid H
 have HL := hid HL
 have HG := hid hG
 have Hok := hid hok
 have Ho := hid ho
 have Hr := hid hrow
 have Hlen := hid hlen
 have Hm := hid hm
 have hn' : (l.length : Int) ≤ 1099511627776 := by omega
 obtain ⟨da, db, hDv⟩ := H.dev
 have hdw := down_calls hDv
 have har := area_calls hDv hok.dok
 have hcl := containsL_calls w G A c l HL.out hn
 have hB := H.blk
 have c0 : w.cell? ⟨r, 0, none⟩ = some (.pointer (some ⟨g, 0, none⟩)) := hB.cell 0
 have f0 := hB.frozen 0
 clear same H hG hok ho hrow hlen hm hDv
 go_enter Try.func43, Try.ntmps43
 go_wp2_with fail
 go_loopw [16, 5] (fun i s wr => (∃ k : Nat, i = .int .i64 k ∧ k ≤ l.length ∧ s = .int .i64 (moreL (l.take k) : Int)) ∧ w = wr) (fun i _ _ => l.length - (intOf i).toNat)
 case atStart => exact ⟨⟨0, rfl, Nat.zero_le _, rfl⟩, rfl⟩
 case round =>
  obtain ⟨⟨k, rfl, hk, rfl⟩, rfl⟩ := hrel
  by_cases hlt : k < l.length
  ·have hlt' : (k : Int) < l.length := by omega
   obtain ⟨b, hb⟩ : ∃ b, l[k]? = some b := ⟨_, List.getElem?_eq_getElem hlt⟩
   obtain ⟨gA, oA, rfl, B, c', hcell, hB', hBc, hBG⟩ := HL.out.at k b hb
   have hmk := moreL_take l k b hb
   have hmk1 := moreL_le l (k + 1)
   have hbl := blocks_calls w B c' b (by have := Hlen.out b (List.mem_of_getElem? hb); omega)
   have q5 : IntKind.i64.wrap ((moreL (l.take k) : Int) + blocksN b) = (moreL (l.take (k + 1)) : Int) := by
    rw [hmk, ← Int.natCast_add]; exact wrapN (by have := Hm.out; omega)
   clear hB' hb hdw har hcl hmk hmk1
   go_wp2_with fail
   refine hbl.mono ?_
   rintro e w' ⟨rfl, rfl⟩
   clear hbl
   go_wp2_with fail
   go_roundw
   case rel => exact ⟨⟨k + 1, by go_num, hlt, by first | rfl | (rw [q5])⟩, by first | trivial | rfl⟩
   case measure => simp [intOf]; omega
  ·have hge : k = l.length := by omega
   subst hge
   rw [List.take_length]
   clear hlt hk
   go_wp2_with fail
   refine hcl.mono ?_
   rintro e w' ⟨rfl, rfl⟩
   clear hcl
   by_cases hlong : l.any longB = true
   ·have hs : S.reset l = (S, 110) := by unfold RS.reset; rw [if_pos hlong]
    have Hrs := hid hs
    rw [hlong]
    clear hs hlong
    go_wp2_with fail
    go_ret
    rw [Hrs.out]
    exact ⟨rfl, Hs.out, Keep.refl _ _⟩
   have hlong : l.any longB = false := by simpa using hlong
   have Hlong := hid hlong
   rw [hlong]
   go_wp2_with fail
   refine hdw.mono ?_
   rintro e w' ⟨rfl, rfl⟩
   clear hdw
   by_cases hd : S.D.down = true
   ·have hs : S.reset l = (S, 100) := by unfold RS.reset; rw [if_neg (by rw [hlong]; decide), if_pos hd]
    have Hrs := hid hs
    rw [hd]
    clear hs hlong hd
    go_wp2_with fail
    go_ret
    rw [Hrs.out]
    exact ⟨rfl, Hs.out, Keep.refl _ _⟩
   have hd : S.D.down = false := by simpa using hd
   have Hd := hid hd
   rw [hd]
   clear hlong hd
   go_wp2_with fail
   refine har.mono ?_
   rintro e w' ⟨rfl, rfl⟩
   clear har
   have hnx : ∀ W, Keep Noth w W → Calls Try.prog 71 #[.pointer (some ⟨r, 0, none⟩)] W (fun e w' => e = .returned (.int .u64 (nextF S.D : Int)) ∧ Keep Noth W w') := fun W hW => next_calls (HH.out.keep hW (Dj.noth _)) Hok.out Hd.out (by have := Hr.out; omega)
   have Hnx := hid hnx
   clear hnx
   by_cases hhalf : S.D.half < moreL l
   ·have hs : S.reset l = (S, 111) := by unfold RS.reset; rw [if_neg (by rw [Hlong.out]; decide), if_neg (by rw [Hd.out]; decide), if_pos (.inl hhalf)]
    have Hrs := hid hs
    have hh' : (S.D.half : Int) < moreL l := by omega
    clear hs hhalf
    go_wp2_with fail
    go_ret
    rw [Hrs.out]
    exact ⟨rfl, Hs.out, Keep.refl _ _⟩
   have hh' : ¬ ((S.D.half : Int) < moreL l) := by omega
   go_wp2_with fail
   refine (Hnx.out _ (Keep.refl Noth w)).mono ?_
   rintro e w1 ⟨rfl, K1⟩
   by_cases hfar : 1099511627776 ≤ nextF S.D
   ·have hs : S.reset l = (S, 111) := by unfold RS.reset; rw [if_neg (by rw [Hlong.out]; decide), if_neg (by rw [Hd.out]; decide), if_pos (.inr hfar)]
    have hfar' : (nextF S.D : Int) ≥ 1099511627776 := by omega
    have Hrs := hid hs
    have HK1 := hid K1
    clear hs hhalf hfar K1
    go_wp2_with fail
    go_ret
    rw [Hrs.out]
    exact ⟨rfl, ⟨_, _, (HH.out.keep HK1.out (Dj.noth _)).mono (fun q hq => .inl hq) (grow_lt HH.out.lt HK1.out.size)⟩, HK1.out.mono (fun _ _ e => e.elim)⟩
   have hfar' : decide ((nextF S.D : Int) ≥ 1099511627776) = false := by simp; omega
   obtain ⟨f, hf⟩ : ∃ f, f = 2 + (1 - S.own.area) * S.D.half := ⟨_, rfl⟩
   have hres : S.reset l = if (S.D.writesL (f : Int) l).2 = 0 then ({ S with D := (S.D.writesL (f : Int) l).1 } : RS).turns (S.resetHd l) l else ({ S with D := (S.D.writesL (f : Int) l).1 }, (S.D.writesL (f : Int) l).2) := by
    unfold RS.reset; rw [if_neg (by rw [Hlong.out]; decide), if_neg (by rw [Hd.out]; decide), if_neg (by omega), hf]
   have hmost := Hok.out.dok.most
   have hhf : S.D.half * 2 ≤ S.D.l.length := by unfold DS.half; omega
   have hff : f ≤ 2 + S.D.half := by rw [hf]; rcases (show 1 - S.own.area = 0 ∨ 1 - S.own.area = 1 by omega) with e | e <;> rw [e] <;> omega
   have Hres := hid hres
   have Hf := hid hf
   have Hhalf := hid (show moreL l ≤ S.D.half ∧ S.D.half ≤ 2048 ∧ l.length ≤ moreL l from ⟨by omega, by omega, moreL_length l⟩)
   have Hff := hid hff
   have harea := Hok.out.area
   have q1 : IntKind.i64.wrap ((1 : Int) - S.own.area) = ((1 - S.own.area : Nat) : Int) := by rw [show (1 : Int) - S.own.area = ((1 - S.own.area : Nat) : Int) by omega]; exact wrapN (by omega)
   have B1 := (HH.out.keep K1 (Dj.noth _)).blk
   have HK1 := hid K1
   have Q1 := hid q1
   have Harea := hid harea
   clear q1 harea hres hf hhalf hfar hmost hhf hff K1 hB c0 f0
   go_wp2_with fail
   refine wp_region_ordF [(0, true), (2, true), (3, true), (4, true), (5, true), (6, true), (7, true), (8, true), (9, true), (10, true)] 1 12 [(11, true), (12, false), (13, false)] [(1, false), (11, true), (13, false)] (fun w' => BlockIs w' r (rollCells g S vl vs) 114) follows_mixed (by kernel_rfl) B1.drew ?_
   simp only [List.map_cons, List.map_nil, List.getElem?_cons_succ, List.getElem?_cons_zero, Option.getD_some]
   refine wpO_pure (v := .pointer (some ⟨r, 0, none⟩)) (by rfl) (fun w' hw' => by go_simp) ?_
   go_frame
   refine wpO_pure (v := .pointer (some ⟨r, 0, none⟩)) (by rfl) (fun w' hw' => by go_simp) ?_
   go_frame
   refine wpO_pure (v := .pointer (some ⟨r, 0, none⟩)) (by rfl) (fun w' hw' => by go_simp) ?_
   go_frame
   refine wpO_pure (v := .pointer (some ⟨r, 1, none⟩)) (by rfl) (fun w' hw' => by go_simp) ?_
   go_frame
   refine wpO_pure (v := .pointer (some ⟨r, 2, none⟩)) (by rfl) (fun w' hw' => by go_simp) ?_
   go_frame
   refine wpO_pure (v := .int .i64 (S.own.area : Int)) (by rfl) (fun w' hw' => by have hc : w'.cell? ⟨r, 2, none⟩ = some (.int .i64 (S.own.area : Int)) := hw'.cell 2; go_simp) ?_
   go_frame
   refine wpO_pure (v := .int .i64 ((1 - S.own.area : Nat) : Int)) (by rfl) (fun w' hw' => by go_simp; exact Q1.out) ?_
   go_frame
   refine wpO_pure (v := .int .i64 (moreL l : Int)) (by rfl) (fun w' hw' => by go_simp) ?_
   go_frame
   refine wpO_pure (v := .slice A l.length c) (by rfl) (fun w' hw' => by go_simp) ?_
   go_frame
   refine wpO_pure (v := .int .i64 (l.length : Int)) (by rfl) (fun w' hw' => by go_simp) (wpO_nil ?_)
   go_frame
   clear Q1
   constructor
   ·refine wpO_call (by rfl) (exec_call' 71 _ _ rfl Try.func71 (by kernel_rfl) (by rfl) #[.pointer (some ⟨r, 0, none⟩)] (by simp [Act.eval])) ?_
    refine (Hnx.out _ HK1.out.drew).mono ?_
    rintro e w2 ⟨rfl, K2⟩
    refine ⟨_, rfl, .inr (B1.drew.keep K2 id), ?_⟩
    go_frame
    refine wpO_pure (v := .agg (S.resetHd l).cells.toArray) (by rfl) (fun w' hw' => by exact exec_build112 _ _ _ _ rfl _ _ _ _ (by rfl) (by rfl) (by rfl) (by rfl)) ?_
    go_frame
    refine wpO_alloc_v (by rfl) 112 rfl (.agg zhead.toArray) info112 zhead rfl ?_
    intro b9 w3 hb3 Bz K3
    refine ⟨.inr ((B1.drew.keep K2 id).keep K3 id), ?_⟩
    go_frame
    refine wpO_store_blk (by rfl) 112 _ _ rfl b9 _ (S.resetHd l).cells 112 (by rfl) (by rfl) Bz rfl info112 (hd_one _) ?_
    intro w4 B9 K4s
    refine ⟨.inl rfl, wpO_nil ?_⟩
    have hb3w : w.heap.size ≤ b9 := by have := K2.size; have := HK1.out.size; have e : w1.drew.heap.size = w1.heap.size := rfl; omega
    have K4 : Keep Noth w w4 := ((HK1.out.drew.trans K2 (fun _ _ h => h)).trans K3 (fun _ _ h => h)).own K4s (fun q e => by unfold Only at e; subst e; exact hb3w)
    clear K2 K3 K4s Bz B1
    go_frame
    have c4w : w4.cell? ⟨b9, 1, none⟩ = some (.int .i64 ((1 - S.own.area : Nat) : Int)) := B9.cell 1
    have H4 := HH.out.keep K4 (Dj.noth _)
    have hB4 := H4.blk
    obtain ⟨da, db, hDv⟩ := H4.dev
    have hfc := first_calls (hDv.keep (Keep.refl Noth w4).drew (Dj.noth _)) Hok.out.dok (1 - S.own.area) (by have := Harea.out; omega)
    rw [← Hf.out] at hfc
    have HK4 := hid K4
    have HJ0 := hid (ResJ.mk (w := w) (F := F) (g := g) (r := r) (b9 := b9) (vl := vl) (vs := vs) (S := S) (h := S.resetHd l) B9.drew ((H4.keep (Keep.refl Noth w4).drew (Dj.noth _)).mono (fun q hq => .inl hq) (grow_lt HH.out.lt K4.drew.size)) (K4.drew.mono (fun _ _ e => e.elim)))
    clear K4 hDv H4
    go_wp2_with fail
    refine wp_region_ordL [(0, true), (1, true), (2, true), (3, true), (4, true), (5, true), (6, false), (7, false)] (fun w' => BlockIs w' r (rollCells g S vl vs) 114 ∧ BlockIs w' b9 (S.resetHd l).cells 112) follows_mixed (by kernel_rfl) ⟨hB4.drew, B9.drew⟩ ?_
    simp only [List.map_cons, List.map_nil, List.getElem?_cons_succ, List.getElem?_cons_zero, Option.getD_some]
    refine wpO_pure (v := .pointer (some ⟨r, 0, none⟩)) (by rfl) (fun w' hw' => by go_simp) ?_
    go_frame
    refine wpO_pure (v := .pointer (some ⟨r, 0, none⟩)) (by rfl) (fun w' hw' => by go_simp) ?_
    go_frame
    refine wpO_pure (v := .pointer (some ⟨r, 0, none⟩)) (by rfl) (fun w' hw' => by go_simp) ?_
    go_frame
    refine wpO_pure (v := .pointer (some ⟨g, 0, none⟩)) (by rfl) (fun w' hw' => by have hc : w'.cell? ⟨r, 0, none⟩ = some (.pointer (some ⟨g, 0, none⟩)) := hw'.1.cell 0; go_simp) ?_
    go_frame
    refine wpO_pure (v := .pointer (some ⟨b9, 1, none⟩)) (by rfl) (fun w' hw' => by go_simp) ?_
    go_frame
    refine wpO_pure (v := .int .i64 ((1 - S.own.area : Nat) : Int)) (by rfl) (fun w' hw' => by have hc : w'.cell? ⟨b9, 1, none⟩ = some (.int .i64 ((1 - S.own.area : Nat) : Int)) := hw'.2.cell 1; go_simp) ?_
    go_frame
    refine wpO_call (by rfl) (exec_call' 72 _ _ rfl Try.func72 (by kernel_rfl) (by rfl) #[.pointer (some ⟨g, 0, none⟩), .int .i64 ((1 - S.own.area : Nat) : Int)] (by simp [Act.eval])) ?_
    refine (hfc).mono ?_
    rintro e w' ⟨rfl, rfl⟩
    refine ⟨_, rfl, .inr ⟨hB4.drew, B9.drew⟩, ?_⟩
    go_frame
    refine wpO_run (v := .int .i64 (f : Int)) (w1 := w4.drew) (by rfl) (by go_simp) (.inl rfl) (wpO_nil ?_)
    go_frame
    clear hfc hB4 B9 c4w
    go_wp2_with fail
    go_loopw [69, 10] (fun i at_ wr => ∃ k : Nat, i = .int .i64 k ∧ k ≤ l.length ∧ at_ = .int .i64 ((f + moreL (l.take k) : Nat) : Int) ∧ (S.D.writesL (f : Int) (l.take k)).2 = 0 ∧ ResJ w F g r b9 vl vs { S with D := (S.D.writesL (f : Int) (l.take k)).1 } (S.resetHd l) wr) (fun i _ _ => l.length - (intOf i).toNat)
    case atStart => exact ⟨0, rfl, Nat.zero_le _, rfl, rfl, HJ0.out⟩
    case round =>
     obtain ⟨k, rfl, hk, rfl, hz, hJ⟩ := hrel
     obtain ⟨Dk, hDk⟩ : ∃ Dk, Dk = (S.D.writesL (f : Int) (l.take k)).1 := ⟨_, rfl⟩
     rw [← hDk] at hJ
     have HDk := hid hDk
     have Hz := hid hz
     have hgr := writesL_grow (l.take k) S.D (f : Int)
     have hmt := moreL_le l k
     have hkok := writesL_ok (l.take k) Hok.out.dok (f : Int)
     rw [← hDk] at hgr hkok
     clear hDk hz
     have HJ := hid hJ
     by_cases hlt : k < l.length
     ·have hlt' : (k : Int) < l.length := by omega
      obtain ⟨b, hb⟩ : ∃ b, l[k]? = some b := ⟨_, List.getElem?_eq_getElem hlt⟩
      obtain ⟨gA, oA, rfl, B, c', hcell, hB, hBc, hBG⟩ := (HL.out.keep hJ.kept HG.out).at k b hb
      have hb4 : b.length ≤ 4000 := by
       have := List.any_eq_false.1 Hlong.out b (List.mem_of_getElem? hb)
       simp [longB] at this
       omega
      have hmk := moreL_take l k b hb
      have hmk1 := moreL_le l (k + 1)
      obtain ⟨da, db, hDv⟩ := hJ.roll.dev
      obtain ⟨hLe, hLF, -⟩ := hDv.least
      have hrw := rollWrite_calls (w := wr) (F := Least g da db) (g := g) (r := r) (D := Dk) hJ.roll.blk (fun e => hLe.apart hJ.roll.blk (by decide) (by decide) (by decide) r e rfl) ⟨_, _, hLe⟩ hkok (by have := Ho.out; have := Hhalf.out; omega) (by have := Hr.out; have := Hhalf.out; omega) B c' b hB hb4 ((f + moreL (l.take k) : Nat) : Int) (by have := Hff.out; have := Hhalf.out; omega)
      have hsn : S.D.writesL (f : Int) (l.take (k + 1)) = Dk.writes ((f + moreL (l.take k) : Nat) : Int) (packs b) := by
       rw [List.take_add_one, hb]
       show S.D.writesL (f : Int) (l.take k ++ [b]) = _
       rw [writesL_snoc _ _ _ _ Hz.out, ← HDk.out, Int.natCast_add]
      have Hsn := hid hsn
      have Hmk := hid hmk
      have HLe := hid hLe
      have HLF := hid hLF
      have Hbb := hid (blocksN_bound b)
      have Hlt := hid hlt
      clear hB hb hsn hmk hDv hLe hLF hlt hJ hgr hkok hmt
      go_wp2_with fail
      refine hrw.mono ?_
      rintro e w5 ⟨rfl, hD5, K5⟩
      have hJ5 := HJ.out.step HLe.out HLF.out K5 hD5
      clear hrw hD5 K5
      rw [← Hsn.out] at hJ5 ⊢
      by_cases hez : (S.D.writesL (f : Int) (l.take (k + 1))).2 = 0
      ·rw [hez]
       have HJ5 := hid hJ5
       have Hez := hid hez
       have hbl := blocks_calls w5 B c' b (by omega)
       have q5 : IntKind.i64.wrap (((f + moreL (l.take k) : Nat) : Int) + blocksN b) = ((f + moreL (l.take (k + 1)) : Nat) : Int) := by
        rw [Hmk.out, ← Int.natCast_add, Nat.add_assoc]; exact wrapN (by have := Hff.out; have := Hhalf.out; have := Hmk.out; omega)
       clear hJ5 hez hcell
       go_wp2_with fail
       refine hbl.mono ?_
       rintro e w' ⟨rfl, rfl⟩
       clear hbl
       go_wp2_with fail
       go_roundw
       case rel => exact ⟨k + 1, by go_num, Hlt.out, by (rw [Hmk.out]; congr 1; unfold wrap64; have := Hff.out; have := Hhalf.out; have := Hmk.out; omega), Hez.out, HJ5.out⟩
       case measure => simp [intOf]; have := Hlt.out; omega
      ·have hfin : S.D.writesL (f : Int) l = S.D.writesL (f : Int) (l.take (k + 1)) := by
        conv => lhs; rw [← List.take_append_drop (k + 1) l]
        exact writesL_stop _ _ _ _ hez
       have hbz : ((S.D.writesL (f : Int) (l.take (k + 1))).2 == 0) = false := by simpa using hez
       have Hfin := hid hfin
       have hrs : S.reset l = ({ S with D := (S.D.writesL (f : Int) (l.take (k + 1))).1 }, (S.D.writesL (f : Int) (l.take (k + 1))).2) := by rw [Hres.out, Hfin.out, if_neg hez]
       have Hrs := hid hrs
       have HJ5 := hid hJ5
       obtain ⟨ev, hev⟩ : ∃ ev, ev = (S.D.writesL (f : Int) (l.take (k + 1))).2 := ⟨_, rfl⟩
       rw [← hev] at hez hbz ⊢
       have Hev := hid hev
       clear hfin hrs hJ5 hcell hev
       go_wp2_with fail
       go_ret
       rw [Hrs.out, Hev.out]
       exact ⟨rfl, ⟨_, _, HJ5.out.roll⟩, HJ5.out.kept⟩
     ·have hge : k = l.length := by omega
      subst hge
      rw [List.take_length] at Hz HDk
      have hrs : S.reset l = ({ S with D := Dk } : RS).turns (S.resetHd l) l := by rw [Hres.out, if_pos Hz.out, ← HDk.out]
      have Hrs := hid hrs
      have hok5 : ({ S with D := Dk } : RS).ok := ⟨hkok, by have := Hok.out.four; show 4 ≤ Dk.l.length; omega, Hok.out.area, by have := Hok.out.used; show _ ≤ Dk.half; unfold DS.half at this ⊢; rw [hgr.2.2]; exact this, Hok.out.seq, Hok.out.count, Hok.out.slot, Hok.out.ll, Hok.out.stl, Hok.out.l4, Hok.out.st4⟩
      have Hok5 := hid hok5
      have Hgr := hid hgr
      have HLk := hid ((HL.out.keep hJ.kept HG.out).keep (Keep.refl Noth wr).drew (Dj.noth _))
      have h9 := hJ.c9
      have hBk := hJ.roll.blk
      have hlen := moreL_length l
      clear hrs hgr hkok hok5 hJ hlt hk
      go_wp2_with fail
      refine wp_region_ordT [(0, true), (1, true), (2, true), (3, false), (4, false)] 4 [5] (fun w' => BlockIs w' b9 (S.resetHd l).cells 112) follows_mixed (by kernel_rfl) h9.drew ?_
      simp only [List.map_cons, List.map_nil, List.getElem?_cons_succ, List.getElem?_cons_zero, Option.getD_some]
      refine wpO_pure (v := .pointer (some ⟨r, 0, none⟩)) (by rfl) (fun w' hw' => by go_simp) ?_
      go_frame
      refine wpO_pure (v := .agg (S.resetHd l).cells.toArray) (by rfl) (fun w' hw' => by exact exec_load_blk 112 _ rfl b9 0 (S.resetHd l).cells (S.resetHd l).cells 112 _ (by rfl) hw' (part0 _) Try.underlying112 rfl info112) ?_
      go_frame
      refine wpO_pure (v := .slice A l.length c) (by rfl) (fun w' hw' => by go_simp) ?_
      go_frame
      refine wpO_call (by rfl) (exec_call' 67 _ _ rfl Try.func67 (by kernel_rfl) (by rfl) #[.slice A l.length c] (by simp [Act.eval])) ?_
      refine (copied_calls wr.drew G A c l HLk.out (fun b hb => by have := List.any_eq_false.1 Hlong.out b hb; simp [longB] at this; omega) (by have := Hhalf.out; omega)).mono ?_
      rintro e w6 ⟨vn, rfl, HR6, K6⟩
      refine ⟨_, rfl, .inr (h9.drew.keep K6 id), ?_⟩
      go_frame
      have K6' : Keep Noth wr w6 := (Keep.refl Noth wr).drew.trans K6 (fun _ _ h => h)
      have H6 := HJ.out.roll.keep K6' (Dj.noth _)
      have hs6 := K6'.size
      have hsr := HJ.out.kept.size
      have hsd : wr.drew.heap.size = wr.heap.size := rfl
      have K06 : Keep F w w6 := HJ.out.kept.trans K6' (fun _ _ e => e.elim)
      have H6' := H6.mono (G := grow F w w6) (fun q hq => hq.imp id (fun e => ⟨e.1, by have := e.2; omega⟩)) (grow_lt HH.out.lt K06.size)
      have HR6' : Recs w6 (grow F w w6) vn l := HR6.mono (fun q hq => .inr ⟨by have := hq.1; omega, hq.2⟩)
      have hnx := nextF_le S.D
      refine wpO_call (by rfl) (exec_call' 74 _ _ rfl Try.func74 (by kernel_rfl) (by rfl) #[.pointer (some ⟨r, 0, none⟩), .agg (S.resetHd l).cells.toArray, vn] (by simp [Act.eval])) ?_
      refine (turns_calls (h := S.resetHd l) H6' Hok5.out HR6' (by show Dk.ops ≤ _; have := Hgr.out.1; have := Ho.out; have := Hhalf.out; omega) (by show Dk.row.length ≤ _; have := Hgr.out.2.1; have := Hr.out; have := Hhalf.out; omega) (by show nextF S.D < _; omega) (by show 1 - S.own.area ≤ _; have := Harea.out; omega) (by show moreL l ≤ _; have := Hhalf.out; omega) (by show l.length ≤ _; have := Hhalf.out; omega)).mono ?_
      rintro e w7 ⟨rfl, HR7, K7⟩
      clear H6 H6' HR6 HR6'
      refine ⟨_, rfl, .inl rfl, wpO_nil ?_⟩
      go_frame
      rw [← Hrs.out] at HR7 ⊢
      refine wpO_run (v := .int .i64 (S.reset l).2) (w1 := w7) (by rfl) (by go_simp) (.inl rfl) (wpO_nil ?_)
      go_frame
      go_wp2_with fail
      go_ret
      have hs7 := K7.size
      refine ⟨rfl, HR7.grown HH.out.lt K06.size hs7, K06.trans K7 (fun i hi e => e.elim id (fun e => by have := e.1; omega))⟩
   ·refine wpO_alloc_v (by rfl) 112 rfl (.agg zhead.toArray) info112 zhead rfl ?_
    intro b9 w3 hb3 Bz K3
    have K13 : Keep Noth w1 w3 := (Keep.refl Noth w1).drew.trans K3 (fun _ _ h => h)
    have K03 : Keep Noth w w3 := HK1.out.trans K13 (fun _ _ h => h)
    refine ⟨.inr (B1.keep K13 id), ?_⟩
    go_frame
    refine wpO_call (by rfl) (exec_call' 71 _ _ rfl Try.func71 (by kernel_rfl) (by rfl) #[.pointer (some ⟨r, 0, none⟩)] (by simp [Act.eval])) ?_
    refine (Hnx.out _ K03).mono ?_
    rintro e w2 ⟨rfl, K2⟩
    refine ⟨_, rfl, .inr ((B1.keep K13 id).keep K2 id), ?_⟩
    go_frame
    refine wpO_pure (v := .agg (S.resetHd l).cells.toArray) (by rfl) (fun w' hw' => by exact exec_build112 _ _ _ _ rfl _ _ _ _ (by rfl) (by rfl) (by rfl) (by rfl)) ?_
    go_frame
    refine wpO_store_blk (by rfl) 112 _ _ rfl b9 _ (S.resetHd l).cells 112 (by rfl) (by rfl) (Bz.keep K2 id) rfl info112 (hd_one _) ?_
    intro w4 B9 K4s
    refine ⟨.inl rfl, wpO_nil ?_⟩
    have hb3w : w.heap.size ≤ b9 := by have := HK1.out.size; have e : w1.drew.heap.size = w1.heap.size := rfl; omega
    have K4 : Keep Noth w w4 := (K03.trans K2 (fun _ _ h => h)).own K4s (fun q e => by unfold Only at e; subst e; exact hb3w)
    clear K2 K3 K13 K03 K4s Bz B1
    go_frame
    have c4w : w4.cell? ⟨b9, 1, none⟩ = some (.int .i64 ((1 - S.own.area : Nat) : Int)) := B9.cell 1
    have H4 := HH.out.keep K4 (Dj.noth _)
    have hB4 := H4.blk
    obtain ⟨da, db, hDv⟩ := H4.dev
    have hfc := first_calls (hDv.keep (Keep.refl Noth w4).drew (Dj.noth _)) Hok.out.dok (1 - S.own.area) (by have := Harea.out; omega)
    rw [← Hf.out] at hfc
    have HK4 := hid K4
    have HJ0 := hid (ResJ.mk (w := w) (F := F) (g := g) (r := r) (b9 := b9) (vl := vl) (vs := vs) (S := S) (h := S.resetHd l) B9.drew ((H4.keep (Keep.refl Noth w4).drew (Dj.noth _)).mono (fun q hq => .inl hq) (grow_lt HH.out.lt K4.drew.size)) (K4.drew.mono (fun _ _ e => e.elim)))
    clear K4 hDv H4
    go_wp2_with fail
    refine wp_region_ordL [(0, true), (1, true), (2, true), (3, true), (4, true), (5, true), (6, false), (7, false)] (fun w' => BlockIs w' r (rollCells g S vl vs) 114 ∧ BlockIs w' b9 (S.resetHd l).cells 112) follows_mixed (by kernel_rfl) ⟨hB4.drew, B9.drew⟩ ?_
    simp only [List.map_cons, List.map_nil, List.getElem?_cons_succ, List.getElem?_cons_zero, Option.getD_some]
    refine wpO_pure (v := .pointer (some ⟨r, 0, none⟩)) (by rfl) (fun w' hw' => by go_simp) ?_
    go_frame
    refine wpO_pure (v := .pointer (some ⟨r, 0, none⟩)) (by rfl) (fun w' hw' => by go_simp) ?_
    go_frame
    refine wpO_pure (v := .pointer (some ⟨r, 0, none⟩)) (by rfl) (fun w' hw' => by go_simp) ?_
    go_frame
    refine wpO_pure (v := .pointer (some ⟨g, 0, none⟩)) (by rfl) (fun w' hw' => by have hc : w'.cell? ⟨r, 0, none⟩ = some (.pointer (some ⟨g, 0, none⟩)) := hw'.1.cell 0; go_simp) ?_
    go_frame
    refine wpO_pure (v := .pointer (some ⟨b9, 1, none⟩)) (by rfl) (fun w' hw' => by go_simp) ?_
    go_frame
    refine wpO_pure (v := .int .i64 ((1 - S.own.area : Nat) : Int)) (by rfl) (fun w' hw' => by have hc : w'.cell? ⟨b9, 1, none⟩ = some (.int .i64 ((1 - S.own.area : Nat) : Int)) := hw'.2.cell 1; go_simp) ?_
    go_frame
    refine wpO_call (by rfl) (exec_call' 72 _ _ rfl Try.func72 (by kernel_rfl) (by rfl) #[.pointer (some ⟨g, 0, none⟩), .int .i64 ((1 - S.own.area : Nat) : Int)] (by simp [Act.eval])) ?_
    refine (hfc).mono ?_
    rintro e w' ⟨rfl, rfl⟩
    refine ⟨_, rfl, .inr ⟨hB4.drew, B9.drew⟩, ?_⟩
    go_frame
    refine wpO_run (v := .int .i64 (f : Int)) (w1 := w4.drew) (by rfl) (by go_simp) (.inl rfl) (wpO_nil ?_)
    go_frame
    clear hfc hB4 B9 c4w
    go_wp2_with fail
    go_loopw [69, 10] (fun i at_ wr => ∃ k : Nat, i = .int .i64 k ∧ k ≤ l.length ∧ at_ = .int .i64 ((f + moreL (l.take k) : Nat) : Int) ∧ (S.D.writesL (f : Int) (l.take k)).2 = 0 ∧ ResJ w F g r b9 vl vs { S with D := (S.D.writesL (f : Int) (l.take k)).1 } (S.resetHd l) wr) (fun i _ _ => l.length - (intOf i).toNat)
    case atStart => exact ⟨0, rfl, Nat.zero_le _, rfl, rfl, HJ0.out⟩
    case round =>
     obtain ⟨k, rfl, hk, rfl, hz, hJ⟩ := hrel
     obtain ⟨Dk, hDk⟩ : ∃ Dk, Dk = (S.D.writesL (f : Int) (l.take k)).1 := ⟨_, rfl⟩
     rw [← hDk] at hJ
     have HDk := hid hDk
     have Hz := hid hz
     have hgr := writesL_grow (l.take k) S.D (f : Int)
     have hmt := moreL_le l k
     have hkok := writesL_ok (l.take k) Hok.out.dok (f : Int)
     rw [← hDk] at hgr hkok
     clear hDk hz
     have HJ := hid hJ
     by_cases hlt : k < l.length
     ·have hlt' : (k : Int) < l.length := by omega
      obtain ⟨b, hb⟩ : ∃ b, l[k]? = some b := ⟨_, List.getElem?_eq_getElem hlt⟩
      obtain ⟨gA, oA, rfl, B, c', hcell, hB, hBc, hBG⟩ := (HL.out.keep hJ.kept HG.out).at k b hb
      have hb4 : b.length ≤ 4000 := by
       have := List.any_eq_false.1 Hlong.out b (List.mem_of_getElem? hb)
       simp [longB] at this
       omega
      have hmk := moreL_take l k b hb
      have hmk1 := moreL_le l (k + 1)
      obtain ⟨da, db, hDv⟩ := hJ.roll.dev
      obtain ⟨hLe, hLF, -⟩ := hDv.least
      have hrw := rollWrite_calls (w := wr) (F := Least g da db) (g := g) (r := r) (D := Dk) hJ.roll.blk (fun e => hLe.apart hJ.roll.blk (by decide) (by decide) (by decide) r e rfl) ⟨_, _, hLe⟩ hkok (by have := Ho.out; have := Hhalf.out; omega) (by have := Hr.out; have := Hhalf.out; omega) B c' b hB hb4 ((f + moreL (l.take k) : Nat) : Int) (by have := Hff.out; have := Hhalf.out; omega)
      have hsn : S.D.writesL (f : Int) (l.take (k + 1)) = Dk.writes ((f + moreL (l.take k) : Nat) : Int) (packs b) := by
       rw [List.take_add_one, hb]
       show S.D.writesL (f : Int) (l.take k ++ [b]) = _
       rw [writesL_snoc _ _ _ _ Hz.out, ← HDk.out, Int.natCast_add]
      have Hsn := hid hsn
      have Hmk := hid hmk
      have HLe := hid hLe
      have HLF := hid hLF
      have Hbb := hid (blocksN_bound b)
      have Hlt := hid hlt
      clear hB hb hsn hmk hDv hLe hLF hlt hJ hgr hkok hmt
      go_wp2_with fail
      refine hrw.mono ?_
      rintro e w5 ⟨rfl, hD5, K5⟩
      have hJ5 := HJ.out.step HLe.out HLF.out K5 hD5
      clear hrw hD5 K5
      rw [← Hsn.out] at hJ5 ⊢
      by_cases hez : (S.D.writesL (f : Int) (l.take (k + 1))).2 = 0
      ·rw [hez]
       have HJ5 := hid hJ5
       have Hez := hid hez
       have hbl := blocks_calls w5 B c' b (by omega)
       have q5 : IntKind.i64.wrap (((f + moreL (l.take k) : Nat) : Int) + blocksN b) = ((f + moreL (l.take (k + 1)) : Nat) : Int) := by
        rw [Hmk.out, ← Int.natCast_add, Nat.add_assoc]; exact wrapN (by have := Hff.out; have := Hhalf.out; have := Hmk.out; omega)
       clear hJ5 hez hcell
       go_wp2_with fail
       refine hbl.mono ?_
       rintro e w' ⟨rfl, rfl⟩
       clear hbl
       go_wp2_with fail
       go_roundw
       case rel => exact ⟨k + 1, by go_num, Hlt.out, by (rw [Hmk.out]; congr 1; unfold wrap64; have := Hff.out; have := Hhalf.out; have := Hmk.out; omega), Hez.out, HJ5.out⟩
       case measure => simp [intOf]; have := Hlt.out; omega
      ·have hfin : S.D.writesL (f : Int) l = S.D.writesL (f : Int) (l.take (k + 1)) := by
        conv => lhs; rw [← List.take_append_drop (k + 1) l]
        exact writesL_stop _ _ _ _ hez
       have hbz : ((S.D.writesL (f : Int) (l.take (k + 1))).2 == 0) = false := by simpa using hez
       have Hfin := hid hfin
       have hrs : S.reset l = ({ S with D := (S.D.writesL (f : Int) (l.take (k + 1))).1 }, (S.D.writesL (f : Int) (l.take (k + 1))).2) := by rw [Hres.out, Hfin.out, if_neg hez]
       have Hrs := hid hrs
       have HJ5 := hid hJ5
       obtain ⟨ev, hev⟩ : ∃ ev, ev = (S.D.writesL (f : Int) (l.take (k + 1))).2 := ⟨_, rfl⟩
       rw [← hev] at hez hbz ⊢
       have Hev := hid hev
       clear hfin hrs hJ5 hcell hev
       go_wp2_with fail
       go_ret
       rw [Hrs.out, Hev.out]
       exact ⟨rfl, ⟨_, _, HJ5.out.roll⟩, HJ5.out.kept⟩
     ·have hge : k = l.length := by omega
      subst hge
      rw [List.take_length] at Hz HDk
      have hrs : S.reset l = ({ S with D := Dk } : RS).turns (S.resetHd l) l := by rw [Hres.out, if_pos Hz.out, ← HDk.out]
      have Hrs := hid hrs
      have hok5 : ({ S with D := Dk } : RS).ok := ⟨hkok, by have := Hok.out.four; show 4 ≤ Dk.l.length; omega, Hok.out.area, by have := Hok.out.used; show _ ≤ Dk.half; unfold DS.half at this ⊢; rw [hgr.2.2]; exact this, Hok.out.seq, Hok.out.count, Hok.out.slot, Hok.out.ll, Hok.out.stl, Hok.out.l4, Hok.out.st4⟩
      have Hok5 := hid hok5
      have Hgr := hid hgr
      have HLk := hid ((HL.out.keep hJ.kept HG.out).keep (Keep.refl Noth wr).drew (Dj.noth _))
      have h9 := hJ.c9
      have hBk := hJ.roll.blk
      have hlen := moreL_length l
      clear hrs hgr hkok hok5 hJ hlt hk
      go_wp2_with fail
      refine wp_region_ordT [(0, true), (1, true), (2, true), (3, false), (4, false)] 4 [5] (fun w' => BlockIs w' b9 (S.resetHd l).cells 112) follows_mixed (by kernel_rfl) h9.drew ?_
      simp only [List.map_cons, List.map_nil, List.getElem?_cons_succ, List.getElem?_cons_zero, Option.getD_some]
      refine wpO_pure (v := .pointer (some ⟨r, 0, none⟩)) (by rfl) (fun w' hw' => by go_simp) ?_
      go_frame
      refine wpO_pure (v := .agg (S.resetHd l).cells.toArray) (by rfl) (fun w' hw' => by exact exec_load_blk 112 _ rfl b9 0 (S.resetHd l).cells (S.resetHd l).cells 112 _ (by rfl) hw' (part0 _) Try.underlying112 rfl info112) ?_
      go_frame
      refine wpO_pure (v := .slice A l.length c) (by rfl) (fun w' hw' => by go_simp) ?_
      go_frame
      refine wpO_call (by rfl) (exec_call' 67 _ _ rfl Try.func67 (by kernel_rfl) (by rfl) #[.slice A l.length c] (by simp [Act.eval])) ?_
      refine (copied_calls wr.drew G A c l HLk.out (fun b hb => by have := List.any_eq_false.1 Hlong.out b hb; simp [longB] at this; omega) (by have := Hhalf.out; omega)).mono ?_
      rintro e w6 ⟨vn, rfl, HR6, K6⟩
      refine ⟨_, rfl, .inr (h9.drew.keep K6 id), ?_⟩
      go_frame
      have K6' : Keep Noth wr w6 := (Keep.refl Noth wr).drew.trans K6 (fun _ _ h => h)
      have H6 := HJ.out.roll.keep K6' (Dj.noth _)
      have hs6 := K6'.size
      have hsr := HJ.out.kept.size
      have hsd : wr.drew.heap.size = wr.heap.size := rfl
      have K06 : Keep F w w6 := HJ.out.kept.trans K6' (fun _ _ e => e.elim)
      have H6' := H6.mono (G := grow F w w6) (fun q hq => hq.imp id (fun e => ⟨e.1, by have := e.2; omega⟩)) (grow_lt HH.out.lt K06.size)
      have HR6' : Recs w6 (grow F w w6) vn l := HR6.mono (fun q hq => .inr ⟨by have := hq.1; omega, hq.2⟩)
      have hnx := nextF_le S.D
      refine wpO_call (by rfl) (exec_call' 74 _ _ rfl Try.func74 (by kernel_rfl) (by rfl) #[.pointer (some ⟨r, 0, none⟩), .agg (S.resetHd l).cells.toArray, vn] (by simp [Act.eval])) ?_
      refine (turns_calls (h := S.resetHd l) H6' Hok5.out HR6' (by show Dk.ops ≤ _; have := Hgr.out.1; have := Ho.out; have := Hhalf.out; omega) (by show Dk.row.length ≤ _; have := Hgr.out.2.1; have := Hr.out; have := Hhalf.out; omega) (by show nextF S.D < _; omega) (by show 1 - S.own.area ≤ _; have := Harea.out; omega) (by show moreL l ≤ _; have := Hhalf.out; omega) (by show l.length ≤ _; have := Hhalf.out; omega)).mono ?_
      rintro e w7 ⟨rfl, HR7, K7⟩
      clear H6 H6' HR6 HR6'
      refine ⟨_, rfl, .inl rfl, wpO_nil ?_⟩
      go_frame
      rw [← Hrs.out] at HR7 ⊢
      refine wpO_run (v := .int .i64 (S.reset l).2) (w1 := w7) (by rfl) (by go_simp) (.inl rfl) (wpO_nil ?_)
      go_frame
      go_wp2_with fail
      go_ret
      have hs7 := K7.size
      refine ⟨rfl, HR7.grown HH.out.lt K06.size hs7, K06.trans K7 (fun i hi e => e.elim id (fun e => by have := e.1; omega))⟩
end Go.Proofs.Ytffcglfepobdjaa
set_option maxRecDepth 10000
set_option maxHeartbeats 1500000
namespace Go.Proofs.Ytffcglfepobdjaa
open Go.RowKit
theorem flush_grow (D : DS) : D.flush.1.ops ≤ D.ops + 1 ∧ D.flush.1.row.length ≤ D.row.length ∧ D.flush.1.l.length = D.l.length := by
 unfold DS.flush
 split
 ·exact ⟨by simp, Nat.le_refl _, rfl⟩
 ·split
  ·exact ⟨by simp [DS.tick], Nat.le_refl _, rfl⟩
  ·exact ⟨by simp [DS.flushed, DS.tick], by simp [DS.flushed, DS.tick], by simp [DS.flushed, DS.tick, all_length]⟩
theorem turn_grow (D : DS) (k : Int) (b : List UInt8) : (D.turn k b).1.ops ≤ D.ops + 3 ∧ (D.turn k b).1.row.length ≤ D.row.length + 1 ∧ (D.turn k b).1.l.length = D.l.length := by
 have h1 := flush_grow D
 have h2 := write_grow D.flush.1 k b
 have h3 := flush_grow (D.flush.1.write k b).1
 unfold DS.turn
 split
 ·split
  ·exact ⟨by omega, by omega, by omega⟩
  ·exact ⟨by omega, by omega, by omega⟩
 ·exact ⟨by omega, by omega, by omega⟩
theorem turn_ok {D : DS} (h : D.ok) (k : Int) (b : List UInt8) : (D.turn k b).1.ok := by
 unfold DS.turn
 split
 ·split
  ·exact flush_ds_ok (write_ds_ok (flush_ds_ok h) _ _)
  ·exact write_ds_ok (flush_ds_ok h) _ _
 ·exact flush_ds_ok h
/-- What holds of a roll at all times. -/
structure RS.good (S : RS) : Prop where
 dok : S.D.ok
 four : 4 ≤ S.D.l.length
 area : S.own.area ≤ 1
 used : S.own.used + S.more ≤ S.D.half
 seq : S.own.seq < 1099511627776
 count : S.own.count < 4294967296
 slot : -1 ≤ S.slot ∧ S.slot ≤ 1
 ll : S.l.length ≤ S.own.used
 stl : S.st.length ≤ S.more
 l4 : ∀ b ∈ S.l, b.length ≤ 4000
 st4 : ∀ b ∈ S.st, b.length ≤ 4000
theorem half_le {D : DS} (h : D.ok) : D.half ≤ 2047 := by have := h.most; unfold DS.half; omega
theorem RS.good.ok {S : RS} (h : S.good) : S.ok := by
 have := half_le h.dok
 have := h.used
 have := h.ll
 have := h.stl
 have := h.seq
 exact ⟨h.dok, h.four, h.area, h.used, by omega, h.count, h.slot, by omega, by omega, h.l4, h.st4⟩
theorem half_eq {D E : DS} (h : E.l.length = D.l.length) : E.half = D.half := by unfold DS.half; rw [h]
theorem RS.good.withD {S : RS} (h : S.good) {D' : DS} (hd : D'.ok) (hl : D'.l.length = S.D.l.length) : ({ S with D := D' } : RS).good :=
 ⟨hd, by show 4 ≤ D'.l.length; rw [hl]; exact h.four, h.area, by show _ ≤ D'.half; rw [half_eq hl]; exact h.used, h.seq, h.count, h.slot, h.ll, h.stl, h.l4, h.st4⟩
theorem blocksN_pos (b : List UInt8) : 1 ≤ blocksN b := by unfold blocksN; omega
theorem blocksN_le {b : List UInt8} (h : b.length ≤ 4000) : blocksN b ≤ 63 := by unfold blocksN; omega
theorem turns_good {S : RS} (h : S.good) {hd : Hd} {l : List (List UInt8)} (ha : hd.area ≤ 1) (hu : hd.used ≤ S.D.half) (hs : hd.seq < 1099511627776) (hc : hd.count < 4294967296) (hl : l.length ≤ hd.used) (h4 : ∀ b ∈ l, b.length ≤ 4000) : (S.turns hd l).1.good := by
 have hg := turn_grow S.D S.nslot hd.bytes
 have hk := turn_ok h.dok S.nslot hd.bytes
 have hn : -1 ≤ S.nslot ∧ S.nslot ≤ 1 := by unfold RS.nslot; split <;> decide
 unfold RS.turns
 simp only []
 split
 ·exact ⟨hk, by show 4 ≤ (S.D.turn S.nslot hd.bytes).1.l.length; rw [hg.2.2]; exact h.four, ha, by show hd.used + 0 ≤ (S.D.turn S.nslot hd.bytes).1.half; rw [half_eq hg.2.2]; exact hu, hs, hc, hn, hl, Nat.le_refl _, h4, fun b hb => by cases hb⟩
 ·exact h.withD hk hg.2.2
theorem turns_D (S : RS) (hd : Hd) (l : List (List UInt8)) : (S.turns hd l).1.D = (S.D.turn S.nslot hd.bytes).1 := by
 unfold RS.turns
 simp only []
 split <;> rfl
theorem stage_good {S : RS} (h : S.good) (b : List UInt8) : (S.stage b).1.good := by
 have hg := writes_grow (packs b) S.D ((2 + S.own.area * S.D.half + S.own.used + S.more : Nat) : Int)
 have hk := writes_ok' (packs b) h.dok ((2 + S.own.area * S.D.half + S.own.used + S.more : Nat) : Int)
 unfold RS.stage
 split
 ·exact h
 ·split
  ·exact h
  ·rename_i h4 hr
   simp only []
   split
   ·have hw := h.withD hk hg.2.2
    have hroom : S.own.used + (S.more + blocksN b) ≤ S.D.half := by
     unfold RS.room at hr
     omega
    refine ⟨hw.dok, hw.four, hw.area, ?_, hw.seq, hw.count, hw.slot, hw.ll, ?_, hw.l4, fun x hx => ?_⟩
    ·show S.own.used + (S.more + blocksN b) ≤ DS.half _
     rw [half_eq hg.2.2]; exact hroom
    ·show (S.st ++ [b]).length ≤ S.more + blocksN b
     have := h.stl
     have := blocksN_pos b
     rw [List.length_append]
     simp
     omega
    ·rcases List.mem_append.1 hx with hx | hx
     ·exact h.st4 x hx
     ·rw [List.mem_singleton.1 hx]; omega
   ·exact h.withD hk hg.2.2
theorem stage_grow {S : RS} (b : List UInt8) : (S.stage b).1.D.ops ≤ S.D.ops + 63 ∧ (S.stage b).1.D.row.length ≤ S.D.row.length + 63 ∧ (S.stage b).1.D.l.length = S.D.l.length := by
 have hg := writes_grow (packs b) S.D ((2 + S.own.area * S.D.half + S.own.used + S.more : Nat) : Int)
 rw [packs_length] at hg
 unfold RS.stage
 split
 ·exact ⟨by simp, by simp, rfl⟩
 ·rename_i h4
  have := blocksN_le (show b.length ≤ 4000 by omega)
  split
  ·exact ⟨by simp, by simp, rfl⟩
  ·simp only []
   split <;> exact ⟨by simp only []; omega, by simp only []; omega, hg.2.2⟩
theorem seal_good {S : RS} (h : S.good) : S.sealz.1.good := by
 unfold RS.sealz
 split
 ·exact h
 ·split
  ·exact h
  ·split
   ·exact h
   ·rename_i hf
    have := half_le h.dok
    have := h.used
    have := h.ll
    have := h.stl
    refine turns_good h h.area h.used (by show nextF S.D < _; omega) ?_ ?_ ?_
    ·show S.l.length + S.st.length < _; omega
    ·show (S.l ++ S.st).length ≤ S.own.used + S.more; rw [List.length_append]; omega
    ·intro b hb
     rcases List.mem_append.1 hb with hb | hb
     ·exact h.l4 b hb
     ·exact h.st4 b hb
theorem turns_grow (S : RS) (hd : Hd) (l : List (List UInt8)) : (S.turns hd l).1.D.ops ≤ S.D.ops + 3 ∧ (S.turns hd l).1.D.row.length ≤ S.D.row.length + 1 ∧ (S.turns hd l).1.D.l.length = S.D.l.length := by
 rw [turns_D]; exact turn_grow _ _ _
theorem seal_grow (S : RS) : S.sealz.1.D.ops ≤ S.D.ops + 3 ∧ S.sealz.1.D.row.length ≤ S.D.row.length + 1 ∧ S.sealz.1.D.l.length = S.D.l.length := by
 unfold RS.sealz
 split
 ·exact ⟨by simp, by simp, rfl⟩
 ·split
  ·exact ⟨by simp, by simp, rfl⟩
  ·split
   ·exact ⟨by simp, by simp, rfl⟩
   ·exact turns_grow _ _ _
theorem append_good {S : RS} (h : S.good) (b : List UInt8) : (S.append b).1.good := by
 unfold RS.append
 split
 ·exact seal_good (stage_good h b)
 ·exact stage_good h b
theorem append_grow (S : RS) (b : List UInt8) : (S.append b).1.D.ops ≤ S.D.ops + 66 ∧ (S.append b).1.D.row.length ≤ S.D.row.length + 64 ∧ (S.append b).1.D.l.length = S.D.l.length := by
 have h1 := stage_grow (S := S) b
 have h2 := seal_grow (S.stage b).1
 unfold RS.append
 split
 ·exact ⟨by omega, by omega, by omega⟩
 ·exact ⟨by omega, by omega, by omega⟩
theorem long_4000 {l : List (List UInt8)} (h : l.any longB = false) : ∀ b ∈ l, b.length ≤ 4000 := fun b hb => by
 have := List.any_eq_false.1 h b hb
 simp [longB] at this
 omega
theorem reset_good {S : RS} (h : S.good) (l : List (List UInt8)) : (S.reset l).1.good := by
 have hg := writesL_grow l S.D ((2 + (1 - S.own.area) * S.D.half : Nat) : Int)
 have hk := writesL_ok l h.dok ((2 + (1 - S.own.area) * S.D.half : Nat) : Int)
 unfold RS.reset
 split
 ·exact h
 ·rename_i hl
  have hl : l.any longB = false := by simpa using hl
  split
  ·exact h
  ·split
   ·exact h
   ·rename_i hf
    have hw := h.withD hk hg.2.2
    have hh := half_le h.dok
    have hml := moreL_length l
    split
    ·refine turns_good hw (by show 1 - S.own.area ≤ 1; omega) ?_ (by show nextF S.D < _; omega) (by show l.length < _; omega) (by show l.length ≤ moreL l; omega) (long_4000 hl)
     show moreL l ≤ DS.half _
     rw [half_eq hg.2.2]; omega
    ·exact hw
theorem reset_grow {S : RS} (h : S.D.ok) (l : List (List UInt8)) : (S.reset l).1.D.ops ≤ S.D.ops + 2050 ∧ (S.reset l).1.D.row.length ≤ S.D.row.length + 2048 ∧ (S.reset l).1.D.l.length = S.D.l.length := by
 have hg := writesL_grow l S.D ((2 + (1 - S.own.area) * S.D.half : Nat) : Int)
 have hh := half_le h
 unfold RS.reset
 split
 ·exact ⟨by simp, by simp, rfl⟩
 ·split
  ·exact ⟨by simp, by simp, rfl⟩
  ·split
   ·exact ⟨by simp, by simp, rfl⟩
   ·rename_i hf
    split
    ·have ht := turns_grow { S with D := (S.D.writesL ((2 + (1 - S.own.area) * S.D.half : Nat) : Int) l).1 } (S.resetHd l) l
     simp only [] at ht
     exact ⟨by omega, by omega, by omega⟩
    ·exact ⟨by simp only []; omega, by simp only []; omega, hg.2.2⟩
theorem holdsF_good {D : DS} (hok : D.ok) (h4 : 4 ≤ D.l.length) {k : Nat} (hk : k < 2) {h : Hd} {l : List (List UInt8)} (e : holdsF D k = some (h, l)) :
  h.area ≤ 1 ∧ h.used ≤ D.half ∧ h.seq < 1099511627776 ∧ h.count < 4294967296 ∧ l.length ≤ h.used ∧ (∀ b ∈ l, b.length ≤ 4000) ∧ 1 ≤ h.seq ∧ l.length = h.count := by
 unfold holdsF at e
 split at e
 ·rename_i hd
  unfold hdOk at hd
  simp only [Bool.and_eq_true, decide_eq_true_eq] at hd
  obtain ⟨⟨d1, d2, d3, d4⟩, -⟩ := hd
  have hfl : 2 + (hdOf (D.at k)).area * D.half + (hdOf (D.at k)).used ≤ D.l.length := by
   have : D.half * 2 + 2 ≤ D.l.length := by unfold DS.half; omega
   rcases (show (hdOf (D.at k)).area = 0 ∨ (hdOf (D.at k)).area = 1 by omega) with e | e <;> rw [e] <;> omega
  split at e
  ·rename_i l0 a0 hr
   split at e
   ·rename_i ha
    injection e with e
    injection e with e1 e2
    subst e1
    subst e2
    obtain ⟨r1, r2, r3⟩ := recsL_le hok hfl _ _ _ hr
    have hcnt : (hdOf (D.at k)).count < 4294967296 := by
     have := getN_lt (((D.at k).drop 13).take 4)
     have h4' : (((D.at k).drop 13).take 4).length ≤ 4 := by rw [List.length_take]; omega
     have : (256 : Nat) ^ (((D.at k).drop 13).take 4).length ≤ 256 ^ 4 := Nat.pow_le_pow_right (by decide) h4'
     show getN (((D.at k).drop 13).take 4) < _
     omega
    have hmin : ∀ (c : Nat) (l : List (List UInt8)) (a : Nat), recsL D (2 + (hdOf (D.at k)).area * D.half) (hdOf (D.at k)).used c = some (l, a) → c ≤ a := by
     intro c
     induction c with
     | zero => intro l a _; omega
     | succ c ih =>
      intro l a hl
      simp only [recsL] at hl
      split at hl
      ·cases hl
      ·rename_i l1 a1 h1
       split at hl
       ·cases hl
       ·rename_i r hr1
        simp only [Option.some.injEq, Prod.mk.injEq] at hl
        have := ih _ _ h1
        have := blocksN_pos r
        omega
    have := hmin _ _ _ hr
    exact ⟨d3, d4, d2, hcnt, by omega, r3, d1, r2⟩
   ·cases e
  ·cases e
 ·cases e
theorem openS_good {D : DS} (hok : D.ok) (h4 : 4 ≤ D.l.length) : (openS D).good := by
 have : ∀ k, k ≤ 2 → (openP D k).good := by
  intro k
  induction k with
  | zero =>
   intro _
   exact ⟨hok, h4, Nat.zero_le _, Nat.zero_le _, (show (0 : Nat) < 1099511627776 by decide), (show (0 : Nat) < 4294967296 by decide), (show (-1 : Int) ≤ -1 ∧ (-1 : Int) ≤ 1 by decide), Nat.zero_le _, Nat.zero_le _, fun b hb => (by cases hb), fun b hb => (by cases hb)⟩
  | succ k ih =>
   intro hk
   have ih := ih (by omega)
   cases he : holdsF D k with
   | none => rw [openP_none he]; exact ih
   | some p =>
    obtain ⟨h, l⟩ := p
    rw [openP_some he]
    split
    ·obtain ⟨q1, q2, q3, q4, q5, q6, q7, q8⟩ := holdsF_good hok h4 (show k < 2 by omega) he
     exact ⟨hok, h4, q1, by show h.used + 0 ≤ D.half; omega, q3, q4, (show (-1 : Int) ≤ (k : Int) ∧ (k : Int) ≤ 1 from ⟨by omega, by omega⟩), q5, Nat.le_refl _, q6, fun b hb => by cases hb⟩
    ·exact ih
 exact this 2 (Nat.le_refl _)
def zD : DS := DS.new 10
def zR0 : RS := openS zD
def zR1 : RS := (zR0.append [97]).1
def zR2 : RS := (zR1.stage [98]).1
def zD3 : DS := zR2.D.crash [1]
def zR3 : RS := openS zD3
def zR4 : RS := (zR3.reset [[1], [2]]).1
theorem zd_ok : zD.ok := new_ok 10 (by decide) (by decide)
theorem z0_good : zR0.good := openS_good zd_ok (by rw [show zD.l.length = 10 by kernel_rfl]; decide)
theorem z1_good : zR1.good := append_good z0_good _
theorem z2_good : zR2.good := stage_good z1_good _
theorem zd3_ok : zD3.ok := crash_ok z2_good.dok _
theorem zd3_l : zD3.l.length = 10 := by kernel_rfl
theorem z3_good : zR3.good := openS_good zd3_ok (by rw [zd3_l]; decide)
theorem z4_good : zR4.good := reset_good z3_good _
theorem z_append : (zR0.append [97]).2 = 0 := by kernel_rfl
theorem z_stage : (zR1.stage [98]).2 = 0 := by kernel_rfl
theorem z_staged : zR2.st.length = 1 := by kernel_rfl
theorem z_room : zR2.room = 2 := by kernel_rfl
theorem z_l : zR3.l = [[97]] := by kernel_rfl
theorem z_reset : (zR3.reset [[1], [2]]).2 = 0 := by kernel_rfl
theorem z_l4 : zR4.l.length = 2 := by kernel_rfl
theorem z_st4 : zR4.st = [] := by kernel_rfl
theorem z_seal : zR4.sealz = (zR4, 0) := by unfold RS.sealz; rw [if_pos z_st4]
theorem z_ops0 : zR0.D.ops = 0 ∧ zR0.D.row.length = 0 := by constructor <;> kernel_rfl
theorem z_ops1 : zR1.D.ops ≤ 100 ∧ zR1.D.row.length ≤ 100 := by
 have h := append_grow zR0 [97]
 have := z_ops0
 show (zR0.append [97]).1.D.ops ≤ 100 ∧ (zR0.append [97]).1.D.row.length ≤ 100
 omega
theorem z_ops2 : zR2.D.ops ≤ 200 ∧ zR2.D.row.length ≤ 200 := by
 have h := stage_grow (S := zR1) [98]
 have := z_ops1
 show (zR1.stage [98]).1.D.ops ≤ 200 ∧ (zR1.stage [98]).1.D.row.length ≤ 200
 omega
theorem openS_D (D : DS) : (openS D).D = D := openP_D D 2
theorem z_ops3 : zR3.D.ops ≤ 200 ∧ zR3.D.row.length ≤ 200 := by
 show (openS zD3).D.ops ≤ 200 ∧ (openS zD3).D.row.length ≤ 200
 rw [openS_D]
 exact ⟨z_ops2.1, Nat.zero_le _⟩
theorem z_ops4 : zR4.D.ops ≤ 3000 ∧ zR4.D.row.length ≤ 3000 := by
 have h := reset_grow (S := zR3) z3_good.dok [[1], [2]]
 have := z_ops3
 show (zR3.reset [[1], [2]]).1.D.ops ≤ 3000 ∧ (zR3.reset [[1], [2]]).1.D.row.length ≤ 3000
 omega
/-- A roll of one's own: of blocks behind w0, and of none of R. -/
structure RX (w0 : World) (R : Nat → Prop) (w : World) (F : Nat → Prop) (g r : Nat) (S : RS) : Prop where
 roll : RollIs w F g r S
 low : ∀ q, F q → w0.heap.size ≤ q
 off : Dj R F
 lt : Lt R w
 kept : Keep Noth w0 w
theorem RX.rlt {w0 w : World} {R F : Nat → Prop} {g r : Nat} {S : RS} (h : RX w0 R w F g r S) : Lt F w := by
 obtain ⟨vl, vs, hr⟩ := h.roll
 exact hr.lt
theorem Lt.up {F : Nat → Prop} {w w' : World} (h : Lt F w) (hs : w.heap.size ≤ w'.heap.size) : Lt F w' := fun q hq => Nat.lt_of_lt_of_le (h q hq) hs
theorem Dj.grow {R F : Nat → Prop} {w w' : World} (h : Dj R F) (hR : Lt R w) : Dj R (grow F w w') := fun q a b => b.elim (h q a) (fun e => by have := hR q a; omega)
theorem low_grow {B : Nat} {F : Nat → Prop} {w w' : World} (h : ∀ q, F q → B ≤ q) (hB : B ≤ w.heap.size) : ∀ q, grow F w w' q → B ≤ q := fun q hq => hq.elim (h q) (fun e => by omega)
theorem RX.step {w0 w w' : World} {R F : Nat → Prop} {g r : Nat} {S S' : RS} (h : RX w0 R w F g r S) (hr : RollIs w' (grow F w w') g r S') (k : Keep F w w') : RX w0 R w' (grow F w w') g r S' :=
 ⟨hr, low_grow h.low h.kept.size, h.off.grow h.lt, h.lt.up k.size, h.kept.own k h.low⟩
theorem RX.keep {w0 w w' : World} {R F : Nat → Prop} {g r : Nat} {S : RS} (h : RX w0 R w F g r S) (k : Keep Noth w w') : RX w0 R w' F g r S :=
 ⟨h.roll.keep k (Dj.noth _), h.low, h.off, h.lt.up k.size, h.kept.trans k (fun _ _ e => e)⟩
theorem RX.more {w0 w : World} {R R' F : Nat → Prop} {g r : Nat} {S : RS} (h : RX w0 R w F g r S) (hd : Dj R' F) (hl : Lt R' w) : RX w0 (fun q => R q ∨ R' q) w F g r S :=
 ⟨h.roll, h.low, fun q a b => a.elim (fun e => h.off q e b) (fun e => hd q e b), fun q a => a.elim (h.lt q) (hl q), h.kept⟩
theorem RX.dev {w0 w : World} {R F : Nat → Prop} {g r : Nat} {S : RS} (h : RX w0 R w F g r S) : DevIs w F g S.D := by
 obtain ⟨vl, vs, hr⟩ := h.roll
 exact hr.dev
theorem stv_eq {A B : Option Addr} {n m c d : Nat} {D : DS} : stv (.slice A n c) (.slice B m d) D = [.slice A n c, .slice B m d, .int .i64 (D.ops : Int), .int .i64 D.fuse, .bool D.down] := rfl
theorem refHalf_calls {w : World} {F : Nat → Prop} {vl vr : Value} {D : DS} (H : StAt w F vl vr D) (hl : D.l.length ≤ 4096) :
  Calls Try.prog 78 #[.agg (stv vl vr D).toArray] w (fun e w' => e = .returned (.int .i64 (D.half : Int)) ∧ Keep Noth w w') := by
 obtain ⟨Al, cl, rfl⟩ := H.l.valm
 obtain ⟨Ar, cr, rfl⟩ := H.row.valm
 have hl' : (D.l.length : Int) ≤ 4096 := by omega
 rw [stv_eq]
 by_cases h2 : D.l.length < 2
 ·have h2' : (D.l.length : Int) < 2 := by omega
  have hd := hid (show D.half = 0 by unfold DS.half; omega)
  clear H h2
  go_enter Try.func78, Try.ntmps78
  go_wp2_with (first
   | (guard_target = wpList _ _ _ (Oper.mk _ (Op.box _ _) _ _ _ _ :: _) _ _; refine wpList_box_v rfl 30 _ rfl [.slice Al D.l.length cl, .slice Ar D.row.length cr, .int .i64 (D.ops : Int), .int .i64 D.fuse, .bool D.down] (by rfl) ?_; intro b1 w1 hb1 B1 K1; have c0 := B1.cell 0; simp only [List.getElem?_cons_zero] at c0))
  go_ret
  exact ⟨by rw [hd.out]; rfl, K1⟩
 ·have h2' : ¬ ((D.l.length : Int) < 2) := by omega
  have hd : ((D.l.length : Int) - 2).tdiv 2 = (D.half : Int) := by
   unfold DS.half
   rw [Int.tdiv_eq_ediv_of_nonneg (by omega)]; omega
  have hd' : ((D.l.length : Int) - 2) / 2 = (D.half : Int) := by
   unfold DS.half
   omega
  have Hd := hid hd
  have Hd' := hid hd'
  clear H hd hd' h2
  go_enter Try.func78, Try.ntmps78
  go_wp2_with (first
   | (guard_target = wpList _ _ _ (Oper.mk _ (Op.box _ _) _ _ _ _ :: _) _ _; refine wpList_box_v rfl 30 _ rfl [.slice Al D.l.length cl, .slice Ar D.row.length cr, .int .i64 (D.ops : Int), .int .i64 D.fuse, .bool D.down] (by rfl) ?_; intro b1 w1 hb1 B1 K1; have c0 := B1.cell 0; simp only [List.getElem?_cons_zero] at c0))
  go_ret
  exact ⟨ret_int (by first | exact Hd.out | exact Hd'.out), K1⟩
theorem Rows.ownlt {w : World} {F : Nat → Prop} {e : TypeId} {size : Nat} {v : Value} {xs : List (List Value)} (h : Rows w F e size v xs) (q : Nat) (hq : v.ownBlock = some q) : q < w.heap.size := by
 obtain ⟨o, ho, -⟩ := h.cellsAt q hq
 exact (Array.getElem?_eq_some_iff.1 ho).1
/-- The form of bytes that are there. -/
theorem Bytes.form {w : World} {F : Nat → Prop} {v : Value} {b : List UInt8} (h : Rows w F 5 1 v (u1 b)) (h0 : 0 < b.length) : ∃ g c, v = .slice (some ⟨g, 0, none⟩) b.length c ∧ b.length ≤ c ∧ c ≤ maxLen := by
 rcases h.own.2 with ⟨-, h2⟩ | ⟨g, cap, cur, rfl, -, -, h1, h2, -, -⟩
 ·rw [u1_length] at h2; omega
 ·rw [u1_length] at h1 ⊢; exact ⟨g, cap, rfl, h1, h2⟩
theorem refAt_calls {w : World} {F : Nat → Prop} {vl vr : Value} {D : DS} (H : StAt w F vl vr D) (hok : D.ok) (hr : D.row.length ≤ 1099511627776) (k : Nat) (hk : k < D.l.length) :
  Calls Try.prog 79 #[.agg (stv vl vr D).toArray, .int .i64 (k : Int)] w (fun e w' => ∃ g c, e = .returned (.slice (some ⟨g, 0, none⟩) 64 c) ∧ 64 ≤ c ∧ c ≤ maxLen ∧ Bytes w' (Fresh w w') (.slice (some ⟨g, 0, none⟩) 64 c) (D.at k) ∧ Keep Noth w w') := by
 obtain ⟨Al, cl, rfl⟩ := H.l.valm
 obtain ⟨Ar, cr, rfl⟩ := H.row.valm
 have h64 := at_64 hok k hk
 have hat := fun W (hW : Keep Noth w W) => st_at (H.keep hW (Dj.noth _)) hok hr k hk
 rw [stv_eq] at hat ⊢
 have Hat := hid hat
 have H64 := hid h64
 obtain ⟨i5, hi5, -⟩ := info_parts info5
 have Hi5 := hid hi5
 clear hat h64 H hi5
 go_enter Try.func79, Try.ntmps79
 go_wp2_with (first
  | (guard_target = wpList _ _ _ (Oper.mk _ (Op.box _ _) _ _ _ _ :: _) _ _; refine wpList_box_v rfl 30 _ rfl [.slice Al D.l.length cl, .slice Ar D.row.length cr, .int .i64 (D.ops : Int), .int .i64 D.fuse, .bool D.down] (by rfl) ?_; intro b1 w1 hb1 B1 K1)
  | (guard_target = wpList _ _ _ (Oper.mk _ (Op.load 30 _) _ _ _ _ :: _) _ _; refine wpList_load_blk rfl 30 _ rfl b1 0 _ [.slice Al D.l.length cl, .slice Ar D.row.length cr, .int .i64 (D.ops : Int), .int .i64 D.fuse, .bool D.down] 30 _ (by rfl) B1 (part0 _) Try.underlying30 rfl info30 ?_))
 refine (Hat.out _ K1).mono ?_
 rintro e w2 ⟨rfl, K2⟩
 have K02 : Keep Noth w w2 := K1.trans K2 (fun _ _ h => h)
 clear K1 K2 B1
 go_wp2_with (first
  | (guard_target = wpList _ _ _ (Oper.mk _ (Op.alloc _) _ _ _ _ :: _) _ _; refine wpList_alloc_v rfl 52 rfl zv info52 (bv zb) zv_cells ?_; intro b5 w3 hb5 B5 K3)
  | (guard_target = wpList _ _ _ (Oper.mk _ (Op.store _ _ _) _ _ _ _ :: _) _ _; refine wpList_store_whole rfl 52 _ _ rfl b5 (bv zb) (bv (D.at k)) 52 (by rfl) (by rfl) B5 (by rw [bv_length, bv_length, H64.out, zb_length]) (by rw [bv_length, H64.out]; exact info52) (bv_one _) ?_; intro w4 B4 K4)
  | (guard_target = wpList _ _ _ (Oper.mk _ (Op.buildSlice _ _ _) _ _ _ _ :: _) _ _; refine wpList_slice0_v rfl 33 5 1 rfl sl33 Hi5.out ?_; intro b6 w5 hb6 R6 K5)
  | (at_builtin; refine wpList_append_rows rfl _ _ 33 rfl 5 (.int .u8 0) 1 1 sl33 info5 rfl (by decide) (by decide) (fun q => q = b6) _ [] (u1 (D.at k)) (by rfl) R6 (some ⟨b5, 0, none⟩) 64 64 (by rfl) (by rw [u1_length, H64.out]) (fun e => by cases e) (u1_each _) (by rw [u1_flatten]; exact Reads.of_range (B4.keep K5 id).rangeAll) (u1_one _) (by decide) ?_; intro v7 w7 HR7 K7))
 go_ret
 have h1 : Rows w7 (Fresh w w7) 5 1 v7 (u1 (D.at k)) := by
  have h := HR7
  rw [List.nil_append] at h
  have hs2 := K02.size
  have hs3 := K3.size
  have hs4 := K4.size
  have hs5 := K5.size
  have hs7 := K7.size
  refine h.mono (fun q hq => ?_)
  rcases hq with hq | hq
  ·have e : q = b6 := R6.foot q hq
   have := R6.ownlt q hq
   exact ⟨by omega, by omega⟩
  ·exact ⟨by omega, hq.2⟩
 have hb6 : w.heap.size ≤ b6 := by have := K02.size; have := K3.size; have := K4.size; omega
 obtain ⟨g, c, rfl, h2, h3⟩ := Bytes.form h1 (by rw [H64.out]; decide)
 rw [H64.out] at h1 h2 ⊢
 exact ⟨g, c, rfl, h2, h3, h1, ((((K02.trans K3 (fun _ _ h => h)).own K4 (fun q e => by unfold Only at e; subst e; have := K02.size; omega)).trans K5 (fun _ _ h => h)).own K7 (fun q e => by rw [show q = b6 from R6.foot q e]; exact hb6))⟩
/-- What is 2^40 or more is 2^40. -/
def numC (b : List UInt8) : Nat := min (getN b) 1099511627776
theorem getN_drop {b : List UInt8} {k : Nat} {y : UInt8} (h : b[k]? = some y) : getN (b.drop k) = y.toNat + 256 * getN (b.drop (k + 1)) := by
 obtain ⟨hk, e⟩ := List.getElem?_eq_some_iff.1 h
 rw [List.drop_eq_getElem_cons hk, e]
 rfl
theorem cap_step (x y C : Nat) : min (y + 256 * x) C = min (min x C * 256 + y) C := by omega
theorem number_calls (w : World) (A : Option Addr) (c : Nat) (b : List UInt8) (hA : Reads w A (bv b)) (hb : b.length ≤ 1000) :
  Calls Try.prog 80 #[.slice A b.length c] w (fun e w' => e = .returned (.int .i64 (numC b : Int)) ∧ w = w') := by
 have hb' : (b.length : Int) ≤ 1000 := by omega
 have HA := hid hA
 clear hA
 go_enter Try.func80, Try.ntmps80
 go_wp2_with fail
 go_loopw [4, 3] (fun i v wr => ∃ m : Nat, i = .int .i64 ((m : Int) - 1) ∧ m ≤ b.length ∧ v = .int .i64 (numC (b.drop m) : Int) ∧ wr = w) (fun i _ _ => (intOf i + 1).toNat)
 case atStart => exact ⟨b.length, rfl, Nat.le_refl _, by rw [List.drop_length]; rfl, rfl⟩
 case round =>
  obtain ⟨m, hi, hm, hv, rfl⟩ := hrel
  rcases m with _ | j
  ·obtain rfl : u4 = .int .i64 (-1) := hi
   subst hv
   go_wp2_with fail
   go_ret
   exact ⟨rfl, rfl⟩
  ·have hij : u4 = .int .i64 (j : Int) := by rw [hi]; congr 1; omega
   clear hi
   subst hij
   obtain ⟨N, hN⟩ : ∃ N, N = numC (b.drop (j + 1)) := ⟨_, rfl⟩
   rw [← hN] at hv
   subst hv
   have hjl : (j : Int) < b.length := by omega
   obtain ⟨g, o, rfl, hr, hg⟩ := HA.out.where (by rw [bv_length]; omega)
   obtain ⟨y, hy⟩ : ∃ y, b[j]? = some y := ⟨_, List.getElem?_eq_getElem (by omega)⟩
   have hcell : wr.cell? ⟨g, o + j, none⟩ = some (.int .u8 (y.toNat : Int)) := hr j (Go.Proofs.Ytffcglfepobdjaa.u8 y) (by simp [bv, hy])
   have hy8 : y.toNat < 256 := y.toNat_lt
   have hyI : (y.toNat : Int) < 256 := Int.ofNat_lt.2 hy8
   have hNN : N ≤ 1099511627776 := by rw [hN]; exact Nat.min_le_right _ _
   have hNI : (N : Int) ≤ 1099511627776 := Int.ofNat_le.2 hNN
   have q1 : wrap64 ((N : Int) * 256) = (N : Int) * 256 := by unfold wrap64; omega
   have q2 : wrap64 ((N : Int) * 256 + (y.toNat : Int)) = ((N * 256 + y.toNat : Nat) : Int) := by unfold wrap64; omega
   have hgd := getN_drop hy
   have hnx : numC (b.drop j) = min (N * 256 + y.toNat) 1099511627776 := by
    rw [hN]; unfold numC; rw [hgd]; exact cap_step _ _ _
   have Hnx := hid hnx
   clear hr hy hgd hnx hN hNN
   by_cases hgt : 1099511627776 < N * 256 + y.toNat
   ·have hgt' : ((N : Int) * 256 + (y.toNat : Int) > 1099511627776) := by omega
    have Hgt := hid hgt
    clear hgt
    go_wp2_with fail
    go_roundw
    case rel => exact ⟨j, rfl, by omega, by rw [Hnx.out]; have := Hgt.out; rw [Nat.min_eq_right (by omega)]; rfl, trivial⟩
    case measure => simp [intOf]
   ·have hgt' : ¬ ((N : Int) * 256 + (y.toNat : Int) > 1099511627776) := by omega
    have Hgt := hid hgt
    clear hgt
    go_wp2_with fail
    go_roundw
    case rel => exact ⟨j, rfl, by omega, by rw [Hnx.out]; have := Hgt.out; rw [Nat.min_eq_left (by omega)]; first | rfl | (congr 1; push_cast; rfl), trivial⟩
    case measure => simp [intOf]
end Go.Proofs.Ytffcglfepobdjaa
set_option maxRecDepth 100000
set_option maxHeartbeats 2000000
namespace Go.Proofs.Ytffcglfepobdjaa
open Go.RowKit
theorem clamp_ten : clampN 10 = 10 := by decide
theorem clamp_three : clampN 3 = 3 := by decide
theorem RX.opened {w0 w w' : World} {F : Nat → Prop} {g r : Nat} {vl vs : Value} {S : RS} (hl : ∀ q, F q → w0.heap.size ≤ q) (K0 : Keep Noth w0 w) (H : RollAt w' (grow F w w') g r vl vs S) (K : Keep Noth w w') : RX w0 Noth w' (grow F w w') g r S :=
 ⟨⟨_, _, H⟩, low_grow hl K0.size, fun q a => a.elim, fun q a => a.elim, K0.trans K (fun _ _ e => e)⟩
/-- A row of two slices of bytes. -/
theorem readsL_two {w : World} {b x y : Nat} {cx cy : Nat} {l m : List UInt8} (B : BlockIs w b [.slice (some ⟨x, 0, none⟩) l.length cx, .slice (some ⟨y, 0, none⟩) m.length cy] 33) (hx : Reads w (some ⟨x, 0, none⟩) (bv l)) (hy : Reads w (some ⟨y, 0, none⟩) (bv m)) :
  ReadsL w (fun q => q = b ∨ q = x ∨ q = y) (some ⟨b, 0, none⟩) [l, m] := by
 refine ⟨⟨_, rfl, Reads.of_range B.rangeAll, fun i v u hv hu => ?_⟩, fun _ ad e => by injection e with e; subst e; exact .inl rfl⟩
 match i with
 | 0 =>
  simp only [List.getElem?_cons_zero, Option.some.injEq] at hv hu
  subst hv; subst hu
  exact ⟨_, _, rfl, hx, (fun e => by cases e), fun _ ad e => by injection e with e; subst e; exact .inr (.inl rfl)⟩
 | 1 =>
  simp only [List.getElem?_cons_zero, List.getElem?_cons_succ, Option.some.injEq] at hv hu
  subst hv; subst hu
  exact ⟨_, _, rfl, hy, (fun e => by cases e), fun _ ad e => by injection e with e; subst e; exact .inr (.inr rfl)⟩
 | n + 2 => simp at hv
theorem reads_marked (W : World) (bs : List UInt8) (m : Nat × Nat) : Reads (W.alloc (.cells (bv bs).toArray 5 m)) (some ⟨W.heap.size, 0, none⟩) (bv bs) :=
 Reads.of_range fun j v hv => by
  rw [cell_of_row _ W.heap.size (0 + j) (bv bs).toArray 5 m (heap_alloc_new W _), Nat.zero_add, List.getElem?_toArray]
  exact hv
/-- make([]byte, n), under a guard or not. -/
theorem wpList_make_bytes {ops : Array Oper} {rest : List Oper} {o : Oper} {a : Act} {w : World} {Q : Exit → Act → World → Prop} (hw : Region.wanted o (yielded ops a.tmps) = true) (l c : Operand) (ho : o.op = Op.makeSlice 33 l c) (n : Nat) (hl : a.eval l = .int .i64 (n : Int)) (hc : a.eval c = .int .i64 (n : Int)) (hn : n ≤ 140737488351232)
  (h : ∀ b w1, w.heap.size ≤ b → Bytes w1 (fun q => q = b) (.slice (some ⟨b, 0, none⟩) n n) (List.replicate n 0) → Keep Noth w w1 → wpList Try.prog ops Q rest (a.put o.dst (.slice (some ⟨b, 0, none⟩) n n)) w1) : wpList Try.prog ops Q (o :: rest) a w := by
 obtain ⟨i5, hi5, hz50, hz51, hz52⟩ := info_parts info5
 obtain ⟨w', hrun, r1, r2⟩ := run_make_full (P := Try.prog) w 0 33 5 i5 (.int .u8 0) 1 sl33 hi5 hz50 hz51 .i64 .i64 n (by rw [hz52]; omega) (by unfold maxLen; omega) (Nat.zero_le _)
 refine wpList_run_w hw _ w' (by simp [execOp, ho, hl, hc, hrun, Result.andThen]) (h _ w' (Nat.le_refl _) ?_ ((Keep.refl _ _).grown r2 (fun _ h => by cases h)))
 show Rows w' _ 5 1 _ (u1 (List.replicate n 0))
 rw [← u1_zeros]
 exact Rows.made (z := [.int .u8 0]) rfl (by decide) r1
theorem ralive_calls (w : World) : Calls Try.prog 37 #[] w (fun e w' => e = .returned (.bool true) ∧ Keep Noth w w') := by
 go_enter Try.func37, Try.ntmps37
 go_wp2_with fail
 refine (new_calls w 10).mono ?_
 rintro e w1 ⟨g, rfl, H1, K1⟩
 rw [clamp_ten] at H1
 obtain ⟨va, vr, A1⟩ := H1
 have K1h := hid K1
 clear K1
 go_wp2_with fail
 refine (open_ok A1 rfl zd_ok (by show 0 ≤ _; omega) (by show 4 ≤ zD.l.length; rw [show zD.l.length = 10 by kernel_rfl]; decide)).mono ?_
 rintro e w2 ⟨r, rfl, hr, ⟨vl, vs, R2⟩, K2⟩
 have X2 : RX w Noth w2 (grow (Fresh w w1) w1 w2) g r zR0 := RX.opened (fun q hq => hq.1) K1h.out R2 K2
 obtain ⟨F2, hF2⟩ : ∃ F2, F2 = grow (Fresh w w1) w1 w2 := ⟨_, rfl⟩
 rw [← hF2] at X2
 clear A1 R2 K2 K1h hF2 hr
 have kc := fun (W : World) (C : Array Value) (n c : Nat) => Lib.run_convert_bytes_const (P := Try.prog) W 33 5 C n c sl33 Try.underlying5
 go_wp2_with fail
 have K3 : Keep Noth w2 (w2.alloc (.cells #[.int .u8 97] 5 (1, 1 + 1))) := (Keep.refl _ _).alloc _
 have Q3 : Reads (w2.alloc (.cells #[.int .u8 97] 5 (1, 1 + 1))) (some ⟨w2.heap.size, 0, none⟩) (bv [97]) := reads_marked w2 [97] _
 generalize hw3 : w2.alloc (.cells #[.int .u8 97] 5 (1, 1 + 1)) = w3 at *
 have X3 := X2.keep K3
 obtain ⟨vl3, vs3, A3⟩ := X3.roll
 have hap := append_calls A3 z0_good.ok (by have := z_ops0.1; omega) (by have := z_ops0.2; omega) (some ⟨w2.heap.size, 0, none⟩) 1 [97] Q3 (fun e => by cases e) (fun _ ad e hq => by injection e with e; subst e; have h := X2.rlt _ hq; exact absurd h (Nat.lt_irrefl _)) (stage_good z0_good _).ok (by have := (stage_grow (S := zR0) [97]).1; have := z_ops0.1; omega) (by have := (stage_grow (S := zR0) [97]).2.1; have := z_ops0.2; omega)
 rw [z_append] at hap
 refine hap.mono ?_
 rintro e w4 ⟨rfl, R4, K4⟩
 have X4 : RX w Noth w4 (grow F2 w3 w4) g r zR1 := X3.step R4 K4
 obtain ⟨F4, hF4⟩ : ∃ F4, F4 = grow F2 w3 w4 := ⟨_, rfl⟩
 rw [← hF4] at X4
 clear hap X2 X3 A3 R4 K3 K4 Q3 hF4 hw3
 go_wp2_with fail
 have K5 : Keep Noth w4 (w4.alloc (.cells #[.int .u8 98] 5 (1, 1 + 1))) := (Keep.refl _ _).alloc _
 have Q5 : Reads (w4.alloc (.cells #[.int .u8 98] 5 (1, 1 + 1))) (some ⟨w4.heap.size, 0, none⟩) (bv [98]) := reads_marked w4 [98] _
 generalize hw5 : w4.alloc (.cells #[.int .u8 98] 5 (1, 1 + 1)) = w5 at *
 have X5 := X4.keep K5
 obtain ⟨vl5, vs5, A5⟩ := X5.roll
 have hst := stage_calls A5 z1_good.ok (by have := z_ops1.1; omega) (by have := z_ops1.2; omega) (some ⟨w4.heap.size, 0, none⟩) 1 [98] Q5 (fun e => by cases e) (fun _ ad e hq => by injection e with e; subst e; have h := X4.rlt _ hq; exact absurd h (Nat.lt_irrefl _))
 rw [z_stage] at hst
 refine hst.mono ?_
 rintro e w6 ⟨rfl, R6, K6⟩
 have X6 : RX w Noth w6 (grow F4 w5 w6) g r zR2 := X5.step R6 K6
 obtain ⟨F6, hF6⟩ : ∃ F6, F6 = grow F4 w5 w6 := ⟨_, rfl⟩
 rw [← hF6] at X6
 clear hst X4 X5 A5 R6 K5 K6 Q5 hF6 kc hw5
 obtain ⟨vl6, vs6, A6⟩ := X6.roll
 have hsd := staged_calls A6
 rw [z_staged] at hsd
 have hrm := room_calls A6 z2_good.ok
 rw [z_room] at hrm
 go_wp2_with fail
 refine hsd.mono ?_
 rintro e w' ⟨rfl, rfl⟩
 clear hsd
 go_wp2_with fail
 refine hrm.mono ?_
 rintro e w7 ⟨rfl, K7⟩
 have X7 := X6.keep K7
 clear hrm A6 X6 K7
 go_wp2_with fail
 have K8 : Keep Noth w7 (w7.alloc (.cells #[.int .i64 1] 3)) := (Keep.refl _ _).alloc _
 have B8 : BlockIs (w7.alloc (.cells #[.int .i64 1] 3)) w7.heap.size [.int .i64 1] 3 := BlockIs.new w7 _ _
 generalize hw8 : w7.alloc (.cells #[.int .i64 1] 3) = w8 at *
 have X8 := X7.keep K8
 obtain ⟨va8, vr8, A8⟩ := X8.dev
 have hcr := crash_calls A8 z2_good.dok (by have := z_ops2.2; omega) (some ⟨w7.heap.size, 0, none⟩) 1 [1] (Reads.of_range B8.rangeAll) (fun ad e _ hq => by injection e with e; subst e; have h := X7.rlt _ hq; exact absurd h (Nat.lt_irrefl _)) (by decide) (by intro x h; simp at h; subst h; decide)
 refine hcr.mono ?_
 rintro e w9 ⟨rfl, D9, K9⟩
 have D9' : DevIs w9 F6 g zD3 := D9
 have K09 : Keep Noth w w9 := X8.kept.own K9 X8.low
 have hlow := X8.low
 clear hcr A8 X7 X8 B8 K8 K9 D9 hw8
 obtain ⟨va9, vr9, A9⟩ := D9'
 have HK09 := hid K09
 clear K09
 go_wp2_with fail
 refine (open_ok A9 rfl zd3_ok (by show 0 ≤ _; omega) (by rw [zd3_l]; decide)).mono ?_
 rintro e w10 ⟨r2, rfl, hr, ⟨vl10, vs10, R10⟩, K10⟩
 have X10 : RX w Noth w10 (grow F6 w9 w10) g r2 zR3 := RX.opened hlow HK09.out R10 K10
 obtain ⟨F10, hF10⟩ : ∃ F10, F10 = grow F6 w9 w10 := ⟨_, rfl⟩
 rw [← hF10] at X10
 clear A9 R10 K10 HK09 hF10 hr hlow
 obtain ⟨vl11, vs11, A10⟩ := X10.roll
 go_wp2_with fail
 refine (records_calls A10 z3_good.ok).mono ?_
 rintro e w11 ⟨vrec, rfl, RC, K11⟩
 rw [z_l] at RC
 obtain ⟨Ar, cr, rfl⟩ := RC.val
 have HL := RC.reads
 have X11 := (X10.keep K11).more (R' := Fresh w10 w11) (fun q a b => by have := a.1; have := X10.rlt _ b; omega) (fun q a => a.2)
 have HX11 := hid X11
 clear RC K11 A10 X10 X11
 go_wp2_with fail
 have K12 : Keep Noth w11 (w11.alloc (.cells #[.int .u8 1] 5)) := (Keep.refl _ _).alloc _
 have B12 : BlockIs (w11.alloc (.cells #[.int .u8 1] 5)) w11.heap.size [.int .u8 1] 5 := BlockIs.new w11 _ _
 have s12 : (w11.alloc (.cells #[.int .u8 1] 5)).heap.size = w11.heap.size + 1 := World.size_alloc _ _
 generalize hw12 : w11.alloc (.cells #[.int .u8 1] 5) = w12 at *
 have K13 : Keep Noth w12 (w12.alloc (.cells #[.int .u8 2] 5)) := (Keep.refl _ _).alloc _
 have B13 : BlockIs (w12.alloc (.cells #[.int .u8 2] 5)) (w11.heap.size + 1) [.int .u8 2] 5 := by rw [← s12]; exact BlockIs.new w12 _ _
 have s13 : (w12.alloc (.cells #[.int .u8 2] 5)).heap.size = w11.heap.size + 1 + 1 := by rw [← s12]; exact World.size_alloc _ _
 generalize hw13 : w12.alloc (.cells #[.int .u8 2] 5) = w13 at *
 have K14 : Keep Noth w13 (w13.alloc (.cells #[.slice (some ⟨w11.heap.size, 0, none⟩) 1 1, .slice (some ⟨w11.heap.size + 1, 0, none⟩) 1 1] 33)) := (Keep.refl _ _).alloc _
 have B14 : BlockIs (w13.alloc (.cells #[.slice (some ⟨w11.heap.size, 0, none⟩) 1 1, .slice (some ⟨w11.heap.size + 1, 0, none⟩) 1 1] 33)) (w11.heap.size + 1 + 1) [.slice (some ⟨w11.heap.size, 0, none⟩) 1 1, .slice (some ⟨w11.heap.size + 1, 0, none⟩) 1 1] 33 := by rw [← s13]; exact BlockIs.new w13 _ _
 generalize hw14 : w13.alloc (.cells #[.slice (some ⟨w11.heap.size, 0, none⟩) 1 1, .slice (some ⟨w11.heap.size + 1, 0, none⟩) 1 1] 33) = w14 at *
 have K1114 : Keep Noth w11 w14 := (K12.trans K13 (fun _ _ e => e)).trans K14 (fun _ _ e => e)
 have X14 := HX11.out.keep K1114
 have HL14 := HL.keep K1114 (Dj.noth _)
 obtain ⟨vl14, vs14, A14⟩ := X14.roll
 have hrs := reset_calls A14 z3_good.ok (by have := z_ops3.1; omega) (by have := z_ops3.2; omega) (some ⟨w11.heap.size + 1 + 1, 0, none⟩) 2 [[1], [2]] (readsL_two (cx := 1) (cy := 1) (l := [1]) (m := [2]) B14 (Reads.of_range ((B12.keep K13 id).keep K14 id).rangeAll) (Reads.of_range (B13.keep K14 id).rangeAll)) (fun q a b => by
  have := HX11.out.rlt _ b
  rcases a with rfl | rfl | rfl <;> omega) (by decide) (by intro b hb; simp at hb; rcases hb with rfl | rfl <;> decide) (by decide)
 rw [z_reset] at hrs
 refine hrs.mono ?_
 rintro e w15 ⟨rfl, R15, K15⟩
 have X15 := X14.step R15 K15
 have HL15 := HL14.keep K15 (fun q a b => X14.off q (.inr a) b)
 obtain ⟨F15, hF15⟩ : ∃ F15, F15 = grow F10 w14 w15 := ⟨_, rfl⟩
 rw [← hF15] at X15
 have X15' : RX w _ w15 F15 g r2 zR4 := X15
 have HX15 := hid X15'
 have HHL := hid HL15
 clear hrs HL HL14 X14 A14 R15 K15 K1114 K12 K13 K14 B12 B13 B14 HX11 X15 X15' HL15 hF15 hw12 hw13 hw14 s12 s13
 go_wp2_with fail
 refine (open_nil w15).mono ?_
 rintro e w' ⟨rfl, rfl⟩
 go_wp2_with fail
 refine (new_calls w15 3).mono ?_
 rintro e w16 ⟨g2, rfl, H16, K16⟩
 rw [clamp_three] at H16
 obtain ⟨va16, vr16, A16⟩ := H16
 have X16 := HX15.out.keep K16
 have HX16 := hid X16
 have HHL16 := hid (HHL.out.keep K16 (Dj.noth _))
 clear X16 HX15 HHL K16
 go_wp2_with fail
 refine (open_form A16 rfl (new_ok 3 (by decide) (by decide)) (by show (DS.new 3).l.length < 4; rw [show (DS.new 3).l.length = 3 by kernel_rfl]; decide)).mono ?_
 rintro e w' ⟨rfl, rfl⟩
 clear A16
 obtain ⟨gA, oA, rfl, B, c', hcell, hB, -, -⟩ := HHL16.out.at 0 [97] rfl
 rw [show ([97] : List UInt8).length = 1 from rfl, Nat.add_zero] at hcell
 have HB := hid hB
 obtain ⟨vl16, vs16, A16⟩ := HX16.out.roll
 have HA16 := hid A16
 clear hB A16
 go_wp2_with (first
  | (guard_target = wpList _ _ _ (Oper.mk (some 95) _ _ _ _ _ :: _) _ _; refine wpList_run_w (by rfl) (.string ⟨#[97]⟩) w16 (by have := run_conv (P := Try.prog) (w := w16) 33 5 9 sl33 Try.underlying5 Try.underlying9 B 1 c' [97] rfl HB.out; simp [execOp, Act.eval, this, Result.andThen]) ?_))
 refine (records_calls HA16.out z4_good.ok).mono ?_
 rintro e w17 ⟨vrec, rfl, RC, K17⟩
 obtain ⟨A17, c17, rfl⟩ := RC.val
 rw [z_l4]
 have X17 := HX16.out.keep K17
 obtain ⟨vl17, vs17, R17⟩ := X17.roll
 have hsl := seal_calls R17 z4_good.ok (by have := z_ops4.1; omega) (by have := z_ops4.2; omega)
 rw [z_seal] at hsl
 have HX17 := hid X17
 clear RC K17 HX16 HA16 X17 R17
 go_wp2_with fail
 refine hsl.mono ?_
 rintro e w18 ⟨rfl, R18, K18⟩
 have X18 := HX17.out.step R18 K18
 obtain ⟨F18, hF18⟩ : ∃ F18, F18 = grow F15 w17 w18 := ⟨_, rfl⟩
 rw [← hF18] at X18
 have X18' : RX w _ w18 F18 g r2 zR4 := X18
 have HX18 := hid X18'
 clear hsl R18 K18 HX17 X18 X18' hF18
 obtain ⟨N, hN⟩ : ∃ N : Nat, N = 4001 := ⟨_, rfl⟩
 have HN := hid hN
 clear hN
 go_wp2_with (first
  | (guard_target = wpList _ _ _ (Oper.mk (some 123) _ _ _ _ _ :: _) _ _; refine wpList_make_bytes (by rfl) _ _ rfl N (by rw [HN.out]; rfl) (by rw [HN.out]; rfl) (by have := HN.out; omega) ?_; intro b19 w19 hb19 B19 K19))
 have X19 := HX18.out.keep K19
 obtain ⟨vl19, vs19, R19⟩ := X19.roll
 have hst := stage_calls R19 z4_good.ok (by have := z_ops4.1; omega) (by have := z_ops4.2; omega) (some ⟨b19, 0, none⟩) N (List.replicate N 0) (Bytes.same_as B19) (fun e => by cases e) (fun _ ad e hq => by injection e with e; subst e; have h := HX18.out.rlt _ hq; exact absurd h (Nat.not_lt.2 hb19))
 have hs : zR4.stage (List.replicate N 0) = (zR4, 110) := by unfold RS.stage; rw [if_pos (by rw [List.length_replicate, HN.out]; decide)]
 rw [hs, List.length_replicate] at hst
 refine hst.mono ?_
 rintro e w20 ⟨rfl, R20, K20⟩
 have K020 := (X19.step R20 K20).kept
 have HK := hid K020
 clear hst hs R20 K20 K020 X19 R19 B19 K19 HX18
 go_wp2_with fail
 go_ret
 exact ⟨rfl, HK.out⟩
end Go.Proofs.Ytffcglfepobdjaa
set_option maxRecDepth 10000
set_option maxHeartbeats 1500000
namespace Go.Proofs.Ytffcglfepobdjaa
open Go.RowKit
theorem refBlocks_calls (w : World) (A : Option Addr) (c : Nat) (b : List UInt8) (hb : b.length ≤ 140737488351232) :
  Calls Try.prog 101 #[.slice A b.length c] w (fun e w' => e = .returned (.int .i64 (blocksN b : Int)) ∧ w = w') := by
 have hd : ((b.length : Int) + 65) / 64 = (blocksN b : Int) := by unfold blocksN; omega
 have hb' : (b.length : Int) ≤ 140737488351232 := by omega
 have Hd := hid hd
 clear hd
 go_enter Try.func101, Try.ntmps101
 go_wp2_with fail
 go_ret
 exact ⟨ret_int Hd.out, rfl⟩
theorem zeros_calls (w : World) (n : Nat) (hn : n ≤ 1048576) :
  Calls Try.prog 99 #[.int .i64 (n : Int)] w (fun e w' => ∃ v, e = .returned v ∧ Bytes w' (Fresh w w') v (List.replicate n 0) ∧ Keep Noth w w') := by
 have hn' : (n : Int) ≤ 1048576 := by omega
 go_enter Try.func99, Try.ntmps99
 go_wp2_with (first
  | (guard_target = wpList _ _ _ (Oper.mk _ (Op.makeSlice _ _ _) _ _ _ _ :: _) _ _; refine wpList_make_bytes (by rfl) _ _ rfl n (by rfl) (by rfl) (by omega) ?_; intro b1 w1 hb1 B1 K1))
 go_ret
 exact ⟨_, rfl, Rows.mono B1 (fun q hq => by subst hq; exact ⟨hb1, B1.ownlt _ rfl⟩), K1⟩
section
variable {ops : Array Oper} {rest : List Oper} {o : Oper} {a : Act} {w : World}
/-- Bytes are appended to bytes that were made behind a world. -/
theorem exec_append_bytes (s x : Operand) (ho : o.op = .call { callee := .builtin .append, args := #[s, x], argTypes := #[33, 33] }) {w0 : World} (K0 : Keep Noth w0 w) {v : Value} {l m : List UInt8} (hs : a.eval s = v) (H : Bytes w (Fresh w0 w) v l)
  {A : Option Addr} {n c : Nat} (hx : a.eval x = .slice A n c) (hn : n = m.length) (hA : A = none → c = 0) (hR : Reads w A (bv m)) (hl : l.length + m.length ≤ 140737488355328) :
  ∃ v' w', (execOp a.eval o).run Try.prog w = .ok (.value v') w' ∧ Bytes w' (Fresh w0 w') v' (l ++ m) ∧ Keep Noth w0 w' ∧ Keep (fun k => v.ownBlock = some k) w w' := by
 obtain ⟨v', w', hr, R, K⟩ := run_append_rows (P := Try.prog) (w := w) 33 o.type 5 (.int .u8 0) 1 1 sl33 info5 rfl (by decide) (by decide) (Fresh w0 w) v (u1 l) (u1 m) H A n c (by rw [u1_length, hn]) hA (u1_each _) (by rw [u1_flatten]; exact hR) (u1_one _) (by rw [u1_length]; omega)
 have hs0 := K0.size
 have hs1 := K.size
 refine ⟨v', w', exec_append s x 33 ho hs hx hr, ?_, K0.own K (fun q e => (H.foot q e).1), K⟩
 show Rows w' _ 5 1 v' (u1 (l ++ m))
 rw [u1_append]
 refine R.mono (fun q hq => ?_)
 rcases hq with hq | hq
 ·have := H.foot q hq; exact ⟨this.1, by have := this.2; omega⟩
 ·exact ⟨by omega, hq.2⟩
theorem wpList_append_bytes {Q : Exit → Act → World → Prop} (hw : Region.wanted o (yielded ops a.tmps) = true) (s x : Operand) (ho : o.op = .call { callee := .builtin .append, args := #[s, x], argTypes := #[33, 33] }) {w0 : World} (K0 : Keep Noth w0 w) {v : Value} {l m : List UInt8} (hs : a.eval s = v) (H : Bytes w (Fresh w0 w) v l)
  {A : Option Addr} {n c : Nat} (hx : a.eval x = .slice A n c) (hn : n = m.length) (hA : A = none → c = 0) (hR : Reads w A (bv m)) (hl : l.length + m.length ≤ 140737488355328)
  (h : ∀ v' w', Bytes w' (Fresh w0 w') v' (l ++ m) → Keep Noth w0 w' → Keep (fun k => v.ownBlock = some k) w w' → wpList Try.prog ops Q rest (a.put o.dst v') w') : wpList Try.prog ops Q (o :: rest) a w := by
 obtain ⟨v', w', e1, e2, e3, e4⟩ := exec_append_bytes s x ho K0 hs H hx hn hA hR hl
 exact wpList_run_w hw v' w' e1 (h v' w' e2 e3 e4)
end
theorem Bytes.val2 {w : World} {F : Nat → Prop} {v : Value} {l : List UInt8} (h : Bytes w F v l) : ∃ A c, v = .slice A l.length c := h.valm
theorem Bytes.fresh {w0 w w' : World} {v : Value} {l : List UInt8} (h : Bytes w (Fresh w0 w) v l) (K : Keep Noth w w') : Bytes w' (Fresh w0 w') v l :=
 (Rows.keep h K (Dj.noth _)).mono (fun q hq => ⟨hq.1, by have := hq.2; have := K.size; omega⟩)
theorem putB_step (k n : Nat) : ((n / 2 ^ (8 * k) : Nat) : Int) % 256 = ((UInt8.ofNat (n / 2 ^ (8 * k))).toNat : Int) := by
 rw [UInt8.toNat_ofNat']
 omega
theorem div_step (k n : Nat) : n / 2 ^ (8 * k) / 256 = n / 2 ^ (8 * (k + 1)) := by
 rw [Nat.div_div_eq_div_mul, show 8 * (k + 1) = 8 * k + 8 by omega, Nat.pow_add]
theorem bytes_calls (w : World) (n many : Nat) (hn : n ≤ 1152921504606846976) (hm : many ≤ 64) :
  Calls Try.prog 98 #[.int .i64 (n : Int), .int .i64 (many : Int)] w (fun e w' => ∃ v, e = .returned v ∧ Bytes w' (Fresh w w') v (putB many n) ∧ Keep Noth w w') := by
 have hm' : (many : Int) ≤ 64 := by omega
 go_enter Try.func98, Try.ntmps98
 go_wp2_with fail
 go_loopw [6, 0, 5] (fun i n' v wr => ∃ k : Nat, i = .int .i64 k ∧ k ≤ many ∧ n' = .int .i64 ((n / 2 ^ (8 * k) : Nat) : Int) ∧ Bytes wr (Fresh w wr) v (putB k n) ∧ Keep Noth w wr) (fun i _ _ _ => many - (intOf i).toNat)
 case atStart => exact ⟨0, rfl, Nat.zero_le _, by simp, Rows.nil _ _ _ _, Keep.refl _ _⟩
 case round =>
  obtain ⟨k, rfl, hk, rfl, HB, HK⟩ := hrel
  by_cases hlt : k < many
  ·have hlt' : (k : Int) < many := by omega
   have Hp := hid (putB_succ k n)
   have Hs := hid (putB_step k n)
   have Hv := hid (div_step k n)
   have hle : n / 2 ^ (8 * k) ≤ 1152921504606846976 := Nat.le_trans (Nat.div_le_self _ _) hn
   obtain ⟨N, hN⟩ : ∃ N, N = n / 2 ^ (8 * k) := ⟨_, rfl⟩
   rw [← hN] at hle Hs Hv ⊢
   have HN := hid hN
   have hNI : (N : Int) ≤ 1152921504606846976 := by omega
   have HB' := hid HB
   clear HB hN hn
   go_wp2_with (first
    | (guard_target = wpList _ _ _ (Oper.mk _ (Op.buildSlice _ _ _) _ _ _ _ :: _) _ _; refine wpList_sliceN rfl 33 5 1 _ rfl sl33 info5 rfl [.int .u8 ((N : Int) % 256)] rfl (by decide) (by decide) (by simp [Act.eval]) (by intro v hv; simp at hv; subst hv; rfl) ?_; intro b2 w2 hb2 B2 K2; rw [Hs.out] at B2)
    | (at_builtin; refine wpList_append_bytes (by rfl) _ _ rfl (l := putB k n) (m := [UInt8.ofNat N]) (HK.trans K2 (fun _ _ h => h)) (by rfl) (HB'.out.fresh K2) (by rfl) rfl (fun e => by cases e) (Reads.of_range B2.rangeAll) (by rw [putB_length]; show k + 1 ≤ _; omega) ?_; intro v3 w3 HB3 K03 K3))
   have HB3' := hid HB3
   clear HB3 B2 K2 K3
   go_roundw
   case rel => exact ⟨k + 1, by go_num, hlt, by rw [← Hv.out]; first | rfl | (congr 1; omega), by rw [Hp.out, ← HN.out]; exact HB3'.out, K03⟩
   case measure => simp [intOf]; omega
  ·have hge : k = many := by omega
   subst hge
   go_wp2_with fail
   go_ret
   exact ⟨_, rfl, HB, HK⟩
theorem headB_parts (seq area used count : Nat) : headB seq area used count = ((((((putB 8 seq ++ [UInt8.ofNat area]) ++ putB 4 used) ++ putB 4 count) ++ List.replicate 15 0) ++ putB 8 seq) ++ List.replicate 24 0) := by rfl
theorem packB_parts (b : List UInt8) : packB b = (putB 2 b.length ++ b) ++ List.replicate (64 * blocksN b - (2 + b.length)) 0 := by
 unfold packB; rw [Nat.sub_sub]
theorem head_calls (w : World) (seq area used count : Nat) (h1 : seq ≤ 1152921504606846976) (h2 : area ≤ 1152921504606846976) (h3 : used ≤ 1152921504606846976) (h4 : count ≤ 1152921504606846976) :
  Calls Try.prog 81 #[.int .i64 (seq : Int), .int .i64 (area : Int), .int .i64 (used : Int), .int .i64 (count : Int)] w (fun e w' => ∃ g c, e = .returned (.slice (some ⟨g, 0, none⟩) 64 c) ∧ Bytes w' (Fresh w w') (.slice (some ⟨g, 0, none⟩) 64 c) (headB seq area used count) ∧ Keep Noth w w') := by
 have hB1 := fun W => bytes_calls W seq 8 h1 (by decide)
 have hB2 := fun W => bytes_calls W used 4 h3 (by decide)
 have hB3 := fun W => bytes_calls W count 4 h4 (by decide)
 have hau : (UInt8.ofNat area).toNat = area % 256 := UInt8.toNat_ofNat'
 have Hau : Hid ((area : Int) % 256 = ((UInt8.ofNat area).toNat : Int)) := by show _ = _; rw [hau]; omega
 have HB1 := hid hB1
 have HB2 := hid hB2
 have HB3 := hid hB3
 clear hau hB1 hB2 hB3
 go_enter Try.func81, Try.ntmps81
 go_wp2_with fail
 refine (HB1.out w).mono ?_
 rintro e w1 ⟨v1, rfl, X1, K1⟩
 obtain ⟨A1, c1, rfl⟩ := X1.valm
 go_wp2_with (first
  | (guard_target = wpList _ _ _ (Oper.mk _ (Op.buildSlice _ _ _) _ _ _ _ :: _) _ _; refine wpList_sliceN rfl 33 5 1 _ rfl sl33 info5 rfl [.int .u8 ((area : Int) % 256)] rfl (by decide) (by decide) (by simp [Act.eval]) (by intro v hv; simp at hv; subst hv; rfl) ?_; intro b2 w2 hb2 B2 K2; rw [Hau.out] at B2)
  | (at_builtin; refine wpList_append_bytes (by rfl) _ _ rfl (l := putB 8 seq) (m := [UInt8.ofNat area]) (K1.trans K2 (fun _ _ h => h)) (by rfl) (X1.fresh K2) (by rfl) rfl (fun e => by cases e) (Reads.of_range B2.rangeAll) (by simp [putB_length]) ?_; intro v3 w3 X3 K3 KK3))
 clear X1 K1 K2 B2 KK3
 obtain ⟨A3, c3, rfl⟩ := X3.valm
 refine (HB2.out w3).mono ?_
 rintro e w4 ⟨v4, rfl, X4, K4⟩
 obtain ⟨A4, c4, rfl⟩ := X4.valm
 go_wp2_with (first
  | (at_builtin; refine wpList_append_bytes (by rfl) _ _ rfl (l := putB 8 seq ++ [UInt8.ofNat area]) (m := putB 4 used) (K3.trans K4 (fun _ _ h => h)) (by rfl) (X3.fresh K4) (by rfl) rfl X4.none_cap (Bytes.same_as X4) (by simp [putB_length]) ?_; intro v5 w5 X5 K5 KK5))
 clear X3 K3 X4 K4 KK5
 obtain ⟨A5, c5, rfl⟩ := X5.valm
 refine (HB3.out w5).mono ?_
 rintro e w6 ⟨v6, rfl, X6, K6⟩
 obtain ⟨A6, c6, rfl⟩ := X6.valm
 go_wp2_with (first
  | (at_builtin; refine wpList_append_bytes (by rfl) _ _ rfl (l := (putB 8 seq ++ [UInt8.ofNat area]) ++ putB 4 used) (m := putB 4 count) (K5.trans K6 (fun _ _ h => h)) (by rfl) (X5.fresh K6) (by rfl) rfl X6.none_cap (Bytes.same_as X6) (by simp [putB_length]) ?_; intro v7 w7 X7 K7 KK7))
 clear X5 K5 X6 K6 KK7
 obtain ⟨A7, c7, rfl⟩ := X7.valm
 refine (zeros_calls w7 15 (by decide)).mono ?_
 rintro e w8 ⟨v8, rfl, X8, K8⟩
 obtain ⟨A8, c8, rfl⟩ := X8.valm
 go_wp2_with (first
  | (at_builtin; refine wpList_append_bytes (by rfl) _ _ rfl (l := ((putB 8 seq ++ [UInt8.ofNat area]) ++ putB 4 used) ++ putB 4 count) (m := List.replicate 15 0) (K7.trans K8 (fun _ _ h => h)) (by rfl) (X7.fresh K8) (by rfl) rfl X8.none_cap (Bytes.same_as X8) (by simp [putB_length]) ?_; intro v9 w9 X9 K9 KK9))
 clear X7 K7 X8 K8 KK9
 obtain ⟨A9, c9, rfl⟩ := X9.valm
 refine (HB1.out w9).mono ?_
 rintro e w10 ⟨v10, rfl, X10, K10⟩
 obtain ⟨A10, c10, rfl⟩ := X10.valm
 go_wp2_with (first
  | (at_builtin; refine wpList_append_bytes (by rfl) _ _ rfl (l := (((putB 8 seq ++ [UInt8.ofNat area]) ++ putB 4 used) ++ putB 4 count) ++ List.replicate 15 0) (m := putB 8 seq) (K9.trans K10 (fun _ _ h => h)) (by rfl) (X9.fresh K10) (by rfl) rfl X10.none_cap (Bytes.same_as X10) (by simp [putB_length]) ?_; intro v11 w11 X11 K11 KK11))
 clear X9 K9 X10 K10 KK11
 obtain ⟨A11, c11, rfl⟩ := X11.valm
 refine (zeros_calls w11 24 (by decide)).mono ?_
 rintro e w12 ⟨v12, rfl, X12, K12⟩
 obtain ⟨A12, c12, rfl⟩ := X12.valm
 go_wp2_with (first
  | (at_builtin; refine wpList_append_bytes (by rfl) _ _ rfl (l := ((((putB 8 seq ++ [UInt8.ofNat area]) ++ putB 4 used) ++ putB 4 count) ++ List.replicate 15 0) ++ putB 8 seq) (m := List.replicate 24 0) (K11.trans K12 (fun _ _ h => h)) (by rfl) (X11.fresh K12) (by rfl) rfl X12.none_cap (Bytes.same_as X12) (by simp [putB_length]) ?_; intro v13 w13 X13 K13 KK13))
 go_ret
 rw [← headB_parts] at X13
 obtain ⟨g, c, rfl, h5, h6⟩ := Bytes.form X13 (by rw [headB_length]; decide)
 rw [headB_length] at X13 ⊢
 exact ⟨g, c, rfl, X13, K13⟩
theorem pack_calls (w : World) (A : Option Addr) (c : Nat) (b : List UInt8) (hA : Reads w A (bv b)) (hAc : A = none → c = 0) (hb : b.length ≤ 1048576) :
  Calls Try.prog 100 #[.slice A b.length c] w (fun e w' => ∃ g c, e = .returned (.slice (some ⟨g, 0, none⟩) (packB b).length c) ∧ Bytes w' (Fresh w w') (.slice (some ⟨g, 0, none⟩) (packB b).length c) (packB b) ∧ Keep Noth w w') := by
 have hb' : (b.length : Int) ≤ 1048576 := by omega
 have hbb := blocksN_bound b
 have hB1 := fun W => bytes_calls W b.length 2 (by omega) (by decide)
 have hBl := fun W => refBlocks_calls W A c b (by omega)
 have hz := fun W => zeros_calls W (64 * blocksN b - (2 + b.length)) (by omega)
 have HB1 := hid hB1
 have HBl := hid hBl
 have Hz := hid hz
 have HA := hid hA
 have HAc := hid hAc
 have q1 : wrap64 (64 * (blocksN b : Int)) = 64 * (blocksN b : Int) := by unfold wrap64; omega
 have q2 : wrap64 (64 * (blocksN b : Int) - (((putB 2 b.length).length : Int) + (b.length : Int))) = ((64 * blocksN b - (2 + b.length) : Nat) : Int) := by rw [putB_length]; unfold wrap64; omega
 have Q2 := hid q2
 clear hB1 hBl hz hA hAc q2
 go_enter Try.func100, Try.ntmps100
 go_wp2_with fail
 refine (HB1.out w).mono ?_
 rintro e w1 ⟨v1, rfl, X1, K1⟩
 obtain ⟨A1, c1, rfl⟩ := X1.valm
 go_wp2_with (first
  | (at_builtin; refine wpList_append_bytes (by rfl) _ _ rfl (l := putB 2 b.length) (m := b) K1 (by rfl) X1 (by rfl) rfl HAc.out (HA.out.keep K1 (fun _ _ => id)) (by rw [putB_length]; omega) ?_; intro v3 w3 X3 K3 KK3; obtain ⟨A3, c3, hv3⟩ := X3.val2; subst hv3; rw [List.length_append] at X3))
 clear X1 K1 KK3
 refine (HBl.out w3).mono ?_
 rintro e w' ⟨rfl, rfl⟩
 go_wp2_with fail
 rw [Q2.out]
 refine (Hz.out w3).mono ?_
 rintro e w4 ⟨v4, rfl, X4, K4⟩
 obtain ⟨A4, c4, rfl⟩ := X4.valm
 go_wp2_with (first
  | (at_builtin; refine wpList_append_bytes (by rfl) _ _ rfl (l := putB 2 b.length ++ b) (m := List.replicate (64 * blocksN b - (2 + b.length)) 0) (K3.trans K4 (fun _ _ h => h)) (by rfl) (X3.fresh K4) (by rfl) (by rw [List.length_replicate]) X4.none_cap (Bytes.same_as X4) (by simp [putB_length]; omega) ?_; intro v5 w5 X5 K5 KK5))
 go_ret
 rw [← packB_parts] at X5
 obtain ⟨g, c, rfl, h5, h6⟩ := Bytes.form X5 (by rw [packB_length]; omega)
 exact ⟨g, c, rfl, X5, K5⟩
theorem recB_add (D : DS) (k i : Nat) : ∀ j, recB D k (i + j) = recB D k i ++ recB D (k + i) j
 | 0 => by simp [recB]
 | j + 1 => by rw [← Nat.add_assoc, recB_succ, recB_add D k i j, recB_succ, List.append_assoc, Nat.add_assoc]
theorem recB_one (D : DS) (k : Nat) : recB D k 1 = D.at k := by simp [recB]
theorem recB_take {D : DS} (hok : D.ok) {k i j : Nat} (h : k + (i + j) ≤ D.l.length) : (recB D k (i + j)).take (64 * i) = recB D k i := by
 have := recB_length hok k i (by omega)
 rw [recB_add, List.take_left' this]
theorem recB_drop {D : DS} (hok : D.ok) {k i j : Nat} (h : k + (i + j) ≤ D.l.length) : (recB D k (i + j)).drop (64 * i) = recB D (k + i) j := by
 have := recB_length hok k i (by omega)
 rw [recB_add, List.drop_left' this]
theorem putB2_getN (x : List UInt8) (h : x.length = 2) : putB 2 (getN x) = x := by
 match x, h with
 | [a, b], _ =>
  have ha : a.toNat < 256 := a.toNat_lt
  have hb : b.toNat < 256 := b.toNat_lt
  show [UInt8.ofNat ((a.toNat + 256 * (b.toNat + 256 * 0)) / 2 ^ (8 * 0)), UInt8.ofNat ((a.toNat + 256 * (b.toNat + 256 * 0)) / 2 ^ (8 * 1))] = [a, b]
  have e1 : UInt8.ofNat ((a.toNat + 256 * (b.toNat + 256 * 0)) / 2 ^ (8 * 0)) = a := by
   apply UInt8.toNat_inj.1
   rw [UInt8.toNat_ofNat']
   omega
  have e2 : UInt8.ofNat ((a.toNat + 256 * (b.toNat + 256 * 0)) / 2 ^ (8 * 1)) = b := by
   apply UInt8.toNat_inj.1
   rw [UInt8.toNat_ofNat']
   omega
  rw [e1, e2]
theorem any_nz (l : List UInt8) : l.any (fun x => x != 0) = false ↔ l = List.replicate l.length 0 := by
 induction l with
 | nil => simp
 | cons x l ih =>
  rw [List.any_cons, Bool.or_eq_false_iff, ih, List.length_cons, List.replicate_succ, List.cons.injEq]
  simp
/-- A record, of the bytes that are left. -/
def refRec (b : List UInt8) : Option (List UInt8) :=
 if b.length = 0 then none else
 if 4000 < getN (b.take 2) ∨ b.length < getN (b.take 2) + 2 then none else
 if packB ((b.drop 2).take (getN (b.take 2))) = b.take (64 * blocksN ((b.drop 2).take (getN (b.take 2)))) then some ((b.drop 2).take (getN (b.take 2))) else none
theorem recF_ref {D : DS} (hok : D.ok) {k left : Nat} (hk : k + left ≤ D.l.length) : recF D k left = refRec (recB D k left) := by
 have hlen := recB_length hok k left hk
 by_cases h0 : left = 0
 ·subst h0
  unfold recF refRec
  rw [if_pos rfl, if_pos (by rw [hlen])]
 have h64 := at_64 hok k (by omega)
 have ht2 : (recB D k left).take 2 = (D.at k).take 2 := by
  obtain ⟨m, rfl⟩ : ∃ m, left = 1 + m := ⟨left - 1, by omega⟩
  rw [recB_add, recB_one, List.take_append_of_le_length (by omega)]
 obtain ⟨n, hn⟩ : ∃ n, n = getN ((D.at k).take 2) := ⟨_, rfl⟩
 rw [recF_eq h0 hn rfl]
 have hR : refRec (recB D k left) = if 4000 < n ∨ 64 * left < n + 2 then none else if packB (((recB D k left).drop 2).take n) = (recB D k left).take (64 * blocksN (((recB D k left).drop 2).take n)) then some (((recB D k left).drop 2).take n) else none := by
  unfold refRec
  rw [if_neg (by rw [hlen]; omega), ht2, ← hn, hlen]
 rw [hR]
 by_cases h4 : 4000 < n
 ·rw [if_pos (.inl h4), if_pos (.inl h4)]
 by_cases hs : 64 * left < n + 2
 ·have hj : recJ n left = left := by unfold recJ; omega
  rw [hj, hlen, if_pos (.inr hs), if_pos (.inr hs)]
 have hj : recJ n left = (n + 65) / 64 := by unfold recJ; omega
 obtain ⟨m, hm⟩ : ∃ m, m = (n + 65) / 64 := ⟨_, rfl⟩
 rw [hj, ← hm]
 obtain ⟨r, rfl⟩ : ∃ r, left = m + r := ⟨left - m, by omega⟩
 have hB : recB D k m = (recB D k (m + r)).take (64 * m) := (recB_take hok hk).symm
 have hBl := recB_length hok k m (by omega)
 obtain ⟨B, hBB⟩ : ∃ B, B = recB D k m := ⟨_, rfl⟩
 rw [← hBB] at hB hBl ⊢
 have hrec : ((recB D k (m + r)).drop 2).take n = (B.drop 2).take n := by
  rw [hB, List.drop_take, List.take_take, Nat.min_eq_left (by omega)]
 have hrl : ((B.drop 2).take n).length = n := by rw [List.length_take, List.length_drop]; omega
 have hbl : blocksN ((B.drop 2).take n) = m := by unfold blocksN; rw [hrl, hm]
 rw [hBl, if_neg (show ¬(4000 < n ∨ 64 * m < n + 2) by omega), if_neg (show ¬(4000 < n ∨ 64 * (m + r) < n + 2) by omega), hrec, hbl, ← hB]
 have hB2 : B.take 2 = (D.at k).take 2 := by rw [hB, List.take_take, Nat.min_eq_left (by omega), ht2]
 have hput : putB 2 n = B.take 2 := by
  rw [hB2, hn]; exact putB2_getN _ (by rw [List.length_take]; omega)
 have hpk : packB ((B.drop 2).take n) = (B.take 2 ++ (B.drop 2).take n) ++ List.replicate (64 * m - (2 + n)) 0 := by
  rw [packB_parts, hrl, hbl, hput]
 have hBs : B = (B.take 2 ++ (B.drop 2).take n) ++ B.drop (n + 2) := by
  rw [List.append_assoc]
  conv => lhs; rw [← List.take_append_drop 2 B]
  congr 1
  conv => lhs; rw [← List.take_append_drop n (B.drop 2)]
  rw [List.drop_drop, Nat.add_comm 2 n]
 have hdl : (B.drop (n + 2)).length = 64 * m - (2 + n) := by rw [List.length_drop]; omega
 by_cases hz : (B.drop (n + 2)).any (fun x => x != 0) = true
 ·rw [if_pos hz, if_neg]
  intro e
  rw [hpk] at e
  conv at e => rhs; rw [hBs]
  have := List.append_cancel_left e
  have h2 := (any_nz (B.drop (n + 2))).2 (by rw [hdl]; exact this.symm)
  rw [hz] at h2; cases h2
 ·have hz : (B.drop (n + 2)).any (fun x => x != 0) = false := by simpa using hz
  rw [if_neg (by rw [hz]; decide), if_pos]
  rw [hpk]
  conv => rhs; rw [hBs]
  rw [(any_nz _).1 hz, hdl]
/-- So many records, that take just so many blocks. -/
def recsF (D : DS) (area used count : Nat) : Option (List (List UInt8)) :=
 match recsL D (2 + area * D.half) used count with
 | some (l, a) => if a = used then some l else none
 | none => none
theorem holdsF_recsF (D : DS) (k : Nat) : holdsF D k = if hdOk D (D.at k) then (recsF D (hdOf (D.at k)).area (hdOf (D.at k)).used (hdOf (D.at k)).count).map (fun l => (hdOf (D.at k), l)) else none := by
 unfold holdsF recsF
 cases hd : hdOk D (D.at k) with
 | false => rfl
 | true =>
  rw [if_pos rfl, if_pos rfl]
  cases hr : recsL D (2 + (hdOf (D.at k)).area * D.half) (hdOf (D.at k)).used (hdOf (D.at k)).count with
  | none => rfl
  | some p =>
   obtain ⟨l, a⟩ := p
   simp only []
   split <;> rfl
theorem area_fits {D : DS} (h4 : 2 ≤ D.l.length) {area used : Nat} (ha : area ≤ 1) (hu : used ≤ D.half) : 2 + area * D.half + used ≤ D.l.length := by
 have : D.half * 2 + 2 ≤ D.l.length := by unfold DS.half; omega
 rcases (show area = 0 ∨ area = 1 by omega) with e | e <;> rw [e] <;> omega
section
variable {P : Program} {ops : Array Oper} {md : Region.Mode}
theorem wpAnyT_monoS {S S' : World → Prop} (hS : ∀ w, S w → S' w) {Q : Exit → Act → World → Prop} {n : Nat} : ∀ (fuel : Nat) (listed : Array Bool) (a : Act) (w : World), wpAnyT P md ops Q S n fuel listed a w → wpAnyT P md ops Q S' n fuel listed a w
 | 0, _, _, _, h => h
 | fuel + 1, listed, _, _, h => ⟨h.1, fun i hi => wpOp_mono (fun a' w' h' => ⟨h'.1.imp id (hS w'), wpAnyT_monoS hS fuel _ a' w' h'.2⟩) (h.2 i hi)⟩
def phB (md : Region.Mode) (ops : Array Oper) : List (List (Nat × Bool)) → Array Bool → Bool
 | [], listed => (Region.ready md ops listed).isEmpty
 | A :: r, listed => match ordU md ops ops.size 0 A listed with
  | some L => phB md ops r L
  | none => false
def wpPh (P : Program) (ops : Array Oper) (Q : Act → World → Prop) : (World → Prop) → List (List (Nat × Bool)) → Act → World → Prop
 | _, [], a, w => Q a w
 | S, A :: r, a, w => ∃ S' : World → Prop, (∀ w, S' w → S w) ∧ S' w ∧ wpO P ops (fun a1 w1 => S' w1 ∧ wpPh P ops Q S' r a1 w1) S' (A.map fun p => ((ops.toList[p.1]?).getD default, p.2)) a w
theorem wpPh_nil {S : World → Prop} {Q : Act → World → Prop} {a : Act} {w : World} (h : Q a w) : wpPh P ops Q S [] a w := h
def phLen : List (List (Nat × Bool)) → Nat
 | [] => 0
 | A :: r => A.length + phLen r
theorem wpPh_sound {Q : Act → World → Prop} (hsel : Region.noSelect ops = true) : ∀ (ph : List (List (Nat × Bool))) (S : World → Prop) (listed : Array Bool) (a : Act) (w : World), Cl md ops listed → phB md ops ph listed = true → (∀ A ∈ ph, ∀ p ∈ A, p.1 < ops.size) →
  wpPh P ops Q S ph a w → wpAnyT P md ops (Qn Q) S ops.size (phLen ph) listed a w
 | [], S, listed, a, w, _, hB, _, h => ⟨by simpa [phB, List.isEmpty_iff] using hB, h⟩
 | A :: r, S, listed, a, w, inv, hB, hl, h => by
  obtain ⟨S', hSS, hS, h⟩ := h
  simp only [phB] at hB
  split at hB
  ·rename_i L hL
   refine wpAnyT_monoS hSS _ _ _ _ ?_
   refine wpU_sound hsel (phLen r) A listed a w inv hL hS (wpU_of_O A a w (hl A (by simp)) ?_ hS)
   exact wpO_monoQ _ _ _ (fun a1 w1 hq => ⟨hq.1, fun _ hc => wpPh_sound hsel r S' L a1 w1 hc hB (fun B hB' => hl B (by simp [hB'])) hq.2⟩) h
  ·cases hB
/-- A region in phases. -/
theorem wp_region_ph {id : Nat} {Q : Exit → Act → World → Prop} {a : Act} {w : World} {l : List Oper} (ph : List (List (Nat × Bool))) (hm : P.follows .mixedOrders = true)
  (hB : (decide (phLen ph = l.length) && Region.noSelect l.toArray && phB .any l.toArray ph (Array.replicate l.toArray.size false) && ph.all (fun A => A.all fun p => decide (p.1 < l.length))) = true)
  (h : wpPh P l.toArray (fun a' w' => Q .normal a' w') (fun _ => True) ph a w.drew) : (Code.region id l.toArray true).wp P Q a w := by
 simp only [Bool.and_eq_true, decide_eq_true_eq, List.all_eq_true] at hB
 obtain ⟨⟨⟨h1, h2⟩, h3⟩, h4⟩ := hB
 refine wp_mono (Q := Qn (fun a' w' => Q .normal a' w')) (wp_region_any hm ?_) (fun e a w h => by cases e <;> first | exact h | exact h.elim)
 have inv0 : Cl .any l.toArray (Array.replicate l.toArray.size false) := ⟨by simp, fun j oj _ hl => (by rw [getD_replicate_false] at hl; cases hl)⟩
 have key := wpPh_sound (md := .any) h2 ph (fun _ => True) _ a w.drew inv0 h3 (fun A hA p hp => by simpa using h4 A hA p hp) h
 rw [h1] at key
 have := wpAny_of_T _ _ _ _ key
 simpa using this
end
section
variable {ops : Array Oper} {o : Oper} {a : Act} {w : World}
theorem wpO_append_bytes {Q : Act → World → Prop} {S : World → Prop} {r : List (Oper × Bool)} (hg : Region.wanted o (yielded ops a.tmps) = true) (s x : Operand) (ho : o.op = .call { callee := .builtin .append, args := #[s, x], argTypes := #[33, 33] }) {w0 : World} (K0 : Keep Noth w0 w) {v : Value} {l m : List UInt8} (hs : a.eval s = v) (H : Bytes w (Fresh w0 w) v l)
  {A : Option Addr} {n c : Nat} (hx : a.eval x = .slice A n c) (hn : n = m.length) (hA : A = none → c = 0) (hR : Reads w A (bv m)) (hl : l.length + m.length ≤ 140737488355328)
  (h : ∀ v' w', Bytes w' (Fresh w0 w') v' (l ++ m) → Keep Noth w0 w' → Keep (fun k => v.ownBlock = some k) w w' → (r = [] ∨ S w') ∧ wpO Try.prog ops Q S r (a.put o.dst v') w') : wpO Try.prog ops Q S ((o, false) :: r) a w := by
 obtain ⟨v', w', e1, e2, e3, e4⟩ := exec_append_bytes s x ho K0 hs H hx hn hA hR hl
 have := h v' w' e2 e3 e4
 exact wpO_run hg e1 this.1 this.2
end
end Go.Proofs.Ytffcglfepobdjaa
