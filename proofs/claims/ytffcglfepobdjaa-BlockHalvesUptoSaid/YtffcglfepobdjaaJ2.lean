/- BlockHalves: the plain law; a step of its first loop. -/
import Derived.Test.YtffcglfepobdjaaJ1
import Derived.Test.YtffcglfepobdjaaD5
set_option linter.unusedVariables false
set_option linter.unusedSimpArgs false
set_option maxRecDepth 10000
set_option maxHeartbeats 1500000
namespace Go.Proofs.Ytffcglfepobdjaa
open Go.RowKit

def half (x : Bk) (a : Nat) : Bk := (x.drop a).take 32
theorem half_length (x : Bk) (a : Nat) (hx : x.length = 64) (ha : a = 0 ∨ a = 32) : (half x a).length = 32 := by
  unfold half; rw [List.length_take, List.length_drop]; omega
theorem half_mix (f : Nat) (a b : Bk) (ha : a.length = 64) (hb : b.length = 64) (o : Nat) (ho : o = 0 ∨ o = 32) : half (mix f a b) o = half a o ∨ half (mix f a b) o = half b o := by
  have h1 : ∀ x : Bk, x.length = 64 → (x.drop 32).take 32 = x.drop 32 := fun x hx => List.take_of_length_le (by rw [List.length_drop]; omega)
  rcases ho with rfl | rfl
  · have e : half (mix f a b) 0 = if f = 1 ∨ f = 2 then b.take 32 else a.take 32 := by
      unfold half mix
      rw [List.drop_zero, List.take_append_of_le_length (by split <;> rw [List.length_take] <;> omega)]
      split <;> rw [List.take_take, Nat.min_self]
    rw [e]
    unfold half
    rw [List.drop_zero, List.drop_zero]
    split
    · exact .inr rfl
    · exact .inl rfl
  · have e : half (mix f a b) 32 = if f = 1 ∨ f = 3 then b.drop 32 else a.drop 32 := by
      unfold half mix
      have hl : (if f = 1 ∨ f = 2 then b.take 32 else a.take 32).length = 32 := by split <;> rw [List.length_take] <;> omega
      rw [List.drop_append_of_le_length (by omega), List.drop_of_length_le (by omega), List.nil_append]
      split
      · exact h1 b hb
      · exact h1 a ha
    rw [e]
    unfold half
    rw [h1 a ha, h1 b hb]
    split
    · exact .inr rfl
    · exact .inl rfl
theorem crash_half (fs : List Int) {l : List Bk} {row : List (Nat × Bk)} (hl : ∀ b ∈ l, b.length = 64) (hr : ∀ p ∈ row, p.1 < l.length ∧ p.2.length = 64) (k : Nat) (hk : k < l.length) (o : Nat) (ho : o = 0 ∨ o = 32) :
    ∀ j, j ≤ row.length → half ((crashK fs l row j).getD k []) o = half (l.getD k []) o ∨ ∃ p ∈ row.take j, p.1 = k ∧ half ((crashK fs l row j).getD k []) o = half p.2 o
  | 0, _ => .inl rfl
  | j + 1, hj => by
    have ih := crash_half fs hl hr k hk o ho j (by omega)
    have hjl : j < row.length := by omega
    have hp := hr row[j] (List.getElem_mem hjl)
    have e : row.getD j (0, []) = row[j] := by simp [List.getD_eq_getElem?_getD, hjl]
    have hlen := crashK_length fs l row j
    have hc64 : ((crashK fs l row j).getD k []).length = 64 := by
      have h2 : k < (crashK fs l row j).length := by omega
      rw [List.getD_eq_getElem?_getD, List.getElem?_eq_getElem h2]
      exact crashK_64 fs hl hr j (by omega) _ (List.getElem_mem h2)
    have htk : row.take (j + 1) = row.take j ++ [row[j]] := take_snoc' _ _ hjl
    have hstep : crashK fs l row (j + 1) = (crashK fs l row j).set row[j].1 (mix (formOf fs j) ((crashK fs l row j).getD row[j].1 []) row[j].2) := by simp only [crashK, crash1, e]
    have old : half ((crashK fs l row (j + 1)).getD k []) o = half ((crashK fs l row j).getD k []) o → half ((crashK fs l row (j + 1)).getD k []) o = half (l.getD k []) o ∨ ∃ p ∈ row.take (j + 1), p.1 = k ∧ half ((crashK fs l row (j + 1)).getD k []) o = half p.2 o := fun h => by
      rw [h, htk]
      rcases ih with ih | ⟨p, h1, h2, h3⟩
      · exact .inl ih
      · exact .inr ⟨p, List.mem_append_left _ h1, h2, h3⟩
    by_cases hpk : row[j].1 = k
    · have hnew : (crashK fs l row (j + 1)).getD k [] = mix (formOf fs j) ((crashK fs l row j).getD k []) row[j].2 := by
        rw [hstep, hpk, getD_set_same (by omega)]
      rcases half_mix (formOf fs j) _ _ hc64 hp.2 o ho with h | h
      · exact old (by rw [hnew]; exact h)
      · exact .inr ⟨row[j], htk ▸ List.mem_append_right _ (List.mem_singleton.2 rfl), hpk, by rw [hnew]; exact h⟩
    · have hnew : (crashK fs l row (j + 1)).getD k [] = (crashK fs l row j).getD k [] := by
        rw [hstep, List.getD_eq_getElem?_getD, List.getElem?_set_ne hpk, List.getD_eq_getElem?_getD]
      exact old (by rw [hnew])

/-- What the law has found behind j writes of the row. -/
def isJ (got l : Bk) (row : List (Nat × Bk)) (k o j : Nat) : Bool := (got == half l o) || (row.take j).any fun p => decide (p.1 = k) && (got == half p.2 o)
theorem isJ_zero (got l : Bk) (row : List (Nat × Bk)) (k o : Nat) : isJ got l row k o 0 = (got == half l o) := by simp [isJ]
theorem isJ_succ (got l : Bk) (row : List (Nat × Bk)) (k o j : Nat) (hj : j < row.length) : isJ got l row k o (j + 1) = (isJ got l row k o j || (decide (row[j].1 = k) && (got == half row[j].2 o))) := by
  unfold isJ
  rw [take_snoc' _ _ hj, List.any_append]
  simp [Bool.or_assoc]
theorem isJ_all (fs : List Int) {D : DS} (hok : D.ok) (k : Nat) (hk : k < D.l.length) (o : Nat) (ho : o = 0 ∨ o = 32) : isJ (half ((D.crash fs).l.getD k []) o) (D.l.getD k []) D.row k o D.row.length = true := by
  unfold isJ
  rw [List.take_length]
  rcases crash_half fs hok.l64 hok.row64 k hk o ho D.row.length (Nat.le_refl _) with h | ⟨p, h1, h2, h3⟩
  · rw [show (D.crash fs).l = crashK fs D.l D.row D.row.length from rfl, h]; simp
  · rw [show (D.crash fs).l = crashK fs D.l D.row D.row.length from rfl, Bool.or_eq_true]
    right
    rw [List.any_eq_true]
    rw [List.take_length] at h1
    exact ⟨p, h1, by rw [h3]; simp [h2]⟩

/-- Behind a call of a script: the device's first, then the document's. -/
theorem RowS.next2 {w0 wr wp w8 w6 w7 : World} {F G : Nat → Prop} {b k g g' : Nat} {D D' : DS} {vl' vr' : Value} {c6 : List Value}
    (O4 : Own w0.heap.size wr F g D) (hdj : Dj F G) (hG : Lt G wr) (hb : ¬ F b) (hbl : b < wr.heap.size) (low : w0.heap.size ≤ b) (K04 : Keep Noth w0 wr) (hok : D'.ok) (hops : D'.ops ≤ k) (hrow : D'.row.length ≤ k)
    (Kp : Keep Noth wr wp) (H8 : DevIs w8 (grow F wp w8) g' D') (K8 : Keep F wp w8) (S6 : StAt w6 (grow G w8 w6) vl' vr' D') (K6 : Keep Noth w8 w6) (B6 : BlockIs w6 b c6 30) (B7 : BlockIs w7 b (stv vl' vr' D') 30) (K7 : Keep (Only b) w6 w7) : RowS w0.heap.size w0 b k g' D' w7 := by
  have h1 := Kp.size
  have h2 := K8.size
  have h3 := K6.size
  have h4 := K7.size
  have h0 := K04.size
  have hFlt : ∀ q, F q → q < wr.heap.size := fun q h => O4.dev.lt q h
  have hFb : ¬ grow F wp w8 b := fun h => by
    rcases h with h | h
    · exact hb h
    · have := h.1; omega
  refine ⟨⟨grow F wp w8, grow G w8 w6, vl', vr', ⟨(H8.keep K6 (Dj.noth _)).keep K7 (fun q a e => by unfold Only at e; subst e; exact hFb a), fun q h => ?_⟩, S6.stay2 B6 K7, fun q a c => ?_, fun q c => ?_, B7, hFb⟩, low, hok, hops, hrow, ?_⟩
  · rcases h with h | h
    · exact O4.low q h
    · have := h.1; omega
  · rcases a with a | a
    · rcases c with c | c
      · exact hdj q a c
      · have := hFlt q a; have := c.1; omega
    · rcases c with c | c
      · have := hG q c; have := a.1; omega
      · have := c.1; have := a.2; omega
  · rcases c with c | c
    · have := hG q c; omega
    · have := c.2; omega
  · exact (((K04.trans Kp (fun _ _ h => h)).own K8 O4.low).trans K6 (fun _ _ h => h)).own K7 (fun i e => by unfold Only at e; subst e; exact low)
theorem build36 (a b : Int) (A : Option Addr) (n c : Nat) (W : World) : (Instr.build 36 #[(0, .int .i64 a), (1, .int .i64 b), (2, .slice A n c)]).run Try.prog W = .ok (.agg [.int .i64 a, .int .i64 b, .slice A n c, .slice none 0 0].toArray) W := by kernel_rfl
theorem exec_build36 {a : Act} {w : World} {o : Oper} (x y z : Operand) (ho : o.op = .build 36 #[(0, x), (1, y), (2, z)]) (i j : Int) (A : Option Addr) (n c : Nat) (hx : a.eval x = .int .i64 i) (hy : a.eval y = .int .i64 j) (hz : a.eval z = .slice A n c) :
    (execOp a.eval o).run Try.prog w = .ok (.value (.agg [.int .i64 i, .int .i64 j, .slice A n c, .slice none 0 0].toArray)) w := by
  unfold execOp
  simp only [ho, List.map_toArray, List.map_cons, List.map_nil, hx, hy, hz, Sem.run_bind, Sem.run_pure, Result.andThen_ok, build36 i j A n c]
theorem cut52 (o : Nat) (ho : o ≤ 32) (b off : Nat) (W : World) : (Instr.sliceAt 52 (.pointer (some ⟨b, off, none⟩)) (some (.int .i64 (o : Int))) (some (.int .i64 ((o : Int) + 32))) none).run Try.prog W = .ok (.slice (some ⟨b, off + o, none⟩) 32 (64 - o)) W := by
  have hal : Try.prog.arrayLen 52 = 64 := by kernel_rfl
  have hel : Try.prog.elem 52 = 5 := by kernel_rfl
  have hs : ∀ w : World, (sizeOf 5).run Try.prog w = .ok 1 w := fun w => by
    cases hq : Try.prog.info? 5 with
    | none => have := info5; rw [hq] at this; simp at this
    | some i => have := info5; rw [hq] at this; simp at this; simp [sizeOf, typeInfo, hq, this.2.1]
  rw [run_sliceAt_array_lh W 52 _ (by rw [hal, hel]; exact Try.underlying52) .i64 .i64 (o : Int) ((o : Int) + 32) (by omega) (by omega) (by rw [hal]; omega), hel, hs]
  have e : ((o : Int) + 32).toNat = o + 32 := by omega
  simp only [Result.andThen_ok, slicedAt, hal, Int.toNat_natCast, e, Nat.mul_one]
  rw [if_neg (by omega), show o + 32 - o = 32 by omega, Addr.add_mid]
/-- The call that BlockHalves makes of a script's call. -/
def low3 (x : OpC) : OpC := ⟨⟨x.o.kind.tmod 3, x.o.k, x.o.b, []⟩, x.Ab, none, x.cb, 0⟩
theorem low3_ok {x : OpC} (h : x.o.ok) : (low3 x).o.ok := by
  refine ⟨?_, h.k, h.b, by show (0 : Nat) ≤ _; omega, fun y hy => by cases hy⟩
  have h1 := h.kind
  show -9223372036854775808 ≤ x.o.kind.tmod 3 ∧ x.o.kind.tmod 3 ≤ 9223372036854775807
  rcases Int.le_total 0 x.o.kind with h0 | h0
  · rw [Int.tmod_eq_emod_of_nonneg h0]; omega
  · have := Int.neg_tmod (-x.o.kind) 3
    rw [Int.neg_neg] at this
    rw [this, Int.tmod_eq_emod_of_nonneg (by omega)]; omega
theorem low3_small (x : OpC) : (low3 x).o.kind ≠ 4 := by
  show x.o.kind.tmod 3 ≠ 4
  rcases Int.le_total 0 x.o.kind with h0 | h0
  · rw [Int.tmod_eq_emod_of_nonneg h0]; omega
  · have := Int.neg_tmod (-x.o.kind) 3
    rw [Int.neg_neg] at this
    rw [this, Int.tmod_eq_emod_of_nonneg (by omega)]; omega
end Go.Proofs.Ytffcglfepobdjaa
