/- A call of a script, on a device. -/
import Derived.Test.YtffcglfepobdjaaB7
import Derived.Test.YtffcglfepobdjaaB9
import Derived.Test.YtffcglfepobdjaaB12
set_option linter.unusedVariables false
set_option linter.unusedSimpArgs false
set_option maxRecDepth 10000
set_option maxHeartbeats 1000000
namespace Go.Proofs.Ytffcglfepobdjaa
open Go.RowKit

structure OpV where
  kind : Int
  k : Int
  b : List UInt8
  forms : List Int

structure OpV.ok (o : OpV) : Prop where
  kind : -9223372036854775808 ≤ o.kind ∧ o.kind ≤ 9223372036854775807
  k : -9223372036854775808 ≤ o.k ∧ o.k ≤ 9223372036854775807
  b : o.b.length ≤ 140737488351232
  forms : o.forms.length ≤ 140737488351232
  each : ∀ x ∈ o.forms, -9223372036854775808 ≤ x ∧ x ≤ 9223372036854775807

structure OpAt (w : World) (o : OpV) (Ab Af : Option Addr) : Prop where
  b : Reads w Ab (bv o.b)
  forms : Reads w Af (ints o.forms)
def opv (o : OpV) (Ab Af : Option Addr) (cb cf : Nat) : List Value := [.int .i64 o.kind, .int .i64 o.k, .slice Ab o.b.length cb, .slice Af o.forms.length cf]

/-- Write. -/
def DS.write (D : DS) (k : Int) (b : List UInt8) : DS × Int :=
  if D.down then (D, 100) else if k < 0 ∨ (D.l.length : Int) ≤ k ∨ 64 < b.length then (D, 101) else ((D.put k.toNat b).tick, if D.fuse == 0 then 100 else 0)
/-- Flush. -/
def DS.flush (D : DS) : DS × Int := if D.down then (D, 100) else if D.fuse = 0 then (D.tick, 100) else (D.flushed, 0)
/-- A call. -/
def DS.doOp (D : DS) (o : OpV) : DS × Int :=
  if o.kind = 0 then D.write o.k o.b else if o.kind = 1 then D.flush else if o.kind = 2 then (D.arm o.k, 0) else if o.kind = 3 then (D.crash o.forms, 0) else (D, 0)

theorem put_ok {D : DS} (h : D.ok) (k : Nat) (hk : k < D.l.length) (b : List UInt8) (hb : b.length ≤ 64) : (D.put k b).ok :=
  ⟨h.l64, fun p hp => by
    rcases List.mem_append.1 hp with hp | hp
    · exact h.row64 p hp
    · rw [List.mem_singleton.1 hp]; exact ⟨hk, fillz_length b hb⟩, h.one, h.most, h.fuse, h.fuse'⟩
theorem write_ds_ok {D : DS} (h : D.ok) (k : Int) (b : List UInt8) : (D.write k b).1.ok := by
  unfold DS.write
  split
  · exact h
  · split
    · exact h
    · rename_i hc
      exact tick_ok (put_ok h _ (by omega) _ (by omega))
theorem flushed_ok {D : DS} (h : D.ok) : D.flushed.ok := by
  have ht := tick_ok h
  refine ⟨putAll_64 _ _ h.l64 (fun p hp => (h.row64 p hp).2), fun p hp => by simp [DS.flushed] at hp, ?_, ?_, ht.fuse, ht.fuse'⟩
  · show 1 ≤ (putAll D.l D.row).length; rw [putAll_length]; exact h.one
  · show (putAll D.l D.row).length ≤ 4096; rw [putAll_length]; exact h.most
theorem flush_ds_ok {D : DS} (h : D.ok) : D.flush.1.ok := by
  unfold DS.flush
  split
  · exact h
  · split
    · exact tick_ok h
    · exact flushed_ok h
theorem arm_ok {D : DS} (h : D.ok) (n : Int) (hn : n ≤ 9223372036854775807) : (D.arm n).ok := ⟨h.l64, h.row64, h.one, h.most, by simp only [DS.arm]; omega, by simp only [DS.arm]; omega⟩
theorem doOp_ok {D : DS} (h : D.ok) (o : OpV) (ho : o.ok) : (D.doOp o).1.ok := by
  unfold DS.doOp
  split
  · exact write_ds_ok h _ _
  · split
    · exact flush_ds_ok h
    · split
      · exact arm_ok h _ ho.k.2
      · split
        · exact crash_ok h _
        · exact h
theorem doOp_grow (D : DS) (o : OpV) : (D.doOp o).1.ops ≤ D.ops + 1 ∧ (D.doOp o).1.row.length ≤ D.row.length + 1 ∧ D.ops ≤ (D.doOp o).1.ops := by
  unfold DS.doOp DS.write DS.flush
  (repeat' split) <;> simp [DS.tick, DS.put, DS.flushed, DS.arm, DS.crash]

/-- Write and Flush, each on all its ways. -/
theorem write_calls {w : World} {F : Nat → Prop} {g : Nat} {D : DS} (hD : DevIs w F g D) (hok : D.ok) (ho : D.ops ≤ 1099511627776) (hr : D.row.length ≤ 1099511627776) (k : Int)
    (A : Option Addr) (c : Nat) (b : List UInt8) (hb : b.length ≤ 140737488351232) (hA : Reads w A (bv b)) :
    Calls Try.prog 36 #[.pointer (some ⟨g, 0, none⟩), .int .i64 k, .slice A b.length c] w (fun e w' => e = .returned (.int .i64 (D.write k b).2) ∧ DevIs w' (grow F w w') g (D.write k b).1 ∧ Keep F w w') := by
  obtain ⟨vl, vr, hD⟩ := hD
  have same : DevIs w (grow F w w) g D := DevIs.mono ⟨_, _, hD⟩ (fun q hq => .inl hq) (grow_lt hD.lt (Nat.le_refl _))
  unfold DS.write
  split
  · rename_i hd
    refine (write_down hD hd k _).mono ?_
    rintro e w' ⟨rfl, rfl⟩
    exact ⟨rfl, same, Keep.refl _ _⟩
  · rename_i hd
    have hd' : D.down = false := by simpa using hd
    split
    · rename_i hk
      refine (write_at hD hd' k A b.length c hb hk).mono ?_
      rintro e w' ⟨rfl, rfl⟩
      exact ⟨rfl, same, Keep.refl _ _⟩
    · rename_i hk
      obtain ⟨n, rfl⟩ := Int.eq_ofNat_of_zero_le (show 0 ≤ k by omega)
      rw [Int.toNat_natCast]
      exact write_ok hD hd' hok ho hr n (by omega) A c b (by omega) hA
theorem flush_calls {w : World} {F : Nat → Prop} {g : Nat} {D : DS} (hD : DevIs w F g D) (hok : D.ok) (ho : D.ops ≤ 1099511627776) (hr : D.row.length ≤ 1099511627776) :
    Calls Try.prog 31 #[.pointer (some ⟨g, 0, none⟩)] w (fun e w' => e = .returned (.int .i64 D.flush.2) ∧ DevIs w' (grow F w w') g D.flush.1 ∧ Keep F w w') := by
  obtain ⟨vl, vr, hD⟩ := hD
  unfold DS.flush
  split
  · rename_i hd
    refine (flush_down hD hd).mono ?_
    rintro e w' ⟨rfl, rfl⟩
    exact ⟨rfl, DevIs.mono ⟨_, _, hD⟩ (fun q hq => .inl hq) (grow_lt hD.lt (Nat.le_refl _)), Keep.refl _ _⟩
  · rename_i hd
    have hd' : D.down = false := by simpa using hd
    split
    · rename_i hf
      refine (flush_blow hD hd' ho hf).mono ?_
      rintro e w' ⟨rfl, H, K⟩
      exact ⟨rfl, DevIs.mono ⟨_, _, H⟩ (fun q hq => .inl hq) (grow_lt hD.lt K.size), K.mono (fun i _ e => by unfold Only at e; subst e; exact hD.here)⟩
    · rename_i hf
      exact flush_ok hD hd' hok ho hr hf
end Go.Proofs.Ytffcglfepobdjaa
