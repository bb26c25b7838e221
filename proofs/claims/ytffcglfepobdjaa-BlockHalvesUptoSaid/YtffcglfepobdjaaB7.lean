/- A flush; a read. -/
import Derived.Test.YtffcglfepobdjaaB6
set_option linter.unusedVariables false
set_option linter.unusedSimpArgs false
set_option maxRecDepth 10000
namespace Go.Proofs.Ytffcglfepobdjaa
open Go.RowKit

def DS.flushed (D : DS) : DS := { D.tick with l := D.all, row := [] }
theorem tick_ok {D : DS} (h : D.ok) : D.tick.ok := ⟨h.l64, h.row64, h.one, h.most, by simp only [DS.tick]; omega, by have := h.fuse'; simp only [DS.tick]; omega⟩

theorem grow_less {F : Nat → Prop} {w w1 w2 : World} (h : w.heap.size ≤ w1.heap.size) : ∀ k, grow F w1 w2 k → grow F w w2 k := fun k hk => hk.imp id (fun h' => ⟨Nat.le_trans h h'.1, h'.2⟩)
theorem flush_down {w : World} {F : Nat → Prop} {g : Nat} {vl vr : Value} {D : DS} (hD : DevAt w F g vl vr D) (hd : D.down = true) :
    Calls Try.prog 31 #[.pointer (some ⟨g, 0, none⟩)] w (fun e w' => e = .returned (.int .i64 100) ∧ w = w') := by
  obtain ⟨⟨-, -, -, -, h4⟩, -⟩ := hD.cells
  rw [hd] at h4
  clear hd hD
  go_enter Try.func31, Try.ntmps31
  go_wp2_with fail
  go_ret
  exact ⟨rfl, rfl⟩
theorem flush_blow {w : World} {F : Nat → Prop} {g : Nat} {vl vr : Value} {D : DS} (hD : DevAt w F g vl vr D) (hd : D.down = false) (ho : D.ops ≤ 1099511627776) (hf : D.fuse = 0) :
    Calls Try.prog 31 #[.pointer (some ⟨g, 0, none⟩)] w (fun e w' => e = .returned (.int .i64 100) ∧ DevAt w' F g vl vr D.tick ∧ Keep (Only g) w w') := by
  obtain ⟨⟨-, -, -, -, h4⟩, -⟩ := hD.cells
  rw [hd] at h4
  have hop := op_calls hD (show D.ops ≤ 1152921504606846976 by omega) (by omega) (by omega)
  have Hf := hid hf
  clear hd hD hf
  go_enter Try.func31, Try.ntmps31
  go_wp2_with (go_at_call 60; refine hop.mono ?_; rintro e w1 ⟨rfl, H1, K1⟩; dsimp only; rw [Hf.out])
  go_ret
  exact ⟨rfl, H1, K1⟩
theorem DevAt.flush_end {w w2 : World} {F : Nat → Prop} {g : Nat} {vl vr v' : Value} {D : DS} (hok : D.ok) (hD : DevAt w F g vl vr D.tick) (H2 : Rows w2 (Fresh w w2) 103 64 v' (D.all.map bv)) (K2 : Keep Noth w w2) :
    DevIs ((w2.setCell ⟨g, 0, none⟩ v').setCell ⟨g, 1, none⟩ (.slice none 0 0)) (grow F w ((w2.setCell ⟨g, 0, none⟩ v').setCell ⟨g, 1, none⟩ (.slice none 0 0))) g D.flushed ∧
    Keep F w ((w2.setCell ⟨g, 0, none⟩ v').setCell ⟨g, 1, none⟩ (.slice none 0 0)) := by
  have hg := hD.lt g hD.here
  have hb2 := hD.blk.keep K2 id
  have hb4 := (hb2.set 0 v').set 1 (.slice none 0 0)
  have hk : Keep (Only g) w2 ((w2.setCell ⟨g, 0, none⟩ v').setCell ⟨g, 1, none⟩ (.slice none 0 0)) := ((Keep.refl _ _).cell 0 v').cell 1 _
  have hs := K2.size
  have hs2 := hk.size
  refine ⟨⟨v', .slice none 0 0, grow_lt hD.lt (Nat.le_trans hs hs2), .inl hD.here, hb4, ?_, Rows.nil _ _ _ _⟩, (K2.mono (fun _ _ h => h.elim)).trans hk (fun i _ e => by unfold Only at e; subst e; exact hD.here)⟩
  refine (H2.stay hk (fun q hq e => ?_)).mono (fun q hq => .inr ⟨hq.1, Nat.lt_of_lt_of_le hq.2 hs2⟩)
  have := (H2.foot q hq).1
  unfold Only at e
  omega
theorem flush_ok {w : World} {F : Nat → Prop} {g : Nat} {vl vr : Value} {D : DS} (hD : DevAt w F g vl vr D) (hd : D.down = false) (hok : D.ok) (ho : D.ops ≤ 1099511627776) (hr : D.row.length ≤ 1099511627776) (hf : D.fuse ≠ 0) :
    Calls Try.prog 31 #[.pointer (some ⟨g, 0, none⟩)] w (fun e w' => e = .returned (.int .i64 0) ∧ DevIs w' (grow F w w') g D.flushed ∧ Keep F w w') := by
  obtain ⟨⟨-, -, -, -, h4⟩, -⟩ := hD.cells
  rw [hd] at h4
  have hop := op_calls hD (show D.ops ≤ 1152921504606846976 by omega) hok.fuse hok.fuse'
  have Hf : Hid ((D.fuse == 0) = false) := by show _ = _; simpa using hf
  have Hg := hid hD.here
  clear hd hD hf
  go_enter Try.func31, Try.ntmps31
  go_wp2_with (first | (go_at_call 60; refine hop.mono ?_; rintro e w1 ⟨rfl, H1, K1⟩; dsimp only; rw [Hf.out]; have hall := all_calls H1 (tick_ok hok) hr) | (go_at_call 59; refine hall.mono ?_; rintro e w2 ⟨v', rfl, H2, K2⟩; obtain ⟨A2, c2, hv2⟩ := H2.valm; subst hv2; obtain ⟨⟨c0, c1, -, -, -⟩, ⟨f0, f1, -, -, -⟩⟩ := (H1.keep K2 (Dj.noth _)).cells))
  go_ret
  obtain ⟨E1, E2⟩ := H1.flush_end hok H2 K2
  exact ⟨rfl, E1.mono (grow_less K1.size) (fun k hk => hk.elim (fun h => E1.lt k (.inl h)) (fun h => h.2)), (K1.mono (fun i _ e => by unfold Only at e; subst e; exact Hg.out)).trans E2 (fun _ _ h => h)⟩
end Go.Proofs.Ytffcglfepobdjaa
