/- 'does': a call of a script, but a copy. -/
import Derived.Test.YtffcglfepobdjaaC3
set_option linter.unusedVariables false
set_option linter.unusedSimpArgs false
set_option maxRecDepth 10000
set_option maxHeartbeats 1000000
namespace Go.Proofs.Ytffcglfepobdjaa
open Go.RowKit

theorem DevIs.widen {w w1 w2 : World} {F : Nat → Prop} {g : Nat} {D : DS} (h : DevIs w2 (grow F w1 w2) g D) (hs : w.heap.size ≤ w1.heap.size) (hl : Lt F w) (hs2 : w1.heap.size ≤ w2.heap.size) : DevIs w2 (grow F w w2) g D :=
  h.mono (grow_less hs) (grow_lt hl (Nat.le_trans hs hs2))
theorem DevIs.same {w w1 : World} {F : Nat → Prop} {g : Nat} {D : DS} (h : DevIs w F g D) (hk : Keep Noth w w1) : DevIs w1 (grow F w w1) g D :=
  (h.keep hk (Dj.noth _)).mono (fun q hq => .inl hq) (grow_lt h.lt hk.size)
theorem opv_one (o : OpV) (Ab Af : Option Addr) (cb cf : Nat) : ∀ u ∈ opv o Ab Af cb cf, u.oneCell' = true := by
  intro u hu
  simp only [opv, List.mem_cons, List.not_mem_nil, or_false] at hu
  rcases hu with rfl | rfl | rfl | rfl <;> rfl

theorem does_calls {w : World} {F : Nat → Prop} {g : Nat} {D : DS} (hD : DevIs w F g D) (hok : D.ok) (ho : D.ops ≤ 1099511627776) (hr : D.row.length ≤ 1099511627776) (o : OpV) (hoo : o.ok) (hk4 : o.kind ≠ 4)
    (Ab Af : Option Addr) (cb cf : Nat) (hR : OpAt w o Ab Af) (hAF : ∀ ad, Af = some ad → o.forms ≠ [] → ¬ F ad.block) :
    Calls Try.prog 21 #[.pointer (some ⟨g, 0, none⟩), .agg (opv o Ab Af cb cf).toArray] w (fun e w' => e = .returned (.tuple #[.pointer (some ⟨g, 0, none⟩), .int .i64 (D.doOp o).2]) ∧ DevIs w' (grow F w w') g (D.doOp o).1 ∧ Keep F w w') := by
  have Hlt := hid hD.lt
  have hkk := hoo.kind
  have hkk1 := hkk.1
  have hkk2 := hkk.2
  have hkb := hoo.k
  have hkb1 := hkb.1
  have hkb2 := hkb.2
  clear hkk hkb
  by_cases h0 : o.kind = 0
  · have hop : D.doOp o = D.write o.k o.b := by unfold DS.doOp; rw [if_pos h0]
    have b0 : (o.kind == 0) = true := by rw [h0]; rfl
    rw [hop]
    clear h0 hop hk4
    go_enter Try.func21, Try.ntmps21
    go_wp2_with (first | (refine wpList_box_v rfl 36 _ rfl (opv o Ab Af cb cf) (by rfl) ?_; intro b w1 hb B1 K1; have c0 := B1.cell 0; have c1 := B1.cell 1; have c2 := B1.cell 2; simp only [opv, List.getElem?_cons_zero, List.getElem?_cons_succ] at c0 c1 c2) | (go_at_call 36; refine (write_calls (hD.keep K1 (Dj.noth _)) hok ho hr o.k Ab cb o.b hoo.b (hR.b.keep K1 (fun _ _ => id))).mono ?_; rintro e w2 ⟨rfl, H2, K2⟩))
    go_ret2
    exact ⟨rfl, H2.widen K1.size Hlt.out K2.size, (K1.mono (fun _ _ h => h.elim)).trans K2 (fun _ _ h => h)⟩
  · by_cases h1 : o.kind = 1
    · have hop : D.doOp o = D.flush := by unfold DS.doOp; rw [if_neg h0, if_pos h1]
      have b0 : (o.kind == 0) = false := by rw [h1]; rfl
      have b1 : (o.kind == 1) = true := by rw [h1]; rfl
      rw [hop]
      clear h0 h1 hop hk4
      go_enter Try.func21, Try.ntmps21
      go_wp2_with (first | (refine wpList_box_v rfl 36 _ rfl (opv o Ab Af cb cf) (by rfl) ?_; intro b w1 hb B1 K1; have c0 := B1.cell 0; simp only [opv, List.getElem?_cons_zero, List.getElem?_cons_succ] at c0) | (go_at_call 31; refine (flush_calls (hD.keep K1 (Dj.noth _)) hok ho hr).mono ?_; rintro e w2 ⟨rfl, H2, K2⟩))
      go_ret2
      exact ⟨rfl, H2.widen K1.size Hlt.out K2.size, (K1.mono (fun _ _ h => h.elim)).trans K2 (fun _ _ h => h)⟩
    · by_cases h2 : o.kind = 2
      · have hop : D.doOp o = (D.arm o.k, 0) := by unfold DS.doOp; rw [if_neg h0, if_neg h1, if_pos h2]
        have b0 : (o.kind == 0) = false := by rw [h2]; rfl
        have b1 : (o.kind == 1) = false := by rw [h2]; rfl
        have b2 : (o.kind == 2) = true := by rw [h2]; rfl
        rw [hop]
        clear h0 h1 h2 hop hk4
        obtain ⟨vl, vr, hD'⟩ := hD
        have hg := hD'.here
        have Hg := hid hg
        clear hg
        go_enter Try.func21, Try.ntmps21
        go_wp2_with (first | (refine wpList_box_v rfl 36 _ rfl (opv o Ab Af cb cf) (by rfl) ?_; intro b w1 hb B1 K1; have c0 := B1.cell 0; have c1 := B1.cell 1; simp only [opv, List.getElem?_cons_zero, List.getElem?_cons_succ] at c0 c1) | (go_at_call 27; refine (arm_calls (hD'.keep K1 (Dj.noth _)) o.k).mono ?_; rintro e w2 ⟨rfl, H2, K2⟩))
        go_ret2
        exact ⟨rfl, DevIs.mono ⟨_, _, H2⟩ (fun q hq => .inl hq) (grow_lt Hlt.out (Nat.le_trans K1.size K2.size)), (K1.mono (fun _ _ h => h.elim)).trans K2 (fun i _ e => by unfold Only at e; subst e; exact Hg.out)⟩
      · by_cases h3 : o.kind = 3
        · have hop : D.doOp o = (D.crash o.forms, 0) := by unfold DS.doOp; rw [if_neg h0, if_neg h1, if_neg h2, if_pos h3]
          have b0 : (o.kind == 0) = false := by rw [h3]; rfl
          have b1 : (o.kind == 1) = false := by rw [h3]; rfl
          have b2 : (o.kind == 2) = false := by rw [h3]; rfl
          have b3 : (o.kind == 3) = true := by rw [h3]; rfl
          rw [hop]
          clear h0 h1 h2 h3 hop hk4
          obtain ⟨vl, vr, hD'⟩ := hD
          go_enter Try.func21, Try.ntmps21
          go_wp2_with (first | (refine wpList_box_v rfl 36 _ rfl (opv o Ab Af cb cf) (by rfl) ?_; intro b w1 hb B1 K1; have c0 := B1.cell 0; have c3 := B1.cell 3; simp only [opv, List.getElem?_cons_zero, List.getElem?_cons_succ] at c0 c3) | (go_at_call 23; refine (crash_calls (hD'.keep K1 (Dj.noth _)) hok hr Af cf o.forms (hR.forms.keep K1 (fun _ _ => id)) hAF hoo.forms hoo.each).mono ?_; rintro e w2 ⟨rfl, H2, K2⟩))
          go_ret2
          exact ⟨rfl, DevIs.mono H2 (fun q hq => .inl hq) (grow_lt Hlt.out (Nat.le_trans K1.size K2.size)), (K1.mono (fun _ _ h => h.elim)).trans K2 (fun _ _ h => h)⟩
        · have hop : D.doOp o = (D, 0) := by unfold DS.doOp; rw [if_neg h0, if_neg h1, if_neg h2, if_neg h3]
          have b0 : (o.kind == 0) = false := by simpa using h0
          have b1 : (o.kind == 1) = false := by simpa using h1
          have b2 : (o.kind == 2) = false := by simpa using h2
          have b3 : (o.kind == 3) = false := by simpa using h3
          have b4 : (o.kind == 4) = false := by simpa using hk4
          rw [hop]
          clear h0 h1 h2 h3 hop hk4
          go_enter Try.func21, Try.ntmps21
          go_wp2_with (refine wpList_box_v rfl 36 _ rfl (opv o Ab Af cb cf) (by rfl) ?_; intro b w1 hb B1 K1; have c0 := B1.cell 0; simp only [opv, List.getElem?_cons_zero, List.getElem?_cons_succ] at c0)
          go_ret2
          exact ⟨rfl, hD.same K1, K1.mono (fun _ _ h => h.elim)⟩
end Go.Proofs.Ytffcglfepobdjaa
