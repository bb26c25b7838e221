/- 'does' of a copy. -/
import Derived.Test.YtffcglfepobdjaaI7
import Derived.Lib.SlBytesConst
set_option linter.unusedVariables false
set_option linter.unusedSimpArgs false
set_option maxRecDepth 10000
set_option maxHeartbeats 1500000
namespace Go.Proofs.Ytffcglfepobdjaa
open Go.RowKit

theorem write_grow (D : DS) (k : Int) (b : List UInt8) : (D.write k b).1.ops ≤ D.ops + 1 ∧ (D.write k b).1.row.length ≤ D.row.length + 1 ∧ (D.write k b).1.l.length = D.l.length := by
  unfold DS.write
  (repeat' split) <;> simp [DS.tick, DS.put]

def noneB : List UInt8 := [110, 111, 110, 101]
structure Junk (w w2 : World) (F : Nat → Prop) (g n k : Nat) (D : DS) (wr : World) : Prop where
  dev : ∃ G, DevIs wr G g D ∧ ∀ q, G q → F q ∨ w2.heap.size ≤ q
  ok : D.ok
  len : D.l.length = n
  ops : D.ops ≤ 1000000 + k
  row : D.row.length ≤ 1000000 + k
  kept : Keep F w2 wr

theorem reads_none (W : World) : Reads (W.alloc (.cells #[.int .u8 110, .int .u8 111, .int .u8 110, .int .u8 101] 5 (4, 4 + 1))) (some ⟨W.heap.size, 0, none⟩) (bv noneB) := by
  refine Reads.of_range fun j v hv => ?_
  rw [cell_of_row _ W.heap.size (0 + j) #[.int .u8 110, .int .u8 111, .int .u8 110, .int .u8 101] 5 (4, 4 + 1) (heap_alloc_new W _), Nat.zero_add, show #[Value.int IntKind.u8 110, Value.int IntKind.u8 111, Value.int IntKind.u8 110, Value.int IntKind.u8 101] = (bv noneB).toArray from rfl, List.getElem?_toArray]
  exact hv
theorem Junk.next {w w2 wr wA wB : World} {F : Nat → Prop} {g n k : Nat} {D : DS} {G : Nat → Prop} (hD : DevIs wr G g D) (hG : ∀ q, G q → F q ∨ w2.heap.size ≤ q) (hok : D.ok) (hl : D.l.length = n) (ho : D.ops ≤ 1000000 + k) (hr : D.row.length ≤ 1000000 + k) (hk : Keep F w2 wr) (KA : Keep Noth wr wA) (j : Int) (b : List UInt8)
    (HB : DevIs wB (grow G wA wB) g (D.write j b).1) (KB : Keep G wA wB) : Junk w w2 F g n (k + 1) (D.write j b).1 wB := by
  have hg := write_grow D j b
  have h1 := hk.size
  have h2 := KA.size
  have h3 := KB.size
  refine ⟨⟨_, HB, fun q h => ?_⟩, write_ds_ok hok _ _, by omega, by omega, by omega, (hk.trans KA (fun _ _ h => h.elim)).trans KB (fun i hi h => (hG i h).resolve_right (by omega))⟩
  rcases h with h | h
  · exact hG q h
  · exact .inr (by have := h.1; omega)

theorem does4 {w : World} {F : Nat → Prop} {g : Nat} {D : DS} (hD : DevIs w F g D) (hok : D.ok) (ho : D.ops ≤ 1000000) (hr : D.row.length ≤ 1000000) (o : OpV) (hk4 : o.kind = 4)
    (Ab Af : Option Addr) (cb cf : Nat) :
    Calls Try.prog 21 #[.pointer (some ⟨g, 0, none⟩), .agg (opv o Ab Af cb cf).toArray] w (fun e w' => ∃ g', e = .returned (.tuple #[.pointer (some ⟨g', 0, none⟩), .int .i64 (D.doOp o).2]) ∧ DevIs w' (grow F w w') g' (D.doOp o).1 ∧ Keep F w w') := by
  have hop : D.doOp o = (D, 0) := by unfold DS.doOp; rw [if_neg (by omega), if_neg (by omega), if_neg (by omega), if_neg (by omega)]
  rw [hop]
  have Hlt := hid hD.lt
  obtain ⟨nb, hnb⟩ : ∃ n : Nat, n = o.b.length := ⟨_, rfl⟩
  obtain ⟨nf, hnf⟩ : ∃ n : Nat, n = o.forms.length := ⟨_, rfl⟩
  obtain ⟨ok, hok1⟩ : ∃ n : Int, n = o.k := ⟨_, rfl⟩
  have hov : opv o Ab Af cb cf = [.int .i64 4, .int .i64 ok, .slice Ab nb cb, .slice Af nf cf] := by rw [← hk4, hok1, hnb, hnf]; rfl
  rw [hov]
  obtain ⟨n, hn⟩ : ∃ n : Nat, n = D.l.length := ⟨_, rfl⟩
  have hn4 : (n : Int) ≤ 4096 := by have := hok.most; omega
  have kc := fun (W : World) (C : Array Value) (n c : Nat) => Lib.run_convert_bytes_const (P := Try.prog) W 33 5 C n c sl33 Try.underlying5
  clear hk4 hop hov hnb hnf hok1
  go_enter Try.func21, Try.ntmps21
  go_wp2_with (guard_target = wpList _ _ _ (Oper.mk _ (Op.box 36 _) _ _ _ _ :: _) _ _; refine wpList_box_v rfl 36 _ rfl [.int .i64 4, .int .i64 ok, .slice Ab nb cb, .slice Af nf cf] (by rfl) ?_; intro b w1 hb B1 K1; have c0 := B1.cell 0; simp only [List.getElem?_cons_zero] at c0)
  obtain ⟨vl1, vr1, A1⟩ := hD.keep K1 (Dj.noth _)
  refine (copy_calls A1 hok (by omega)).mono ?_
  rintro e w2 ⟨gc, rfl, HC, K2⟩
  have K02 : Keep Noth w w2 := K1.trans K2 (fun _ _ h => h)
  have A2 := A1.keep K2 (Dj.noth _)
  have hs02 := K02.size
  have hs01 := K1.size
  clear c0 B1 A1 K2
  go_wp2_with fail
  refine (count_calls A2).mono ?_
  rintro e w' ⟨rfl, rfl⟩
  rw [← hn]
  have HJ : Junk w w2 F g n 0 D w2 := ⟨⟨F, ⟨_, _, A2⟩, fun q h => .inl h⟩, hok, hn.symm, by omega, by omega, Keep.refl _ _⟩
  clear A2 hok ho hr hn
  go_wp2_with fail
  go_loopw [42] (fun i wr => ∃ (k : Nat) (DD : DS), i = .int .i64 k ∧ k ≤ n ∧ Junk w w2 F g n k DD wr) (fun i _ => n - (intOf i).toNat)
  case atStart => exact ⟨0, D, rfl, Nat.zero_le _, HJ⟩
  case round =>
    obtain ⟨k, DD, rfl, hkn, HK⟩ := hrel
    clear HJ
    obtain ⟨⟨G, HD, hG⟩, hokD, hlen, hops, hrow, hkept⟩ := HK
    by_cases hlt : k < n
    · have hlt' : (k : Int) < n := by omega
      have HDh := hid HD
      clear HD
      have KA : Keep Noth wr (wr.alloc (.cells #[.int .u8 110, .int .u8 111, .int .u8 110, .int .u8 101] 5 (4, 4 + 1))) := (Keep.refl _ _).alloc _
      have HR4 := reads_none wr
      have hHD := HDh.out.keep KA (Dj.noth _)
      have hw := write_calls hHD hokD (by omega) (by omega) (k : Int) (some ⟨wr.heap.size, 0, none⟩) 4 noneB (by decide) HR4
      go_wp2_with fail
      refine hw.mono ?_
      rintro e wB ⟨rfl, HB, KB⟩
      have HN := Junk.next (w := w) HDh.out hG hokD hlen hops hrow hkept KA (k : Int) noneB HB KB
      clear hw HR4 hHD HB KB KA
      go_wp2_with fail
      go_roundw
      case rel => exact ⟨k + 1, _, by go_num, hlt, HN⟩
      case measure => simp [intOf]; omega
    · have hge : k = n := by omega
      subst hge
      obtain ⟨vlr, vrr, AD⟩ := HD
      have K1' : Keep Noth wr (wr.alloc (.cells #[.int .i64 1] 3)) := (Keep.refl _ _).alloc _
      have hs2 := hkept.size
      have hcr := crash_calls (AD.keep K1' (Dj.noth _)) hokD (by omega) (some ⟨wr.heap.size, 0, none⟩) 1 [1] (Reads.of_range (BlockIs.new wr [.int .i64 1] 3).rangeAll) (fun ad h _ => by injection h with h; subst h; intro hq; have h2 := AD.lt _ hq; simp at h2) (by decide) (by intro x hx; simp at hx; subst hx; decide)
      rw [show ([1] : List Int).length = 1 from rfl] at hcr
      clear AD
      go_wp2_with fail
      refine hcr.mono ?_
      rintro e w5 ⟨rfl, H5, K5⟩
      have KK : Keep F w w5 := ((K02.mono (fun _ _ h => h.elim)).trans hkept (fun _ _ h => h)).trans ((K1'.mono (fun _ _ h => h.elim) : Keep G wr _).trans K5 (fun _ _ h => h)) (fun i hi h => (hG i h).resolve_right (by omega))
      have hs5 := K5.size
      have hs1 := K1'.size
      have HC5 : DevIs w5 (grow F w w5) gc D := by
        have hCF : Dj (Fresh w1 w2) F := fun q h1 h2 => by have := Hlt.out q h2; have := h1.1; omega
        have hCG : Dj (Fresh w1 w2) G := fun q h1 h2 => (hG q h2).elim (hCF q h1) (fun h => by have := h1.2; omega)
        exact (((HC.keep hkept hCF).keep K1' (Dj.noth _)).keep K5 hCG).mono (fun q h => .inr ⟨by have := h.1; omega, by have := h.2; omega⟩) (grow_lt Hlt.out KK.size)
      clear hcr H5 K5 K1' hkept HC hG
      go_wp2_with fail
      go_ret2
      exact ⟨gc, rfl, HC5, KK⟩
end Go.Proofs.Ytffcglfepobdjaa
