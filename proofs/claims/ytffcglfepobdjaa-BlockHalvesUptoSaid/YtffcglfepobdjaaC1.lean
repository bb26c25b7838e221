/- bytes.Equal, bytes.HasPrefix. -/
import Derived.Test.YtffcglfepobdjaaA6
import Derived.Test.YtffcglfepobdjaaA2
import Derived.Laws.BytesArg
set_option linter.unusedVariables false
set_option linter.unusedSimpArgs false
set_option maxRecDepth 10000
namespace Go.Proofs.Ytffcglfepobdjaa
open Go.RowKit

theorem strOf_bv (bs : List UInt8) : strOfNums (bs.map fun x => (x.toNat : Int)) = ⟨bs.toArray⟩ := by
  unfold strOfNums
  congr 2
  rw [List.map_map]
  conv => rhs; rw [← List.map_id bs]
  apply List.map_congr_left
  intro x _
  simp
theorem run_conv {P : Program} {w : World} (src e dst : TypeId) (hs : P.underlying src = some (.slice e)) (he : P.underlying e = some (.int .u8)) (hd : P.underlying dst = some .string) (A : Option Addr) (n c : Nat) (bs : List UInt8) (hn : n = bs.length) (hA : Reads w A (bv bs)) :
    (convert src dst (.slice A n c)).run P w = .ok (.string ⟨bs.toArray⟩) w := by
  rcases A with _ | ad
  · have : bs = [] := by
      cases bs with
      | nil => rfl
      | cons x bs => obtain ⟨ad, h, _⟩ := hA 0 (u8 x) (by simp [bv]); cases h
    subst this
    exact run_convert_bytes_nil w src e hs he n c dst hd
  · subst hn
    have hl := run_loadCells_list (P := P) w ad (bv bs) (fun j v hj => by
      obtain ⟨ad', h, hc⟩ := hA j v hj
      injection h with h
      subst h; exact hc)
    have hl' : (loadCells ad bs.length).run P w = .ok ((bs.map fun x => (x.toNat : Int)).map (Value.int .u8)).toArray w := by
      rw [bv_length] at hl
      rw [hl, List.map_map]
      rfl
    rw [run_convert_bytes_string w src dst e _ bs.length c hs he hd, run_bytesToString w _ bs.length c _ hl', foldl_push_bytes]
    have h2 := strOf_bv bs
    unfold strOfNums at h2
    have h3 : (List.map (fun n : Int => UInt8.ofNat n.toNat) (bs.map fun x => (x.toNat : Int))).toArray = bs.toArray := by injection h2
    show Result.ok (Value.string ⟨#[] ++ (List.map (fun n : Int => UInt8.ofNat n.toNat) (bs.map fun x => (x.toNat : Int))).toArray⟩) w = _
    rw [h3, Array.empty_append]

theorem equal_calls (w : World) (A B : Option Addr) (n m c d : Nat) (x y : List UInt8) (hn : n = x.length) (hm : m = y.length) (hA : Reads w A (bv x)) (hB : Reads w B (bv y)) :
    Calls Try.prog 26 #[.slice A n c, .slice B m d] w (fun e w' => e = .returned (.bool (x == y)) ∧ w = w') := by
  have h1 := run_conv (P := Try.prog) 33 5 9 sl33 Try.underlying5 Try.underlying9 A n c x hn hA
  have h2 := run_conv (P := Try.prog) 33 5 9 sl33 Try.underlying5 Try.underlying9 B m d y hm hB
  clear hA hB hn hm
  go_enter Try.func26, Try.ntmps26
  go_wp2_with fail
  go_ret
  exact ⟨rfl, rfl⟩
theorem hasPrefix_calls (w : World) (A B : Option Addr) (n m c d : Nat) (x y : List UInt8) (hn : n = x.length) (hm : m = y.length) (hA : Reads w A (bv x)) (hB : Reads w B (bv y)) (hl : y.length ≤ x.length) (hc : x.length ≤ c) (hx : x.length ≤ 140737488351232) :
    Calls Try.prog 35 #[.slice A n c, .slice B m d] w (fun e w' => e = .returned (.bool (x.take y.length == y)) ∧ w = w') := by
  subst hn hm
  have hlI : (y.length : Int) ≤ x.length := by omega
  have hcI : (y.length : Int) ≤ c := by omega
  have hcut : Reads w A (bv (x.take y.length)) := by
    have := hA.take y.length
    unfold bv at this ⊢
    rwa [← List.map_take] at this
  have he := equal_calls w A B y.length y.length c d (x.take y.length) y (by rw [List.length_take]; omega) rfl hcut hB
  clear hA hB hcut
  go_enter Try.func35, Try.ntmps35
  go_wp2_with (go_at_call 26; refine he.mono ?_; rintro e w1 ⟨rfl, rfl⟩)
  go_ret
  exact ⟨rfl, rfl⟩
end Go.Proofs.Ytffcglfepobdjaa
