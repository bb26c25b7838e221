/- A new device; a write; a flush. -/
import Derived.Test.YtffcglfepobdjaaB4
import Derived.Test.YtffcglfepobdjaaB1
set_option linter.unusedVariables false
set_option linter.unusedSimpArgs false
set_option maxRecDepth 10000
namespace Go.Proofs.Ytffcglfepobdjaa
open Go.RowKit

def DS.new (n : Nat) : DS := ⟨List.replicate n zb, [], 0, -1, false⟩
/-- How many blocks a count asks for. -/
def clampN (c : Int) : Nat := (min (max c 1) 4096).toNat

theorem new_fin {w W1 W2 : World} {n g : Nat} (hn1 : 1 ≤ n) (HR : Rows W1 (fun k => k = w.heap.size) 103 64 (.slice (some ⟨w.heap.size, 0, none⟩) n n) (List.replicate n (bv zb))) (HK : Keep Noth w W1)
    (hg : W1.heap.size ≤ g) (hb : BlockIs W2 g [.slice (some ⟨w.heap.size, 0, none⟩) n n, .slice none 0 0, .int .i64 0, .int .i64 (-1), .bool false] 96) (hk : Keep Noth W1 W2) : DevIs W2 (Fresh w W2) g (DS.new n) ∧ Keep Noth w W2 := by
  have hs := HK.size
  have hs2 := hk.size
  have hlt : w.heap.size < W1.heap.size := (HR.own.lt _ rfl).2
  refine ⟨⟨_, _, fun k hk => hk.2, ⟨by omega, hb.lt⟩, hb, ?_, Rows.nil _ _ _ _⟩, HK.trans hk (fun _ _ h => h)⟩
  have := (HR.keep hk (Dj.noth _)).mono (G := Fresh w W2) (fun k hk' => by subst hk'; exact ⟨Nat.le_refl _, by omega⟩)
  simpa [DS.new] using this


theorem new_calls (w : World) (c : Int) :
    Calls Try.prog 17 #[.int .i64 c] w (fun e w' => ∃ g, e = .returned (.pointer (some ⟨g, 0, none⟩)) ∧ DevIs w' (Fresh w w') g (DS.new (clampN c)) ∧ Keep Noth w w') := by
  obtain ⟨i0, hi, hz0, hz1, hz2⟩ := info_parts info103
  obtain ⟨n, hn⟩ : ∃ n, n = clampN c := ⟨_, rfl⟩
  have hn1 : 1 ≤ n := by rw [hn]; unfold clampN; omega
  have hn2 : n ≤ 4096 := by rw [hn]; unfold clampN; omega
  have hnc : (n : Int) = min (max c 1) 4096 := by rw [hn]; unfold clampN; omega
  rw [← hn]
  have Hnc := hid hnc
  have Hi := hid hi
  have Hz0 := hid hz0
  have Hz1 := hid hz1
  have Hz2 := hid hz2
  clear hn hnc hi hz0 hz1 hz2
  go_enter Try.func17, Try.ntmps17
  go_wp2_with (first | (refine wpList_make_full _ rfl _ _ 93 rfl 0 103 i0 zv 64 sl93 Hi.out Hz0.out Hz1.out .i64 .i64 _ _ n (by rfl) (by rfl) (by have := Hnc.out; omega) (by have := Hnc.out; omega) (by rw [Hz2.out]; omega) (by unfold maxLen; omega) (Nat.zero_le _) ?_; intro W1 HO1 HG1) | (refine wpList_box_v rfl 96 _ rfl [.slice (some ⟨w.heap.size, 0, none⟩) n n, .slice none 0 0, .int .i64 0, .int .i64 (-1), .bool false] (by rfl) ?_; intro b W2 hb B2 K2))
  all_goals
    go_ret
    rw [zv_cells] at HO1
    exact ⟨b, rfl, new_fin hn1 (Rows.made bvz_length (by decide) HO1) ((Keep.refl _ _).grown HG1 (fun _ h => by cases h)) hb B2 K2⟩
end Go.Proofs.Ytffcglfepobdjaa
