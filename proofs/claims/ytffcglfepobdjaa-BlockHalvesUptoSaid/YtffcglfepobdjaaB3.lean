/- All blocks of a device, with all that was written. -/
import Derived.Test.YtffcglfepobdjaaB2
import Derived.Test.YtffcglfepobdjaaA4
set_option linter.unusedVariables false
set_option linter.unusedSimpArgs false
namespace Go.Proofs.Ytffcglfepobdjaa
open Go.RowKit

def putAll (l : List Bk) (r : List (Nat × Bk)) : List Bk := r.foldl (fun l p => l.set p.1 p.2) l
def DS.all (D : DS) : List Bk := putAll D.l D.row
theorem putAll_length (r : List (Nat × Bk)) : ∀ l : List Bk, (putAll l r).length = l.length := by
  induction r with
  | nil => intro l; rfl
  | cons p r ih => intro l; show (putAll (l.set p.1 p.2) r).length = _; rw [ih]; simp
theorem putAll_snoc (l : List Bk) (r : List (Nat × Bk)) (p : Nat × Bk) : putAll l (r ++ [p]) = (putAll l r).set p.1 p.2 := by simp [putAll]
theorem putAll_64 (r : List (Nat × Bk)) : ∀ l : List Bk, (∀ b ∈ l, b.length = 64) → (∀ p ∈ r, p.2.length = 64) → ∀ b ∈ putAll l r, b.length = 64 := by
  induction r with
  | nil => intro l h _; exact h
  | cons p r ih =>
    intro l h hr
    refine ih _ (fun b hb => ?_) (fun q hq => hr q (by simp [hq]))
    rcases List.mem_or_eq_of_mem_set hb with h' | rfl
    · exact h b h'
    · exact hr p (by simp)
theorem take_snoc' {α : Type} (l : List α) (k : Nat) (h : k < l.length) : l.take (k + 1) = l.take k ++ [l[k]] := by
  rw [List.take_succ_eq_append_getElem h]

def AllRel (w : World) (l : List Bk) (row : List (Nat × Bk)) (v : Value) (k : Nat) (wr : World) : Prop :=
  k ≤ row.length ∧ Rows wr (Fresh w wr) 103 64 v ((putAll l (row.take k)).map bv) ∧ Keep Noth w wr
theorem AllRel.start {w w1 : World} {l : List Bk} {row : List (Nat × Bk)} {v : Value} (h : Rows w1 (Fresh w w1) 103 64 v (l.map bv)) (hk : Keep Noth w w1) : AllRel w l row v 0 w1 := ⟨Nat.zero_le _, h, hk⟩

theorem AllRel.next {w wr w2 w3 : World} {l : List Bk} {row : List (Nat × Bk)} {go n co : Nat} {k : Nat} (hlt : k < row.length) (hf : Fresh w wr go) (HK : Keep Noth w wr) (K2 : Keep Noth wr w2) (K3 : Keep (Only go) w2 w3)
    (H : Rows w3 (Fresh w w2) 103 64 (.slice (some ⟨go, 0, none⟩) n co) (((putAll l (row.take k)).map bv).set row[k].1 (bv row[k].2))) : AllRel w l row (.slice (some ⟨go, 0, none⟩) n co) (k + 1) w3 := by
  refine ⟨hlt, ?_, (HK.trans K2 (fun _ _ h => h)).trans K3 (fun i hi e => ?_)⟩
  · rw [take_snoc' _ _ hlt, putAll_snoc, List.map_set]
    exact H.mono (Fresh.grow K3.size)
  · unfold Only at e
    have := hf.1
    omega

set_option maxRecDepth 10000 in
theorem all_calls {w : World} {F : Nat → Prop} {g : Nat} {vl vr : Value} {D : DS} (hD : DevAt w F g vl vr D) (hok : D.ok) (hr : D.row.length ≤ 1099511627776) :
    Calls Try.prog 59 #[.pointer (some ⟨g, 0, none⟩)] w (fun e w' => ∃ v', e = .returned v' ∧ Rows w' (Fresh w w') 103 64 v' (D.all.map bv) ∧ Keep Noth w w') := by
  obtain ⟨⟨h0, h1, -⟩, -⟩ := hD.cells
  obtain ⟨Al, cl, rfl⟩ := hD.l.valm
  obtain ⟨Ar, cr, rfl⟩ := hD.row.valm
  have hl0 := hok.most
  go_enter Try.func59, Try.ntmps59
  go_wp2_with (go_at_call 61; refine (clone61_calls hD.l (by omega)).mono ?_; rintro e w1 ⟨v', rfl, H1, K1⟩; have hD1 := hD.keep K1 (Dj.noth _); obtain ⟨⟨-, h1', -⟩, -⟩ := hD1.cells)
  have hK0 : 0 < D.l.length := hok.one
  obtain ⟨go, co, hv, hgo, -⟩ := H1.at (by rw [List.length_map]; exact hK0)
  rw [List.length_map] at hv
  subst hv
  go_loopw [16] (fun i wr => ∃ k : Nat, i = .int .i64 k ∧ AllRel w D.l D.row (.slice (some ⟨go, 0, none⟩) D.l.length co) k wr) (fun i _ => D.row.length - (intOf i).toNat)
  case atStart => exact ⟨0, rfl, AllRel.start H1 K1⟩
  case round =>
    obtain ⟨k, rfl, hkl, HR, HK⟩ := hrel
    have Hgo : Hid (Fresh w wr go) := HR.foot go rfl
    clear h0 h1 h1' hD1 H1 K1
    by_cases hlt : k < D.row.length
    · obtain ⟨gr, rfl⟩ := hD.row.some_at (by rw [List.length_map]; omega)
      have hDr := hD.keep HK (Dj.noth _)
      have hlt' : (k : Int) < D.row.length := by omega
      have hp := hok.row64 D.row[k] (List.getElem_mem hlt)
      have hi0 : (0 : Int) ≤ (D.row[k].1 : Int) := by omega
      have hi1 : (D.row[k].1 : Int) < (D.l.length : Int) := by omega
      have hw65 : (wv D.row[k]).length = 65 := by simp [wv, hp.2]
      have Hw65 := hid hw65
      have Hp := hid hp
      clear hw65 hp
      have Hpl : (putAll D.l (List.take k D.row)).length = D.l.length := putAll_length _ _
      have HPl := hid Hpl
      clear Hpl
      go_wp2_with (first | (refine wpList_load_row' rfl 105 _ rfl F 105 65 gr _ cr (D.row.map wv) k _ (wv D.row[k]) _ hDr.row (by rw [List.length_map]; exact hlt) (List.getElem_map ..) rfl (by rfl) Try.underlying105 rfl info105 ?_) | (refine wpList_alloc_store rfl 105 rfl 5 _ rfl (by rfl) rfl rfl (by decide) zw (wv D.row[k]) (by rw [Hw65.out]; exact info105) (wv (0, zb)) zw_cells (Hw65.out.trans wv0_length.symm) (by rfl) (wv_one _) ?_; intro b w2 hb2 B2 K2; have hc2 := B2.cell 0; simp only [wv, List.getElem?_cons_zero] at hc2) | (refine wpList_load_blk rfl 103 _ rfl b 1 (wv D.row[k]) (bv D.row[k].2) 105 _ (by rfl) B2 (part1 _ _) Try.underlying103 rfl (by rw [bv_length, Hp.out.2]; exact info103) ?_) | (refine wpList_store_row rfl 103 _ _ rfl (Fresh w w2) 103 64 go _ co _ D.row[k].1 _ (bv D.row[k].2) ((HR.keep K2 (Dj.noth _)).mono (fun q hq => ⟨hq.1, Nat.lt_of_lt_of_le hq.2 K2.size⟩)) (by rw [List.length_map, HPl.out]; exact Hp.out.1) rfl (by rfl) (by rfl) (by rw [bv_length]; exact Hp.out.2) info103 (bv_one _) ?_; intro w3 HR3 K3))
      go_roundw
      case rel => exact ⟨k + 1, by go_num, AllRel.next hlt Hgo.out HK K2 K3 HR3⟩
      case measure => simp [intOf]; omega
    · have hge : k = D.row.length := by omega
      subst hge
      go_wp2_with fail
      go_ret
      rw [List.take_length] at HR
      exact ⟨_, rfl, HR, HK⟩
end Go.Proofs.Ytffcglfepobdjaa
