/- The bytes of all blocks; a new device. -/
import Derived.Test.YtffcglfepobdjaaB3
set_option linter.unusedVariables false
set_option linter.unusedSimpArgs false
namespace Go.Proofs.Ytffcglfepobdjaa
open Go.RowKit

/-- Bytes of the call's own. -/
def u1 (l : List UInt8) : List (List Value) := l.map fun x => [u8 x]
theorem u1_flatten (l : List UInt8) : (u1 l).flatten = bv l := by
  induction l with
  | nil => rfl
  | cons x l ih => simp only [u1, List.map_cons, List.flatten_cons] at ih ⊢; rw [ih]; rfl
theorem u1_length (l : List UInt8) : (u1 l).length = l.length := by simp [u1]
theorem u1_each (l : List UInt8) : ∀ x ∈ u1 l, x.length = 1 := by
  intro x hx; simp only [u1, List.mem_map] at hx; obtain ⟨y, _, rfl⟩ := hx; rfl
theorem u1_append (a b : List UInt8) : u1 (a ++ b) = u1 a ++ u1 b := by simp [u1]
theorem u1_one (l : List UInt8) : ∀ u ∈ (u1 l).flatten, u.oneCell' = true := by rw [u1_flatten]; exact bv_one l
abbrev Bytes (w : World) (F : Nat → Prop) (v : Value) (l : List UInt8) : Prop := Rows w F 5 1 v (u1 l)

def DS.image (D : DS) : List UInt8 := D.all.flatten

set_option maxRecDepth 10000 in
theorem image_calls {w : World} {F : Nat → Prop} {g : Nat} {vl vr : Value} {D : DS} (hD : DevAt w F g vl vr D) (hok : D.ok) (hr : D.row.length ≤ 1099511627776) :
    Calls Try.prog 22 #[.pointer (some ⟨g, 0, none⟩)] w (fun e w' => ∃ v', e = .returned v' ∧ Bytes w' (Fresh w w') v' D.image ∧ Keep Noth w w') := by
  have hal : D.all.length = D.l.length := putAll_length _ _
  have ha64 := putAll_64 D.row D.l hok.l64 (fun p hp => (hok.row64 p hp).2)
  have hmost := hok.most
  have hone := hok.one
  obtain ⟨al, hal'⟩ : ∃ al, al = D.all := ⟨_, rfl⟩
  have himg : D.image = al.flatten := by rw [hal']; rfl
  rw [← hal'] at hal
  have ha64' : ∀ b ∈ al, b.length = 64 := by rw [hal']; exact ha64
  have hlen : al.length ≤ 4096 := by omega
  have hpos : 0 < al.length := by omega
  have Hd := hid himg
  have Ha := hid hal'
  clear himg hal' hal ha64
  go_enter Try.func22, Try.ntmps22
  go_wp2_with (go_at_call 59; refine (all_calls hD hok hr).mono ?_; rintro e w1 ⟨v', rfl, H1, K1⟩; rw [← Ha.out] at H1; obtain ⟨Av, cv, hv⟩ := H1.valm; subst hv)
  obtain ⟨gv, hv⟩ := H1.some_at (by rw [List.length_map]; exact hpos)
  subst hv
  go_loopw [3, 9] (fun v i wr => ∃ k : Nat, i = .int .i64 k ∧ k ≤ al.length ∧ Acc w1 wr 5 1 v (u1 (al.take k).flatten)) (fun _ i _ => al.length - (intOf i).toNat)
  case atStart => exact ⟨0, rfl, Nat.zero_le _, Acc.nil _ _ _⟩
  case round =>
    obtain ⟨k, rfl, hkl, HA⟩ := hrel
    by_cases hlt : k < al.length
    · have hlt' : (k : Int) < al.length := by omega
      have h64 : al[k].length = 64 := ha64' _ (List.getElem_mem hlt)
      have H64 := hid h64
      have hfl : (al.take k).flatten.length ≤ 262144 := by
        have : ∀ (l : List Bk), (∀ b ∈ l, b.length = 64) → l.flatten.length = l.length * 64 := by
          intro l
          induction l with
          | nil => intro _; rfl
          | cons b l ih => intro h; rw [List.flatten_cons, List.length_append, ih (fun c hc => h c (by simp [hc])), h b (by simp), List.length_cons]; omega
        rw [this _ (fun b hb => ha64' b (List.mem_of_mem_take hb)), List.length_take]
        omega
      have HFl := hid hfl
      have H1h := hid (H1.keep HA.kept (Dj.noth _))
      clear h64 hfl
      go_wp2_with (first | (refine wpList_load_row' rfl 103 _ rfl _ 103 64 gv _ cv (al.map bv) k _ (bv al[k]) _ H1h.out (by rw [List.length_map]; exact hlt) (List.getElem_map ..) rfl (by rfl) Try.underlying103 rfl info103 ?_) | (refine wpList_alloc_store rfl 103 rfl 5 _ rfl (by rfl) rfl rfl (by decide) zv (bv al[k]) (by rw [bv_length, H64.out]; exact info103) (bv zb) zv_cells (by rw [bv_length, H64.out, bvz_length]) (by rfl) (bv_one _) ?_; intro b w2 hb2 B2 K2) | (at_builtin; refine wpList_append_rows rfl _ _ 33 rfl 5 (.int .u8 0) 1 1 sl33 info5 rfl (by decide) (by decide) _ u3 _ (u1 al[k]) (by rfl) (HA.rows.keep K2 (Dj.noth _)) (some ⟨b, 0, none⟩) 64 64 (by rfl) (by rw [u1_length]; exact H64.out) (fun h => by cases h) (u1_each _) (by rw [u1_flatten]; exact Reads.of_range B2.rangeAll) (u1_one _) (by rw [u1_length]; have := HFl.out; omega) ?_; intro v3 w3 HR3 K3))
      go_roundw
      case rel =>
        refine ⟨k + 1, by go_num, hlt, ?_⟩
        rw [take_snoc' _ _ hlt, List.flatten_append, u1_append, List.flatten_singleton]
        exact HA.append K2 HR3 K3
      case measure => simp [intOf]; omega
    · have hge : k = al.length := by omega
      subst hge
      go_wp2_with fail
      go_ret
      rw [List.take_length] at HA
      rw [Hd.out]
      exact ⟨_, rfl, HA.rows.mono (fun q hq => ⟨Nat.le_trans K1.size hq.1, hq.2⟩), K1.trans HA.kept (fun _ _ h => h)⟩
end Go.Proofs.Ytffcglfepobdjaa
