/- A device of an image. -/
import Derived.Test.YtffcglfepobdjaaB6
import Derived.Test.YtffcglfepobdjaaA6
set_option linter.unusedVariables false
set_option linter.unusedSimpArgs false
set_option maxRecDepth 10000
set_option maxHeartbeats 2000000
namespace Go.Proofs.Ytffcglfepobdjaa
open Go.RowKit

/-- A block of an image's bytes, from one on. -/
def chunk (im : List UInt8) (o : Nat) : Bk := fillz ((im.drop o).take 64)
theorem chunk_length (im : List UInt8) (o : Nat) : (chunk im o).length = 64 := fillz_length _ (by rw [List.length_take]; omega)
def ofN (im : List UInt8) : Nat := clampN (((im.length + 63) / 64 : Nat) : Int)
def ofL (im : List UInt8) (n k : Nat) : List Bk := (List.range n).map fun j => if j < k then chunk im (64 * j) else zb
def DS.of (im : List UInt8) : DS := ⟨ofL im (ofN im) (ofN im), [], 0, -1, false⟩
def DS.ofK (im : List UInt8) (k : Nat) : DS := ⟨ofL im (ofN im) k, [], 0, -1, false⟩
theorem ofL_length (im : List UInt8) (n k : Nat) : (ofL im n k).length = n := by simp [ofL]
theorem ofL_zero (im : List UInt8) (n : Nat) : ofL im n 0 = List.replicate n zb := by
  apply List.ext_getElem?
  intro j
  by_cases h : j < n <;> simp [ofL, h]
theorem ofL_succ (im : List UInt8) (n k : Nat) (hk : k < n) : ofL im n (k + 1) = (ofL im n k).set k (chunk im (64 * k)) := by
  apply List.ext_getElem?
  intro j
  by_cases h : j < n
  · by_cases h2 : k = j
    · subst h2
      simp [ofL, h]
    · have h3 : (j < k + 1) = (j < k) := by simp; omega
      simp [ofL, h, h2, h3]
  · simp [ofL, h, hk]
theorem new_of (im : List UInt8) : DS.new (ofN im) = DS.ofK im 0 := by simp [DS.new, DS.ofK, ofL_zero]
theorem ofL_at (im : List UInt8) (n k : Nat) (hk : k < n) : (ofL im n k)[k]'(by rw [ofL_length]; exact hk) = zb := by simp [ofL]

theorem bv_splice (L : List UInt8) (o : Nat) (b : List UInt8) : bv (splice L o b) = splice (bv L) o (bv b) := by
  unfold bv splice
  simp [List.map_take, List.map_drop]
theorem chunk_of (im : List UInt8) (k l : Nat) (hl : l = min (k * 64) im.length) : (im.drop l).take 64 = (im.drop (64 * k)).take 64 := by
  by_cases h : k * 64 ≤ im.length
  · have : l = 64 * k := by omega
    rw [this]
  · have e : l = im.length := by omega
    rw [e, List.drop_length, List.drop_eq_nil_of_le (by omega)]
theorem DevAt.of_chunk {w : World} {F : Nat → Prop} {g gl cl k l : Nat} {vr : Value} {im : List UInt8} (h : DevAt w F g (.slice (some ⟨gl, 0, none⟩) (ofN im) cl) vr (DS.ofK im k)) (hk : k < ofN im) (hl : l = min (k * 64) im.length) :
    DevAt (w.setCells gl (k * 64) (bv ((im.drop l).take 64))) F g (.slice (some ⟨gl, 0, none⟩) (ofN im) cl) vr (DS.ofK im (k + 1)) ∧ Keep (Only gl) w (w.setCells gl (k * 64) (bv ((im.drop l).take 64))) := by
  have hK : Keep (Only gl) w (w.setCells gl (k * 64) (bv ((im.drop l).take 64))) := Keep.setCells _ _ (Keep.refl _ _) (fun _ => rfl)
  have hne : ¬ Only gl g := fun e => h.l.ne h.blk (by decide) (by unfold Only at e; rw [← e]; rfl)
  have hlen : k < ((DS.ofK im k).l.map bv).length := by rw [List.length_map]; show k < (ofL im (ofN im) k).length; rw [ofL_length]; exact hk
  refine ⟨⟨fun q hq => Nat.lt_of_lt_of_le (h.lt q hq) hK.size, h.here, h.blk.keep hK hne, ?_, h.row.stay hK (fun q hq e => h.l.ne2 h.row (by decide) gl rfl (by unfold Only at e; rw [hq, e]))⟩, hK⟩
  have := h.l.splice k 0 (bv ((im.drop l).take 64)) hlen (by rw [bv_length, List.length_take]; omega)
  rw [Nat.add_zero] at this
  have e : ((DS.ofK im k).l.map bv).set k (splice ((DS.ofK im k).l.map bv)[k] 0 (bv ((im.drop l).take 64))) = (DS.ofK im (k + 1)).l.map bv := by
    have hz : ((DS.ofK im k).l.map bv)[k] = bv zb := by rw [List.getElem_map]; exact congrArg bv (ofL_at im _ k hk)
    rw [hz, ← bv_splice, ← List.map_set, chunk_of im k l hl]
    exact congrArg (List.map bv) (ofL_succ im _ k hk).symm
  rw [e] at this
  exact this

theorem of_calls0 (w : World) (A : Option Addr) (c : Nat) (im : List UInt8) (hA : Reads w A (bv im)) (hl : im.length ≤ 262144) (hc : im.length ≤ c) :
    Calls Try.prog 33 #[.slice A im.length c] w (fun e w' => ∃ g, e = .returned (.pointer (some ⟨g, 0, none⟩)) ∧ DevIs w' (Fresh w w') g (DS.of im) ∧ Keep Noth w w') := by
  have hn1 : 1 ≤ ofN im := by unfold ofN clampN; omega
  have hn2 : ofN im ≤ 4096 := by unfold ofN clampN; omega
  have hlI : (im.length : Int) ≤ 262144 := by omega
  have hcI : (im.length : Int) ≤ c := by omega
  have hdiv : ((im.length : Int) + 64 - 1) / 64 = (((im.length + 63) / 64 : Nat) : Int) := by omega
  have Hdiv := hid hdiv
  have HA := hid hA
  clear hA hdiv
  go_enter Try.func33, Try.ntmps33
  go_wp2_with (go_at_call 17; rw [Hdiv.out]; refine (new_calls _ _).mono ?_; rintro e w1 ⟨g, rfl, hdev, K1⟩; rw [show DS.new (clampN (((im.length + 63) / 64 : Nat) : Int)) = DS.ofK im 0 from new_of im] at hdev; obtain ⟨vl, vr, H1⟩ := hdev; obtain ⟨Al, cl, hvl⟩ := H1.l.valm; rw [show (DS.ofK im 0).l.length = ofN im from ofL_length _ _ _] at hvl; subst hvl; have hc0 := H1.cells.1.1)
  obtain ⟨gl, rfl⟩ := H1.l.some_at (by rw [List.length_map]; show 0 < (ofL im (ofN im) 0).length; rw [ofL_length]; omega)
  have hg : Fresh w w1 g := H1.here
  have Hg := hid hg
  have hgl0 : Fresh w w1 gl := H1.l.foot gl rfl
  have Hgl := hid hgl0
  clear hgl0 hg
  go_loopw [21] (fun i wr => ∃ k : Nat, i = .int .i64 k ∧ k ≤ ofN im ∧ DevAt wr (Fresh w w1) g (.slice (some ⟨gl, 0, none⟩) (ofN im) cl) vr (DS.ofK im k) ∧ Keep (Fresh w w1) w1 wr) (fun i _ => ofN im - (intOf i).toNat)
  case atStart => exact ⟨0, rfl, Nat.zero_le _, H1, Keep.refl _ _⟩
  case round =>
    obtain ⟨k, rfl, hkn, HD, HK⟩ := hrel
    clear hc0 H1
    by_cases hlt : k < ofN im
    · have hlt' : (k : Int) < ofN im := by omega
      have hk4 : (k : Int) ≤ 4096 := by omega
      obtain ⟨l, hl0⟩ : ∃ l : Nat, l = min (k * 64) im.length := ⟨_, rfl⟩
      have hl1 : l ≤ im.length := by omega
      obtain ⟨A', hcut, hA'⟩ := cut_low (P := Try.prog) 33 5 .i64 sl33 info5 A im.length c l hl1
      have hcell := HD.cells
      have HD' := hid HD
      have Hl0 := hid hl0
      have Hcut := hid hcut
      have HA' := hid hA'
      clear hl0 hcut hA' hcell
      go_wp2_with fail
      have hBg := HD'.out.blk
      refine wp_region_ordL [(0, true), (1, true), (2, true), (3, true), (4, true), (5, true), (6, true), (7, true), (8, true), (9, true), (10, true), (11, true), (12, true), (13, true), (14, false)] (fun w' => BlockIs w' g [.slice (some ⟨gl, 0, none⟩) (ofN im) cl, vr, .int .i64 ((DS.ofK im k).ops : Int), .int .i64 (DS.ofK im k).fuse, .bool (DS.ofK im k).down] 96) follows_mixed (by kernel_rfl) hBg ?_
      simp only [List.map_cons, List.map_nil, List.getElem?_cons_succ, List.getElem?_cons_zero, Option.getD_some]
      refine wpO_pure (v := .pointer (some ⟨g, 0, none⟩)) (by rfl) (fun w' hw' => by rfl) ?_
      go_frame
      refine wpO_pure (v := .pointer (some ⟨g, 0, none⟩)) (by rfl) (fun w' hw' => by rfl) ?_
      go_frame
      refine wpO_pure (v := .pointer (some ⟨g, 0, none⟩)) (by rfl) (fun w' hw' => by go_simp) ?_
      go_frame
      refine wpO_pure (v := .slice (some ⟨gl, 0, none⟩) (ofN im) cl) (by rfl) (fun w' hw' => by have hc := hw'.cell 0; simp only [List.getElem?_cons_zero] at hc; go_simp) ?_
      go_frame
      refine wpO_pure (v := .int .i64 (k : Int)) (by rfl) (fun w' hw' => by rfl) ?_
      go_frame
      refine wpO_pure (v := .pointer (some ⟨gl, k * 64, none⟩)) (by rfl) (fun w' hw' => by go_simp) ?_
      go_frame
      refine wpO_pure (v := .slice (some ⟨gl, k * 64, none⟩) 64 64) (by rfl) (fun w' hw' => by go_simp) ?_
      go_frame
      refine wpO_pure (v := .slice A im.length c) (by rfl) (fun w' hw' => by rfl) ?_
      go_frame
      refine wpO_pure (v := .int .i64 (k : Int)) (by rfl) (fun w' hw' => by rfl) ?_
      go_frame
      refine wpO_pure (v := .int .i64 ((k : Int) * 64)) (by rfl) (fun w' hw' => by go_simp; exact IntWalk.i64_in _ (by omega)) ?_
      go_frame
      refine wpO_pure (v := .slice A im.length c) (by rfl) (fun w' hw' => by rfl) ?_
      go_frame
      refine wpO_pure (v := .int .i64 (im.length : Int)) (by rfl) (fun w' hw' => by go_simp) ?_
      go_frame
      have hm : (l : Int) = if (im.length : Int) < (k : Int) * 64 then (im.length : Int) else (k : Int) * 64 := by have := Hl0.out; split <;> omega
      have Hm := hid hm
      clear hm
      refine wpO_pure (v := .int .i64 (l : Int)) (by rfl) (fun w' hw' => by rw [Hm.out]; go_simp) ?_
      go_frame
      refine wpO_pure (v := .slice A' (im.length - l) (c - l)) (by rfl) (fun w' hw' => exec_sliceAt 33 _ _ _ rfl (by simp [Act.eval]) (by simp [Act.eval]) (by simp) (Hcut.out w')) ?_
      go_frame
      have hvs : ((im.drop l).take 64).length = Nat.min (im.length - l) 64 := by rw [List.length_take, List.length_drop]; exact Nat.min_comm _ _
      have hsrc : Reads wr.drew A' (bv ((im.drop l).take 64)) := by
        have h1 := HA'.out _ _ (by rw [bv_length]; exact hc) (HA.out.keep ((K1.trans HK (fun i hi e => by have := e.1; omega)).drew : Keep Noth w wr.drew) (fun _ _ => id))
        have h2 := h1.take 64
        unfold bv at h2 ⊢
        rw [← List.map_drop, ← List.map_take] at h2
        exact h2
      have hRl := HD'.out.l
      have hlen : k < ((DS.ofK im k).l.map bv).length := by rw [List.length_map]; show k < (ofL im (ofN im) k).length; rw [ofL_length]; exact hlt
      have hth := hRl.there k hlen
      refine wpO_run (by rfl) (exec_copy _ _ 33 33 rfl (by simp [Act.eval]) (by simp [Act.eval]) (run_copy_any 33 33 3 5 (some ⟨gl, k * 64, none⟩) A' 64 64 (im.length - l) (c - l) (bv ((im.drop l).take 64)) gl (k * 64) sl33 size5 (by rw [bv_length, hvs]) (fun _ => rfl) hsrc ?_ (bv_one _))) (.inl rfl) ?_
      · intro j hj
        rw [bv_length, hvs] at hj
        exact hth j (Nat.lt_of_lt_of_le hj (Nat.min_le_right _ _))
      refine wpO_nil ?_
      go_frame
      have hnew := (HD'.out.keep ((Keep.refl Noth wr).drew) (Dj.noth _)).of_chunk hlt Hl0.out
      have Hnew := hid hnew
      clear hnew
      go_wp2_with fail
      go_roundw
      case rel => exact ⟨k + 1, by go_num, hlt, Hnew.out.1, HK.drew.trans Hnew.out.2 (fun i hi e => by unfold Only at e; subst e; exact Hgl.out)⟩
      case measure => simp [intOf]; omega
    · have hge : k = ofN im := by omega
      subst hge
      go_wp2_with fail
      go_ret
      exact ⟨g, rfl, DevIs.mono ⟨_, _, HD⟩ (Fresh.grow HK.size) (fun q hq => hq.2), K1.trans HK (fun i hi e => by have := e.1; omega)⟩
theorem of_calls (w : World) (A : Option Addr) (c : Nat) (im : List UInt8) (hA : Reads w A (bv im)) (hl : im.length ≤ 262144) (hc : im.length ≤ c) (hcm : c ≤ 140737488351232) :
    Calls Try.prog 33 #[.slice A im.length c] w (fun e w' => ∃ g, e = .returned (.pointer (some ⟨g, 0, none⟩)) ∧ DevIs w' (Fresh w w') g (DS.of im) ∧ Keep Noth w w') := of_calls0 w A c im hA hl hc
end Go.Proofs.Ytffcglfepobdjaa
