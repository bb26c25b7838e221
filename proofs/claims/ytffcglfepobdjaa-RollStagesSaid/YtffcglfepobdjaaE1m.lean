/- How a script of calls is opened, and what the bound on its bulk gives. -/
import Derived.Test.YtffcglfepobdjaaZ5
set_option linter.unusedVariables false
set_option linter.unusedSimpArgs false
set_option maxRecDepth 100000
namespace Go.Proofs.Ytffcglfepobdjaa
open Go.ChangeShapes Go.WideShapes Go.ChangeAt Go.RowKit Go.Deep

theorem cells3 : Try.prog.cellsOf 3 = 1 := by kernel_rfl
theorem cells33 : Try.prog.cellsOf 33 = 1 := by kernel_rfl
theorem cells34 : Try.prog.cellsOf 34 = 1 := by kernel_rfl
theorem cells36 : Try.prog.cellsOf 36 = 4 := by kernel_rfl
theorem under34 : Try.prog.underlying 34 = some (.slice 3) := Try.underlying34
theorem under3 : Try.prog.underlying 3 = some (.int .i64) := Try.underlying3
theorem under22 : Try.prog.underlying 22 = some (.slice 36) := Try.underlying22

/-! ### Bulk -/
section
variable {H : Type}
theorem bulk_one (d : DataW H) : 1 ≤ Rows.uptoBulk d := by
  cases d with
  | lit l => cases l <;> simp [Rows.uptoBulk]
  | nil => simp [Rows.uptoBulk]
  | ptr d => simp [Rows.uptoBulk]
  | slice elems spare => simp [Rows.uptoBulk]
  | agg parts => simp [Rows.uptoBulk]
  | iface t d => simp [Rows.uptoBulk]
  | map entries => simp [Rows.uptoBulk]
  | held h => simp [Rows.uptoBulk]
theorem bulk_length (l : List (DataW H)) : l.length ≤ Rows.uptoBulkAll l := by
  induction l with
  | nil => simp [Rows.uptoBulkAll]
  | cons x r ih => have := bulk_one x; simp only [Rows.uptoBulkAll, List.length_cons]; omega
theorem bulk_slice (elems spare : List (DataW H)) : elems.length + 1 ≤ Rows.uptoBulk (.slice elems spare) := by
  have h1 := bulk_length elems
  simp only [Rows.uptoBulk]
  omega
theorem bulk_elems (elems spare : List (DataW H)) : Rows.uptoBulkAll elems + 1 ≤ Rows.uptoBulk (.slice elems spare) := by
  simp only [Rows.uptoBulk]
  omega
theorem bulk_part {d : DataW H} {l : List (DataW H)} (h : d ∈ l) : Rows.uptoBulk d ≤ Rows.uptoBulkAll l := by
  induction l with
  | nil => cases h
  | cons x r ih =>
    simp only [Rows.uptoBulkAll]
    cases List.mem_cons.1 h with
    | inl e => subst e; omega
    | inr e => have := ih e; omega
theorem bulk_bound {l : List (DataW H)} (hk : Rows.uptoSmall H l = true) : Rows.uptoBulkAll l ≤ 1048576 := of_decide_eq_true hk
end

section
variable {H : Type} {enc : TypeId × Value → H} {W : World} {n : Nat} {cs : List Value} {x : DataW H × List MemPlace}

theorem lits_length (k : IntKind) (zs : List Int) : (lits (H := H) k zs).length = zs.length := by simp [lits]

theorem trod_bytes {t : TypeId} (hu : Try.prog.underlying t = some (.slice 5)) (h : DataW.trod enc Try.prog W 0 (fun _ => true) true n t cs = some x) :
    ∃ A c b, cs = [.slice A (b : List UInt8).length c] ∧ Reads W A (bv b) ∧ b.length + 1 ≤ Rows.uptoBulk x.1 := by
  rcases open_ints hu under5 cells5 h with ⟨hcs, hx⟩ | ⟨a, len', cap', zs, hcs, _, hl, hm, hz, hx, hcell, hwz⟩
  · exact ⟨none, 0, [], hcs, Reads.nil _ _, by rw [hx]; simp [Rows.uptoBulk]⟩
  · simp only [if_true] at hz
    have hw : ∀ z ∈ zs, 0 ≤ z ∧ z ≤ 255 := fun z hz' => by
      have := hwz z hz'
      simpa [Lit.wf, IntKind.min, IntKind.max, IntKind.signed, IntKind.bits] using this
    have hlen : ((zs.take len').map (fun z => UInt8.ofNat z.toNat)).length = len' := by rw [List.length_map, List.length_take]; omega
    refine ⟨some a, cap', (zs.take len').map (fun z => UInt8.ofNat z.toNat), by rw [hlen]; exact hcs, ?_, ?_⟩
    · intro j u hu'
      simp only [bv, List.map_map, List.getElem?_map, Option.map_eq_some_iff] at hu'
      obtain ⟨z, hz', rfl⟩ := hu'
      refine ⟨a, rfl, ?_⟩
      rw [List.getElem?_take] at hz'
      split at hz'
      · have hj : j < zs.length := (List.getElem?_eq_some_iff.1 hz').1
        have hzz : zs[j] = z := (List.getElem?_eq_some_iff.1 hz').2
        rw [hcell j hj]
        have h1 := hw z (by rw [← hzz]; exact List.getElem_mem hj)
        have : zs.getD j 0 = z := by rw [List.getD, hz']; rfl
        rw [this]
        simp only [Function.comp, u8, Option.some.injEq, Value.int.injEq, true_and]
        show z = ((UInt8.ofNat z.toNat).toNat : Int)
        rw [UInt8.toNat_ofNat']
        omega
      · cases hz'
    · rw [hlen, hx]
      have := bulk_slice (lits (H := H) .u8 (zs.take len')) (lits .u8 (zs.drop len'))
      rw [lits_length, List.length_take] at this
      show len' + 1 ≤ Rows.uptoBulk (.slice (lits (H := H) .u8 (zs.take len')) (lits .u8 (zs.drop len')))
      omega

theorem trod_nums {t : TypeId} (hu : Try.prog.underlying t = some (.slice 3)) (h : DataW.trod enc Try.prog W 0 (fun _ => true) true n t cs = some x) :
    ∃ A c fs, cs = [.slice A (fs : List Int).length c] ∧ Reads W A (ints fs) ∧ (∀ z ∈ fs, -9223372036854775808 ≤ z ∧ z ≤ 9223372036854775807) ∧ fs.length + 1 ≤ Rows.uptoBulk x.1 := by
  rcases open_ints hu under3 cells3 h with ⟨hcs, hx⟩ | ⟨a, len', cap', zs, hcs, _, hl, hm, hz, hx, hcell, hwz⟩
  · exact ⟨none, 0, [], hcs, Reads.nil _ _, fun z hz => (by cases hz), by rw [hx]; simp [Rows.uptoBulk]⟩
  · simp only [if_true] at hz
    have hlen : (zs.take len').length = len' := by rw [List.length_take]; omega
    refine ⟨some a, cap', zs.take len', by rw [hlen]; exact hcs, ?_, ?_, ?_⟩
    · intro j u hu'
      simp only [ints, List.getElem?_map, Option.map_eq_some_iff] at hu'
      obtain ⟨z, hz', rfl⟩ := hu'
      refine ⟨a, rfl, ?_⟩
      rw [List.getElem?_take] at hz'
      split at hz'
      · have hj : j < zs.length := (List.getElem?_eq_some_iff.1 hz').1
        rw [hcell j hj]
        have : zs.getD j 0 = z := by rw [List.getD, hz']; rfl
        rw [this]
      · cases hz'
    · intro z hz'
      have := hwz z (List.mem_of_mem_take hz')
      simpa [Lit.wf, IntKind.min, IntKind.max, IntKind.signed, IntKind.bits] using this
    · rw [hlen, hx]
      have := bulk_slice (lits (H := H) .i64 (zs.take len')) (lits .i64 (zs.drop len'))
      rw [lits_length, List.length_take] at this
      show len' + 1 ≤ Rows.uptoBulk (.slice (lits (H := H) .i64 (zs.take len')) (lits .i64 (zs.drop len')))
      omega

theorem int_bounds {z : Int} (h : (Lit.int .i64 z).wf = true) : -9223372036854775808 ≤ z ∧ z ≤ 9223372036854775807 := by
  simpa [Lit.wf, IntKind.min, IntKind.max, IntKind.signed, IntKind.bits] using h

theorem trod_op (h : DataW.trod enc Try.prog W 0 (fun _ => true) true n 36 cs = some x) (hb : Rows.uptoBulk x.1 ≤ 1048576) :
    ∃ y : OpC, cs = y.cells ∧ OpAt W y.o y.Ab y.Af ∧ y.o.ok ∧ y.o.b.length + y.o.forms.length + 1 ≤ Rows.uptoBulk x.1 := by
  obtain ⟨xs, m, _, rfl, hl, hlen, hf⟩ := DataW.trod_struct Try.underlying36 h
  rw [cells36] at hl
  match cs, hl with
  | [v0, v1, v2, v3], _ =>
    match xs, hlen with
    | [y0, y1, y2, y3], _ =>
      have h0 := hf 0 _ rfl
      have h1 := hf 1 _ rfl
      have h2 := hf 2 _ rfl
      have h3 := hf 3 _ rfl
      simp only [cells3, cells33, cells34, List.drop_zero, List.take_succ_cons, List.take_zero, List.drop_succ_cons, List.getElem?_cons_zero, List.getElem?_cons_succ] at h0 h1 h2 h3
      obtain ⟨z0, e0, -, w0⟩ := DataW.trod_int under3 h0
      obtain ⟨z1, e1, -, w1⟩ := DataW.trod_int under3 h1
      obtain ⟨A, c, b, e2, hA, hbl⟩ := trod_bytes under33 h2
      obtain ⟨B, d, fs, e3, hB, hfs, hfl⟩ := trod_nums under34 h3
      injection e0 with e0
      injection e1 with e1
      injection e2 with e2
      injection e3 with e3
      subst e0 e1 e2 e3
      simp only [List.map_cons, List.map_nil, Rows.uptoBulk, Rows.uptoBulkAll] at hb ⊢
      exact ⟨⟨⟨z0, z1, b, fs⟩, A, B, c, d⟩, rfl, ⟨hA, hB⟩, ⟨int_bounds w0, int_bounds w1, by show b.length ≤ _; omega, by show fs.length ≤ _; omega, hfs⟩, by show b.length + fs.length + 1 ≤ _; omega⟩

theorem flatten_back {α : Type} (size : Nat) (h0 : 0 < size) : ∀ (xs : List (List α)) (j : Nat) (u : α), (∀ x ∈ xs, x.length = size) → xs.flatten[j]? = some u → ∃ (i r : Nat) (hi : i < xs.length), r < size ∧ j = i * size + r ∧ xs[i][r]? = some u
  | [], j, u, _, h => by simp at h
  | x :: xs, j, u, he, h => by
    have hx := he x (by simp)
    rw [List.flatten_cons] at h
    rcases Nat.lt_or_ge j x.length with hj | hj
    · rw [List.getElem?_append_left hj] at h
      exact ⟨0, j, by simp, by omega, by omega, h⟩
    · rw [List.getElem?_append_right hj] at h
      obtain ⟨i, r, hi, hr, e, h'⟩ := flatten_back size h0 xs _ u (fun y hy => he y (by simp [hy])) h
      exact ⟨i + 1, r, by simp; omega, hr, by rw [Nat.succ_mul]; omega, by simpa using h'⟩
instance : Inhabited OpC := ⟨⟨⟨0, 0, [], []⟩, none, none, 0, 0⟩⟩
theorem sum_bulk (f : Nat → OpC) (D : Nat → DataW H) : ∀ n, (∀ i, i < n → (f i).o.b.length + (f i).o.forms.length + 1 ≤ Rows.uptoBulk (D i)) → scriptSize ((List.range n).map f) + n ≤ Rows.uptoBulkAll ((List.range n).map D)
  | 0, _ => by simp [scriptSize]
  | n + 1, h => by
    have ih := sum_bulk f D n (fun i hi => h i (by omega))
    have hn := h n (by omega)
    have happ : ∀ (l r : List (DataW H)), Rows.uptoBulkAll (l ++ r) = Rows.uptoBulkAll l + Rows.uptoBulkAll r := by
      intro l r
      induction l with
      | nil => simp [Rows.uptoBulkAll]
      | cons x l ih => simp only [List.cons_append, Rows.uptoBulkAll, ih]; omega
    rw [List.range_succ, List.map_append, List.map_append, happ]
    unfold scriptSize at ih ⊢
    rw [List.map_append, List.sum_append]
    simp only [List.map_cons, List.map_nil, List.sum_cons, List.sum_nil, Rows.uptoBulkAll]
    omega

theorem open_script {base : Nat} {v : Value} {d : DataW H} {ps : List MemPlace} (hval : Value.okWide Try.prog W .any base 22 v)
    (h : DataW.Trod enc Try.prog W 0 (fun _ => true) true 22 v d ps) (hb : Rows.uptoBulk d ≤ 1048576) :
    ∃ A c xs, v = .slice A (xs : List OpC).length c ∧ Script W A xs ∧ scriptSize xs + xs.length ≤ 1048576 := by
  obtain ⟨fuel, hn⟩ := h
  obtain ⟨a0, len, cap, rfl⟩ := okWide_slice under22 hval
  rcases open_slice under22 hn with ⟨hcs, -⟩ | ⟨a, len', cap', m, k, D, Pl, hcs, _, hl, hm, hmm, hx, hel⟩
  · simp [Value.cells] at hcs
    obtain ⟨rfl, rfl, rfl⟩ := hcs
    exact ⟨none, 0, [], rfl, ⟨Reads.nil _ _, fun x hx => (by cases hx), fun x hx => (by cases hx)⟩, by simp [scriptSize]⟩
  · simp [Value.cells] at hcs
    obtain ⟨rfl, rfl, rfl⟩ := hcs
    simp only [if_true] at hmm
    subst hmm
    simp only [Prod.mk.injEq] at hx
    obtain ⟨hd, -⟩ := hx
    have hall := bulk_elems ((List.range len).map D) ((List.range (m - len)).map fun j => D (len + j))
    rw [← hd] at hall
    have hone : ∀ i, i < len → ∃ y : OpC, W.cells? 0 (a.add (i * 4)) 4 = some y.cells ∧ OpAt W y.o y.Ab y.Af ∧ y.o.ok ∧ y.o.b.length + y.o.forms.length + 1 ≤ Rows.uptoBulk (D i) := fun i hi => by
      obtain ⟨cs', h1, h2⟩ := hel i (by omega)
      rw [cells36] at h1
      have hp : Rows.uptoBulk (D i) ≤ Rows.uptoBulkAll ((List.range len).map D) := bulk_part (List.mem_map.2 ⟨i, List.mem_range.2 hi, rfl⟩)
      obtain ⟨y, rfl, h3, h4, h5⟩ := trod_op h2 (by show Rows.uptoBulk (D i) ≤ _; omega)
      exact ⟨y, h1, h3, h4, h5⟩
    obtain ⟨f, hf⟩ := choose_lt (p := fun i (y : OpC) => W.cells? 0 (a.add (i * 4)) 4 = some y.cells ∧ OpAt W y.o y.Ab y.Af ∧ y.o.ok ∧ y.o.b.length + y.o.forms.length + 1 ≤ Rows.uptoBulk (D i)) hone
    have hlen : ((List.range len).map f).length = len := by simp
    have hsum := sum_bulk f D len (fun i hi => (hf i hi).2.2.2)
    have hmem : ∀ x ∈ (List.range len).map f, ∃ i, i < len ∧ f i = x := fun x hx => by
      obtain ⟨i, hi, e⟩ := List.mem_map.1 hx
      exact ⟨i, List.mem_range.1 hi, e⟩
    refine ⟨some a, m, (List.range len).map f, by rw [hlen], ⟨?_, ?_, ?_⟩, by rw [hlen]; omega⟩
    · intro j u hu
      obtain ⟨i, r, hi, hr, rfl, hu'⟩ := flatten_back 4 (by decide) _ j u (opc_each _) hu
      have hi' : i < len := by simpa using hi
      refine ⟨a, rfl, ?_⟩
      obtain ⟨_, _, hc⟩ := World.cells?_some (hf i hi').1
      have h4 := hc r hr
      rw [Go.Deep.add_add] at h4
      rw [h4]
      simpa using hu'
    · intro x hx
      obtain ⟨i, hi, rfl⟩ := hmem x hx
      exact (hf i hi).2.1
    · intro x hx
      obtain ⟨i, hi, rfl⟩ := hmem x hx
      exact (hf i hi).2.2.1
end
end Go.Proofs.Ytffcglfepobdjaa
