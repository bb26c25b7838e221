/- The frame of the twelve rows: what is handed in reads as before where old memory is as it was; how bytes are opened. -/
import Derived.Test.YtffcglfepobdjaaRows
import Derived.Test.YtffcglfepobdjaaA3
import Derived.ProofKit
import Derived.OpenShut
import Derived.JoinedCond
import Derived.JoinedOf
import Derived.Carry
import Derived.Deep.Slices
import Derived.Deep.CondSized
import Derived.SizedLaws
set_option linter.unusedVariables false
set_option linter.unusedSimpArgs false
set_option maxRecDepth 100000
namespace Go.Proofs.Ytffcglfepobdjaa
open Go.ChangeShapes Go.WideShapes Go.ChangeAt Go.RowKit

theorem own_knob : ownKnob Try.prog.godebug = none := by kernel_rfl
theorem laid_out : laidOutB Try.prog = true := by kernel_rfl
theorem under4 : Try.prog.underlying 4 = some .bool := Try.underlying4
theorem under33 : Try.prog.underlying 33 = some (.slice 5) := Try.underlying33
theorem under5 : Try.prog.underlying 5 = some (.int .u8) := Try.underlying5
theorem cells5 : Try.prog.cellsOf 5 = 1 := by kernel_rfl

section
variable {H : Type} {enc : TypeId × Value → H} {P : Program}

theorem args_stay (hl0 : laidOutB P = true) {W W' : World} (hk : Below W.heap.size W W') {sp : Nat → Bool} : ∀ {ts : List TypeId} {vs : List Value} {ds : List (DataW H)} {ps : List MemPlace}, (∀ t ∈ ts, P.readableRec t = true ∧ t < P.types.size) →
    DataW.TrodAll enc P W 0 (fun _ => true) true ts vs ds ps → (∀ x ∈ ps, x.block < W.heap.size) → (∀ x ∈ ps, sp x.block = true) → DataW.TrodAll enc P W' 0 sp true ts vs ds ps := by
  intro ts
  induction ts with
  | nil =>
    intro vs ds ps _ h _ _
    obtain ⟨rfl, rfl, rfl⟩ := trodAll_nil h
    exact trodAll_mk0
  | cons t ts ih =>
    intro vs ds ps hr h hl hs
    obtain ⟨v, vs1, d, ds1, a, b, rfl, rfl, rfl, h1, h2⟩ := trodAll_cons h
    have h3 := ih (fun t ht => hr t (List.mem_cons_of_mem _ ht)) h2 (fun x hx => hl x (List.mem_append_right _ hx)) (fun x hx => hs x (List.mem_append_right _ hx))
    have h4 := WideElems.Trod_stays hl0 (hr t List.mem_cons_self).1 (hr t List.mem_cons_self).2 h1 (fun x hx => hk.same (hl x (List.mem_append_left _ hx))) (fun x hx => hs x (List.mem_append_left _ hx))
    exact trodAll_cons_mk h4 h3
end

section
variable {H : Type} {enc : TypeId × Value → H}

/-- The law's end: it returns true, and old memory is as it was. -/
theorem law_post {f : Func} {s : ChangeSpec} {W W' : World} {args : Array Value} {ds gs : List (DataW H)} {before : List MemPlace}
    (hW : DataW.Whole enc Try.prog f.params.toList s.vars false W args.toList ds gs before) (hf : f.resultTypes = #[4]) (hv : s.vars = []) (hr : ∀ t ∈ f.params.toList, Try.prog.readableRec t = true ∧ t < Try.prog.types.size)
    (hres : (s.fn H (ds ++ gs)).results = [.lit (.bool true)]) (hargs : (s.fn H (ds ++ gs)).args = ds) (hvars : (s.fn H (ds ++ gs)).vars = []) (hk : Keep Noth W W') :
    s.post enc Try.prog f false true false false W args (.bool true) W' := by
  have hlt := hW.lt
  have hb := hk.below
  have hW0 := hW
  obtain ⟨p, q, hA, hV, rfl, hz, -⟩ := hW
  rw [hv] at hV
  obtain ⟨rfl, rfl⟩ := trodVars_none hV
  have hstay : ∀ sp : Nat → Bool, (∀ x ∈ p, sp x.block = true) → DataW.TrodAll enc Try.prog W' 0 sp true f.params.toList args.toList (s.fn H (ds ++ [])).args p := fun sp hs => by
    rw [hargs]; exact args_stay laid_out hb hr hA (fun x hx => hlt x (by simp [hx])) hs
  have hresult : ∀ (b : Nat) (sp : Nat → Bool) (hd : Bool), DataW.TrodAll enc Try.prog W' b sp hd f.resultTypes.toList ((Value.bool true).resultList f.resultTypes.size) (s.fn H (ds ++ [])).results [] := fun b sp hd => by
    rw [hres, hf]
    exact trodAll_cons_mk (shut_bool under4 _) trodAll_mk0
  have hV' : ∀ sp : Nat → Bool, DataW.TrodVars enc Try.prog W' sp s.vars (s.fn H (ds ++ [])).vars [] := fun sp => by
    rw [hv, hvars]; rfl
  refine ⟨ds, [], _, [], p, [], hW0, hresult _ _ _, hstay _ (fun x hx => by simpa using hlt x (by simp [hx])), hV' _, hb.frame _, fun _ => ⟨ok_one hf rfl (okWide_bool_mk under4 _), _, _, ([] ++ p) ++ [], ⟨[] ++ p, [], trodAll_append (hstay _ (fun _ _ => rfl)) (hresult _ _ _), hV' _, rfl, ?_, fun h => by cases h⟩, fun x hx _ => by simpa using hx⟩⟩
  intro b off hp
  have hp' : MemPlace.cell b off ∈ p := by simpa using hp
  rw [hb.frozen (p := ⟨b, off, none⟩) (hlt (.cell b off) (by simp [hp']))]
  exact hz b off (by simp [hp'])

/-- A slice of bytes, opened. -/
theorem open_bytes {W : World} {base : Nat} {t : TypeId} {v : Value} {d : DataW H} {ps : List MemPlace} (hu : Try.prog.underlying t = some (.slice 5)) (hval : Value.okWide Try.prog W .any base t v)
    (h : DataW.Trod enc Try.prog W 0 (fun _ => true) true t v d ps) :
    ∃ A c b, v = .slice A (b : List UInt8).length c ∧ Reads W A (bv b) ∧ (A = none → c = 0) ∧ b.length ≤ c ∧ c ≤ maxLen := by
  obtain ⟨n, hn⟩ := h
  obtain ⟨a0, len, cap, rfl⟩ := okWide_slice hu hval
  rcases open_ints hu under5 cells5 hn with ⟨hcs, -⟩ | ⟨a, len', cap', zs, hcs, _, hl, hm, hz, -, hcell, hwz⟩
  · simp [Value.cells] at hcs
    obtain ⟨rfl, rfl, rfl⟩ := hcs
    exact ⟨none, 0, [], rfl, Reads.nil _ _, fun _ => rfl, Nat.le_refl _, Nat.zero_le _⟩
  · simp [Value.cells] at hcs
    obtain ⟨rfl, rfl, rfl⟩ := hcs
    simp only [if_true] at hz
    have hw : ∀ z ∈ zs, 0 ≤ z ∧ z ≤ 255 := fun z hz' => by
      have := hwz z hz'
      simpa [Lit.wf, IntKind.min, IntKind.max, IntKind.signed, IntKind.bits] using this
    refine ⟨some a, cap, (zs.take len).map (fun z => UInt8.ofNat z.toNat), by simp [List.length_map]; omega, ?_, (fun h => by cases h), by simp; omega, hm⟩
    intro j u hu'
    simp only [bv, List.map_map, List.getElem?_map, Option.map_eq_some_iff] at hu'
    obtain ⟨z, hz', rfl⟩ := hu'
    refine ⟨a, rfl, ?_⟩
    rw [List.getElem?_take] at hz'
    split at hz'
    · have hj : j < zs.length := (List.getElem?_eq_some_iff.1 hz').1
      have hzz : zs[j] = z := (List.getElem?_eq_some_iff.1 hz').2
      rw [hcell j hj]
      have h1 := hw z (by rw [← hzz]; exact List.getElem_mem hj)
      have : zs.getD j 0 = z := by rw [List.getD, hz']; rfl
      rw [this]
      simp only [Function.comp, u8, Option.some.injEq, Value.int.injEq, true_and]
      show z = ((UInt8.ofNat z.toNat).toNat : Int)
      rw [UInt8.toNat_ofNat']
      omega
    · cases hz'
end
end Go.Proofs.Ytffcglfepobdjaa
