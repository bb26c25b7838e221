/- BlockLost: its law, and its walk. -/
import Derived.Test.YtffcglfepobdjaaD3
set_option linter.unusedVariables false
set_option linter.unusedSimpArgs false
set_option maxRecDepth 10000
set_option maxHeartbeats 1500000
namespace Go.Proofs.Ytffcglfepobdjaa
open Go.RowKit

theorem crashK_lost {l : List Bk} {row : List (Nat × Bk)} (hl : ∀ b ∈ l, b.length = 64) (hr : ∀ p ∈ row, p.1 < l.length ∧ p.2.length = 64) : ∀ k, k ≤ row.length → crashK [0] l row k = l
  | 0, _ => rfl
  | k + 1, hk => by
    have e : row.getD k (0, []) = row[k] := by simp [List.getD_eq_getElem?_getD, show k < row.length by omega]
    rw [crashK, crashK_lost hl hr k (by omega), crash1, e]
    have hf : formOf [0] k = 0 := by unfold formOf; simp [List.getD_eq_getElem?_getD, Nat.mod_one]
    rw [hf]
    exact mix_none hl (hr _ (List.getElem_mem (by omega)))
theorem mix_all (a b : Bk) : mix 1 a b = b := by unfold mix; simp
theorem crashK_kept {l : List Bk} {row : List (Nat × Bk)} : ∀ k, k ≤ row.length → crashK [1] l row k = putAll l (row.take k)
  | 0, _ => rfl
  | k + 1, hk => by
    have e : row.getD k (0, []) = row[k] := by simp [List.getD_eq_getElem?_getD, show k < row.length by omega]
    have ht : row.take (k + 1) = row.take k ++ [row[k]] := by rw [List.take_add_one, List.getElem?_eq_getElem (show k < row.length by omega)]; rfl
    have hf : formOf [1] k = 1 := by unfold formOf; simp [List.getD_eq_getElem?_getD, Nat.mod_one]; rfl
    rw [crashK, crashK_kept k (by omega), crash1, e, ht, hf, mix_all, putAll_snoc]
theorem image_lost {D : DS} (h : D.ok) : (D.crash [0]).image = D.l.flatten := by
  show (crashK [0] D.l D.row D.row.length).flatten = _
  rw [crashK_lost h.l64 h.row64 _ (Nat.le_refl _)]
theorem image_kept (D : DS) : (D.crash [1]).image = D.image := by
  show (crashK [1] D.l D.row D.row.length).flatten = _
  rw [crashK_kept _ (Nat.le_refl _), List.take_length]
  rfl
theorem lost_write (D : DS) (k : Int) (b : List UInt8) : (D.write k b).1.l = D.l := by
  unfold DS.write
  (repeat' split) <;> rfl
theorem lost_flush (D : DS) : (D.flush.2 = 0 ∧ D.flush.1.image = D.flush.1.l.flatten) ∨ (D.flush.2 = 100 ∧ D.flush.1.l = D.l) := by
  unfold DS.flush
  split
  · exact .inr ⟨rfl, rfl⟩
  · split
    · exact .inr ⟨rfl, rfl⟩
    · exact .inl ⟨rfl, rfl⟩
theorem lost_op0 (D : DS) (o : OpV) (hk : o.kind = 0) : (D.doOp o).1.l = D.l := by
  unfold DS.doOp; rw [if_pos hk]; exact lost_write _ _ _
theorem lost_op1 (D : DS) (o : OpV) (hk : o.kind = 1) : ((D.doOp o).2 = 0 ∧ (D.doOp o).1.image = (D.doOp o).1.l.flatten) ∨ ((D.doOp o).2 = 100 ∧ (D.doOp o).1.l = D.l) := by
  unfold DS.doOp; rw [if_neg (by omega), if_pos hk]; exact lost_flush _

/-- The bytes that are told later, and the device, apart. -/
structure Row1 (B : Nat) (w0 : World) (g : Nat) (k : Nat) (D : DS) (v : Value) (bs : List UInt8) (wr : World) : Prop where
  own : ∃ F G, Own B wr F g D ∧ Bytes wr G v bs ∧ Dj F G ∧ Lt G wr
  ok : D.ok
  ops : D.ops ≤ k
  row : D.row.length ≤ k
  kept : Keep Noth w0 wr

theorem Bytes.same_as {w : World} {F : Nat → Prop} {A : Option Addr} {n c : Nat} {l : List UInt8} (h : Bytes w F (.slice A n c) l) : Reads w A (bv l) := by
  have := rd_of_own h
  rwa [u1_flatten] at this

theorem lost_calls (w : World) (count : Int) (A : Option Addr) (c : Nat) (xs : List OpC) (hS : Script w A xs) (hsz : scriptSize xs + xs.length ≤ 1048576) :
    Calls Try.prog 7 #[.int .i64 count, .slice A xs.length c] w (fun e w' => e = .returned (.bool true) ∧ Keep Noth w w') := by
  have hfp := few_pos xs
  have hfc := few_calls w A c xs hS hsz
  by_cases hin : few xs = 0 ∧ count ≤ 20
  · obtain ⟨h0, h20⟩ := hin
    have hlen := (hfp.2.1 h0).1
    have hlen' : (xs.length : Int) ≤ 80 := by omega
    rw [h0] at hfc
    have hcl := clampN_le h20
    have HS := hid hS
    clear hS hfp hsz
    go_enter Try.func7, Try.ntmps7
    go_wp2_with fail
    refine hfc.mono ?_
    rintro e w1 ⟨rfl, K1⟩
    clear hfc
    go_wp2_with fail
    refine (new_calls w1 count).mono ?_
    rintro e w2 ⟨g, rfl, H2, K2⟩
    obtain ⟨n, hn⟩ : ∃ n, n = clampN count := ⟨_, rfl⟩
    rw [← hn] at H2 hcl
    have O2 : Own w.heap.size w2 (Fresh w1 w2) g (DS.new n) := ⟨H2, fun q hq => Nat.le_trans K1.size hq.1⟩
    have K02 : Keep Noth w w2 := K1.trans K2 (fun _ _ h => h)
    obtain ⟨vl, vr, A2⟩ := H2
    have hok := new_ok n hcl.1 (by omega)
    have him := image_calls A2 hok (by show (0 : Nat) ≤ _; omega)
    rw [show (DS.new n).image = (DS.new n).l.flatten from rfl] at him
    clear hn
    go_wp2_with fail
    refine him.mono ?_
    rintro e w3 ⟨v3, rfl, I3, K3⟩
    clear him
    have hR3 : Row1 w.heap.size w g 0 (DS.new n) v3 (DS.new n).l.flatten w3 := ⟨⟨_, _, O2.keep K3 (Dj.noth _), I3, fun q h1 h2 => by have h3 := O2.dev.lt q h1; have h4 := h2.1; omega, fun q h => h.2⟩, hok, Nat.le_refl _, Nat.le_refl _, K02.trans K3 (fun _ _ h => h)⟩
    clear K3 I3 A2 O2 K02 K2 K1 hok
    go_wp2_with fail
    go_loopw [6, 30] (fun v i wr => ∃ (k : Nat) (D : DS), i = .int .i64 k ∧ k ≤ xs.length ∧ Row1 w.heap.size w g k D v D.l.flatten wr) (fun _ i _ => xs.length - (intOf i).toNat)
    case atStart => exact ⟨0, _, rfl, Nat.zero_le _, hR3⟩
    case round =>
      obtain ⟨k, D, rfl, hkl, HR⟩ := hrel
      by_cases hlt : k < xs.length
      · have hlt' : (k : Int) < xs.length := by omega
        obtain ⟨⟨F, G, O4, I4, hdj, hGl⟩, hok, hops, hrow, K04⟩ := HR
        have HS4 := HS.out.old K04 (fun _ h => h.elim)
        obtain ⟨ga, oa, hAo, hrange, hga⟩ := HS4.cells.where (script_pos xs (by omega))
        subst hAo
        obtain ⟨x, hx⟩ : ∃ x, x = xs[k] := ⟨_, rfl⟩
        have hxm : x ∈ xs := by rw [hx]; exact List.getElem_mem hlt
        have hxc : (xs.map OpC.cells)[k]'(by rw [List.length_map]; exact hlt) = x.cells := by rw [List.getElem_map, ← hx]
        have hoo := HS4.ok x hxm
        have hat := HS.out.each x hxm
        have Hr := hid hrange
        have Hxc := hid hxc
        have Hat := hid hat
        have Hoo := hid hoo
        have HAF := hid (HS.out.below (F := F) O4.low hxm)
        clear hrange hxc hx HS4 hoo hat hR3
        by_cases hk : x.o.kind = 0 ∨ x.o.kind = 1
        · have hops' := (doOp_grow D x.o)
          have hdoes : ∀ wx, Keep Noth w wx → Own w.heap.size wx F g D → Calls Try.prog 21 #[.pointer (some ⟨g, 0, none⟩), .agg x.cells.toArray] wx (fun e w' => e = .returned (.tuple #[.pointer (some ⟨g, 0, none⟩), .int .i64 (D.doOp x.o).2]) ∧ DevIs w' (grow F wx w') g (D.doOp x.o).1 ∧ Keep F wx w') := fun wx Kx Ox =>
            does_calls Ox.dev hok (by omega) (by omega) x.o Hoo.out (by omega) x.Ab x.Af x.cb x.cf ⟨Hat.out.b.old Kx (fun _ h => h.elim), Hat.out.forms.old Kx (fun _ h => h.elim)⟩ HAF.out
          have hok' := doOp_ok hok x.o Hoo.out
          have hl0 := lost_op0 D x.o
          have hl1 := lost_op1 D x.o
          obtain ⟨D', e', hR⟩ : ∃ D' e', D.doOp x.o = (D', e') := ⟨_, _, rfl⟩
          rw [hR] at hops' hdoes hok' hl0 hl1
          simp only at hops' hdoes hok' hl0 hl1
          have Hdoes := hid hdoes
          obtain ⟨kd, hkd⟩ : ∃ kd, kd = x.o.kind := ⟨_, rfl⟩
          have hxcells : x.cells = [.int .i64 kd, .int .i64 x.o.k, .slice x.Ab x.o.b.length x.cb, .slice x.Af x.o.forms.length x.cf] := by rw [hkd]; rfl
          rw [← hkd] at hk hl0 hl1
          have HRel : Hid (∀ wr' F' G' v', Own w.heap.size wr' F' g D' → Bytes wr' G' v' D'.l.flatten → Dj F' G' → Lt G' wr' → Keep Noth w wr' → ∃ (k' : Nat) (D' : DS), Value.int .i64 ((k : Int) + 1) = .int .i64 k' ∧ k' ≤ xs.length ∧ Row1 w.heap.size w g k' D' v' D'.l.flatten wr') := hid (fun wr' F' G' v' HO HB HD HL HK => ⟨k + 1, D', by go_num, hlt, ⟨⟨F', G', HO, HB, HD, HL⟩, hok', by omega, by omega, HK⟩⟩)
          have Hopsb := hid (show D'.row.length ≤ 1099511627776 by omega)
          have Hok' := hid hok'
          have HK04 := hid K04
          clear hdoes hkd hR hops' hops hrow hok hok' K04 hkl
          rcases hk with rfl | rfl
          · have hl := hl0 rfl
            clear hl0 hl1
            go_wp2_with (first | (refine wpList_load_elem rfl 36 _ rfl 4 ga oa (xs.map OpC.cells) k _ x.cells _ Hr.out (opc_each xs) (by rw [List.length_map]; exact hlt) Hxc.out rfl (by rfl) Try.underlying36 rfl size36 ?_) | (refine wpList_alloc_store rfl 36 rfl 8 _ rfl (by rfl) rfl rfl (by decide) (.agg zop.toArray) x.cells (by rw [opc_length]; exact info36) zop zop_cells (by rfl) (by rfl) (opv_one _ _ _ _ _) ?_; intro b w5 hb5 B5 K5; have c0 := B5.cell 0; rw [hxcells] at c0; clear hxcells; simp only [List.getElem?_cons_zero, List.getElem?_cons_succ] at c0) | (refine wpList_load_blk rfl 36 _ rfl b 0 x.cells x.cells 36 _ (by rfl) B5 (fun j v h => by simpa using h) Try.underlying36 rfl (by rw [opc_length]; exact info36) ?_))
            have K05 : Keep Noth w w5 := HK04.out.trans K5 (fun _ _ h => h)
            have O5 := O4.keep K5 (Dj.noth _)
            have hbF : ¬ F b := fun h => by have := O4.dev.lt b h; omega
            have I5 := I4.keep K5 (Dj.noth _)
            have hGl5 : Lt G w5 := fun q h => Nat.lt_of_lt_of_le (hGl q h) K5.size
            clear O4 I4 hGl
            refine (Hdoes.out w5 K05 O5).mono ?_
            rintro e w6 ⟨rfl, H6, K6⟩
            have O6 := O5.next K05.size H6
            have K06 := K05.own K6 O5.low
            have I6 := I5.keep K6 hdj.symm
            have hdj6 : Dj (grow F w5 w6) G := fun q h1 h2 => h1.elim (fun h => hdj q h h2) (fun h => by have h3 := hGl5 q h2; have h4 := h.1; omega)
            have hGl6 : Lt G w6 := fun q h => Nat.lt_of_lt_of_le (hGl5 q h) K6.size
            have c6 : w6.cell? ⟨b, 0, none⟩ = some (.int .i64 0) := K6.cellAt hbF c0
            have f6 := K6.frozenAt hbF c0 (B5.frozen 0)
            rw [← hl] at I6
            clear H6 K6 O5 I5 hGl5 hdj B5 c0 Hdoes
            go_wp2_with fail
            go_roundw
            case rel => exact HRel.out _ _ _ _ O6 I6 hdj6 hGl6 K06
            case measure => simp [intOf]; omega
          · have hl := hl1 rfl
            clear hl0 hl1
            go_wp2_with (first | (refine wpList_load_elem rfl 36 _ rfl 4 ga oa (xs.map OpC.cells) k _ x.cells _ Hr.out (opc_each xs) (by rw [List.length_map]; exact hlt) Hxc.out rfl (by rfl) Try.underlying36 rfl size36 ?_) | (refine wpList_alloc_store rfl 36 rfl 8 _ rfl (by rfl) rfl rfl (by decide) (.agg zop.toArray) x.cells (by rw [opc_length]; exact info36) zop zop_cells (by rfl) (by rfl) (opv_one _ _ _ _ _) ?_; intro b w5 hb5 B5 K5; have c0 := B5.cell 0; rw [hxcells] at c0; clear hxcells; simp only [List.getElem?_cons_zero, List.getElem?_cons_succ] at c0) | (refine wpList_load_blk rfl 36 _ rfl b 0 x.cells x.cells 36 _ (by rfl) B5 (fun j v h => by simpa using h) Try.underlying36 rfl (by rw [opc_length]; exact info36) ?_))
            have K05 : Keep Noth w w5 := HK04.out.trans K5 (fun _ _ h => h)
            have O5 := O4.keep K5 (Dj.noth _)
            have hbF : ¬ F b := fun h => by have := O4.dev.lt b h; omega
            have I5 := I4.keep K5 (Dj.noth _)
            have hGl5 : Lt G w5 := fun q h => Nat.lt_of_lt_of_le (hGl q h) K5.size
            clear O4 I4 hGl
            refine (Hdoes.out w5 K05 O5).mono ?_
            rintro e w6 ⟨rfl, H6, K6⟩
            have O6 := O5.next K05.size H6
            have K06 := K05.own K6 O5.low
            have I6 := I5.keep K6 hdj.symm
            have hdj6 : Dj (grow F w5 w6) G := fun q h1 h2 => h1.elim (fun h => hdj q h h2) (fun h => by have h3 := hGl5 q h2; have h4 := h.1; omega)
            have hGl6 : Lt G w6 := fun q h => Nat.lt_of_lt_of_le (hGl5 q h) K6.size
            have c6 : w6.cell? ⟨b, 0, none⟩ = some (.int .i64 1) := K6.cellAt hbF c0
            have f6 := K6.frozenAt hbF c0 (B5.frozen 0)
            clear H6 K6 O5 I5 hGl5 hdj B5 c0 Hdoes
            rcases hl with ⟨rfl, hl⟩ | ⟨rfl, hl⟩
            · obtain ⟨vl6, vr6, A6⟩ := O6.dev
              have him := image_calls A6 Hok'.out Hopsb.out
              rw [hl] at him
              go_wp2_with fail
              refine him.mono ?_
              rintro e w7 ⟨v7, rfl, I7, K7⟩
              have O7 := O6.keep K7 (Dj.noth _)
              have K07 := K06.trans K7 (fun _ _ h => h)
              have hlt6 := hid O6.dev.lt
              clear him A6 O6 I6 K7 K06
              go_wp2_with fail
              go_roundw
              case rel => exact HRel.out _ _ _ _ O7 I7 (fun q h1 h2 => by have h3 := hlt6.out q h1; have h4 := h2.1; omega) (fun q h => h.2) K07
              case measure => simp [intOf]; omega
            · rw [← hl] at I6
              go_wp2_with fail
              go_roundw
              case rel => exact HRel.out _ _ _ _ O6 I6 hdj6 hGl6 K06
              case measure => simp [intOf]; omega
        · have hn0 : x.o.kind ≠ 0 := fun e => hk (.inl e)
          have hn1 : x.o.kind ≠ 1 := fun e => hk (.inr e)
          have hk0 : (x.o.kind != 0) = true := by simpa using hn0
          have hk1 : (x.o.kind != 1) = true := by simpa using hn1
          have hk2 : (x.o.kind == 0) = false := by simpa using hn0
          have hk3 : (x.o.kind == 1) = false := by simpa using hn1
          go_wp2_with (first | (refine wpList_load_elem rfl 36 _ rfl 4 ga oa (xs.map OpC.cells) k _ x.cells _ Hr.out (opc_each xs) (by rw [List.length_map]; exact hlt) Hxc.out rfl (by rfl) Try.underlying36 rfl size36 ?_) | (refine wpList_alloc_store rfl 36 rfl 8 _ rfl (by rfl) rfl rfl (by decide) (.agg zop.toArray) x.cells (by rw [opc_length]; exact info36) zop zop_cells (by rfl) (by rfl) (opv_one _ _ _ _ _) ?_; intro b w5 hb5 B5 K5; have c0 := B5.cell 0; simp only [OpC.cells, opv, List.getElem?_cons_zero, List.getElem?_cons_succ] at c0))
          go_roundw
          case rel => exact ⟨k + 1, D, by go_num, hlt, ⟨⟨F, G, O4.keep K5 (Dj.noth _), I4.keep K5 (Dj.noth _), hdj, fun q h => Nat.lt_of_lt_of_le (hGl q h) K5.size⟩, hok, by omega, by omega, K04.trans K5 (fun _ _ h => h)⟩⟩
          case measure => simp [intOf]; omega
      · have hge : k = xs.length := by omega
        subst hge
        obtain ⟨⟨F, G, O4, I4, hdj, hGl⟩, hok, hops, hrow, K04⟩ := HR
        clear hR3
        obtain ⟨fl, hfl⟩ : ∃ fl, fl = D.l.flatten := ⟨_, rfl⟩
        rw [← hfl] at I4
        have Hfl := hid hfl
        clear hfl
        obtain ⟨Af, cf, hv⟩ := I4.val
        rw [u1_length] at hv
        subst hv
        obtain ⟨vl4, vr4, A4⟩ := O4.dev
        have him := image_calls A4 hok (by omega)
        go_wp2_with fail
        refine him.mono ?_
        rintro e w5 ⟨v5, rfl, I5, K5⟩
        obtain ⟨As, cs, hv⟩ := I5.val
        rw [u1_length] at hv
        subst hv
        have O5 := O4.keep K5 (Dj.noth _)
        have If5 := I4.keep K5 (Dj.noth _)
        have K05 := K04.trans K5 (fun _ _ h => h)
        have hs45 := K5.size
        have hlt4 := O4.dev.lt
        clear him A4 O4 I4 K5 K04
        obtain ⟨vl5, vr5, A5⟩ := O5.dev
        have hcp := copy_calls A5 hok (by omega)
        go_wp2_with fail
        refine hcp.mono ?_
        rintro e w6 ⟨gx, rfl, H6, K6⟩
        have Oa : Own w.heap.size w6 (Fresh w5 w6) gx D := Own.fresh K05.size H6
        have O6 := O5.keep K6 (Dj.noth _)
        have If6 := If5.keep K6 (Dj.noth _)
        have Is6 := I5.keep K6 (Dj.noth _)
        have K06 := K05.trans K6 (fun _ _ h => h)
        have hs56 := K6.size
        clear hcp A5 O5 If5 I5 K6 K05 H6
        obtain ⟨vl6, vr6, A6⟩ := O6.dev
        have hcp := copy_calls A6 hok (by omega)
        go_wp2_with fail
        refine hcp.mono ?_
        rintro e w7 ⟨gy, rfl, H7, K7⟩
        have Ob : Own w.heap.size w7 (Fresh w6 w7) gy D := Own.fresh K06.size H7
        have Oa7 := Oa.keep K7 (Dj.noth _)
        have O7 := O6.keep K7 (Dj.noth _)
        have If7 := If6.keep K7 (Dj.noth _)
        have Is7 := Is6.keep K7 (Dj.noth _)
        have K07 := K06.trans K7 (fun _ _ h => h)
        have hs67 := K7.size
        clear hcp A6 O6 If6 Is6 K7 K06 H7 Oa
        have ka := ((Keep.refl Noth w7).alloc (.cells #[.int .i64 0] 3))
        obtain ⟨vl7, vr7, A7⟩ := (Oa7.keep ka (Dj.noth _)).dev
        have hcr := crash_calls A7 hok (by omega) (some ⟨w7.heap.size, 0, none⟩) 1 [0] (Reads.of_range (BlockIs.new w7 [.int .i64 0] 3).rangeAll) (fun ad h _ => by injection h with h; subst h; intro hq; have := hq.2; simp only at this; omega) (by decide) (by intro x hx; rw [List.mem_singleton.1 hx]; decide)
        rw [show ([0] : List Int).length = 1 from rfl] at hcr
        go_wp2_with fail
        refine hcr.mono ?_
        rintro e w8 ⟨rfl, H8, K8⟩
        have k8 := (ka.mono (fun i hi (h : Noth i) => (h.elim : Fresh w5 w6 i))).trans K8 (fun _ _ h => h)
        have Oa8 : Own w.heap.size w8 (Fresh w5 w6) gx (D.crash [0]) := ⟨H8, Oa7.low⟩
        have O8 := O7.keep k8 (fun q h1 h2 => by have h3 := hlt4 q h1; have h4 := h2.1; omega)
        have Ob8 := Ob.keep k8 (fun q h1 h2 => by have h3 := h1.1; have h4 := h2.2; omega)
        have If8 := If7.keep k8 (fun q h1 h2 => by have h3 := hGl q h1; have h4 := h2.1; omega)
        have Is8 := Is7.keep k8 (fun q h1 h2 => by have h3 := h1.2; have h4 := h2.1; omega)
        have K08 := K07.own k8 Oa7.low
        have hs78 := k8.size
        clear hcr H8 K8 k8 A7 Oa7 O7 Ob If7 Is7 K07 ka
        have ka := ((Keep.refl Noth w8).alloc (.cells #[.int .i64 1] 3))
        obtain ⟨vl8, vr8, A8⟩ := (Ob8.keep ka (Dj.noth _)).dev
        have hcr := crash_calls A8 hok (by omega) (some ⟨w8.heap.size, 0, none⟩) 1 [1] (Reads.of_range (BlockIs.new w8 [.int .i64 1] 3).rangeAll) (fun ad h _ => by injection h with h; subst h; intro hq; have := hq.2; simp only at this; omega) (by decide) (by intro x hx; rw [List.mem_singleton.1 hx]; decide)
        rw [show ([1] : List Int).length = 1 from rfl] at hcr
        go_wp2_with fail
        refine hcr.mono ?_
        rintro e w9 ⟨rfl, H9, K9⟩
        have k9 := (ka.mono (fun i hi (h : Noth i) => (h.elim : Fresh w6 w7 i))).trans K9 (fun _ _ h => h)
        have Ob9 : Own w.heap.size w9 (Fresh w6 w7) gy (D.crash [1]) := ⟨H9, Ob8.low⟩
        have O9 := O8.keep k9 (fun q h1 h2 => by have h3 := hlt4 q h1; have h4 := h2.1; omega)
        have Oa9 := Oa8.keep k9 (fun q h1 h2 => by have h3 := h1.2; have h4 := h2.1; omega)
        have If9 := If8.keep k9 (fun q h1 h2 => by have h3 := hGl q h1; have h4 := h2.1; omega)
        have Is9 := Is8.keep k9 (fun q h1 h2 => by have h3 := h1.2; have h4 := h2.1; omega)
        have K09 := K08.own k9 Ob8.low
        clear hcr H9 K9 k9 A8 Oa8 O8 Ob8 If8 Is8 K08 ka
        go_wp2_with fail
        refine (alive_calls w9).mono ?_
        rintro e w10 ⟨rfl, K10⟩
        have Oa10 := Oa9.keep K10 (Dj.noth _)
        have Ob10 := Ob9.keep K10 (Dj.noth _)
        have O10 := O9.keep K10 (Dj.noth _)
        have If10 := If9.keep K10 (Dj.noth _)
        have Is10 := Is9.keep K10 (Dj.noth _)
        have K010 := K09.trans K10 (fun _ _ h => h)
        clear Oa9 Ob9 O9 If9 Is9 K09 K10
        have hokA := crash_ok hok [0]
        have hokB := crash_ok hok [1]
        obtain ⟨vla, vra, AA⟩ := Oa10.dev
        have him := image_calls AA hokA (by show (0 : Nat) ≤ _; omega)
        rw [image_lost hok, ← Hfl.out] at him
        go_wp2_with fail
        refine him.mono ?_
        rintro e w11 ⟨v11, rfl, I11, K11⟩
        obtain ⟨Ax, cx, hv⟩ := I11.val
        rw [u1_length] at hv
        subst hv
        have Ob11 := Ob10.keep K11 (Dj.noth _)
        have O11 := O10.keep K11 (Dj.noth _)
        have Is11 := Is10.keep K11 (Dj.noth _)
        have K011 := K010.trans K11 (fun _ _ h => h)
        have heq := equal_calls w11 Ax Af fl.length fl.length cx cf fl fl rfl rfl (Bytes.same_as I11) (Bytes.same_as (If10.keep K11 (Dj.noth _)))
        rw [show (fl == fl) = true by simp] at heq
        clear him I11 K11 Oa10 Ob10 O10 If10 Is10 K010 AA
        go_wp2_with fail
        refine heq.mono ?_
        rintro e wx ⟨rfl, rfl⟩
        clear heq
        obtain ⟨vlb, vrb, AB⟩ := Ob11.dev
        have him := image_calls AB hokB (by show (0 : Nat) ≤ _; omega)
        rw [image_kept] at him
        go_wp2_with fail
        refine him.mono ?_
        rintro e w12 ⟨v12, rfl, I12, K12⟩
        obtain ⟨Ax, cx, hv⟩ := I12.val
        rw [u1_length] at hv
        subst hv
        have O12 := O11.keep K12 (Dj.noth _)
        have Is12 := Is11.keep K12 (Dj.noth _)
        have K012 := K011.trans K12 (fun _ _ h => h)
        have heq := equal_calls w12 Ax As D.image.length D.image.length cx cs D.image D.image rfl rfl (Bytes.same_as I12) (Bytes.same_as Is12)
        rw [show (D.image == D.image) = true by simp] at heq
        clear him I12 K12 Ob11 O11 Is11 K011 AB
        go_wp2_with fail
        refine heq.mono ?_
        rintro e wx ⟨rfl, rfl⟩
        clear heq
        obtain ⟨vlc, vrc, AC⟩ := O12.dev
        have him := image_calls AC hok (by omega)
        go_wp2_with fail
        refine him.mono ?_
        rintro e w13 ⟨v13, rfl, I13, K13⟩
        obtain ⟨Ax, cx, hv⟩ := I13.val
        rw [u1_length] at hv
        subst hv
        have K013 := K012.trans K13 (fun _ _ h => h)
        have heq := equal_calls w13 Ax As D.image.length D.image.length cx cs D.image D.image rfl rfl (Bytes.same_as I13) (Bytes.same_as (Is12.keep K13 (Dj.noth _)))
        rw [show (D.image == D.image) = true by simp] at heq
        clear him I13 K13 O12 Is12 K012 AC
        go_wp2_with fail
        refine heq.mono ?_
        rintro e wx ⟨rfl, rfl⟩
        clear heq
        go_wp2_with fail
        go_ret
        exact ⟨rfl, K013⟩
  · have hf0 := hfp.1
    clear hfp
    have hor : 0 < few xs ∨ (few xs = 0 ∧ 20 < count) := by omega
    clear hin
    obtain ⟨fx, hfx⟩ : ∃ fx, fx = few xs := ⟨_, rfl⟩
    rw [← hfx] at hfc hor
    clear hfx hf0 hS hsz
    rcases hor with h | ⟨h, h'⟩
    · go_enter Try.func7, Try.ntmps7
      go_wp2_with fail
      refine hfc.mono ?_
      rintro e w1 ⟨rfl, K1⟩
      clear hfc
      go_wp2_with fail
      refine (alive_calls w1).mono ?_
      rintro e w2 ⟨rfl, K2⟩
      go_wp2_with fail
      go_ret
      exact ⟨rfl, K1.trans K2 (fun _ _ h => h)⟩
    · subst h
      go_enter Try.func7, Try.ntmps7
      go_wp2_with fail
      refine hfc.mono ?_
      rintro e w1 ⟨rfl, K1⟩
      clear hfc
      go_wp2_with fail
      refine (alive_calls w1).mono ?_
      rintro e w2 ⟨rfl, K2⟩
      go_wp2_with fail
      go_ret
      exact ⟨rfl, K1.trans K2 (fun _ _ h => h)⟩
end Go.Proofs.Ytffcglfepobdjaa
