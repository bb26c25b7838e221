/- BlockDown: its walk. -/
import Derived.Test.YtffcglfepobdjaaD2
import Derived.Test.YtffcglfepobdjaaD1
set_option linter.unusedVariables false
set_option linter.unusedSimpArgs false
set_option maxRecDepth 10000
set_option maxHeartbeats 4000000
namespace Go.Proofs.Ytffcglfepobdjaa
open Go.RowKit

structure Row0 (B : Nat) (w0 : World) (g : Nat) (k : Nat) (D : DS) (wr : World) : Prop where
  own : ∃ F, Own B wr F g D
  ok : D.ok
  ops : D.ops ≤ k
  row : D.row.length ≤ k
  kept : Keep Noth w0 wr

theorem clampN_le {c : Int} (h : c ≤ 20) : 1 ≤ clampN c ∧ clampN c ≤ 20 := by unfold clampN; omega

theorem down_law_calls (w : World) (count N : Int) (hN : -9223372036854775808 ≤ N) (A : Option Addr) (c : Nat) (xs : List OpC) (hS : Script w A xs) (hsz : scriptSize xs + xs.length ≤ 1048576) :
    Calls Try.prog 6 #[.int .i64 count, .int .i64 N, .slice A xs.length c] w (fun e w' => e = .returned (.bool true) ∧ Keep Noth w w') := by
  have hfp := few_pos xs
  have hfc := few_calls w A c xs hS hsz
  by_cases hin : few xs = 0 ∧ count ≤ 20 ∧ N ≤ 1000
  · obtain ⟨h0, h20, h1000⟩ := hin
    have hlen := (hfp.2.1 h0).1
    have hlen' : (xs.length : Int) ≤ 80 := by omega
    rw [h0] at hfc
    have hcl := clampN_le h20
    have HS := hid hS
    clear hS hfp hsz
    go_enter Try.func6, Try.ntmps6
    go_wp2_with fail
    refine hfc.mono ?_
    rintro e w1 ⟨rfl, K1⟩
    clear hfc
    go_wp2_with fail
    refine (new_calls w1 count).mono ?_
    rintro e w2 ⟨g, rfl, H2, K2⟩
    obtain ⟨n, hn⟩ : ∃ n, n = clampN count := ⟨_, rfl⟩
    rw [← hn] at H2 hcl
    have O2 : Own w.heap.size w2 (Fresh w1 w2) g (DS.new n) := ⟨H2, fun q hq => Nat.le_trans K1.size hq.1⟩
    have K02 : Keep Noth w w2 := K1.trans K2 (fun _ _ h => h)
    obtain ⟨vl, vr, A2⟩ := H2
    have harm := arm_calls A2 N
    clear hn
    go_wp2_with fail
    refine harm.mono ?_
    rintro e w3 ⟨rfl, A3, K3⟩
    clear harm
    have hR3 : Row0 w.heap.size w g 0 ((DS.new n).arm N) w3 := ⟨⟨_, ⟨⟨_, _, A3⟩, O2.low⟩⟩, arm_ok (new_ok n (by omega) (by omega)) N (by omega), Nat.le_refl _, Nat.le_refl _, K02.own K3 (fun q e => by unfold Only at e; subst e; exact O2.low _ A2.here)⟩
    have hA3 := armed_new n N
    clear A3 K3 A2 O2 K02 K2 K1
    go_wp2_with fail
    go_loopw [36] (fun i wr => ∃ (k : Nat) (D : DS), i = .int .i64 k ∧ k ≤ xs.length ∧ Row0 w.heap.size w g k D wr ∧ Armed N D) (fun i _ => xs.length - (intOf i).toNat)
    case atStart => exact ⟨0, _, rfl, Nat.zero_le _, hR3, hA3⟩
    case round =>
      obtain ⟨k, D, rfl, hkl, HR, HA⟩ := hrel
      by_cases hlt : k < xs.length
      · have hlt' : (k : Int) < xs.length := by omega
        obtain ⟨⟨F, O4⟩, hok, hops, hrow, K04⟩ := HR
        have HS4 := HS.out.old K04 (fun _ h => h.elim)
        obtain ⟨ga, oa, hAo, hrange, hga⟩ := HS4.cells.where (script_pos xs (by omega))
        subst hAo
        obtain ⟨x, hx⟩ : ∃ x, x = xs[k] := ⟨_, rfl⟩
        have hxm : x ∈ xs := by rw [hx]; exact List.getElem_mem hlt
        have hxc : (xs.map OpC.cells)[k]'(by rw [List.length_map]; exact hlt) = x.cells := by rw [List.getElem_map, ← hx]
        have hoo := HS4.ok x hxm
        have hat := HS.out.each x hxm
        have Hr := hid hrange
        have Hxc := hid hxc
        have Hat := hid hat
        have Hoo := hid hoo
        have HAF := hid (HS.out.below (F := F) O4.low hxm)
        clear hrange hxc hx HS4 hoo hat hR3 hA3
        by_cases hk : x.o.kind = 0 ∨ x.o.kind = 1
        · have htold := told_op HA x.o hk
          have hops' := (doOp_grow D x.o)
          have hdoes : ∀ wx, Keep Noth w wx → Own w.heap.size wx F g D → Calls Try.prog 21 #[.pointer (some ⟨g, 0, none⟩), .agg x.cells.toArray] wx (fun e w' => e = .returned (.tuple #[.pointer (some ⟨g, 0, none⟩), .int .i64 (D.doOp x.o).2]) ∧ DevIs w' (grow F wx w') g (D.doOp x.o).1 ∧ Keep F wx w') := fun wx Kx Ox =>
            does_calls Ox.dev hok (by omega) (by omega) x.o Hoo.out (by omega) x.Ab x.Af x.cb x.cf ⟨Hat.out.b.old Kx (fun _ h => h.elim), Hat.out.forms.old Kx (fun _ h => h.elim)⟩ HAF.out
          have hok' := doOp_ok hok x.o Hoo.out
          obtain ⟨D', e', hR⟩ : ∃ D' e', D.doOp x.o = (D', e') := ⟨_, _, rfl⟩
          rw [hR] at htold hops' hdoes hok'
          simp only at hops' hdoes hok'
          have Hdoes := hid hdoes
          obtain ⟨kd, hkd⟩ : ∃ kd, kd = x.o.kind := ⟨_, rfl⟩
          have hxcells : x.cells = [.int .i64 kd, .int .i64 x.o.k, .slice x.Ab x.o.b.length x.cb, .slice x.Af x.o.forms.length x.cf] := by rw [hkd]; rfl
          rw [← hkd] at hk
          have HRel : Hid (∀ wr' F', Own w.heap.size wr' F' g D' → Keep Noth w wr' → ∃ (k' : Nat) (D' : DS), Value.int .i64 ((k : Int) + 1) = .int .i64 k' ∧ k' ≤ xs.length ∧ Row0 w.heap.size w g k' D' wr' ∧ Armed N D') := hid (fun wr' F' HO HK => ⟨k + 1, D', by go_num, hlt, ⟨⟨F', HO⟩, hok', by omega, by omega, HK⟩, htold.armed⟩)
          have Hopsb := hid (show D'.ops ≤ 1099511627776 ∧ D'.row.length ≤ 1099511627776 ∧ D.row.length ≤ 1099511627776 by omega)
          have Hwas : Hid (D.down = true → D' = D ∧ e' = 100 ∧ 0 ≤ N ∧ N < D.ops) := hid (fun hd => by
            have h1 := htold.was hd
            injection h1 with h1 h2
            exact ⟨h1, h2, (HA.down.1 hd).1, (HA.down.1 hd).2⟩)
          have Htold : Hid (D.down = false → (e' = 100 ∧ D'.down = true ∧ 0 ≤ N ∧ N < D'.ops) ∨ (e' ≠ 100 ∧ D'.down = false ∧ N < 0) ∨ (e' ≠ 100 ∧ D'.down = false ∧ 0 ≤ N ∧ D'.ops ≤ N)) := hid (fun hd => by
            have h1 := htold.told hd
            have h2 := htold.armed.down
            simp only at h1 h2
            cases hdd : D'.down with
            | true =>
              rw [hdd] at h1 h2
              exact .inl ⟨h1.2 rfl, rfl, (h2.1 rfl).1, (h2.1 rfl).2⟩
            | false =>
              rw [hdd] at h1 h2
              have hne : e' ≠ 100 := fun h => by have := h1.1 h; cases this
              simp only [Bool.false_eq_true, false_iff] at h2
              rcases (show N < 0 ∨ 0 ≤ N by omega) with hn | hn
              · exact .inr (.inl ⟨hne, rfl, hn⟩)
              · exact .inr (.inr ⟨hne, rfl, hn, by omega⟩))
          have Hok := hid hok
          have Hok' := hid hok'
          have HK04 := hid K04
          clear hdoes hkd hR htold hops' hops hrow hok hok' HA K04 hkl
          rcases hk with rfl | rfl
          · go_wp2_with (first | (refine wpList_load_elem rfl 36 _ rfl 4 ga oa (xs.map OpC.cells) k _ x.cells _ Hr.out (opc_each xs) (by rw [List.length_map]; exact hlt) Hxc.out rfl (by rfl) Try.underlying36 rfl size36 ?_) | (refine wpList_alloc_store rfl 36 rfl 9 _ rfl (by rfl) rfl rfl (by decide) (.agg zop.toArray) x.cells (by rw [opc_length]; exact info36) zop zop_cells (by rfl) (by rfl) (opv_one _ _ _ _ _) ?_; intro b w5 hb5 B5 K5; have c0 := B5.cell 0; rw [hxcells] at c0; simp only [List.getElem?_cons_zero, List.getElem?_cons_succ] at c0))
            have K05 : Keep Noth w w5 := HK04.out.trans K5 (fun _ _ h => h)
            have O5 := O4.keep K5 (Dj.noth _)
            obtain ⟨vl5, vr5, A5⟩ := O5.dev
            have hdn := down_calls A5
            have hos := ops_calls A5
            have him := image_calls A5 Hok.out Hopsb.out.2.2
            clear K5 O4 hxcells
            refine hdn.mono ?_
            rintro e wx ⟨rfl, rfl⟩
            go_wp2_with fail
            refine hos.mono ?_
            rintro e wx ⟨rfl, rfl⟩
            go_wp2_with fail
            refine him.mono ?_
            rintro e w6 ⟨vi, rfl, I6, K6⟩
            obtain ⟨Ai, ci, hvi⟩ := I6.val
            rw [u1_length] at hvi
            subst hvi
            have B6 := B5.keep K6 id
            have O6 := O5.keep K6 (Dj.noth _)
            have K06 := K05.trans K6 (fun _ _ h => h)
            have HltF := hid O5.dev.lt
            clear hdn hos him A5 B5 O5 K05 K6
            go_wp2_with (refine wpList_load_blk rfl 36 _ rfl b 0 x.cells x.cells 36 _ (by rfl) B6 (fun j v h => by simpa using h) Try.underlying36 rfl (by rw [opc_length]; exact info36) ?_)
            refine (Hdoes.out w6 K06 O6).mono ?_
            rintro e w7 ⟨rfl, H7, K7⟩
            have O7 := O6.next K06.size H7
            have K07 := K06.own K7 O6.low
            have I7 := I6.keep K7 (fun q h1 h2 => by have h3 := HltF.out q h2; have h4 := h1.1; omega)
            clear I6 B6 O6 K06 H7 K7 Hdoes
            obtain ⟨vl7, vr7, A7⟩ := O7.dev
            have hdn := down_calls A7
            have hos := ops_calls A7
            have him := image_calls A7 Hok'.out Hopsb.out.2.1
            cases hdd : D.down with
            | true =>
              obtain ⟨e1, e2, n0, n1⟩ := Hwas.out hdd
              subst e1 e2
              rw [hdd] at hdn
              go_wp2_with fail
              refine hos.mono ?_
              rintro e wx ⟨rfl, rfl⟩
              go_wp2_with fail
              refine him.mono ?_
              rintro e w8 ⟨vj, rfl, I8, K8⟩
              obtain ⟨Aj, cj, hvj⟩ := I8.val
              rw [u1_length] at hvj
              subst hvj
              have heq := equal_calls w8 Ai Aj D'.image.length D'.image.length ci cj D'.image D'.image rfl rfl (by have := rd_of_own (I7.keep K8 (Dj.noth _)); rwa [u1_flatten] at this) (by have := rd_of_own I8; rwa [u1_flatten] at this)
              rw [show (D'.image == D'.image) = true by simp] at heq
              have A8 := A7.keep K8 (Dj.noth _)
              have O8 := O7.keep K8 (Dj.noth _)
              have K08 := K07.trans K8 (fun _ _ h => h)
              have hdn8 := down_calls A8
              rw [hdd] at hdn8
              have hos8 := ops_calls A8
              clear him hdn hos I7 I8 K8 A7 O7 K07
              go_wp2_with fail
              refine heq.mono ?_
              rintro e wx ⟨rfl, rfl⟩
              go_wp2_with fail
              refine hdn8.mono ?_
              rintro e wx ⟨rfl, rfl⟩
              go_wp2_with fail
              refine hos8.mono ?_
              rintro e wx ⟨rfl, rfl⟩
              go_wp2_with fail
              go_roundw
              case rel => exact HRel.out _ _ O8 K08
              case measure => simp [intOf]; omega
            | false =>
              clear him I7
              rcases Htold.out hdd with ⟨rfl, hd', n0, n1⟩ | ⟨ne, hd', n0⟩ | ⟨ne, hd', n0, n1⟩
              · rw [hd'] at hdn
                go_wp2_with fail
                refine hdn.mono ?_
                rintro e wx ⟨rfl, rfl⟩
                go_wp2_with fail
                refine hos.mono ?_
                rintro e wx ⟨rfl, rfl⟩
                go_wp2_with fail
                refine hdn.mono ?_
                rintro e wx ⟨rfl, rfl⟩
                go_wp2_with fail
                go_roundw
                case rel => exact HRel.out _ _ O7 K07
                case measure => simp [intOf]; omega
              · rw [hd'] at hdn
                have he1 : (e' == 100) = false := by simpa using ne
                have he2 : (e' != 100) = true := by simpa using ne
                go_wp2_with fail
                refine hdn.mono ?_
                rintro e wx ⟨rfl, rfl⟩
                go_wp2_with fail
                refine hdn.mono ?_
                rintro e wx ⟨rfl, rfl⟩
                go_wp2_with fail
                go_roundw
                case rel => exact HRel.out _ _ O7 K07
                case measure => simp [intOf]; omega
              · rw [hd'] at hdn
                have he1 : (e' == 100) = false := by simpa using ne
                have he2 : (e' != 100) = true := by simpa using ne
                have hnl : ¬ N < (D'.ops : Int) := by omega
                go_wp2_with fail
                refine hdn.mono ?_
                rintro e wx ⟨rfl, rfl⟩
                go_wp2_with fail
                refine hos.mono ?_
                rintro e wx ⟨rfl, rfl⟩
                go_wp2_with fail
                refine hdn.mono ?_
                rintro e wx ⟨rfl, rfl⟩
                go_wp2_with fail
                go_roundw
                case rel => exact HRel.out _ _ O7 K07
                case measure => simp [intOf]; omega
          · go_wp2_with (first | (refine wpList_load_elem rfl 36 _ rfl 4 ga oa (xs.map OpC.cells) k _ x.cells _ Hr.out (opc_each xs) (by rw [List.length_map]; exact hlt) Hxc.out rfl (by rfl) Try.underlying36 rfl size36 ?_) | (refine wpList_alloc_store rfl 36 rfl 9 _ rfl (by rfl) rfl rfl (by decide) (.agg zop.toArray) x.cells (by rw [opc_length]; exact info36) zop zop_cells (by rfl) (by rfl) (opv_one _ _ _ _ _) ?_; intro b w5 hb5 B5 K5; have c0 := B5.cell 0; rw [hxcells] at c0; simp only [List.getElem?_cons_zero, List.getElem?_cons_succ] at c0))
            have K05 : Keep Noth w w5 := HK04.out.trans K5 (fun _ _ h => h)
            have O5 := O4.keep K5 (Dj.noth _)
            obtain ⟨vl5, vr5, A5⟩ := O5.dev
            have hdn := down_calls A5
            have hos := ops_calls A5
            have him := image_calls A5 Hok.out Hopsb.out.2.2
            clear K5 O4 hxcells
            refine hdn.mono ?_
            rintro e wx ⟨rfl, rfl⟩
            go_wp2_with fail
            refine hos.mono ?_
            rintro e wx ⟨rfl, rfl⟩
            go_wp2_with fail
            refine him.mono ?_
            rintro e w6 ⟨vi, rfl, I6, K6⟩
            obtain ⟨Ai, ci, hvi⟩ := I6.val
            rw [u1_length] at hvi
            subst hvi
            have B6 := B5.keep K6 id
            have O6 := O5.keep K6 (Dj.noth _)
            have K06 := K05.trans K6 (fun _ _ h => h)
            have HltF := hid O5.dev.lt
            clear hdn hos him A5 B5 O5 K05 K6
            go_wp2_with (refine wpList_load_blk rfl 36 _ rfl b 0 x.cells x.cells 36 _ (by rfl) B6 (fun j v h => by simpa using h) Try.underlying36 rfl (by rw [opc_length]; exact info36) ?_)
            refine (Hdoes.out w6 K06 O6).mono ?_
            rintro e w7 ⟨rfl, H7, K7⟩
            have O7 := O6.next K06.size H7
            have K07 := K06.own K7 O6.low
            have I7 := I6.keep K7 (fun q h1 h2 => by have h3 := HltF.out q h2; have h4 := h1.1; omega)
            clear I6 B6 O6 K06 H7 K7 Hdoes
            obtain ⟨vl7, vr7, A7⟩ := O7.dev
            have hdn := down_calls A7
            have hos := ops_calls A7
            have him := image_calls A7 Hok'.out Hopsb.out.2.1
            cases hdd : D.down with
            | true =>
              obtain ⟨e1, e2, n0, n1⟩ := Hwas.out hdd
              subst e1 e2
              rw [hdd] at hdn
              go_wp2_with fail
              refine hos.mono ?_
              rintro e wx ⟨rfl, rfl⟩
              go_wp2_with fail
              refine him.mono ?_
              rintro e w8 ⟨vj, rfl, I8, K8⟩
              obtain ⟨Aj, cj, hvj⟩ := I8.val
              rw [u1_length] at hvj
              subst hvj
              have heq := equal_calls w8 Ai Aj D'.image.length D'.image.length ci cj D'.image D'.image rfl rfl (by have := rd_of_own (I7.keep K8 (Dj.noth _)); rwa [u1_flatten] at this) (by have := rd_of_own I8; rwa [u1_flatten] at this)
              rw [show (D'.image == D'.image) = true by simp] at heq
              have A8 := A7.keep K8 (Dj.noth _)
              have O8 := O7.keep K8 (Dj.noth _)
              have K08 := K07.trans K8 (fun _ _ h => h)
              have hdn8 := down_calls A8
              rw [hdd] at hdn8
              have hos8 := ops_calls A8
              clear him hdn hos I7 I8 K8 A7 O7 K07
              go_wp2_with fail
              refine heq.mono ?_
              rintro e wx ⟨rfl, rfl⟩
              go_wp2_with fail
              refine hdn8.mono ?_
              rintro e wx ⟨rfl, rfl⟩
              go_wp2_with fail
              refine hos8.mono ?_
              rintro e wx ⟨rfl, rfl⟩
              go_wp2_with fail
              go_roundw
              case rel => exact HRel.out _ _ O8 K08
              case measure => simp [intOf]; omega
            | false =>
              clear him I7
              rcases Htold.out hdd with ⟨rfl, hd', n0, n1⟩ | ⟨ne, hd', n0⟩ | ⟨ne, hd', n0, n1⟩
              · rw [hd'] at hdn
                go_wp2_with fail
                refine hdn.mono ?_
                rintro e wx ⟨rfl, rfl⟩
                go_wp2_with fail
                refine hos.mono ?_
                rintro e wx ⟨rfl, rfl⟩
                go_wp2_with fail
                refine hdn.mono ?_
                rintro e wx ⟨rfl, rfl⟩
                go_wp2_with fail
                go_roundw
                case rel => exact HRel.out _ _ O7 K07
                case measure => simp [intOf]; omega
              · rw [hd'] at hdn
                have he1 : (e' == 100) = false := by simpa using ne
                have he2 : (e' != 100) = true := by simpa using ne
                go_wp2_with fail
                refine hdn.mono ?_
                rintro e wx ⟨rfl, rfl⟩
                go_wp2_with fail
                refine hdn.mono ?_
                rintro e wx ⟨rfl, rfl⟩
                go_wp2_with fail
                go_roundw
                case rel => exact HRel.out _ _ O7 K07
                case measure => simp [intOf]; omega
              · rw [hd'] at hdn
                have he1 : (e' == 100) = false := by simpa using ne
                have he2 : (e' != 100) = true := by simpa using ne
                have hnl : ¬ N < (D'.ops : Int) := by omega
                go_wp2_with fail
                refine hdn.mono ?_
                rintro e wx ⟨rfl, rfl⟩
                go_wp2_with fail
                refine hos.mono ?_
                rintro e wx ⟨rfl, rfl⟩
                go_wp2_with fail
                refine hdn.mono ?_
                rintro e wx ⟨rfl, rfl⟩
                go_wp2_with fail
                go_roundw
                case rel => exact HRel.out _ _ O7 K07
                case measure => simp [intOf]; omega
        · have hn0 : x.o.kind ≠ 0 := fun e => hk (.inl e)
          have hn1 : x.o.kind ≠ 1 := fun e => hk (.inr e)
          have hk0 : (x.o.kind != 0) = true := by simpa using hn0
          have hk1 : (x.o.kind != 1) = true := by simpa using hn1
          have hk2 : (x.o.kind == 0) = false := by simpa using hn0
          have hk3 : (x.o.kind == 1) = false := by simpa using hn1
          go_wp2_with (first | (refine wpList_load_elem rfl 36 _ rfl 4 ga oa (xs.map OpC.cells) k _ x.cells _ Hr.out (opc_each xs) (by rw [List.length_map]; exact hlt) Hxc.out rfl (by rfl) Try.underlying36 rfl size36 ?_) | (refine wpList_alloc_store rfl 36 rfl 9 _ rfl (by rfl) rfl rfl (by decide) (.agg zop.toArray) x.cells (by rw [opc_length]; exact info36) zop zop_cells (by rfl) (by rfl) (opv_one _ _ _ _ _) ?_; intro b w5 hb5 B5 K5; have c0 := B5.cell 0; simp only [OpC.cells, opv, List.getElem?_cons_zero, List.getElem?_cons_succ] at c0))
          go_roundw
          case rel => exact ⟨k + 1, D, by go_num, hlt, ⟨⟨F, O4.keep K5 (Dj.noth _)⟩, hok, by omega, by omega, K04.trans K5 (fun _ _ h => h)⟩, HA⟩
          case measure => simp [intOf]; omega
      · have hge : k = xs.length := by omega
        subst hge
        obtain ⟨⟨F, O4⟩, hok, hops, hrow, K04⟩ := HR
        obtain ⟨vl4, vr4, A4⟩ := O4.dev
        have hcr := crash_calls A4 hok (by omega) none 0 [] (Reads.nil _ _) (fun ad h => by cases h) (by decide) (by intro x hx; cases hx)
        rw [show ([] : List Int).length = 0 from rfl] at hcr
        clear HA hR3 hA3
        go_wp2_with fail
        refine hcr.mono ?_
        rintro e w5 ⟨rfl, H5, K5⟩
        have O5 : Own w.heap.size w5 F g (D.crash []) := ⟨H5, O4.low⟩
        have K05 := K04.own K5 O4.low
        have hok5 : (D.crash []).ok := crash_ok hok _
        clear hcr H5 K5 O4 A4 K04
        go_wp2_with fail
        refine (alive_calls w5).mono ?_
        rintro e w6 ⟨rfl, K6⟩
        have O6 := O5.keep K6 (Dj.noth _)
        have K06 : Keep Noth w w6 := K05.trans K6 (fun _ _ h => h)
        obtain ⟨vl6, vr6, A6⟩ := O6.dev
        have hdn := down_calls A6
        rw [show (D.crash []).down = false from rfl] at hdn
        have hpd := pending_calls A6
        rw [show (D.crash []).row.length = 0 from rfl, show ((0 : Nat) : Int) = 0 from rfl] at hpd
        have hfl := flush_ok A6 rfl hok5 (by show D.ops ≤ _; omega) (by show (0 : Nat) ≤ _; omega) (by show (-1 : Int) ≠ 0; omega)
        clear O5 K05 K6
        go_wp2_with fail
        refine hdn.mono ?_
        rintro e wx ⟨rfl, rfl⟩
        clear hdn
        go_wp2_with fail
        refine hpd.mono ?_
        rintro e wx ⟨rfl, rfl⟩
        clear hpd
        go_wp2_with fail
        refine hfl.mono ?_
        rintro e w7 ⟨rfl, H7, K7⟩
        have K07 := K06.own K7 O6.low
        clear hfl H7 K7 A6 O6
        go_wp2_with fail
        go_ret
        exact ⟨rfl, K07⟩
  · have hf0 := hfp.1
    clear hfp
    have hor : 0 < few xs ∨ (few xs = 0 ∧ 20 < count) ∨ (few xs = 0 ∧ ¬ 20 < count ∧ 1000 < N) := by omega
    clear hin
    obtain ⟨fx, hfx⟩ : ∃ fx, fx = few xs := ⟨_, rfl⟩
    rw [← hfx] at hfc hor
    clear hfx hf0 hS hsz
    rcases hor with h | ⟨h, h'⟩ | ⟨h, h', h''⟩
    · go_enter Try.func6, Try.ntmps6
      go_wp2_with fail
      refine hfc.mono ?_
      rintro e w1 ⟨rfl, K1⟩
      clear hfc
      go_wp2_with fail
      refine (alive_calls w1).mono ?_
      rintro e w2 ⟨rfl, K2⟩
      go_wp2_with fail
      go_ret
      exact ⟨rfl, K1.trans K2 (fun _ _ h => h)⟩
    · subst h
      go_enter Try.func6, Try.ntmps6
      go_wp2_with fail
      refine hfc.mono ?_
      rintro e w1 ⟨rfl, K1⟩
      clear hfc
      go_wp2_with fail
      refine (alive_calls w1).mono ?_
      rintro e w2 ⟨rfl, K2⟩
      go_wp2_with fail
      go_ret
      exact ⟨rfl, K1.trans K2 (fun _ _ h => h)⟩
    · subst h
      go_enter Try.func6, Try.ntmps6
      go_wp2_with fail
      refine hfc.mono ?_
      rintro e w1 ⟨rfl, K1⟩
      clear hfc
      go_wp2_with fail
      refine (alive_calls w1).mono ?_
      rintro e w2 ⟨rfl, K2⟩
      go_wp2_with fail
      go_ret
      exact ⟨rfl, K1.trans K2 (fun _ _ h => h)⟩
end Go.Proofs.Ytffcglfepobdjaa
