/- BlockFlushed: its walk. -/
import Derived.Test.YtffcglfepobdjaaD5
set_option linter.unusedVariables false
set_option linter.unusedSimpArgs false
set_option maxRecDepth 10000
set_option maxHeartbeats 1500000
namespace Go.Proofs.Ytffcglfepobdjaa
open Go.RowKit Go.Maps

structure Row2 (B : Nat) (w0 : World) (g k : Nat) (D : DS) (v m : Value) (wr : World) : Prop where
  own : ∃ F G b M, m = .map (some b) ∧ Own B wr F g D ∧ Bytes wr G v D.l.flatten ∧ Dj F G ∧ Lt G wr ∧ SMap wr b k M ∧ B ≤ b ∧ ¬ F b ∧ ¬ G b ∧ Since M D.row
  ok : D.ok
  calm : Calm D
  ops : D.ops ≤ k
  row : D.row.length ≤ k
  kept : Keep Noth w0 wr

theorem flushed_calls (w : World) (count : Int) (A : Option Addr) (c : Nat) (xs : List OpC) (hS : Script w A xs) (hsz : scriptSize xs + xs.length ≤ 1048576)
    (Bf : Option Addr) (cB : Nat) (fs : List Int) (hB : Reads w Bf (ints fs)) (hfs : ∀ z ∈ fs, -9223372036854775808 ≤ z ∧ z ≤ 9223372036854775807) (hfl : fs.length ≤ 1048576) :
    Calls Try.prog 4 #[.int .i64 count, .slice A xs.length c, .slice Bf fs.length cB] w (fun e w' => e = .returned (.bool true) ∧ Keep Noth w w') := by
  have hfp := few_pos xs
  have hfc := few_calls w A c xs hS hsz
  have hmm := @run_makeMap Try.prog
  by_cases hin : few xs = 0 ∧ count ≤ 20 ∧ fs.length ≤ 100
  · obtain ⟨h0, h20, h100⟩ := hin
    have h100' : (fs.length : Int) ≤ 100 := by omega
    have hlen := (hfp.2.1 h0).1
    have hlen' : (xs.length : Int) ≤ 80 := by omega
    rw [h0] at hfc
    have hcl := clampN_le h20
    have HS := hid hS
    have HBf := hid hB
    have Hfs := hid hfs
    clear hS hfp hsz hB hfs
    go_enter Try.func4, Try.ntmps4
    go_wp2_with fail
    refine hfc.mono ?_
    rintro e w1 ⟨rfl, K1⟩
    clear hfc
    go_wp2_with fail
    refine (new_calls w1 count).mono ?_
    rintro e w2 ⟨g, rfl, H2, K2⟩
    obtain ⟨n, hn⟩ : ∃ n, n = clampN count := ⟨_, rfl⟩
    rw [← hn] at H2 hcl
    have O2 : Own w.heap.size w2 (Fresh w1 w2) g (DS.new n) := ⟨H2, fun q hq => Nat.le_trans K1.size hq.1⟩
    have K02 : Keep Noth w w2 := K1.trans K2 (fun _ _ h => h)
    obtain ⟨vl, vr, A2⟩ := H2
    have hok := new_ok n hcl.1 (by omega)
    have him := image_calls A2 hok (by show (0 : Nat) ≤ _; omega)
    rw [show (DS.new n).image = (DS.new n).l.flatten from rfl] at him
    clear hn
    go_wp2_with fail
    refine him.mono ?_
    rintro e w3 ⟨v3, rfl, I3, K3⟩
    clear him
    have k3 := (Keep.refl Noth w3).alloc (.map #[] 0)
    have hR3 : Row2 w.heap.size w g 0 (DS.new n) v3 (.map (some w3.heap.size)) (w3.alloc (.map #[] 0)) :=
      ⟨⟨Fresh w1 w2, Fresh w2 w3, w3.heap.size, .map [], rfl, (O2.keep K3 (Dj.noth _)).keep k3 (Dj.noth _), I3.keep k3 (Dj.noth _), fun q h1 h2 => by have h3 := h1.2; have h4 := h2.1; omega, fun q h => Nat.lt_of_lt_of_le h.2 k3.size,
        World.ownsMap_made _ _ _ _, Nat.le_trans K02.size K3.size, fun h => by have h3 := h.2; have h4 := K3.size; omega, fun h => by have h3 := h.2; omega, since_nil _⟩,
        hok, calm_new n, Nat.le_refl _, Nat.le_refl _, (K02.trans K3 (fun _ _ h => h)).alloc _⟩
    clear K3 I3 A2 O2 K02 K2 K1 hok k3
    go_wp2_with fail
    go_loopw [8, 9, 39] (fun v m i wr => ∃ (k : Nat) (D : DS), i = .int .i64 k ∧ k ≤ xs.length ∧ Row2 w.heap.size w g k D v m wr) (fun _ _ i _ => xs.length - (intOf i).toNat)
    case atStart => exact ⟨0, _, rfl, Nat.zero_le _, hR3⟩
    case round =>
      obtain ⟨k, D, rfl, hkl, HR⟩ := hrel
      by_cases hlt : k < xs.length
      · have hlt' : (k : Int) < xs.length := by omega
        obtain ⟨⟨F, G, bm, M, rfl, O4, I4, hdj, hGl, M4, hbm, hbF, hbG, hsince⟩, hok, hcalm, hops, hrow, K04⟩ := HR
        have HS4 := HS.out.old K04 (fun _ h => h.elim)
        obtain ⟨ga, oa, hAo, hrange, hga⟩ := HS4.cells.where (script_pos xs (by omega))
        subst hAo
        obtain ⟨x, hx⟩ : ∃ x, x = xs[k] := ⟨_, rfl⟩
        have hxm : x ∈ xs := by rw [hx]; exact List.getElem_mem hlt
        have hxc : (xs.map OpC.cells)[k]'(by rw [List.length_map]; exact hlt) = x.cells := by rw [List.getElem_map, ← hx]
        have hoo := HS4.ok x hxm
        have hat := HS.out.each x hxm
        have Hr := hid hrange
        have Hxc := hid hxc
        have Hat := hid hat
        have Hoo := hid hoo
        have HAF := hid (HS.out.below (F := F) O4.low hxm)
        have hbml := World.ownsMap.lt M4
        clear hrange hxc hx HS4 hoo hat hR3
        by_cases hk : x.o.kind = 0 ∨ x.o.kind = 1
        · have hops' := (doOp_grow D x.o)
          have hdoes : ∀ wx, Keep Noth w wx → Own w.heap.size wx F g D → Calls Try.prog 21 #[.pointer (some ⟨g, 0, none⟩), .agg x.cells.toArray] wx (fun e w' => e = .returned (.tuple #[.pointer (some ⟨g, 0, none⟩), .int .i64 (D.doOp x.o).2]) ∧ DevIs w' (grow F wx w') g (D.doOp x.o).1 ∧ Keep F wx w') := fun wx Kx Ox =>
            does_calls Ox.dev hok (by omega) (by omega) x.o Hoo.out (by omega) x.Ab x.Af x.cb x.cf ⟨Hat.out.b.old Kx (fun _ h => h.elim), Hat.out.forms.old Kx (fun _ h => h.elim)⟩ HAF.out
          have hok' := doOp_ok hok x.o Hoo.out
          have hl0 : x.o.kind = 0 → D.doOp x.o = D.write x.o.k x.o.b := fun h => by unfold DS.doOp; rw [if_pos h]
          have hl1 : x.o.kind = 1 → D.doOp x.o = D.flush := fun h => by unfold DS.doOp; rw [if_neg (by omega), if_pos h]
          have hwr := calm_write hcalm x.o.k x.o.b
          have hfl' := calm_flush hcalm
          have Hwr : Hid (x.o.kind = 0 → (D.doOp x.o = (D, 101)) ∨ (0 ≤ x.o.k ∧ x.o.k < D.l.length ∧ D.doOp x.o = ((D.put x.o.k.toNat x.o.b).tick, 0))) := hid (fun h => by rw [hl0 h]; exact hwr)
          have Hfl : Hid (x.o.kind = 1 → D.doOp x.o = (D.flushed, 0)) := hid (fun h => by rw [hl1 h]; exact hfl'.1)
          have Hcf := hid hfl'.2
          obtain ⟨R, hR⟩ : ∃ R, R = D.doOp x.o := ⟨_, rfl⟩
          rw [← hR] at hops' hdoes hok' Hwr Hfl
          have Hdoes := hid hdoes
          obtain ⟨kd, hkd⟩ : ∃ kd, kd = x.o.kind := ⟨_, rfl⟩
          have hxcells : x.cells = [.int .i64 kd, .int .i64 x.o.k, .slice x.Ab x.o.b.length x.cb, .slice x.Af x.o.forms.length x.cf] := by rw [hkd]; rfl
          rw [← hkd] at hk Hwr Hfl
          have HRel : Hid (∀ wr' v' m', (∃ F G b M, m' = .map (some b) ∧ Own w.heap.size wr' F g R.1 ∧ Bytes wr' G v' R.1.l.flatten ∧ Dj F G ∧ Lt G wr' ∧ SMap wr' b (k + 1) M ∧ w.heap.size ≤ b ∧ ¬ F b ∧ ¬ G b ∧ Since M R.1.row) → Calm R.1 → Keep Noth w wr' →
              ∃ (k' : Nat) (D' : DS), Value.int .i64 ((k : Int) + 1) = .int .i64 k' ∧ k' ≤ xs.length ∧ Row2 w.heap.size w g k' D' v' m' wr') := hid (fun wr' v' m' h1 h2 h3 => ⟨k + 1, R.1, by go_num, hlt, ⟨h1, hok', h2, by omega, by omega, h3⟩⟩)
          have Hopsb := hid (show R.1.row.length ≤ 1099511627776 by omega)
          have Hok' := hid hok'
          have HK04 := hid K04
          have Hkb := hid Hoo.out.k
          have Hcalm := hid hcalm
          have Hsince := hid hsince
          clear hdoes hkd hR hops' hops hrow hok hok' K04 hkl hl0 hl1 hwr hfl' hcalm hsince
          rcases hk with rfl | rfl
          · have hl := Hwr.out rfl
            go_wp2_with (first | (refine wpList_load_elem rfl 36 _ rfl 4 ga oa (xs.map OpC.cells) k _ x.cells _ Hr.out (opc_each xs) (by rw [List.length_map]; exact hlt) Hxc.out rfl (by rfl) Try.underlying36 rfl size36 ?_) | (refine wpList_alloc_store rfl 36 rfl 11 _ rfl (by rfl) rfl rfl (by decide) (.agg zop.toArray) x.cells (by rw [opc_length]; exact info36) zop zop_cells (by rfl) (by rfl) (opv_one _ _ _ _ _) ?_; intro b w5 hb5 B5 K5; have c0 := B5.cell 0; have c1 := B5.cell 1; rw [hxcells] at c0 c1; clear hxcells; simp only [List.getElem?_cons_zero, List.getElem?_cons_succ] at c0 c1) | (refine wpList_load_blk rfl 36 _ rfl b 0 x.cells x.cells 36 _ (by rfl) B5 (fun j v h => by simpa using h) Try.underlying36 rfl (by rw [opc_length]; exact info36) ?_))
            have K05 : Keep Noth w w5 := HK04.out.trans K5 (fun _ _ h => h)
            have O5 := O4.keep K5 (Dj.noth _)
            have hbF5 : ¬ F b := fun h => by have := O4.dev.lt b h; omega
            have I5 := I4.keep K5 (Dj.noth _)
            have M5 := M4.keep K5 id
            have hGl5 : Lt G w5 := fun q h => Nat.lt_of_lt_of_le (hGl q h) K5.size
            have hs5 := K5.size
            have hbb : b ≠ bm := by omega
            clear O4 I4 hGl M4
            refine (Hdoes.out w5 K05 O5).mono ?_
            rintro e w6 ⟨rfl, H6, K6⟩
            have O6 := O5.next K05.size H6
            have K06 := K05.own K6 O5.low
            have I6 := I5.keep K6 hdj.symm
            have M6 := M5.keep K6 hbF
            have hdj6 : Dj (grow F w5 w6) G := fun q h1 h2 => h1.elim (fun h => hdj q h h2) (fun h => by have h3 := hGl5 q h2; have h4 := h.1; omega)
            have hGl6 : Lt G w6 := fun q h => Nat.lt_of_lt_of_le (hGl5 q h) K6.size
            have hbF6 : ¬ grow F w5 w6 bm := fun h => h.elim hbF (fun h => by have h4 := h.1; omega)
            have c60 : w6.cell? ⟨b, 0, none⟩ = some (.int .i64 0) := K6.cellAt hbF5 c0
            have c61 : w6.cell? ⟨b, 1, none⟩ = some (.int .i64 x.o.k) := K6.cellAt hbF5 c1
            clear H6 K6 O5 I5 hGl5 hdj B5 c0 c1 Hdoes M5
            rcases hl with hl | ⟨hk0, hkl, hl⟩
            · subst hl
              go_wp2_with fail
              go_roundw
              case rel => exact HRel.out w6 _ (.map (some bm)) ⟨_, G, bm, M, rfl, O6, I6, hdj6, hGl6, M6.mono (Nat.le_succ _), hbm, hbF6, hbG, Hsince.out⟩ Hcalm.out K06
              case measure => simp [intOf]; omega
            · subst hl
              have hkb1 := Hkb.out.1
              have hkb2 := Hkb.out.2
              go_wp2_with (at_mapUpdate; refine wpList_mapUpdate_own _ rfl _ _ _ 44 rfl 3 3 law3 Try.underlying44 _ bm k _ rfl M6 (by unfold maxLen; omega) _ _ _ rfl rfl (key3 hkb1 hkb2) _ [] (plainElem_int Try.underlying3 (show (Lit.int .i64 1).wf = true by decide)) ?_; intro w7 M7 hg7; have K7 : Keep (Only bm) w6 w7 := (Keep.refl _ _).grown hg7 (fun q h _ => by injection h with h; exact h.symm); have c7 : w7.cell? ⟨b, 0, none⟩ = some (.int .i64 0) := K7.cellAt hbb c60)
              go_roundw
              case rel =>
                refine HRel.out w7 _ (.map (some bm)) ⟨_, G, bm, _, rfl, O6.keep K7 (fun q h1 h2 => by unfold Only at h2; subst h2; exact hbF6 h1), I6.keep K7 (fun q h1 h2 => by unfold Only at h2; subst h2; exact hbG h1), hdj6, fun q h => Nat.lt_of_lt_of_le (hGl6 q h) K7.size, M7, hbm, hbF6, hbG, ?_⟩ (calm_tick (calm_put Hcalm.out _ _)) (K06.own K7 (fun q h => by unfold Only at h; subst h; exact hbm))
                have h1 := since_put Hsince.out (World.ownsMap.isMap M6) x.o.k.toNat (fillz x.o.b)
                rw [show ((x.o.k.toNat : Nat) : Int) = x.o.k by omega] at h1
                exact h1
              case measure => simp [intOf]; omega
          · have hl := Hfl.out rfl
            go_wp2_with (first | (refine wpList_load_elem rfl 36 _ rfl 4 ga oa (xs.map OpC.cells) k _ x.cells _ Hr.out (opc_each xs) (by rw [List.length_map]; exact hlt) Hxc.out rfl (by rfl) Try.underlying36 rfl size36 ?_) | (refine wpList_alloc_store rfl 36 rfl 11 _ rfl (by rfl) rfl rfl (by decide) (.agg zop.toArray) x.cells (by rw [opc_length]; exact info36) zop zop_cells (by rfl) (by rfl) (opv_one _ _ _ _ _) ?_; intro b w5 hb5 B5 K5; have c0 := B5.cell 0; have c1 := B5.cell 1; rw [hxcells] at c0 c1; clear hxcells; simp only [List.getElem?_cons_zero, List.getElem?_cons_succ] at c0 c1) | (refine wpList_load_blk rfl 36 _ rfl b 0 x.cells x.cells 36 _ (by rfl) B5 (fun j v h => by simpa using h) Try.underlying36 rfl (by rw [opc_length]; exact info36) ?_))
            have K05 : Keep Noth w w5 := HK04.out.trans K5 (fun _ _ h => h)
            have O5 := O4.keep K5 (Dj.noth _)
            have hbF5 : ¬ F b := fun h => by have := O4.dev.lt b h; omega
            clear O4 I4 hGl M4
            refine (Hdoes.out w5 K05 O5).mono ?_
            rintro e w6 ⟨rfl, H6, K6⟩
            have O6 := O5.next K05.size H6
            have K06 := K05.own K6 O5.low
            have c60 : w6.cell? ⟨b, 0, none⟩ = some (.int .i64 1) := K6.cellAt hbF5 c0
            have c61 : w6.cell? ⟨b, 1, none⟩ = some (.int .i64 x.o.k) := K6.cellAt hbF5 c1
            subst hl
            clear H6 K6 O5 hdj B5 c0 c1 Hdoes
            obtain ⟨vl6, vr6, A6⟩ := O6.dev
            have him := image_calls A6 Hok'.out Hopsb.out
            rw [show D.flushed.image = D.flushed.l.flatten from rfl] at him
            go_wp2_with fail
            refine him.mono ?_
            rintro e w7 ⟨v7, rfl, I7, K7⟩
            have k8 := (Keep.refl Noth w7).alloc (.map #[] 0)
            have O8 := (O6.keep K7 (Dj.noth _)).keep k8 (Dj.noth _)
            have hlt6 := O6.dev.lt
            have hs7 := K7.size
            have HRel' := HRel.out (w7.alloc (.map #[] 0)) v7 (.map (some w7.heap.size)) ⟨_, _, w7.heap.size, .map [], rfl, O8, I7.keep k8 (Dj.noth _), fun q h1 h2 => by have h3 := hlt6 q h1; have h4 := h2.1; omega, fun q h => Nat.lt_of_lt_of_le h.2 k8.size,
              (World.ownsMap_made w7 Try.prog 3 _).mono (Nat.zero_le _), Nat.le_trans K06.size K7.size, fun h => by have h3 := hlt6 _ h; omega, fun h => by have h3 := h.2; omega, since_nil _⟩ Hcf.out ((K06.trans K7 (fun _ _ h => h)).alloc _)
            clear him A6 O6 I7 K7 K06 O8 k8
            go_wp2_with fail
            go_roundw
            case rel => exact HRel'
            case measure => simp [intOf]; omega
        · have hn0 : x.o.kind ≠ 0 := fun e => hk (.inl e)
          have hn1 : x.o.kind ≠ 1 := fun e => hk (.inr e)
          have hk0 : (x.o.kind != 0) = true := by simpa using hn0
          have hk1 : (x.o.kind != 1) = true := by simpa using hn1
          have hk2 : (x.o.kind == 0) = false := by simpa using hn0
          have hk3 : (x.o.kind == 1) = false := by simpa using hn1
          go_wp2_with (first | (refine wpList_load_elem rfl 36 _ rfl 4 ga oa (xs.map OpC.cells) k _ x.cells _ Hr.out (opc_each xs) (by rw [List.length_map]; exact hlt) Hxc.out rfl (by rfl) Try.underlying36 rfl size36 ?_) | (refine wpList_alloc_store rfl 36 rfl 11 _ rfl (by rfl) rfl rfl (by decide) (.agg zop.toArray) x.cells (by rw [opc_length]; exact info36) zop zop_cells (by rfl) (by rfl) (opv_one _ _ _ _ _) ?_; intro b w5 hb5 B5 K5; have c0 := B5.cell 0; simp only [OpC.cells, opv, List.getElem?_cons_zero, List.getElem?_cons_succ] at c0))
          go_roundw
          case rel => exact ⟨k + 1, D, by go_num, hlt, ⟨⟨F, G, bm, M, rfl, O4.keep K5 (Dj.noth _), I4.keep K5 (Dj.noth _), hdj, fun q h => Nat.lt_of_lt_of_le (hGl q h) K5.size, (M4.keep K5 id).mono (Nat.le_succ _), hbm, hbF, hbG, hsince⟩, hok, hcalm, by omega, by omega, K04.trans K5 (fun _ _ h => h)⟩⟩
          case measure => simp [intOf]; omega
      · have hge : k = xs.length := by omega
        subst hge
        obtain ⟨⟨F, G, bm, M, rfl, O4, I4, hdj, hGl, M4, hbm, hbF, hbG, hsince⟩, hok, hcalm, hops, hrow, K04⟩ := HR
        clear hR3
        obtain ⟨fl, hfl0⟩ : ∃ fl, fl = D.l.flatten := ⟨_, rfl⟩
        rw [← hfl0] at I4
        have hflen : fl.length = D.l.length * 64 := by rw [hfl0]; exact flatten_length64 _ hok.l64
        have hblock : ∀ i, i < D.l.length → (fl.drop (i * 64)).take 64 = D.l.getD i [] := fun i hi => by rw [hfl0]; exact flatten_block _ _ hok.l64 hi
        have Hblock := hid hblock
        clear hfl0 hblock
        obtain ⟨Aw, cw, hv⟩ := I4.val
        rw [u1_length] at hv
        subst hv
        have hcw : fl.length ≤ cw := by
          rcases I4.own.2 with ⟨h1, h2⟩ | ⟨q, cap, cur, h1, _, _, h2, h3, _⟩
          · simp only [Value.slice.injEq] at h1
            omega
          · simp only [Value.slice.injEq] at h1
            have := h1.2.2
            rw [u1_length] at h2
            omega
        have hlow := O4.low
        have hRf : Reads _ Bf (ints fs) := HBf.out.old K04 (fun _ h => h.elim)
        obtain ⟨vl4, vr4, A4⟩ := O4.dev
        have hcr := crash_calls A4 hok (by omega) Bf cB fs hRf (fun ad h hne hq => by
          obtain ⟨gq, oq, e, -, hlt⟩ := HBf.out.where (by simp only [ints, List.length_map]; exact List.length_pos_iff.2 hne)
          rw [h] at e
          injection e with e
          subst e
          have := hlow _ hq
          simp only at this
          omega) (by omega) Hfs.out
        go_wp2_with fail
        refine hcr.mono ?_
        rintro e w5 ⟨rfl, H5, K5⟩
        have O5 : Own w.heap.size w5 F g (D.crash fs) := ⟨H5, O4.low⟩
        have I5 := I4.keep K5 hdj.symm
        have M5 := M4.keep K5 hbF
        have K05 := K04.own K5 hlow
        have hok5 := crash_ok hok fs
        have hn5 : (D.crash fs).l.length = D.l.length := crashK_length fs D.l D.row D.row.length
        have Hat : Hid (∀ i, i < D.l.length → ∀ cc : Int, M.atKey (.int .i64 (i : Int)) (i64l 0) = i64l cc → cc = 0 → (D.crash fs).at i = (fl.drop (i * 64)).take 64) := hid (fun i hi cc h1 h2 => by
          rw [crash_at_else fs (since_not hsince h1 h2), Hblock.out i hi])
        obtain ⟨DC, hDC⟩ : ∃ DC, DC = D.crash fs := ⟨_, rfl⟩
        have hdn : DC.down = false := by rw [hDC]; rfl
        have hrw : DC.row.length ≤ 1099511627776 := by rw [hDC]; show (0 : Nat) ≤ _; omega
        rw [← hDC] at O5 hok5 hn5 Hat
        obtain ⟨n5, hn5'⟩ : ∃ n5, n5 = D.l.length := ⟨_, rfl⟩
        rw [← hn5'] at hn5 hflen Hat
        have hmost := hok5.most
        have hkeys : (n5 : Int) ≤ 4096 := by omega
        clear hDC hn5' hcr H5 K5 A4 hRf O4 I4 M4 hdj hGl hbF hbG hsince hcalm hok hops hrow K04 Hblock hlow
        obtain ⟨vl5, vr5, A5⟩ := O5.dev
        have hct := count_calls A5
        rw [hn5] at hct
        have hlow := O5.low
        clear A5
        go_wp2_with fail
        refine hct.mono ?_
        rintro e wx ⟨rfl, rfl⟩
        clear hct
        go_wp2_with fail
        go_loopw [83] (fun i wr => ∃ k : Nat, i = .int .i64 k ∧ k ≤ n5 ∧ Keep Noth w5 wr) (fun i _ => n5 - (intOf i).toNat)
        case atStart => exact ⟨0, rfl, Nat.zero_le _, Keep.refl _ _⟩
        case round =>
          obtain ⟨k, rfl, hkn, K6⟩ := hrel
          by_cases hlt2 : k < n5
          · have hlt2' : (k : Int) < n5 := by omega
            have O6 := O5.keep K6 (Dj.noth _)
            obtain ⟨vl6, vr6, A6⟩ := O6.dev
            have hrd := read_ok A6 hdn hok5 hrw k (by omega)
            clear O6
            go_wp2_with fail
            refine hrd.mono ?_
            rintro e w7 ⟨bb, rfl, hbb, B7, K7⟩
            have K57 := K6.trans K7 (fun _ _ h => h)
            have M7 := M5.keep K57 id
            have I7 := I5.keep K57 (Dj.noth _)
            obtain ⟨cc, hlook, hatc, -⟩ := World.ownsMap.lookup_int M7 law3 Try.underlying44 Try.underlying3 (zero3 _) (key3 (show -9223372036854775808 ≤ (k : Int) by omega) (by omega))
            have HatC := hid hatc
            clear hrd A6 hbb K7 hatc
            by_cases hc0 : cc = 0
            · have hateq := Hat.out k hlt2 cc HatC.out hc0
              subst hc0
              have hl64 : ((fl.drop (k * 64)).take 64).length = 64 := by rw [List.length_take, List.length_drop, hflen]; omega
              have hRd : Reads w7 (Option.map (fun x => x.add (k * 64)) Aw) (bv ((fl.drop (k * 64)).take 64)) := by
                have h1 := ((Bytes.same_as I7).drop cw (k * 64) (by rw [bv_length]; exact hcw)).take 64
                rw [if_neg (by omega)] at h1
                rw [show (List.take 64 (List.drop (k * 64) (bv fl))) = bv ((fl.drop (k * 64)).take 64) by simp [bv, List.map_drop, List.map_take]] at h1
                exact h1
              have heq := equal_calls w7 (some ⟨bb, 0, none⟩) (Option.map (fun x => x.add (k * 64)) Aw) 64 ((k + 1) * 64 - k * 64) 64 (cw - k * 64) (DC.at k) ((fl.drop (k * 64)).take 64) (by rw [hateq]; exact hl64.symm) (by rw [hl64]; omega) (Reads.of_range B7.rangeAll) hRd
              rw [hateq, show (((fl.drop (k * 64)).take 64) == ((fl.drop (k * 64)).take 64)) = true by simp] at heq
              clear hl64 hRd hateq I7
              go_wp2_with fail
              refine heq.mono ?_
              rintro e wx ⟨rfl, rfl⟩
              clear heq
              go_wp2_with fail
              go_roundw
              case rel => exact ⟨k + 1, by go_num, hlt2, K57⟩
              case measure => simp [intOf]; omega
            · have hcb : (cc == 0) = false := by simpa using hc0
              go_wp2_with fail
              go_roundw
              case rel => exact ⟨k + 1, by go_num, hlt2, K57⟩
              case measure => simp [intOf]; omega
          · have hge2 : k = n5 := by omega
            subst hge2
            go_wp2_with fail
            refine (alive_calls _).mono ?_
            rintro e w8 ⟨rfl, K8⟩
            go_wp2_with fail
            go_ret
            exact ⟨rfl, (K05.trans K6 (fun _ _ h => h)).trans K8 (fun _ _ h => h)⟩
  · have hf0 := hfp.1
    clear hfp
    have hor : 0 < few xs ∨ (few xs = 0 ∧ 20 < count) ∨ (few xs = 0 ∧ ¬ 20 < count ∧ (100 : Int) < fs.length) := by omega
    clear hin
    obtain ⟨fx, hfx⟩ : ∃ fx, fx = few xs := ⟨_, rfl⟩
    rw [← hfx] at hfc hor
    have hfl' : (fs.length : Int) ≤ 1048576 := by omega
    clear hfx hf0 hS hsz hB hfs
    rcases hor with h | ⟨h, h'⟩ | ⟨h, h', h''⟩
    · go_enter Try.func4, Try.ntmps4
      go_wp2_with fail
      refine hfc.mono ?_
      rintro e w1 ⟨rfl, K1⟩
      clear hfc
      go_wp2_with fail
      refine (alive_calls w1).mono ?_
      rintro e w2 ⟨rfl, K2⟩
      go_wp2_with fail
      go_ret
      exact ⟨rfl, K1.trans K2 (fun _ _ h => h)⟩
    · subst h
      go_enter Try.func4, Try.ntmps4
      go_wp2_with fail
      refine hfc.mono ?_
      rintro e w1 ⟨rfl, K1⟩
      clear hfc
      go_wp2_with fail
      refine (alive_calls w1).mono ?_
      rintro e w2 ⟨rfl, K2⟩
      go_wp2_with fail
      go_ret
      exact ⟨rfl, K1.trans K2 (fun _ _ h => h)⟩
    · subst h
      go_enter Try.func4, Try.ntmps4
      go_wp2_with fail
      refine hfc.mono ?_
      rintro e w1 ⟨rfl, K1⟩
      clear hfc
      go_wp2_with fail
      refine (alive_calls w1).mono ?_
      rintro e w2 ⟨rfl, K2⟩
      go_wp2_with fail
      go_ret
      exact ⟨rfl, K1.trans K2 (fun _ _ h => h)⟩
end Go.Proofs.Ytffcglfepobdjaa
