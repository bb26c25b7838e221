/- BlockHalves: the walk. -/
import Derived.Test.YtffcglfepobdjaaJ2
set_option linter.unusedVariables false
set_option linter.unusedSimpArgs false
set_option maxRecDepth 10000
set_option maxHeartbeats 2000000
namespace Go.Proofs.Ytffcglfepobdjaa
open Go.RowKit

theorem Rows.half {w : World} {F : Nat → Prop} {g n c : Nat} {l : List Bk} (H : Rows w F 52 64 (.slice (some ⟨g, 0, none⟩) n c) (l.map bv)) (k : Nat) (hk : k < l.length) (o : Nat) : Reads w (some ⟨g, k * 64 + o, none⟩) (bv (Go.Proofs.Ytffcglfepobdjaa.half (l.getD k []) o)) := by
  obtain ⟨g', cap', hv, _, hr⟩ := H.at (by rw [List.length_map]; omega)
  simp only [Value.slice.injEq, Option.some.injEq, Addr.mk.injEq, and_true, true_and] at hv
  obtain ⟨rfl, _, rfl⟩ := hv
  have h1 := hr k (by rw [List.length_map]; exact hk)
  rw [List.getElem_map] at h1
  refine Reads.of_range fun j v hv => ?_
  rw [Nat.add_assoc]
  refine h1 (o + j) v ?_
  have e : l.getD k [] = l[k] := by simp [List.getD_eq_getElem?_getD, hk]
  rw [e] at hv
  unfold Go.Proofs.Ytffcglfepobdjaa.half bv at hv
  unfold bv
  rw [List.map_take, List.map_drop, List.getElem?_take] at hv
  split at hv
  · rwa [List.getElem?_drop] at hv
  · cases hv
theorem BlockIs.half {w : World} {b : Nat} {p : Nat × Bk} (B : BlockIs w b (wv p) 54) (o : Nat) : Reads w (some ⟨b, 1 + o, none⟩) (bv (Go.Proofs.Ytffcglfepobdjaa.half p.2 o)) := by
  refine Reads.of_range fun j v hv => ?_
  rw [B.cell, show 1 + o + j = (o + j) + 1 by omega, wv, List.getElem?_cons_succ]
  unfold Go.Proofs.Ytffcglfepobdjaa.half bv at hv
  unfold bv
  rw [List.map_take, List.map_drop, List.getElem?_take] at hv
  split at hv
  · rwa [List.getElem?_drop] at hv
  · cases hv

theorem halves_calls (w : World) (count : Int) (A : Option Addr) (c : Nat) (xs : List OpC) (hS : Script w A xs) (hsz : scriptSize xs + xs.length ≤ 1048576)
    (Bf : Option Addr) (cB : Nat) (fs : List Int) (hB : Reads w Bf (ints fs)) (hfs : ∀ z ∈ fs, -9223372036854775808 ≤ z ∧ z ≤ 9223372036854775807) (hfl : fs.length ≤ 1048576) :
    Calls Try.prog 5 #[.int .i64 count, .slice A xs.length c, .slice Bf fs.length cB] w (fun e w' => e = .returned (.bool true) ∧ Keep Noth w w') := by
  have hfp := few_pos xs
  have hfc := few_calls w A c xs hS hsz
  by_cases hin : few xs = 0 ∧ count ≤ 12 ∧ fs.length ≤ 100
  · obtain ⟨h0, h20, hf100⟩ := hin
    have hlen := (hfp.2.1 h0).1
    have hlen' : (xs.length : Int) ≤ 80 := by omega
    have hf100' : (fs.length : Int) ≤ 100 := by omega
    have HBf := hid hB
    have Hfs := hid hfs
    rw [h0] at hfc
    have hcl := clampN_le (show count ≤ 20 by omega)
    have HS := hid hS
    clear hS hfp hsz hB hfs
    go_enter Try.func5, Try.ntmps5
    go_wp2_with fail
    refine hfc.mono ?_
    rintro e w1 ⟨rfl, K1⟩
    clear hfc
    go_wp2_with fail
    refine (new_calls w1 count).mono ?_
    rintro e w2 ⟨g, rfl, H2, K2⟩
    go_wp2_with fail
    refine (st_new w2 count).mono ?_
    rintro e w3 ⟨vl, rfl, S3, K3⟩
    obtain ⟨n, hn⟩ : ∃ n, n = clampN count := ⟨_, rfl⟩
    rw [← hn] at H2 hcl S3
    rw [← hn]
    obtain ⟨D0, hD0⟩ : ∃ D, D = DS.new n := ⟨_, rfl⟩
    have hok0 : D0.ok := by rw [hD0]; exact new_ok n (by omega) (by omega)
    have hr0 : D0.row.length ≤ 0 := by rw [hD0]; exact Nat.le_refl _
    have ho0 : D0.ops ≤ 0 := by rw [hD0]; exact Nat.le_refl _
    rw [← hD0] at H2 S3
    rw [← hD0]
    obtain ⟨sv, hsv⟩ : ∃ sv, sv = stv vl (.slice none 0 0) D0 := ⟨_, rfl⟩
    have Hsl : Hid (sv.length = 5) := by show _ = _; rw [hsv]; rfl
    have Hs1 : Hid (∀ u ∈ sv, u.oneCell' = true) := by show ∀ u ∈ sv, _; rw [hsv]; exact stv_one D0 S3.l.one_val.1 rfl
    rw [← hsv]
    have Hsv := hid hsv
    clear hsv hn hD0
    go_wp2_with (first
      | (guard_target = wpList _ _ _ (Oper.mk _ (Op.alloc _) _ _ _ _ :: _) _ _; refine wpList_alloc_v rfl 30 rfl zst info30 stz zst_cells ?_; intro b4 w4 hb4 B4 K4)
      | (guard_target = wpList _ _ _ (Oper.mk _ (Op.store _ _ _) _ _ _ _ :: _) _ _; refine wpList_store_whole rfl 30 _ _ rfl b4 stz sv 30 (by rfl) (by rfl) B4 (by rw [Hsl.out]; rfl) (by rw [Hsl.out]; exact info30) Hs1.out ?_; intro w5 B5 K5))
    have hlow2 : w.heap.size ≤ w1.heap.size := K1.size
    have hs23 : w2.heap.size ≤ w3.heap.size := K3.size
    have hs12 : w1.heap.size ≤ w2.heap.size := K2.size
    have K35 : Keep Noth w3 w5 := K4.own K5 (fun q e => by unfold Only at e; subst e; exact hb4)
    have H5 := (H2.keep K3 (Dj.noth _)).keep K35 (Dj.noth _)
    have S5 := S3.keep K35 (Dj.noth _)
    have K05 : Keep Noth w w5 := ((K1.trans K2 (fun _ _ h => h)).trans K3 (fun _ _ h => h)).trans K35 (fun _ _ h => h)
    have hR6 : RowS w.heap.size w b4 0 g D0 w5 := ⟨⟨_, _, vl, _, ⟨H5, fun q h => by have := h.1; omega⟩, S5, fun q a c => by have := a.2; have := c.1; omega, fun q c => by have := c.2; have := K35.size; omega, by rw [← Hsv.out]; exact B5, fun h => by have := h.2; omega⟩, by omega, hok0, ho0, hr0, K05⟩
    clear H5 S5 H2 S3 K1 K2 K3 K4 K5 K35 K05 B4 B5 hok0 hr0 ho0 hs12 hs23 hlow2
    go_loopw [40] (fun i wr => ∃ (k : Nat) (D : DS), i = .int .i64 k ∧ k ≤ xs.length ∧ RowS w.heap.size w b4 k g D wr) (fun i _ => xs.length - (intOf i).toNat)
    case atStart => exact ⟨0, D0, rfl, Nat.zero_le _, hR6⟩
    case round =>
      obtain ⟨k, D, rfl, hkl, HR⟩ := hrel
      clear hR6
      by_cases hlt : k < xs.length
      · have hlt' : (k : Int) < xs.length := by omega
        obtain ⟨⟨F, G, vl, vr, O4, S4, hdj, hGl, BS, hbF⟩, hlow, hok, hops, hrow, K04⟩ := HR
        have HS4 := HS.out.old K04 (fun _ h => h.elim)
        obtain ⟨ga, oa, hAo, hrange, hga⟩ := HS4.cells.where (script_pos xs (by omega))
        subst hAo
        obtain ⟨x, hx⟩ : ∃ x, x = xs[k] := ⟨_, rfl⟩
        have hxm : x ∈ xs := by rw [hx]; exact List.getElem_mem hlt
        have hxc : (xs.map OpC.cells)[k]'(by rw [List.length_map]; exact hlt) = x.cells := by rw [List.getElem_map, ← hx]
        have hoo := HS4.ok x hxm
        have hat := HS.out.each x hxm
        have hoy := low3_ok hoo
        have hgr := doOp_grow D (low3 x).o
        have hok' := doOp_ok hok (low3 x).o hoy
        have hlow0 := O4.low
        have hkd := hoo.kind
        have hkd1 := hkd.1
        have hkd2 := hkd.2
        have hnf : ∀ ad, (low3 x).Af = some ad → (low3 x).o.forms ≠ [] → ¬ F ad.block := fun ad h => by cases h
        have hdo : ∀ wx, Keep Noth w wx ∨ Keep F w wx → (Reads wx x.Ab (bv x.o.b)) → StAt wx G vl vr D → Calls Try.prog 20 #[.agg (stv vl vr D).toArray, .agg (low3 x).cells.toArray] wx (DoPost wx G (D.doOp (low3 x).o)) := fun wx _ Rx Sx =>
          do_calls Sx hok (by omega) (by omega) (low3 x).o hoy x.Ab none x.cb 0 ⟨Rx, Reads.nil _ _⟩
        have hdoes : ∀ wx, (Reads wx x.Ab (bv x.o.b)) → DevIs wx F g D → Calls Try.prog 21 #[.pointer (some ⟨g, 0, none⟩), .agg (low3 x).cells.toArray] wx (fun e w' => e = .returned (.tuple #[.pointer (some ⟨g, 0, none⟩), .int .i64 (D.doOp (low3 x).o).2]) ∧ DevIs w' (grow F wx w') g (D.doOp (low3 x).o).1 ∧ Keep F wx w') := fun wx Rx Hx =>
          does_calls Hx hok (by omega) (by omega) (low3 x).o hoy (low3_small x) x.Ab none x.cb 0 ⟨Rx, Reads.nil _ _⟩ hnf
        have HRb : Hid (∀ wx, Keep F wr wx → Reads wx x.Ab (bv x.o.b)) := hid (fun wx Kx => hat.b.old (K04.own Kx O4.low) (fun _ h => h.elim))
        have hlc : (low3 x).cells = [.int .i64 (x.o.kind.tmod 3), .int .i64 x.o.k, .slice x.Ab x.o.b.length x.cb, .slice none 0 0] := rfl
        have hxcells : x.cells = [.int .i64 x.o.kind, .int .i64 x.o.k, .slice x.Ab x.o.b.length x.cb, .slice x.Af x.o.forms.length x.cf] := rfl
        obtain ⟨D', e', hR⟩ : ∃ D' e', D.doOp (low3 x).o = (D', e') := ⟨_, _, rfl⟩
        rw [hR] at hgr hdo hdoes hok'
        simp only at hgr hdoes hok'
        rw [hlc] at hdo hdoes
        obtain ⟨kt, hkt⟩ : ∃ kt, kt = x.o.kind.tmod 3 := ⟨_, rfl⟩
        obtain ⟨kd, hkdd⟩ : ∃ kd, kd = x.o.kind := ⟨_, rfl⟩
        obtain ⟨xk, hxk⟩ : ∃ kd, kd = x.o.k := ⟨_, rfl⟩
        obtain ⟨nb, hnb⟩ : ∃ kd, kd = x.o.b.length := ⟨_, rfl⟩
        obtain ⟨nfx, hnfx⟩ : ∃ kd, kd = x.o.forms.length := ⟨_, rfl⟩
        rw [← hkt, ← hxk, ← hnb] at hdo hdoes
        rw [← hkdd, ← hxk, ← hnb, ← hnfx] at hxcells
        rw [← hkdd] at hkd1 hkd2 hkt
        have Hr := hid hrange
        have Hxc := hid (hxc.trans hxcells)
        obtain ⟨sv, hsv⟩ : ∃ sv, sv = stv vl vr D := ⟨_, rfl⟩
        have Hsl : Hid (sv.length = 5) := by show _ = _; rw [hsv]; rfl
        rw [← hsv] at BS hdo
        have Hdo := hid hdo
        have Hdoes := hid hdoes
        have Hops : Hid (D'.ops ≤ k + 1 ∧ D'.row.length ≤ k + 1) := hid (by omega)
        have Hok' := hid hok'
        have Hkt := hid hkt
        clear hdo hdoes hR hgr hok hops hrow hsv hok' hkdd hxk hnb hnfx hlc hxcells hrange hxc hx HS4 hoo hat hoy hkd hnf hkt
        go_wp2_with (first
          | (guard_target = wpList _ _ _ (Oper.mk _ (Op.load 36 _) _ _ _ _ :: _) _ _; refine wpList_load_elem rfl 36 _ rfl 4 ga oa (xs.map OpC.cells) k _ [.int .i64 kd, .int .i64 xk, .slice x.Ab nb x.cb, .slice x.Af nfx x.cf] _ Hr.out (opc_each xs) (by rw [List.length_map]; exact hlt) Hxc.out rfl (by rfl) Try.underlying36 rfl size36 ?_)
          | (guard_target = wpList _ _ _ (Oper.mk _ (Op.alloc 36) _ _ _ _ :: _) _ _; refine wpList_alloc_store rfl 36 rfl 10 _ rfl (by rfl) rfl rfl (by decide) (.agg zop.toArray) [.int .i64 kd, .int .i64 xk, .slice x.Ab nb x.cb, .slice x.Af nfx x.cf] info36 zop zop_cells (by rfl) (by rfl) (by intro u hu; simp only [List.mem_cons, List.not_mem_nil, or_false] at hu; rcases hu with rfl | rfl | rfl | rfl <;> rfl) ?_; intro b8 wp hb8 B8 Kp; have c0 := B8.cell 0; have c1 := B8.cell 1; have c2 := B8.cell 2; simp only [List.getElem?_cons_zero, List.getElem?_cons_succ] at c0 c1 c2)
          | (guard_target = wpList _ _ _ (Oper.mk _ (Op.build _ _) _ _ _ _ :: _) _ _; refine wpList_run rfl _ _ (exec_build36 _ _ _ rfl kt xk x.Ab nb x.cb (by simp [Act.eval]; exact Hkt.out.symm) (by rfl) (by rfl)) ?_))
        have hbl : b4 < wr.heap.size := BS.lt
        have hs4 := K04.size
        have hsp := Kp.size
        have KpF : Keep F wr wp := Kp.mono (fun _ _ h => h.elim)
        have hF8 : ¬ F b8 := fun h => by have := O4.dev.lt b8 h; omega
        refine (Hdoes.out wp (HRb.out wp KpF) (O4.dev.keep Kp (Dj.noth _))).mono ?_
        rintro e w8 ⟨rfl, H8, K8⟩
        have B88 := B8.keep K8 hF8
        have d0 := B88.cell 0
        have d1 := B88.cell 1
        have d2 := B88.cell 2
        simp only [List.getElem?_cons_zero, List.getElem?_cons_succ] at d0 d1 d2
        have BS8 := (BS.keep Kp id).keep K8 hbF
        have S8 := (S4.keep Kp (Dj.noth _)).keep K8 (Dj.symm hdj)
        have hs8 := K8.size
        have hdo8 := Hdo.out w8 (.inr ((K04.mono (fun _ _ h => h.elim) : Keep F w wr).trans KpF (fun _ _ h => h) |>.trans K8 (fun _ _ h => h))) (HRb.out w8 (KpF.trans K8 (fun _ _ h => h))) S8
        have Hdo8 := hid hdo8
        clear c0 c1 c2 hdo8 Hdo Hdoes S4 S8 B88 B8 BS
        go_wp2_with (first
          | (guard_target = wpList _ _ _ (Oper.mk _ (Op.load 30 _) _ _ _ _ :: _) _ _; refine wpList_load_blk rfl 30 _ rfl b4 0 sv sv 30 _ (by rfl) BS8 (part0 _) Try.underlying30 rfl (by rw [Hsl.out]; exact info30) ?_)
          | (guard_target = wpList _ _ _ (Oper.mk _ (Op.build _ _) _ _ _ _ :: _) _ _; refine wpList_run rfl _ _ (exec_build36 _ _ _ rfl kt xk x.Ab nb x.cb (by simp [Act.eval]; exact Hkt.out.symm) (by rfl) (by rfl)) ?_))
        refine Hdo8.out.mono ?_
        rintro e w6 ⟨vl', vr', rfl, S6, K6⟩
        obtain ⟨sv', hsv'⟩ : ∃ sv, sv = stv vl' vr' D' := ⟨_, rfl⟩
        have Hsl' : Hid (sv'.length = 5) := by show _ = _; rw [hsv']; rfl
        have Hs1' : Hid (∀ u ∈ sv', u.oneCell' = true) := by show ∀ u ∈ sv', _; rw [hsv']; exact stv_one D' S6.l.one_val.1 S6.row.one_val.1
        rw [← hsv']
        have Hsv' := hid hsv'
        have B66 := BS8.keep K6 id
        clear hsv' d0 d1 d2 Hdo8 BS8
        go_wp2_with (first
          | (guard_target = wpList _ _ _ (Oper.mk _ (Op.store 30 _ _) _ _ _ _ :: _) _ _; refine wpList_store_whole rfl 30 _ _ rfl b4 sv sv' 30 (by rfl) (by rfl) B66 (by rw [Hsl'.out, Hsl.out]) (by rw [Hsl'.out]; exact info30) Hs1'.out ?_; intro w7 B7 K7))
        have HN := RowS.next2 (k := k + 1) O4 hdj hGl hbF hbl hlow K04 Hok'.out Hops.out.1 Hops.out.2 Kp H8 K8 S6 K6 B66 (Hsv'.out ▸ B7) K7
        clear O4 hdj hGl H8 K8 S6 K6 B66 B7 K7 K04 Kp KpF
        go_roundw
        case rel => exact ⟨k + 1, D', by go_num, hlt, HN⟩
        case measure => simp [intOf]; omega
      · have hge : k = xs.length := by omega
        subst hge
        obtain ⟨⟨F, G, vl, vr, O4, S4, hdj, hGl, BS, hbF⟩, hbl4, hok, hops, hrow, K04⟩ := HR
        obtain ⟨Al, cl, rfl⟩ := S4.l.valm
        obtain ⟨Ar, cr, rfl⟩ := S4.row.valm
        obtain ⟨gl, rfl⟩ := S4.l.some_at (by rw [List.length_map]; have := hok.one; omega)
        have hlow := O4.low
        have hRf : Reads _ Bf (ints fs) := HBf.out.old K04 (fun _ h => h.elim)
        obtain ⟨vl4, vr4, A4⟩ := O4.dev
        have hcr := crash_calls A4 hok (by omega) Bf cB fs hRf (fun ad h hne hq => by
          obtain ⟨gq, oq, e, -, hlt⟩ := HBf.out.where (by simp only [ints, List.length_map]; exact List.length_pos_iff.2 hne)
          rw [h] at e
          injection e with e
          subst e
          have := hlow _ hq
          simp only at this
          omega) (by omega) Hfs.out
        go_wp2_with fail
        refine hcr.mono ?_
        rintro e w5 ⟨rfl, H5, K5⟩
        clear hcr A4 hRf
        obtain ⟨vl5, vr5, A5⟩ := H5
        have him := image_calls A5 (crash_ok hok fs) (by show (0 : Nat) ≤ _; omega)
        go_wp2_with fail
        refine him.mono ?_
        rintro e w6 ⟨vi, rfl, I6, K6⟩
        clear him
        obtain ⟨n9, hn9⟩ : ∃ n, n = D.l.length := ⟨_, rfl⟩
        obtain ⟨m, hm⟩ : ∃ n, n = D.row.length := ⟨_, rfl⟩
        obtain ⟨op, hop⟩ : ∃ n : Int, n = (D.ops : Int) := ⟨_, rfl⟩
        obtain ⟨fu, hfu⟩ : ∃ n : Int, n = D.fuse := ⟨_, rfl⟩
        obtain ⟨dn, hdn⟩ : ∃ n : Bool, n = D.down := ⟨_, rfl⟩
        have hst : (stv (.slice (some ⟨gl, 0, none⟩) D.l.length cl) (.slice Ar D.row.length cr) D) = [.slice (some ⟨gl, 0, none⟩) n9 cl, .slice Ar m cr, .int .i64 op, .int .i64 fu, .bool dn] := by rw [hn9, hm, hop, hfu, hdn]; rfl
        rw [hst] at BS
        have BS6 := (BS.keep K5 hbF).keep K6 id
        have S6 := (S4.keep K5 (Dj.symm hdj)).keep K6 (Dj.noth _)
        have K06 : Keep Noth w w6 := (K04.own K5 hlow).trans K6 (fun _ _ h => h)
        obtain ⟨im, himd⟩ : ∃ im, im = (D.crash fs).image := ⟨_, rfl⟩
        have hok5 := crash_ok hok fs
        have hl5 : (D.crash fs).l.length = D.l.length := crashK_length fs D.l D.row D.row.length
        have himl : im.length = n9 * 64 := by
          rw [himd]; show (List.flatten (D.crash fs).l).length = _
          rw [flatten_length64 _ hok5.l64, hl5, hn9]
        have hgot : ∀ k, k < D.l.length → ∀ o, (o = 0 ∨ o = 32) → (im.drop (k * 64 + o)).take 32 = half ((D.crash fs).l.getD k []) o := fun k hk o ho => by
          have h1 := flatten_block (D.crash fs).l k hok5.l64 (by omega)
          rw [himd]; show (List.drop (k * 64 + o) (List.flatten (D.crash fs).l)).take 32 = _
          unfold half
          rw [← h1, List.drop_take, List.take_take, List.drop_drop, show min 32 (64 - o) = 32 by omega]
        rw [← himd] at I6
        obtain ⟨Ai, ci, rfl⟩ := I6.valm
        have hci := I6.cap_le
        rw [u1_length] at hci
        rw [himl] at hci
        have hall := fun k hk o ho => isJ_all fs hok k hk o ho
        have Hall : Hid (∀ k, k < D.l.length → ∀ o, (o = 0 ∨ o = 32) → isJ ((im.drop (k * 64 + o)).take 32) (D.l.getD k []) D.row k o D.row.length = true) := hid (fun k hk o ho => by rw [hgot k hk o ho]; exact hall k hk o ho)
        have HS6 := hid S6
        have HI6 := hid I6
        have Hn9 := hid hn9
        have Hm := hid hm
        have Himl := hid himl
        have hm80 : (m : Int) ≤ 80 := by omega
        have hn12 : (n9 : Int) ≤ 4096 := by have := hok.most; omega
        have hciI : (n9 : Int) * 64 ≤ ci := by exact_mod_cast hci
        rw [himl]
        clear hst BS S4 S6 K5 K6 I6 K04 O4 A5 hdj hGl himd himl hall hgot hl5 hok5 hn9 hm hop hfu hdn hops hrow hlow
        have c0 := BS6.cell 0
        simp only [List.getElem?_cons_zero] at c0
        go_wp2_with fail
        clear c0
        go_loopw [76] (fun i wr => ∃ k : Nat, i = .int .i64 k ∧ k ≤ n9 ∧ Keep Noth w6 wr) (fun i _ => n9 - (intOf i).toNat)
        case atStart => exact ⟨0, rfl, Nat.zero_le _, Keep.refl _ _⟩
        case round =>
          obtain ⟨k, rfl, hkn, K7⟩ := hrel
          by_cases hlt2 : k < n9
          · have hlt2' : (k : Int) < n9 := by omega
            have hkD : k < D.l.length := by rw [← Hn9.out]; exact hlt2
            go_wp2_with fail
            have BA : BlockIs (wr.alloc (.cells #[.int .i64 0, .int .i64 32] 3)) wr.heap.size [.int .i64 0, .int .i64 32] 3 := BlockIs.new wr _ _
            have KA : Keep Noth wr (wr.alloc (.cells #[.int .i64 0, .int .i64 32] 3)) := (Keep.refl _ _).alloc _
            generalize wr.alloc (.cells #[.int .i64 0, .int .i64 32] 3) = wA at *
            generalize wr.heap.size = b79 at *
            have K7A : Keep Noth w6 wA := K7.trans KA (fun _ _ h => h)
            clear KA K7
            go_loopw [81] (fun i wx => ∃ h : Nat, i = .int .i64 h ∧ h ≤ 2 ∧ Keep Noth wA wx) (fun i _ => 2 - (intOf i).toNat)
            case atStart => exact ⟨0, rfl, Nat.zero_le _, Keep.refl _ _⟩
            case round =>
              obtain ⟨h, rfl, hh, K8⟩ := hrel
              by_cases hh2 : h < 2
              · have hh2' : (h : Int) < 2 := by omega
                obtain ⟨o, ho⟩ : ∃ o, o = 32 * h := ⟨_, rfl⟩
                have hoo : o = 0 ∨ o = 32 := by omega
                have ho1 : (o : Int) ≤ 32 := by omega
                have c79 : wr.cell? ⟨b79, h, none⟩ = some (.int .i64 (o : Int)) := by
                  rw [(BA.keep K8 id).cell h]
                  rcases (show h = 0 ∨ h = 1 by omega) with rfl | rfl <;> (rw [ho]; rfl)
                have K68 := K7A.trans K8 (fun _ _ h => h)
                have BS8 := BS6.keep K68 id
                have c0 := BS8.cell 0
                have c1 := BS8.cell 1
                simp only [List.getElem?_cons_zero, List.getElem?_cons_succ] at c0 c1
                have Hoo := hid hoo
                clear ho hoo
                have hc52 := cut52 o (by omega)
                obtain ⟨got, hgotd⟩ : ∃ got, got = (im.drop (k * 64 + o)).take 32 := ⟨_, rfl⟩
                obtain ⟨L, hLd⟩ : ∃ L, L = D.l.getD k [] := ⟨_, rfl⟩
                have hgl : got.length = 32 := by rw [hgotd, List.length_take, List.length_drop, Himl.out]; omega
                have hLl : L.length = 64 := by rw [hLd, List.getD_eq_getElem?_getD, List.getElem?_eq_getElem hkD]; exact hok.l64 _ (List.getElem_mem hkD)
                have hcl : ¬ ci = k * 64 + o := by omega
                have hRg : Reads wr (Option.map (fun x => x.add (k * 64 + o)) Ai) (bv got) := by
                  have h1 := ((Bytes.same_as (HI6.out.keep K68 (Dj.noth _))).drop ci (k * 64 + o) (by rw [bv_length, Himl.out]; omega)).take 32
                  rw [if_neg hcl] at h1
                  rw [show (List.take 32 (List.drop (k * 64 + o) (bv im))) = bv ((im.drop (k * 64 + o)).take 32) by simp [bv, List.map_drop, List.map_take], ← hgotd] at h1
                  exact h1
                have hRl : Reads wr (some ⟨gl, k * 64 + o, none⟩) (bv (half L o)) := hLd ▸ (HS6.out.keep K68 (Dj.noth _)).l.half k hkD o
                have HRg := hid hRg
                have Hgl := hid hgl
                have hlh := half_length L o hLl Hoo.out
                have heq := equal_calls wr (Option.map (fun x => x.add (k * 64 + o)) Ai) (some ⟨gl, k * 64 + o, none⟩) 32 32 (ci - (k * 64 + o)) (64 - o) got (half L o) hgl.symm hlh.symm hRg hRl
                rw [← isJ_zero got L D.row k o] at heq
                have Hgd := hid hgotd
                have HLd := hid hLd
                clear hgl hLl hcl hRg hRl hlh hgotd hLd
                go_wp2_with fail
                refine heq.mono ?_
                rintro e w' ⟨rfl, rfl⟩
                clear heq
                go_wp2_with fail
                go_loopw [16, 109] (fun bb i wy => ∃ j : Nat, i = .int .i64 j ∧ j ≤ m ∧ bb = .bool (isJ got L D.row k o j) ∧ Keep Noth wr wy) (fun _ i _ => m - (intOf i).toNat)
                case atStart => exact ⟨0, rfl, Nat.zero_le _, rfl, Keep.refl _ _⟩
                case round =>
                  obtain ⟨j, rfl, hjm, rfl, K9⟩ := hrel
                  clear c79 c0 c1
                  by_cases hj : j < m
                  · have hj' : (j : Int) < m := by omega
                    have hjD : j < D.row.length := by rw [← Hm.out]; exact hj
                    have K69 := K68.trans K9 (fun _ _ h => h)
                    have HR9 := (HS6.out.keep K69 (Dj.noth _)).row
                    rw [← Hm.out] at HR9
                    obtain ⟨gr, rfl⟩ := HR9.some_at (by rw [List.length_map]; omega)
                    obtain ⟨p, hp⟩ : ∃ p, p = D.row[j] := ⟨_, rfl⟩
                    have hpm : (D.row.map wv)[j]'(by rw [List.length_map]; exact hjD) = wv p := by rw [List.getElem_map, ← hp]
                    have hp64 : p.2.length = 64 := by rw [hp]; exact (hok.row64 _ (List.getElem_mem hjD)).2
                    have hnx := isJ_succ got L D.row k o j hjD
                    rw [← hp] at hnx
                    have Hpm := hid hpm
                    have Hw65 : Hid ((wv p).length = 65) := by show _ = _; simp [wv, hp64]
                    have Hnx := hid hnx
                    have Hp64 := hid hp64
                    have HR9' := hid HR9
                    clear hp hpm hp64 hnx HR9
                    obtain ⟨bj, hbj⟩ : ∃ bj, bj = isJ got L D.row k o j := ⟨_, rfl⟩
                    rw [← hbj]
                    have Hbj := hid hbj
                    clear hbj
                    cases bj with
                    | true =>
                      go_wp2_with (first 
                        | (guard_target = wpList _ _ _ (Oper.mk _ (Op.load 54 _) _ _ _ _ :: _) _ _; refine wpList_load_row' rfl 54 _ rfl G 54 65 gr m cr (D.row.map wv) j _ (wv p) _ HR9'.out (by rw [List.length_map]; exact hjD) Hpm.out rfl (by rfl) Try.underlying54 rfl info54 ?_)
                        | (guard_target = wpList _ _ _ (Oper.mk _ (Op.alloc 54) _ _ _ _ :: _) _ _; refine wpList_alloc_store rfl 54 rfl 18 _ rfl (by rfl) rfl rfl (by decide) zw (wv p) (by rw [Hw65.out]; exact info54) (wv (0, zb)) zw_cells (Hw65.out.trans wv0_length.symm) (by rfl) (wv_one _) ?_; intro b18 w10 hb18 B18 K10; have e0 := B18.cell 0; simp only [wv, List.getElem?_cons_zero] at e0))
                      go_roundw
                      case rel => exact ⟨j + 1, by go_num, hj, by rw [Hnx.out, ← Hbj.out]; rfl, K9.trans K10 (fun _ _ h => h)⟩
                      case measure => simp [intOf]; omega
                    | false =>
                      by_cases hpk : p.1 = k
                      · have hpk' : (((p.1 : Nat) : Int) == (k : Int)) = true := by simp [hpk]
                        have Hpk := hid hpk
                        clear hpk
                        go_wp2_with (first 
                        | (guard_target = wpList _ _ _ (Oper.mk _ (Op.load 54 _) _ _ _ _ :: _) _ _; refine wpList_load_row' rfl 54 _ rfl G 54 65 gr m cr (D.row.map wv) j _ (wv p) _ HR9'.out (by rw [List.length_map]; exact hjD) Hpm.out rfl (by rfl) Try.underlying54 rfl info54 ?_)
                        | (guard_target = wpList _ _ _ (Oper.mk _ (Op.alloc 54) _ _ _ _ :: _) _ _; refine wpList_alloc_store rfl 54 rfl 18 _ rfl (by rfl) rfl rfl (by decide) zw (wv p) (by rw [Hw65.out]; exact info54) (wv (0, zb)) zw_cells (Hw65.out.trans wv0_length.symm) (by rfl) (wv_one _) ?_; intro b18 w10 hb18 B18 K10; have e0 := B18.cell 0; simp only [wv, List.getElem?_cons_zero] at e0))
                        have hRp : Reads w10 (some ⟨b18, 1 + o, none⟩) (bv (half p.2 o)) := B18.half o
                        have heq := equal_calls w10 (Option.map (fun x => x.add (k * 64 + o)) Ai) (some ⟨b18, 1 + o, none⟩) 32 32 (ci - (k * 64 + o)) (64 - o) got (half p.2 o) Hgl.out.symm (half_length _ o Hp64.out Hoo.out).symm (HRg.out.keep (K9.trans K10 (fun _ _ h => h)) (fun _ _ => id)) hRp
                        refine heq.mono ?_
                        rintro e w' ⟨rfl, rfl⟩
                        clear heq hRp
                        go_wp2_with fail
                        go_roundw
                        case rel => exact ⟨j + 1, by go_num, hj, by rw [Hnx.out, ← Hbj.out, Hpk.out]; simp, K9.trans K10 (fun _ _ h => h)⟩
                        case measure => simp [intOf]; omega
                      · have hpk' : (((p.1 : Nat) : Int) == (k : Int)) = false := by simp; omega
                        have Hpk := hid hpk
                        clear hpk
                        go_wp2_with (first 
                        | (guard_target = wpList _ _ _ (Oper.mk _ (Op.load 54 _) _ _ _ _ :: _) _ _; refine wpList_load_row' rfl 54 _ rfl G 54 65 gr m cr (D.row.map wv) j _ (wv p) _ HR9'.out (by rw [List.length_map]; exact hjD) Hpm.out rfl (by rfl) Try.underlying54 rfl info54 ?_)
                        | (guard_target = wpList _ _ _ (Oper.mk _ (Op.alloc 54) _ _ _ _ :: _) _ _; refine wpList_alloc_store rfl 54 rfl 18 _ rfl (by rfl) rfl rfl (by decide) zw (wv p) (by rw [Hw65.out]; exact info54) (wv (0, zb)) zw_cells (Hw65.out.trans wv0_length.symm) (by rfl) (wv_one _) ?_; intro b18 w10 hb18 B18 K10; have e0 := B18.cell 0; simp only [wv, List.getElem?_cons_zero] at e0))
                        go_roundw
                        case rel => exact ⟨j + 1, by go_num, hj, by rw [Hnx.out, ← Hbj.out]; simp [Hpk.out], K9.trans K10 (fun _ _ h => h)⟩
                        case measure => simp [intOf]; omega
                  · have hge : j = m := by omega
                    subst hge
                    have hT := Hall.out k hkD o Hoo.out
                    rw [← Hgd.out, ← HLd.out, ← Hm.out] at hT
                    rw [hT]
                    go_wp2_with fail
                    go_roundw
                    case rel => exact ⟨h + 1, by go_num, hh2, K8.trans K9 (fun _ _ h => h)⟩
                    case measure => simp [intOf]; omega
              · have hge : h = 2 := by omega
                subst hge
                go_wp2_with fail
                go_roundw
                case rel => exact ⟨k + 1, by go_num, hlt2, K7A.trans K8 (fun _ _ h => h)⟩
                case measure => simp [intOf]; omega
          · have hge : k = n9 := by omega
            subst hge
            go_wp2_with (go_at_call 16; refine (alive_calls _).mono ?_; rintro e w12 ⟨rfl, K12⟩)
            go_ret
            exact ⟨rfl, (K06.trans K7 (fun _ _ h => h)).trans K12 (fun _ _ h => h)⟩
  · have hf0 := hfp.1
    clear hfp
    have hor : 0 < few xs ∨ (few xs = 0 ∧ 12 < count) ∨ (few xs = 0 ∧ ¬ 12 < count ∧ (100 : Int) < fs.length) := by omega
    clear hin
    obtain ⟨fx, hfx⟩ : ∃ fx, fx = few xs := ⟨_, rfl⟩
    rw [← hfx] at hfc hor
    have hfl' : (fs.length : Int) ≤ 1048576 := by omega
    clear hfx hf0 hS hsz hB hfs
    rcases hor with h | ⟨h, h'⟩ | ⟨h, h', h''⟩
    · go_enter Try.func5, Try.ntmps5
      go_wp2_with fail
      refine hfc.mono ?_
      rintro e w1 ⟨rfl, K1⟩
      clear hfc
      go_wp2_with (go_at_call 16; refine (alive_calls w1).mono ?_; rintro e w2 ⟨rfl, K2⟩)
      go_ret
      exact ⟨rfl, K1.trans K2 (fun _ _ h => h)⟩
    · subst h
      go_enter Try.func5, Try.ntmps5
      go_wp2_with fail
      refine hfc.mono ?_
      rintro e w1 ⟨rfl, K1⟩
      clear hfc
      go_wp2_with (go_at_call 16; refine (alive_calls w1).mono ?_; rintro e w2 ⟨rfl, K2⟩)
      go_ret
      exact ⟨rfl, K1.trans K2 (fun _ _ h => h)⟩
    · subst h
      go_enter Try.func5, Try.ntmps5
      go_wp2_with fail
      refine hfc.mono ?_
      rintro e w1 ⟨rfl, K1⟩
      clear hfc
      go_wp2_with (go_at_call 16; refine (alive_calls w1).mono ?_; rintro e w2 ⟨rfl, K2⟩)
      go_ret
      exact ⟨rfl, K1.trans K2 (fun _ _ h => h)⟩

end Go.Proofs.Ytffcglfepobdjaa
