/- BlockAll: the walk. -/
import Derived.Test.YtffcglfepobdjaaI8
import Derived.Test.YtffcglfepobdjaaD3
set_option linter.unusedVariables false
set_option linter.unusedSimpArgs false
set_option maxRecDepth 10000
set_option maxHeartbeats 1500000
namespace Go.Proofs.Ytffcglfepobdjaa
open Go.RowKit

theorem does_all {w : World} {F : Nat → Prop} {g : Nat} {D : DS} (hD : DevIs w F g D) (hok : D.ok) (ho : D.ops ≤ 1000000) (hr : D.row.length ≤ 1000000) (o : OpV) (hoo : o.ok)
    (Ab Af : Option Addr) (cb cf : Nat) (hR : OpAt w o Ab Af) (hAF : ∀ ad, Af = some ad → o.forms ≠ [] → ¬ F ad.block) :
    Calls Try.prog 21 #[.pointer (some ⟨g, 0, none⟩), .agg (opv o Ab Af cb cf).toArray] w (fun e w' => ∃ g', e = .returned (.tuple #[.pointer (some ⟨g', 0, none⟩), .int .i64 (D.doOp o).2]) ∧ DevIs w' (grow F w w') g' (D.doOp o).1 ∧ Keep F w w') := by
  by_cases h : o.kind = 4
  · exact does4 hD hok ho hr o h Ab Af cb cf
  · refine (does_calls hD hok (by omega) (by omega) o hoo h Ab Af cb cf hR hAF).mono ?_
    rintro e w' ⟨rfl, h1, h2⟩
    exact ⟨g, rfl, h1, h2⟩

/-- Where the loop over a script stands: a device, and the document's state, in variable b. -/
structure RowS (B : Nat) (w0 : World) (b k g : Nat) (D : DS) (wr : World) : Prop where
  both : ∃ F G vl vr, Own B wr F g D ∧ StAt wr G vl vr D ∧ Dj F G ∧ Lt G wr ∧ BlockIs wr b (stv vl vr D) 30 ∧ ¬ F b
  low : B ≤ b
  ok : D.ok
  ops : D.ops ≤ k
  row : D.row.length ≤ k
  kept : Keep Noth w0 wr

/-- Behind a call of a script. -/
theorem RowS.next {w0 wr wp w6 wb w7 w8 wz : World} {F G : Nat → Prop} {b k g g' : Nat} {D D' : DS} {vl' vr' : Value} {c6 : List Value}
    (O4 : Own w0.heap.size wr F g D) (hdj : Dj F G) (hG : Lt G wr) (hb : ¬ F b) (hbl : b < wr.heap.size) (low : w0.heap.size ≤ b) (K04 : Keep Noth w0 wr) (hok : D'.ok) (hops : D'.ops ≤ k) (hrow : D'.row.length ≤ k)
    (Kp : Keep Noth wr wp) (S6 : StAt w6 (grow G wp w6) vl' vr' D') (K6 : Keep Noth wp w6) (K6b : Keep Noth w6 wb) (B6 : BlockIs wb b c6 30) (B7 : BlockIs w7 b (stv vl' vr' D') 30) (K7 : Keep (Only b) wb w7)
    (H8 : DevIs w8 (grow F w7 w8) g' D') (K8 : Keep F w7 w8) (Kz : Keep Noth w8 wz) : RowS w0.heap.size w0 b k g' D' wz := by
  have h1 := Kp.size
  have h2 := K6.size
  have h2b := K6b.size
  have h3 := K7.size
  have h4 := K8.size
  have h5 := Kz.size
  have h0 := K04.size
  have hFlt : ∀ q, F q → q < wr.heap.size := fun q h => O4.dev.lt q h
  have S7 : StAt w7 (grow G wp w6) vl' vr' D' := (S6.keep K6b (Dj.noth _)).stay2 B6 K7
  have hdj7 : Dj F (grow G wp w6) := fun q a c => by
    rcases c with c | c
    · exact hdj q a c
    · have := hFlt q a; have := c.1; omega
  refine ⟨⟨grow F w7 w8, grow G wp w6, vl', vr', ⟨H8.keep Kz (Dj.noth _), fun q h => ?_⟩, (S7.keep K8 (Dj.symm hdj7)).keep Kz (Dj.noth _), fun q a c => ?_, fun q c => ?_, ((B7.keep K8 hb).keep Kz id), fun h => ?_⟩, low, hok, hops, hrow, ?_⟩
  · rcases h with h | h
    · exact O4.low q h
    · have := h.1; omega
  · rcases a with a | a
    · exact hdj7 q a c
    · rcases c with c | c
      · have := hG q c; have := a.1; omega
      · have := c.2; have := a.1; omega
  · rcases c with c | c
    · have := hG q c; omega
    · have := c.2; omega
  · rcases h with h | h
    · exact hb h
    · have := h.1; omega
  · exact (((((K04.trans Kp (fun _ _ h => h)).trans K6 (fun _ _ h => h)).trans K6b (fun _ _ h => h)).own K7 (fun i e => by unfold Only at e; subst e; exact low)).own K8 O4.low).trans Kz (fun _ _ h => h)

theorem all_law_calls (w : World) (count : Int) (A : Option Addr) (c : Nat) (xs : List OpC) (hS : Script w A xs) (hsz : scriptSize xs + xs.length ≤ 1048576) :
    Calls Try.prog 3 #[.int .i64 count, .slice A xs.length c] w (fun e w' => e = .returned (.bool true) ∧ Keep Noth w w') := by
  have hfp := few_pos xs
  have hfc := few_calls w A c xs hS hsz
  by_cases hin : few xs = 0 ∧ count ≤ 20
  · obtain ⟨h0, h20⟩ := hin
    have hlen := (hfp.2.1 h0).1
    have hlen' : (xs.length : Int) ≤ 80 := by omega
    rw [h0] at hfc
    have hcl := clampN_le h20
    have HS := hid hS
    clear hS hfp hsz
    go_enter Try.func3, Try.ntmps3
    go_wp2_with fail
    refine hfc.mono ?_
    rintro e w1 ⟨rfl, K1⟩
    clear hfc
    go_wp2_with fail
    refine (new_calls w1 count).mono ?_
    rintro e w2 ⟨g, rfl, H2, K2⟩
    go_wp2_with fail
    refine (st_new w2 count).mono ?_
    rintro e w3 ⟨vl, rfl, S3, K3⟩
    obtain ⟨n, hn⟩ : ∃ n, n = clampN count := ⟨_, rfl⟩
    rw [← hn] at H2 hcl S3
    rw [← hn]
    obtain ⟨D0, hD0⟩ : ∃ D, D = DS.new n := ⟨_, rfl⟩
    have hok0 : D0.ok := by rw [hD0]; exact new_ok n (by omega) (by omega)
    have hr0 : D0.row.length ≤ 0 := by rw [hD0]; exact Nat.le_refl _
    have ho0 : D0.ops ≤ 0 := by rw [hD0]; exact Nat.le_refl _
    rw [← hD0] at H2 S3
    rw [← hD0]
    obtain ⟨sv, hsv⟩ : ∃ sv, sv = stv vl (.slice none 0 0) D0 := ⟨_, rfl⟩
    have Hsl : Hid (sv.length = 5) := by show _ = _; rw [hsv]; rfl
    have Hs1 : Hid (∀ u ∈ sv, u.oneCell' = true) := by show ∀ u ∈ sv, _; rw [hsv]; exact stv_one D0 S3.l.one_val.1 rfl
    rw [← hsv]
    have Hsv := hid hsv
    clear hsv hn hD0
    go_wp2_with (first
      | (guard_target = wpList _ _ _ (Oper.mk _ (Op.alloc _) _ _ _ _ :: _) _ _; refine wpList_alloc_v rfl 30 rfl zst info30 stz zst_cells ?_; intro b4 w4 hb4 B4 K4)
      | (guard_target = wpList _ _ _ (Oper.mk _ (Op.store _ _ _) _ _ _ _ :: _) _ _; refine wpList_store_whole rfl 30 _ _ rfl b4 stz sv 30 (by rfl) (by rfl) B4 (by rw [Hsl.out]; rfl) (by rw [Hsl.out]; exact info30) Hs1.out ?_; intro w5 B5 K5)
      | (guard_target = wpList _ _ _ (Oper.mk _ (Op.load 30 _) _ _ _ _ :: _) _ _; refine wpList_loadw_blk (by rfl) 30 _ rfl b4 0 sv sv 30 _ (by rfl) B5 (part0 _) Try.underlying30 rfl (by rw [Hsl.out]; exact info30) ?_))
    have hlow2 : w.heap.size ≤ w1.heap.size := K1.size
    have hs23 : w2.heap.size ≤ w3.heap.size := K3.size
    have hs12 : w1.heap.size ≤ w2.heap.size := K2.size
    have K35 : Keep Noth w3 w5 := K4.own K5 (fun q e => by unfold Only at e; subst e; exact hb4)
    have H5 := (H2.keep K3 (Dj.noth _)).keep K35 (Dj.noth _)
    have S5 := S3.keep K35 (Dj.noth _)
    have K05 : Keep Noth w w5 := ((K1.trans K2 (fun _ _ h => h)).trans K3 (fun _ _ h => h)).trans K35 (fun _ _ h => h)
    have h3 := st_stands H5 S5 hok0 (by omega)
    rw [← Hsv.out] at h3
    refine h3.mono ?_
    rintro e w6 ⟨rfl, K6⟩
    have hR6 : RowS w.heap.size w b4 0 g D0 w6 := ⟨⟨_, _, vl, _, ⟨H5.keep K6 (Dj.noth _), fun q h => by have := h.1; omega⟩, S5.keep K6 (Dj.noth _), fun q a c => by have := a.2; have := c.1; omega, fun q c => by have := c.2; have := K35.size; have := K6.size; omega, by rw [← Hsv.out]; exact B5.keep K6 id, fun h => by have := h.2; omega⟩, by omega, hok0, ho0, hr0, K05.trans K6 (fun _ _ h => h)⟩
    clear h3 H5 S5 H2 S3 K1 K2 K3 K4 K5 K6 K35 K05 B4 B5 hok0 hr0 ho0 hs12 hs23 hlow2
    go_wp2_with fail
    go_loopw [5, 35] (fun dv i wr => ∃ (k g : Nat) (D : DS), dv = .pointer (some ⟨g, 0, none⟩) ∧ i = .int .i64 k ∧ k ≤ xs.length ∧ RowS w.heap.size w b4 k g D wr) (fun _ i _ => xs.length - (intOf i).toNat)
    case atStart => exact ⟨0, g, D0, rfl, rfl, Nat.zero_le _, hR6⟩
    case round =>
      obtain ⟨k, g, D, rfl, rfl, hkl, HR⟩ := hrel
      clear hR6
      by_cases hlt : k < xs.length
      · have hlt' : (k : Int) < xs.length := by omega
        obtain ⟨⟨F, G, vl, vr, O4, S4, hdj, hGl, BS, hbF⟩, hlow, hok, hops, hrow, K04⟩ := HR
        have HS4 := HS.out.old K04 (fun _ h => h.elim)
        obtain ⟨ga, oa, hAo, hrange, hga⟩ := HS4.cells.where (script_pos xs (by omega))
        subst hAo
        obtain ⟨x, hx⟩ : ∃ x, x = xs[k] := ⟨_, rfl⟩
        have hxm : x ∈ xs := by rw [hx]; exact List.getElem_mem hlt
        have hxc : (xs.map OpC.cells)[k]'(by rw [List.length_map]; exact hlt) = x.cells := by rw [List.getElem_map, ← hx]
        have hoo := HS4.ok x hxm
        have hat := HS.out.each x hxm
        have Hr := hid hrange
        have Hxc := hid hxc
        have Hat := hid hat
        have Hoo := hid hoo
        have HAF := hid (HS.out.below (F := F) O4.low hxm)
        have hgr := doOp_grow D x.o
        have hok' := doOp_ok hok x.o Hoo.out
        have hlow0 := O4.low
        clear hrange hxc hx HS4 hoo hat
        have hdo : ∀ wx, Keep Noth w wx → StAt wx G vl vr D → Calls Try.prog 20 #[.agg (stv vl vr D).toArray, .agg x.cells.toArray] wx (DoPost wx G (D.doOp x.o)) := fun wx Kx Sx =>
          do_calls Sx hok (by omega) (by omega) x.o Hoo.out x.Ab x.Af x.cb x.cf ⟨Hat.out.b.old Kx (fun _ h => h.elim), Hat.out.forms.old Kx (fun _ h => h.elim)⟩
        have hdoes : ∀ wx, Keep Noth w wx → DevIs wx F g D → Calls Try.prog 21 #[.pointer (some ⟨g, 0, none⟩), .agg x.cells.toArray] wx (fun e w' => ∃ g', e = .returned (.tuple #[.pointer (some ⟨g', 0, none⟩), .int .i64 (D.doOp x.o).2]) ∧ DevIs w' (grow F wx w') g' (D.doOp x.o).1 ∧ Keep F wx w') := fun wx Kx Hx =>
          does_all Hx hok (by omega) (by omega) x.o Hoo.out x.Ab x.Af x.cb x.cf ⟨Hat.out.b.old Kx (fun _ h => h.elim), Hat.out.forms.old Kx (fun _ h => h.elim)⟩ HAF.out
        obtain ⟨D', e', hR⟩ : ∃ D' e', D.doOp x.o = (D', e') := ⟨_, _, rfl⟩
        rw [hR] at hgr hdo hdoes hok'
        simp only at hgr hdoes hok'
        obtain ⟨sv, hsv⟩ : ∃ sv, sv = stv vl vr D := ⟨_, rfl⟩
        have Hsl : Hid (sv.length = 5) := by show _ = _; rw [hsv]; rfl
        rw [← hsv] at BS hdo
        have hxl : Hid (x.cells.length = 4) := opc_length x
        have Hdo := hid hdo
        have Hdoes := hid hdoes
        have Hops : Hid (D'.ops ≤ k + 1 ∧ D'.row.length ≤ k + 1 ∧ D'.row.length ≤ 1099511627776) := hid (by omega)
        have Hok' := hid hok'
        clear hdo hdoes hR hgr hok hops hrow hsv hok'
        go_wp2_with (first
          | (guard_target = wpList _ _ _ (Oper.mk _ (Op.load 36 (Operand.tmp 37)) _ _ _ _ :: _) _ _; refine wpList_load_elem rfl 36 _ rfl 4 ga oa (xs.map OpC.cells) k _ x.cells _ Hr.out (opc_each xs) (by rw [List.length_map]; exact hlt) Hxc.out rfl (by rfl) Try.underlying36 rfl size36 ?_)
          | (guard_target = wpList _ _ _ (Oper.mk _ (Op.alloc 36) _ _ _ _ :: _) _ _; refine wpList_alloc_store rfl 36 rfl 8 _ rfl (by rfl) rfl rfl (by decide) (.agg zop.toArray) x.cells (by rw [hxl.out]; exact info36) zop zop_cells (by rw [hxl.out]; rfl) (by rfl) (opv_one _ _ _ _ _) ?_; intro b8 wp hb8 B8 Kp)
          | (guard_target = wpList _ _ _ (Oper.mk _ (Op.load 30 (Operand.tmp 6)) _ _ _ _ :: _) _ _; refine wpList_load_blk rfl 30 _ rfl b4 0 sv sv 30 _ (by rfl) (BS.keep Kp id) (part0 _) Try.underlying30 rfl (by rw [Hsl.out]; exact info30) ?_)
          | (guard_target = wpList _ _ _ (Oper.mk _ (Op.load 36 (Operand.tmp 8)) _ _ _ _ :: _) _ _; refine wpList_load_blk rfl 36 _ rfl b8 0 x.cells x.cells 36 _ (by rfl) B8 (part0 _) Try.underlying36 rfl (by rw [hxl.out]; exact info36) ?_))
        refine (Hdo.out wp (K04.trans Kp (fun _ _ h => h)) (S4.keep Kp (Dj.noth _))).mono ?_
        rintro e w6 ⟨vl', vr', rfl, S6, K6⟩
        obtain ⟨sv', hsv'⟩ : ∃ sv, sv = stv vl' vr' D' := ⟨_, rfl⟩
        have Hsl' : Hid (sv'.length = 5) := by show _ = _; rw [hsv']; rfl
        have Hs1' : Hid (∀ u ∈ sv', u.oneCell' = true) := by show ∀ u ∈ sv', _; rw [hsv']; exact stv_one D' S6.l.one_val.1 S6.row.one_val.1
        rw [← hsv']
        have Hsv' := hid hsv'
        clear hsv'
        have B86 := B8.keep K6 id
        have B66 := (BS.keep Kp id).keep K6 id
        have hbl : b4 < wr.heap.size := BS.lt
        have hs4 := K04.size
        have hsp := Kp.size
        have hs6 := K6.size
        have h48 : b4 ≠ b8 := by omega
        clear S4 BS B8
        go_wp2_with (first
          | (guard_target = wpList _ _ _ (Oper.mk _ (Op.alloc 30) _ _ _ _ :: _) _ _; refine wpList_alloc_store rfl 30 rfl 9 _ rfl (by rfl) rfl rfl (by decide) zst sv' (by rw [Hsl'.out]; exact info30) stz zst_cells (by rw [Hsl'.out]; rfl) (by rfl) Hs1'.out ?_; intro b9 wb hb9 B9 K6b)
          | (guard_target = wpList _ _ _ (Oper.mk _ (Op.load 30 (Operand.tmp 9)) _ _ _ _ :: _) _ _; refine wpList_load_blk rfl 30 _ rfl b9 0 sv' sv' 30 _ (by rfl) B9 (part0 _) Try.underlying30 rfl (by rw [Hsl'.out]; exact info30) ?_)
          | (guard_target = wpList _ _ _ (Oper.mk _ (Op.store 30 (Operand.tmp 6) _) _ _ _ _ :: _) _ _; refine wpList_store_whole rfl 30 _ _ rfl b4 sv sv' 30 (by rfl) (by rfl) (B66.keep K6b id) (by rw [Hsl'.out, Hsl.out]) (by rw [Hsl'.out]; exact info30) Hs1'.out ?_; intro w7 B7 K7)
          | (guard_target = wpList _ _ _ (Oper.mk _ (Op.load 36 (Operand.tmp 8)) _ _ _ _ :: _) _ _; refine wpList_load_blk rfl 36 _ rfl b8 0 x.cells x.cells 36 _ (by rfl) ((B86.keep K6b id).keep K7 (fun e => h48 e.symm)) (part0 _) Try.underlying36 rfl (by rw [hxl.out]; exact info36) ?_))
        have hs6b := K6b.size
        have Kr7 : Keep (Only b4) wr w7 := (((Kp.trans K6 (fun _ _ h => h)).trans K6b (fun _ _ h => h)).mono (fun _ _ h => h.elim)).trans K7 (fun _ _ h => h)
        have K07 : Keep Noth w w7 := K04.own Kr7 (fun q e => by unfold Only at e; subst e; exact hlow)
        have hFb : Dj F (Only b4) := fun q a e => by unfold Only at e; subst e; exact hbF a
        refine (Hdoes.out w7 K07 (O4.dev.keep Kr7 hFb)).mono ?_
        rintro e w8 ⟨g', rfl, H8, K8⟩
        have S7 := (S6.keep K6b (Dj.noth _)).stay2 (B66.keep K6b id) K7
        have hdj7 : Dj (grow G wp w6) F := fun q c a => by
          rcases c with c | c
          · exact hdj q a c
          · have := O4.dev.lt q a; have := c.1; omega
        have S8 := S7.keep K8 hdj7
        have BS8 := B7.keep K8 hbF
        have hst := st_stands H8 S8 Hok'.out Hops.out.2.2
        rw [← Hsv'.out] at hst
        have HRN := fun wz (Kz : Keep Noth w8 wz) => RowS.next (k := k + 1) O4 hdj hGl hbF hbl hlow K04 Hok'.out Hops.out.1 Hops.out.2.1 Kp S6 K6 K6b (B66.keep K6b id) (Hsv'.out ▸ B7) K7 H8 K8 Kz
        have Hst := hid hst
        have HRN' := hid HRN
        clear hst HRN S7 S8 H8 K8 B7 K7 K07 Kr7 B9 K6b S6 K6 Kp B86 B66 O4 Hdoes Hdo K04 hdj hdj7 hFb
        go_wp2_with (first
          | (guard_target = wpList _ _ _ (Oper.mk _ (Op.load 30 _) _ _ _ _ :: _) _ _; refine wpList_loadw_blk (by rfl) 30 _ rfl b4 0 sv' sv' 30 _ (by rfl) BS8 (part0 _) Try.underlying30 rfl (by rw [Hsl'.out]; exact info30) ?_))
        refine Hst.out.mono ?_
        rintro e wz ⟨rfl, Kz⟩
        have HN := HRN'.out wz Kz
        clear Kz HRN' Hst BS8
        go_wp2_with fail
        go_roundw
        case rel => exact ⟨k + 1, g', D', rfl, by go_num, hlt, HN⟩
        case measure => simp [intOf]; omega
      · have hge : k = xs.length := by omega
        subst hge
        have K04 := HR.kept
        clear HR
        go_wp2_with (go_at_call 16; refine (alive_calls _).mono ?_; rintro e w12 ⟨rfl, K12⟩)
        go_ret
        exact ⟨rfl, K04.trans K12 (fun _ _ h => h)⟩
  · have hbig : few xs ≠ 0 ∨ 20 < count := by omega
    clear hin hS
    rcases hbig with h | h
    · have hpos : 0 < few xs := by have := hfp.1; omega
      clear h hfp
      go_enter Try.func3, Try.ntmps3
      go_wp2_with fail
      refine hfc.mono ?_
      rintro e w1 ⟨rfl, K1⟩
      clear hfc
      go_wp2_with (go_at_call 16; refine (alive_calls _).mono ?_; rintro e w12 ⟨rfl, K12⟩)
      go_ret
      exact ⟨rfl, K1.trans K12 (fun _ _ h => h)⟩
    · by_cases h0 : few xs = 0
      · rw [h0] at hfc
        clear h0 hfp
        go_enter Try.func3, Try.ntmps3
        go_wp2_with fail
        refine hfc.mono ?_
        rintro e w1 ⟨rfl, K1⟩
        clear hfc
        go_wp2_with (go_at_call 16; refine (alive_calls _).mono ?_; rintro e w12 ⟨rfl, K12⟩)
        go_ret
        exact ⟨rfl, K1.trans K12 (fun _ _ h => h)⟩
      · have hpos : 0 < few xs := by have := hfp.1; omega
        clear h0 hfp
        go_enter Try.func3, Try.ntmps3
        go_wp2_with fail
        refine hfc.mono ?_
        rintro e w1 ⟨rfl, K1⟩
        clear hfc
        go_wp2_with (go_at_call 16; refine (alive_calls _).mono ?_; rintro e w12 ⟨rfl, K12⟩)
        go_ret
        exact ⟨rfl, K1.trans K12 (fun _ _ h => h)⟩
end Go.Proofs.Ytffcglfepobdjaa
