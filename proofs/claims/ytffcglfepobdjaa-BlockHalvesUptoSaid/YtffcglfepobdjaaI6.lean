/- The reference's crash: the walk. -/
import Derived.Test.YtffcglfepobdjaaI5
set_option linter.unusedVariables false
set_option linter.unusedSimpArgs false
set_option maxRecDepth 10000
set_option maxHeartbeats 4000000
namespace Go.Proofs.Ytffcglfepobdjaa
open Go.RowKit

section
variable {P : Program} {w : World} {ops : Array Oper} {rest : List Oper} {o : Oper} {a : Act} {Q : Exit → Act → World → Prop}
theorem wpList_slice0_v (hgd : o.guard = none) (T E : TypeId) (size : Nat) (ho : o.op = .buildSlice T 0 #[]) (hT : P.underlying T = some (.slice E)) {i : TypeInfo} (hi : P.info? E = some i)
    (h : ∀ b w1, w.heap.size ≤ b → Rows w1 (fun q => q = b) E size (.slice (some ⟨b, 0, none⟩) 0 0) [] → Keep Noth w w1 → wpList P ops Q rest (a.put o.dst (.slice (some ⟨b, 0, none⟩) 0 0)) w1) : wpList P ops Q (o :: rest) a w :=
  wpList_run hgd _ _ (exec_buildSlice0 T E ho hT hi) (h _ _ (Nat.le_refl _) (Rows.empty w E size) ((Keep.refl _ _).alloc _))
end
theorem wv_byte (p : Nat × Bk) (j : Nat) (h : j < p.2.length) : ∃ y, p.2.getD j 0 = y ∧ (wv p)[1 + j]? = some (.int .u8 (y.toNat : Int)) := by
  refine ⟨p.2[j], by simp [List.getD_eq_getElem?_getD, h], ?_⟩
  rw [Nat.add_comm, wv, List.getElem?_cons_succ]
  simp [bv, u8, h]

structure CrOut (w wx : World) (g5 n c5 b2 b4 : Nat) (SV : List Value) (L : List Bk) : Prop where
  rows : Rows wx (Fresh w wx) 52 64 (.slice (some ⟨g5, 0, none⟩) n c5) (L.map bv)
  blk2 : BlockIs wx b2 SV 30
  blk4 : BlockIs wx b4 stz 30
  kept : Keep Noth w wx
structure CrIn (w wx : World) (g5 n c5 b2 b4 b8 : Nat) (SV : List Value) (p : Nat × Bk) (L : List Bk) : Prop where
  out : CrOut w wx g5 n c5 b2 b4 SV L
  blk8 : BlockIs wx b8 (wv p) 54
theorem CrOut.keep {w wx wy : World} {g5 n c5 b2 b4 : Nat} {SV : List Value} {L : List Bk} (H : CrOut w wx g5 n c5 b2 b4 SV L) (K : Keep Noth wx wy) : CrOut w wy g5 n c5 b2 b4 SV L :=
  ⟨(H.rows.keep K (Dj.noth _)).mono (fun q hq => ⟨hq.1, Nat.lt_of_lt_of_le hq.2 K.size⟩), H.blk2.keep K id, H.blk4.keep K id, H.kept.trans K (fun _ _ h => h)⟩
theorem CrIn.drew {w wx : World} {g5 n c5 b2 b4 b8 : Nat} {SV : List Value} {p : Nat × Bk} {L : List Bk} (H : CrIn w wx g5 n c5 b2 b4 b8 SV p L) : CrIn w wx.drew g5 n c5 b2 b4 b8 SV p L :=
  ⟨H.out.keep ((Keep.refl _ _).drew), H.blk8.drew⟩
theorem CrOut.start {w wx w8 : World} {g5 n c5 b2 b4 b8 : Nat} {SV : List Value} {p : Nat × Bk} {L : List Bk} (H : CrOut w wx g5 n c5 b2 b4 SV L) (f : Nat) (hb8 : wx.heap.size ≤ b8) (B8 : BlockIs w8 b8 (wv p) 54) (K8 : Keep Noth wx w8) (hp : p.1 < L.length) (h64 : (L.getD p.1 []).length = 64) :
    CrIn w w8 g5 n c5 b2 b4 b8 SV p (L.set p.1 (mixJ f 0 (L.getD p.1 []) p.2)) := by
  refine ⟨?_, B8⟩
  have e : L.set p.1 (mixJ f 0 (L.getD p.1 []) p.2) = L := by
    rw [mixJ_zero _ _ _ h64]
    have : L.getD p.1 [] = L[p.1] := by simp [List.getD_eq_getElem?_getD, hp]
    rw [this]; simp
  rw [e]
  exact H.keep K8
theorem CrIn.put {w wx : World} {g5 n c5 b2 b4 b8 : Nat} {SV : List Value} {p : Nat × Bk} {M : List Bk} (H : CrIn w wx g5 n c5 b2 b4 b8 SV p M) (j : Nat) (y : UInt8) (hj : j < 64) (hK : p.1 < M.length) (hM : (M.getD p.1 []).length = 64) :
    CrIn w (wx.setCell ⟨g5, p.1 * 64 + j, none⟩ (.int .u8 (y.toNat : Int))) g5 n c5 b2 b4 b8 SV p (M.set p.1 ((M.getD p.1 []).set j y)) ∧ wx.there g5 (p.1 * 64 + j) 1 := by
  obtain ⟨h1, h2⟩ := H.out.rows.put1 p.1 j y hK hM hj
  have K := (Keep.refl (Only g5) wx).cell (p.1 * 64 + j) (.int .u8 (y.toNat : Int))
  have hn2 : ¬ Only g5 b2 := fun e => H.out.rows.ne H.out.blk2 (by decide) (by unfold Only at e; rw [e]; rfl)
  have hn4 : ¬ Only g5 b4 := fun e => H.out.rows.ne H.out.blk4 (by decide) (by unfold Only at e; rw [e]; rfl)
  have hn8 : ¬ Only g5 b8 := fun e => H.out.rows.ne H.blk8 (by decide) (by unfold Only at e; rw [e]; rfl)
  refine ⟨⟨⟨h1.mono (fun q hq => ⟨hq.1, Nat.lt_of_lt_of_le hq.2 K.size⟩), H.out.blk2.keep K hn2, H.out.blk4.keep K hn4, H.out.kept.own K (fun q e => by unfold Only at e; subst e; exact (H.out.rows.foot q rfl).1)⟩, H.blk8.keep K hn8⟩, h2⟩
theorem CrIn.finish {w wx : World} {g5 n c5 b2 b4 b8 : Nat} {SV : List Value} {p : Nat × Bk} {L0 L : List Bk} {row : List (Nat × Bk)} (fs : List Int) (k : Nat) (hn : crashK fs L0 row (k + 1) = L.set p.1 (mix (formOf fs k) (L.getD p.1 []) p.2)) (f : Nat) (hf : formOf fs k = f) (h64 : (L.getD p.1 []).length = 64) (hp : p.2.length = 64)
    (H : CrIn w wx g5 n c5 b2 b4 b8 SV p (L.set p.1 (mixJ f 64 (L.getD p.1 []) p.2))) : CrOut w wx g5 n c5 b2 b4 SV (crashK fs L0 row (k + 1)) := by
  rw [hn, hf, ← mixJ_all _ _ _ h64 hp]
  exact H.out

theorem crash_post {w wr w9 : World} {g5 n c5 b2 b4 : Nat} {SV : List Value} {D : DS} {fs : List Int} {op : Int} (hop : op = (D.ops : Int)) (HO : CrOut w wr g5 n c5 b2 b4 SV (crashK fs D.l D.row D.row.length)) (K9 : Keep (Only b4) wr w9) (hb : w.heap.size ≤ b4) :
    ∃ vl', Ending.returned (.agg [.slice (some ⟨g5, 0, none⟩) n c5, .slice none 0 0, .int .i64 op, .int .i64 (-1), .bool false].toArray) = .returned (.agg (stv vl' (.slice none 0 0) (D.crash fs)).toArray) ∧ StAt w9 (Fresh w w9) vl' (.slice none 0 0) (D.crash fs) ∧ Keep Noth w w9 := by
  refine ⟨_, by rw [hop]; rfl, ⟨?_, Rows.nil _ _ _ _⟩, HO.kept.own K9 (fun q e => by unfold Only at e; subst e; exact hb)⟩
  exact (HO.rows.stay K9 (fun q hq e => HO.rows.ne HO.blk4 (by decide) (by unfold Only at e; rw [hq, e]))).mono (fun q hq => ⟨hq.1, Nat.lt_of_lt_of_le hq.2 K9.size⟩)

theorem st_crash {w : World} {F : Nat → Prop} {vl vr : Value} {D : DS} (H : StAt w F vl vr D) (hok : D.ok) (hr : D.row.length ≤ 1099511627776) (A : Option Addr) (c : Nat) (fs : List Int) (hA : Reads w A (ints fs)) (hfl : fs.length ≤ 140737488351232) (hfw : ∀ x ∈ fs, -9223372036854775808 ≤ x ∧ x ≤ 9223372036854775807) :
    Calls Try.prog 58 #[.agg (stv vl vr D).toArray, .slice A fs.length c] w (fun e w' => ∃ vl', e = .returned (.agg (stv vl' (.slice none 0 0) (D.crash fs)).toArray) ∧ StAt w' (Fresh w w') vl' (.slice none 0 0) (D.crash fs) ∧ Keep Noth w w') := by
  obtain ⟨Al, cl, rfl⟩ := H.l.valm
  obtain ⟨Ar, cr, rfl⟩ := H.row.valm
  obtain ⟨gl, rfl⟩ := H.l.some_at (by rw [List.length_map]; have := hok.one; omega)
  obtain ⟨n, hn⟩ : ∃ n, n = D.l.length := ⟨_, rfl⟩
  obtain ⟨m, hm⟩ : ∃ n, n = D.row.length := ⟨_, rfl⟩
  obtain ⟨op, hop⟩ : ∃ n : Int, n = (D.ops : Int) := ⟨_, rfl⟩
  obtain ⟨fu, hfu⟩ : ∃ n : Int, n = D.fuse := ⟨_, rfl⟩
  obtain ⟨dn, hdn⟩ : ∃ n : Bool, n = D.down := ⟨_, rfl⟩
  have hst : (stv (.slice (some ⟨gl, 0, none⟩) D.l.length cl) (.slice Ar D.row.length cr) D) = [.slice (some ⟨gl, 0, none⟩) n cl, .slice Ar m cr, .int .i64 op, .int .i64 fu, .bool dn] := by rw [hn, hm, hop, hfu, hdn]; rfl
  rw [hst]
  have HR := hid H
  have HA := hid hA
  have Hn := hid hn
  have Hm := hid hm
  have Hop := hid hop
  have hflI : (fs.length : Int) ≤ 140737488351232 := by omega
  have Hfw := hid hfw
  have hm1 : (m : Int) ≤ 1099511627776 := by omega
  have hmost := hok.most
  obtain ⟨i52, hi52, -⟩ := info_parts info52
  have Hi52 := hid hi52
  clear hst hn hm hop hfu hdn H hA hfw hi52
  go_enter Try.func58, Try.ntmps58
  go_wp2_with (first
    | (guard_target = wpList _ _ _ (Oper.mk _ (Op.box 30 _) _ _ _ _ :: _) _ _; refine wpList_box_v rfl 30 _ rfl [.slice (some ⟨gl, 0, none⟩) n cl, .slice Ar m cr, .int .i64 op, .int .i64 fu, .bool dn] (by rfl) ?_; intro b2 w1 hb2 B1 K1)
    | (guard_target = wpList _ _ _ (Oper.mk _ (Op.alloc 30) _ _ _ _ :: _) _ _; refine wpList_alloc_v rfl 30 rfl zst info30 stz zst_cells ?_; intro b4 w2 hb4 D2 K2; have B2 := B1.keep K2 id)
    | (guard_target = wpList _ _ _ (Oper.mk _ (Op.buildSlice _ _ _) _ _ _ _ :: _) _ _; refine wpList_slice0_v rfl 27 52 64 rfl sl27 Hi52.out ?_; intro b3 w3 hb3 R3 K3; have B3 := B2.keep K3 id; have D3 := D2.keep K3 id; have s0 := B3.cell 0; simp only [List.getElem?_cons_zero] at s0; have K03 := (K1.trans K2 (fun _ _ h => h)).trans K3 (fun _ _ h => h); have HL3 := (HR.out.keep K03 (Dj.noth _)).l; rw [← Hn.out] at HL3)
    | (at_builtin; refine wpList_append_rows rfl _ _ 27 rfl 52 zv 64 64 sl27 info52 zv_size (by decide) (by decide) _ _ [] (D.l.map bv) (by rfl) R3 (some ⟨gl, 0, none⟩) n cl (by rfl) (by rw [List.length_map, Hn.out]) (fun h => by cases h) HL3.each (rd_of_own HL3) bvs_one (by have := Hn.out; simp only [List.length_nil]; omega) ?_; intro v5 w5 R5 K5))
  rw [List.nil_append] at R5
  obtain ⟨A5, c5, hv5⟩ := R5.valm
  subst hv5
  obtain ⟨g5, rfl⟩ := R5.some_at (by rw [List.length_map]; have := hok.one; omega)
  have h1s := K1.size
  have h2s := K2.size
  have h3s := K3.size
  have h5s := K5.size
  have d5 : ∀ q, (Value.slice (some ⟨b3, 0, none⟩) 0 0).ownBlock = some q → q = b3 := fun q hq => by simp only [Value.ownBlock, Option.some.injEq] at hq; exact hq.symm
  have HO0 : CrOut w w5 g5 n c5 b2 b4 [.slice (some ⟨gl, 0, none⟩) n cl, .slice Ar m cr, .int .i64 op, .int .i64 fu, .bool dn] (crashK fs D.l D.row 0) := by
    rw [← Hn.out] at R5
    refine ⟨R5.mono (fun q hq => ?_), B3.keep K5 (fun e => by have := d5 _ e; have := B2.lt; omega), D3.keep K5 (fun e => by have := d5 _ e; have := D2.lt; omega), K03.own K5 (fun q e => by have := d5 _ e; omega)⟩
    rcases hq with hq | hq
    · have := d5 q hq; have := R3.own.lt b3 rfl; exact ⟨by omega, by omega⟩
    · exact ⟨by omega, hq.2⟩
  have hb4w : w.heap.size ≤ b4 := by omega
  rw [← Hn.out]
  clear R5 R3 B1 B2 B3 D2 D3 K1 K2 K3 K5 s0 HL3 K03 d5 h1s h2s h3s h5s
  go_loopw [6] (fun i wr => ∃ k : Nat, i = .int .i64 k ∧ k ≤ m ∧ CrOut w wr g5 n c5 b2 b4 [.slice (some ⟨gl, 0, none⟩) n cl, .slice Ar m cr, .int .i64 op, .int .i64 fu, .bool dn] (crashK fs D.l D.row k)) (fun i _ => m - (intOf i).toNat)
  case atStart => exact ⟨0, rfl, Nat.zero_le _, HO0⟩
  case round =>
    obtain ⟨k, rfl, hkm, HO⟩ := hrel
    clear HO0
    have c0 := HO.blk2.cell 0
    have c1 := HO.blk2.cell 1
    simp only [List.getElem?_cons_zero, List.getElem?_cons_succ] at c0 c1
    by_cases hlt' : k < m
    case neg =>
      have hge : k = m := by omega
      subst hge
      have c2 := HO.blk2.cell 2
      simp only [List.getElem?_cons_zero, List.getElem?_cons_succ] at c2
      go_wp2_with (first
        | (guard_target = wpList _ _ _ (Oper.mk _ (Op.build _ _) _ _ _ _ :: _) _ _; refine wpList_run rfl _ _ (exec_build30c _ _ rfl (some ⟨g5, 0, none⟩) n c5 op (by rfl) (by rfl)) ?_)
        | (guard_target = wpList _ _ _ (Oper.mk _ (Op.store 30 _ _) _ _ _ _ :: _) _ _; refine wpList_store_whole rfl 30 _ _ rfl b4 stz [.slice (some ⟨g5, 0, none⟩) n c5, .slice none 0 0, .int .i64 op, .int .i64 (-1), .bool false] 30 (by rfl) (by rfl) HO.blk4 (by rfl) info30 (st5_one rfl rfl _ _ _) ?_; intro w9 D9 K9))
      refine ret_cell rfl b4 _ 30 _ (by rfl) D9 Try.underlying30 rfl info30 rfl ?_
      exact crash_post Hop.out (Hm.out ▸ HO) K9 hb4w
    have hlt : k < D.row.length := by rw [← Hm.out]; exact hlt'
    have hltI : (k : Int) < m := by omega
    obtain ⟨gr, rfl⟩ := HR.out.row.some_at (by rw [List.length_map]; omega)
    obtain ⟨p, hpk⟩ : ∃ p, p = D.row[k] := ⟨_, rfl⟩
    have hp := hok.row64 D.row[k] (List.getElem_mem hlt)
    rw [← hpk] at hp
    obtain ⟨L, hL⟩ : ∃ L, L = crashK fs D.l D.row k := ⟨_, rfl⟩
    have hnx : crashK fs D.l D.row (k + 1) = L.set p.1 (mix (formOf fs k) (L.getD p.1 []) p.2) := by
      rw [hL, hpk]; simp [crashK, crash1, List.getD_eq_getElem?_getD, hlt]
    have hLl : L.length = n := by rw [hL, crashK_length, Hn.out]
    have hpn : p.1 < n := by rw [Hn.out]; exact hp.1
    have hpnI : (p.1 : Int) < n := by omega
    have hL64 : (L.getD p.1 []).length = 64 := by
      have h2 : p.1 < L.length := by omega
      rw [List.getD_eq_getElem?_getD, List.getElem?_eq_getElem h2]
      exact crashK_64 fs hok.l64 hok.row64 k (by omega) _ (hL ▸ List.getElem_mem h2)
    have HpL : Hid (p.1 < L.length) := by show _ < _; omega
    have H64L := hid hL64
    have Hp64 : Hid (p.2.length = 64) := hid hp.2
    have Hw65 : Hid ((wv p).length = 65) := by show _ = _; simp [wv, hp.2]
    have Hpk : Hid ((D.row.map wv)[k]'(by rw [List.length_map]; exact hlt) = wv p) := by show _ = _; rw [List.getElem_map, hpk]
    have Hnext := hid hnx
    have Hrows : Hid (Rows wr F 54 65 (.slice (some ⟨gr, 0, none⟩) m cr) (D.row.map wv)) := by
      have := (HR.out.keep HO.kept (Dj.noth _)).row
      rw [← Hm.out] at this
      exact this
    rw [← hL] at HO
    clear hpk hp hnx hL hLl hL64 hpn
    by_cases hf0 : fs.length = 0
    · have HFm : Hid (formOf fs k = 0) := by show _ = _; unfold formOf; rw [if_pos hf0]
      have hfz : ¬ (0 : Int) < fs.length := by omega
      clear hf0
      go_wp2_with (first
        | (guard_target = wpList _ _ _ (Oper.mk _ (Op.load 54 _) _ _ _ _ :: _) _ _; refine wpList_load_row' rfl 54 _ rfl F 54 65 gr m cr (D.row.map wv) k _ (wv p) _ Hrows.out (by rw [List.length_map]; exact hlt) Hpk.out rfl (by rfl) Try.underlying54 rfl info54 ?_)
        | (guard_target = wpList _ _ _ (Oper.mk _ (Op.alloc 54) _ _ _ _ :: _) _ _; refine wpList_alloc_store rfl 54 rfl 8 _ rfl (by rfl) rfl rfl (by decide) zw (wv p) (by rw [Hw65.out]; exact info54) (wv (0, zb)) zw_cells (Hw65.out.trans wv0_length.symm) (by rfl) (wv_one _) ?_; intro b8 w8 hb8 B8 K8))
      have HI0 : CrIn w w8 g5 n c5 b2 b4 b8 [.slice (some ⟨gl, 0, none⟩) n cl, .slice (some ⟨gr, 0, none⟩) m cr, .int .i64 op, .int .i64 fu, .bool dn] p (L.set p.1 (mixJ 0 0 (L.getD p.1 []) p.2)) := HO.start 0 hb8 B8 K8 HpL.out H64L.out
      clear HO B8 K8 c0 c1 hfz
      go_loopw [9] (fun i wx => ∃ j : Nat, i = .int .i64 j ∧ j ≤ 64 ∧ CrIn w wx g5 n c5 b2 b4 b8 [.slice (some ⟨gl, 0, none⟩) n cl, .slice (some ⟨gr, 0, none⟩) m cr, .int .i64 op, .int .i64 fu, .bool dn] p (L.set p.1 (mixJ 0 j (L.getD p.1 []) p.2))) (fun i _ => 64 - (intOf i).toNat)
      case atStart => exact ⟨0, rfl, Nat.zero_le _, HI0⟩
      case round =>
        obtain ⟨j, rfl, hj, HI⟩ := hrel
        clear HI0
        by_cases h64j : j < 64
        · have hj64 : (j : Int) < 64 := by omega
          obtain ⟨y, hyd, hy⟩ := wv_byte p j (by rw [Hp64.out]; exact h64j)
          have Hy := hid hy
          have Hyd := hid hyd
          clear hy hyd
          have Hskip : Hid (L.set p.1 (mixJ 0 (j + 1) (L.getD p.1 []) p.2) = L.set p.1 (mixJ 0 j (L.getD p.1 []) p.2)) := by
            show _ = _
            rw [mixJ_no _ _ _ _ (by unfold takes; omega)]
          have HI' := HI
          rw [← Hskip.out] at HI'
          clear HI
          go_wp2_with fail
          go_roundw
          case rel => exact ⟨j + 1, by go_num, h64j, HI'⟩
          case measure => simp [intOf]; omega
        · have hge : j = 64 := by omega
          subst hge
          have HN := HI.finish fs k Hnext.out 0 HFm.out H64L.out Hp64.out
          clear HI
          go_wp2_with fail
          go_roundw
          case rel => exact ⟨k + 1, by go_num, hlt', HN⟩
          case measure => simp [intOf]; omega
    · have hf0' : (0 : Int) < fs.length := by omega
      have hmod : k % fs.length < fs.length := Nat.mod_lt _ (by omega)
      obtain ⟨ad, rfl, -⟩ := HA.out 0 (.int .i64 fs[0]) (by simp [ints, show 0 < fs.length by omega])
      obtain ⟨x, hx⟩ : ∃ x, x = fs[k % fs.length] := ⟨_, rfl⟩
      have hxb := Hfw.out x (by rw [hx]; exact List.getElem_mem _)
      have hxl := hxb.1
      have hxu := hxb.2
      have hfm : formOf fs k = ((max x 0) % 4).toNat := by unfold formOf; rw [if_neg hf0, hx]; simp [List.getD_eq_getElem?_getD, hmod]
      have hcA : wr.cell? (ad.add (k % fs.length)) = some (.int .i64 x) := by
        obtain ⟨ad', e, hc⟩ := (HA.out.keep HO.kept (fun _ _ => id)) (k % fs.length) (.int .i64 x) (by simp [ints, hmod, hx])
        injection e with e
        subst e
        exact hc
      have Hf := hid hfm
      have hmod0 : (0 : Int) ≤ (k : Int) % (fs.length : Int) := Int.emod_nonneg _ (by omega)
      have hmod1 : (k : Int) % (fs.length : Int) < (fs.length : Int) := Int.emod_lt_of_pos _ (by omega)
      clear hx hxb hfm hf0
      by_cases hneg : x ≤ 0
      · have HFm : Hid (formOf fs k = 0) := by show _ = _; rw [Hf.out]; omega
        have hnp : ¬ 0 < x := by omega
        clear hneg
        go_wp2_with (first
          | (guard_target = wpList _ _ _ (Oper.mk _ (Op.load 54 _) _ _ _ _ :: _) _ _; refine wpList_load_row' rfl 54 _ rfl F 54 65 gr m cr (D.row.map wv) k _ (wv p) _ Hrows.out (by rw [List.length_map]; exact hlt) Hpk.out rfl (by rfl) Try.underlying54 rfl info54 ?_)
          | (guard_target = wpList _ _ _ (Oper.mk _ (Op.alloc 54) _ _ _ _ :: _) _ _; refine wpList_alloc_store rfl 54 rfl 8 _ rfl (by rfl) rfl rfl (by decide) zw (wv p) (by rw [Hw65.out]; exact info54) (wv (0, zb)) zw_cells (Hw65.out.trans wv0_length.symm) (by rfl) (wv_one _) ?_; intro b8 w8 hb8 B8 K8))
        have HI0 : CrIn w w8 g5 n c5 b2 b4 b8 [.slice (some ⟨gl, 0, none⟩) n cl, .slice (some ⟨gr, 0, none⟩) m cr, .int .i64 op, .int .i64 fu, .bool dn] p (L.set p.1 (mixJ 0 0 (L.getD p.1 []) p.2)) := HO.start 0 hb8 B8 K8 HpL.out H64L.out
        clear HO B8 K8 c0 c1 hnp hcA
        go_loopw [9] (fun i wx => ∃ j : Nat, i = .int .i64 j ∧ j ≤ 64 ∧ CrIn w wx g5 n c5 b2 b4 b8 [.slice (some ⟨gl, 0, none⟩) n cl, .slice (some ⟨gr, 0, none⟩) m cr, .int .i64 op, .int .i64 fu, .bool dn] p (L.set p.1 (mixJ 0 j (L.getD p.1 []) p.2))) (fun i _ => 64 - (intOf i).toNat)
        case atStart => exact ⟨0, rfl, Nat.zero_le _, HI0⟩
        case round =>
          obtain ⟨j, rfl, hj, HI⟩ := hrel
          clear HI0
          by_cases h64j : j < 64
          · have hj64 : (j : Int) < 64 := by omega
            obtain ⟨y, hyd, hy⟩ := wv_byte p j (by rw [Hp64.out]; exact h64j)
            have Hy := hid hy
            have Hyd := hid hyd
            clear hy hyd
            have Hskip : Hid (L.set p.1 (mixJ 0 (j + 1) (L.getD p.1 []) p.2) = L.set p.1 (mixJ 0 j (L.getD p.1 []) p.2)) := by
              show _ = _
              rw [mixJ_no _ _ _ _ (by unfold takes; omega)]
            have HI' := HI
            rw [← Hskip.out] at HI'
            clear HI
            go_wp2_with fail
            go_roundw
            case rel => exact ⟨j + 1, by go_num, h64j, HI'⟩
            case measure => simp [intOf]; omega
          · have hge : j = 64 := by omega
            subst hge
            have HN := HI.finish fs k Hnext.out 0 HFm.out H64L.out Hp64.out
            clear HI
            go_wp2_with fail
            go_roundw
            case rel => exact ⟨k + 1, by go_num, hlt', HN⟩
            case measure => simp [intOf]; omega
      · have hpos : 0 < x := by omega
        have hpos0 : 0 ≤ x := by omega
        have h4 : x % 4 = 0 ∨ x % 4 = 1 ∨ x % 4 = 2 ∨ x % 4 = 3 := by omega
        clear hneg
        rcases h4 with h4 | h4 | h4 | h4
        · have HFm : Hid (formOf fs k = 0) := by show _ = _; rw [Hf.out]; omega
          have hb1 : (x % 4 == 1) = false := by rw [h4]; rfl
          have hb2 : (x % 4 == 2) = false := by rw [h4]; rfl
          have hb3 : (x % 4 == 3) = false := by rw [h4]; rfl
          clear h4
          go_wp2_with (first
            | (guard_target = wpList _ _ _ (Oper.mk _ (Op.load 54 _) _ _ _ _ :: _) _ _; refine wpList_load_row' rfl 54 _ rfl F 54 65 gr m cr (D.row.map wv) k _ (wv p) _ Hrows.out (by rw [List.length_map]; exact hlt) Hpk.out rfl (by rfl) Try.underlying54 rfl info54 ?_)
            | (guard_target = wpList _ _ _ (Oper.mk _ (Op.alloc 54) _ _ _ _ :: _) _ _; refine wpList_alloc_store rfl 54 rfl 8 _ rfl (by rfl) rfl rfl (by decide) zw (wv p) (by rw [Hw65.out]; exact info54) (wv (0, zb)) zw_cells (Hw65.out.trans wv0_length.symm) (by rfl) (wv_one _) ?_; intro b8 w8 hb8 B8 K8))
          have HI0 : CrIn w w8 g5 n c5 b2 b4 b8 [.slice (some ⟨gl, 0, none⟩) n cl, .slice (some ⟨gr, 0, none⟩) m cr, .int .i64 op, .int .i64 fu, .bool dn] p (L.set p.1 (mixJ 0 0 (L.getD p.1 []) p.2)) := HO.start 0 hb8 B8 K8 HpL.out H64L.out
          clear HO B8 K8 c0 c1 hcA
          go_loopw [9] (fun i wx => ∃ j : Nat, i = .int .i64 j ∧ j ≤ 64 ∧ CrIn w wx g5 n c5 b2 b4 b8 [.slice (some ⟨gl, 0, none⟩) n cl, .slice (some ⟨gr, 0, none⟩) m cr, .int .i64 op, .int .i64 fu, .bool dn] p (L.set p.1 (mixJ 0 j (L.getD p.1 []) p.2))) (fun i _ => 64 - (intOf i).toNat)
          case atStart => exact ⟨0, rfl, Nat.zero_le _, HI0⟩
          case round =>
            obtain ⟨j, rfl, hj, HI⟩ := hrel
            clear HI0
            by_cases h64j : j < 64
            · have hj64 : (j : Int) < 64 := by omega
              obtain ⟨y, hyd, hy⟩ := wv_byte p j (by rw [Hp64.out]; exact h64j)
              have Hy := hid hy
              have Hyd := hid hyd
              clear hy hyd
              have Hskip : Hid (L.set p.1 (mixJ 0 (j + 1) (L.getD p.1 []) p.2) = L.set p.1 (mixJ 0 j (L.getD p.1 []) p.2)) := by
                show _ = _
                rw [mixJ_no _ _ _ _ (by unfold takes; omega)]
              have HI' := HI
              rw [← Hskip.out] at HI'
              clear HI
              go_wp2_with fail
              go_roundw
              case rel => exact ⟨j + 1, by go_num, h64j, HI'⟩
              case measure => simp [intOf]; omega
            · have hge : j = 64 := by omega
              subst hge
              have HN := HI.finish fs k Hnext.out 0 HFm.out H64L.out Hp64.out
              clear HI
              go_wp2_with fail
              go_roundw
              case rel => exact ⟨k + 1, by go_num, hlt', HN⟩
              case measure => simp [intOf]; omega
        · have HFm : Hid (formOf fs k = 1) := by show _ = _; rw [Hf.out]; omega
          have hb1 : (x % 4 == 1) = true := by rw [h4]; rfl
          have hb2 : (x % 4 == 2) = false := by rw [h4]; rfl
          have hb3 : (x % 4 == 3) = false := by rw [h4]; rfl
          clear h4
          go_wp2_with (first
            | (guard_target = wpList _ _ _ (Oper.mk _ (Op.load 54 _) _ _ _ _ :: _) _ _; refine wpList_load_row' rfl 54 _ rfl F 54 65 gr m cr (D.row.map wv) k _ (wv p) _ Hrows.out (by rw [List.length_map]; exact hlt) Hpk.out rfl (by rfl) Try.underlying54 rfl info54 ?_)
            | (guard_target = wpList _ _ _ (Oper.mk _ (Op.alloc 54) _ _ _ _ :: _) _ _; refine wpList_alloc_store rfl 54 rfl 8 _ rfl (by rfl) rfl rfl (by decide) zw (wv p) (by rw [Hw65.out]; exact info54) (wv (0, zb)) zw_cells (Hw65.out.trans wv0_length.symm) (by rfl) (wv_one _) ?_; intro b8 w8 hb8 B8 K8))
          have HI0 : CrIn w w8 g5 n c5 b2 b4 b8 [.slice (some ⟨gl, 0, none⟩) n cl, .slice (some ⟨gr, 0, none⟩) m cr, .int .i64 op, .int .i64 fu, .bool dn] p (L.set p.1 (mixJ 1 0 (L.getD p.1 []) p.2)) := HO.start 1 hb8 B8 K8 HpL.out H64L.out
          clear HO B8 K8 c0 c1 hcA
          go_loopw [9] (fun i wx => ∃ j : Nat, i = .int .i64 j ∧ j ≤ 64 ∧ CrIn w wx g5 n c5 b2 b4 b8 [.slice (some ⟨gl, 0, none⟩) n cl, .slice (some ⟨gr, 0, none⟩) m cr, .int .i64 op, .int .i64 fu, .bool dn] p (L.set p.1 (mixJ 1 j (L.getD p.1 []) p.2))) (fun i _ => 64 - (intOf i).toNat)
          case atStart => exact ⟨0, rfl, Nat.zero_le _, HI0⟩
          case round =>
            obtain ⟨j, rfl, hj, HI⟩ := hrel
            clear HI0
            by_cases h64j : j < 64
            · have hj64 : (j : Int) < 64 := by omega
              obtain ⟨y, hyd, hy⟩ := wv_byte p j (by rw [Hp64.out]; exact h64j)
              have Hy := hid hy
              have Hyd := hid hyd
              clear hy hyd
              have ht : takes 1 j := .inl rfl
              have Hset : Hid (((L.set p.1 (mixJ 1 j (L.getD p.1 []) p.2)).set p.1 (((L.set p.1 (mixJ 1 j (L.getD p.1 []) p.2)).getD p.1 []).set j y)) = L.set p.1 (mixJ 1 (j + 1) (L.getD p.1 []) p.2)) := by
                show _ = _
                rw [List.set_set, getD_set_same HpL.out, mixJ_yes _ _ _ _ h64j ht, Hyd.out]
              have HM : Hid (((L.set p.1 (mixJ 1 j (L.getD p.1 []) p.2)).getD p.1 []).length = 64) := by
                show _ = _
                rw [getD_set_same HpL.out, mixJ_length]
              have Hpn : Hid (p.1 < (L.set p.1 (mixJ 1 j (L.getD p.1 []) p.2)).length) := by
                show _ < _
                rw [List.length_set]; exact HpL.out
              clear ht
              go_wp2_with fail
              refine wp_region_ordL [(0, true), (1, true), (2, true), (3, true), (4, true), (5, true), (6, true), (7, true), (8, true), (9, true), (10, false)] (fun w' => BlockIs w' b8 (wv p) 54) follows_mixed (by kernel_rfl) HI.blk8.drew ?_
              simp only [List.map_cons, List.map_nil, List.getElem?_cons_succ, List.getElem?_cons_zero, Option.getD_some]
              refine wpO_pure (v := .slice (some ⟨g5, 0, none⟩) n c5) (by rfl) (fun w' hw' => by rfl) ?_
              go_frame
              refine wpO_pure (v := .pointer (some ⟨b8, 0, none⟩)) (by rfl) (fun w' hw' => by go_simp) ?_
              go_frame
              refine wpO_pure (v := .int .i64 (p.1 : Int)) (by rfl) (fun w' hw' => by have hc := hw'.cell 0; simp only [wv, List.getElem?_cons_zero] at hc; go_simp) ?_
              go_frame
              refine wpO_pure (v := .int .i64 (j : Int)) (by rfl) (fun w' hw' => by rfl) ?_
              go_frame
              refine wpO_pure (v := .int .i64 (j : Int)) (by rfl) (fun w' hw' => by rfl) ?_
              go_frame
              refine wpO_pure (v := .pointer (some ⟨b8, 1, none⟩)) (by rfl) (fun w' hw' => by go_simp) ?_
              go_frame
              refine wpO_pure (v := .pointer (some ⟨b8, 1 + j, none⟩)) (by rfl) (fun w' hw' => by go_simp) ?_
              go_frame
              refine wpO_pure (v := .int .u8 (y.toNat : Int)) (by rfl) (fun w' hw' => by have hc : w'.cell? ⟨b8, 1 + j, none⟩ = some (.int .u8 (y.toNat : Int)) := (hw'.cell (1 + j)).trans Hy.out; go_simp) ?_
              go_frame
              refine wpO_pure (v := .pointer (some ⟨g5, p.1 * 64, none⟩)) (by rfl) (fun w' hw' => by go_simp) ?_
              go_frame
              refine wpO_pure (v := .pointer (some ⟨g5, p.1 * 64 + j, none⟩)) (by rfl) (fun w' hw' => by go_simp) ?_
              go_frame
              have HP := HI.drew.put j y h64j Hpn.out HM.out
              refine wpO_store (by rfl) (exec_store1 5 _ _ rfl g5 (p.1 * 64 + j) (.int .u8 (y.toNat : Int)) (by simp [Act.eval]) (by simp [Act.eval]) HP.2 rfl rfl info5') (.inl rfl) ?_
              refine wpO_nil ?_
              have HP1 := HP.1
              rw [Hset.out] at HP1
              clear HP HI
              go_frame
              go_wp2_with fail
              go_roundw
              case rel => exact ⟨j + 1, by go_num, h64j, HP1⟩
              case measure => simp [intOf]; omega
            · have hge : j = 64 := by omega
              subst hge
              have HN := HI.finish fs k Hnext.out 1 HFm.out H64L.out Hp64.out
              clear HI
              go_wp2_with fail
              go_roundw
              case rel => exact ⟨k + 1, by go_num, hlt', HN⟩
              case measure => simp [intOf]; omega
        · have HFm : Hid (formOf fs k = 2) := by show _ = _; rw [Hf.out]; omega
          have hb1 : (x % 4 == 1) = false := by rw [h4]; rfl
          have hb2 : (x % 4 == 2) = true := by rw [h4]; rfl
          have hb3 : (x % 4 == 3) = false := by rw [h4]; rfl
          clear h4
          go_wp2_with (first
            | (guard_target = wpList _ _ _ (Oper.mk _ (Op.load 54 _) _ _ _ _ :: _) _ _; refine wpList_load_row' rfl 54 _ rfl F 54 65 gr m cr (D.row.map wv) k _ (wv p) _ Hrows.out (by rw [List.length_map]; exact hlt) Hpk.out rfl (by rfl) Try.underlying54 rfl info54 ?_)
            | (guard_target = wpList _ _ _ (Oper.mk _ (Op.alloc 54) _ _ _ _ :: _) _ _; refine wpList_alloc_store rfl 54 rfl 8 _ rfl (by rfl) rfl rfl (by decide) zw (wv p) (by rw [Hw65.out]; exact info54) (wv (0, zb)) zw_cells (Hw65.out.trans wv0_length.symm) (by rfl) (wv_one _) ?_; intro b8 w8 hb8 B8 K8))
          have HI0 : CrIn w w8 g5 n c5 b2 b4 b8 [.slice (some ⟨gl, 0, none⟩) n cl, .slice (some ⟨gr, 0, none⟩) m cr, .int .i64 op, .int .i64 fu, .bool dn] p (L.set p.1 (mixJ 2 0 (L.getD p.1 []) p.2)) := HO.start 2 hb8 B8 K8 HpL.out H64L.out
          clear HO B8 K8 c0 c1 hcA
          go_loopw [9] (fun i wx => ∃ j : Nat, i = .int .i64 j ∧ j ≤ 64 ∧ CrIn w wx g5 n c5 b2 b4 b8 [.slice (some ⟨gl, 0, none⟩) n cl, .slice (some ⟨gr, 0, none⟩) m cr, .int .i64 op, .int .i64 fu, .bool dn] p (L.set p.1 (mixJ 2 j (L.getD p.1 []) p.2))) (fun i _ => 64 - (intOf i).toNat)
          case atStart => exact ⟨0, rfl, Nat.zero_le _, HI0⟩
          case round =>
            obtain ⟨j, rfl, hj, HI⟩ := hrel
            clear HI0
            by_cases h64j : j < 64
            · have hj64 : (j : Int) < 64 := by omega
              obtain ⟨y, hyd, hy⟩ := wv_byte p j (by rw [Hp64.out]; exact h64j)
              have Hy := hid hy
              have Hyd := hid hyd
              clear hy hyd
              by_cases h32 : (j : Int) < 32
              · have h32n : j < 32 := by omega
                have ht : takes 2 j := by unfold takes; omega
                have Hset : Hid (((L.set p.1 (mixJ 2 j (L.getD p.1 []) p.2)).set p.1 (((L.set p.1 (mixJ 2 j (L.getD p.1 []) p.2)).getD p.1 []).set j y)) = L.set p.1 (mixJ 2 (j + 1) (L.getD p.1 []) p.2)) := by
                  show _ = _
                  rw [List.set_set, getD_set_same HpL.out, mixJ_yes _ _ _ _ h64j ht, Hyd.out]
                have HM : Hid (((L.set p.1 (mixJ 2 j (L.getD p.1 []) p.2)).getD p.1 []).length = 64) := by
                  show _ = _
                  rw [getD_set_same HpL.out, mixJ_length]
                have Hpn : Hid (p.1 < (L.set p.1 (mixJ 2 j (L.getD p.1 []) p.2)).length) := by
                  show _ < _
                  rw [List.length_set]; exact HpL.out
                clear ht
                go_wp2_with fail
                refine wp_region_ordL [(0, true), (1, true), (2, true), (3, true), (4, true), (5, true), (6, true), (7, true), (8, true), (9, true), (10, false)] (fun w' => BlockIs w' b8 (wv p) 54) follows_mixed (by kernel_rfl) HI.blk8.drew ?_
                simp only [List.map_cons, List.map_nil, List.getElem?_cons_succ, List.getElem?_cons_zero, Option.getD_some]
                refine wpO_pure (v := .slice (some ⟨g5, 0, none⟩) n c5) (by rfl) (fun w' hw' => by rfl) ?_
                go_frame
                refine wpO_pure (v := .pointer (some ⟨b8, 0, none⟩)) (by rfl) (fun w' hw' => by go_simp) ?_
                go_frame
                refine wpO_pure (v := .int .i64 (p.1 : Int)) (by rfl) (fun w' hw' => by have hc := hw'.cell 0; simp only [wv, List.getElem?_cons_zero] at hc; go_simp) ?_
                go_frame
                refine wpO_pure (v := .int .i64 (j : Int)) (by rfl) (fun w' hw' => by rfl) ?_
                go_frame
                refine wpO_pure (v := .int .i64 (j : Int)) (by rfl) (fun w' hw' => by rfl) ?_
                go_frame
                refine wpO_pure (v := .pointer (some ⟨b8, 1, none⟩)) (by rfl) (fun w' hw' => by go_simp) ?_
                go_frame
                refine wpO_pure (v := .pointer (some ⟨b8, 1 + j, none⟩)) (by rfl) (fun w' hw' => by go_simp) ?_
                go_frame
                refine wpO_pure (v := .int .u8 (y.toNat : Int)) (by rfl) (fun w' hw' => by have hc : w'.cell? ⟨b8, 1 + j, none⟩ = some (.int .u8 (y.toNat : Int)) := (hw'.cell (1 + j)).trans Hy.out; go_simp) ?_
                go_frame
                refine wpO_pure (v := .pointer (some ⟨g5, p.1 * 64, none⟩)) (by rfl) (fun w' hw' => by go_simp) ?_
                go_frame
                refine wpO_pure (v := .pointer (some ⟨g5, p.1 * 64 + j, none⟩)) (by rfl) (fun w' hw' => by go_simp) ?_
                go_frame
                have HP := HI.drew.put j y h64j Hpn.out HM.out
                refine wpO_store (by rfl) (exec_store1 5 _ _ rfl g5 (p.1 * 64 + j) (.int .u8 (y.toNat : Int)) (by simp [Act.eval]) (by simp [Act.eval]) HP.2 rfl rfl info5') (.inl rfl) ?_
                refine wpO_nil ?_
                have HP1 := HP.1
                rw [Hset.out] at HP1
                clear HP HI
                go_frame
                go_wp2_with fail
                go_roundw
                case rel => exact ⟨j + 1, by go_num, h64j, HP1⟩
                case measure => simp [intOf]; omega
              · have h32n : ¬ j < 32 := by omega
                have Hskip : Hid (L.set p.1 (mixJ 2 (j + 1) (L.getD p.1 []) p.2) = L.set p.1 (mixJ 2 j (L.getD p.1 []) p.2)) := by
                  show _ = _
                  rw [mixJ_no _ _ _ _ (by unfold takes; omega)]
                have HI' := HI
                rw [← Hskip.out] at HI'
                clear HI
                go_wp2_with fail
                go_roundw
                case rel => exact ⟨j + 1, by go_num, h64j, HI'⟩
                case measure => simp [intOf]; omega
            · have hge : j = 64 := by omega
              subst hge
              have HN := HI.finish fs k Hnext.out 2 HFm.out H64L.out Hp64.out
              clear HI
              go_wp2_with fail
              go_roundw
              case rel => exact ⟨k + 1, by go_num, hlt', HN⟩
              case measure => simp [intOf]; omega
        · have HFm : Hid (formOf fs k = 3) := by show _ = _; rw [Hf.out]; omega
          have hb1 : (x % 4 == 1) = false := by rw [h4]; rfl
          have hb2 : (x % 4 == 2) = false := by rw [h4]; rfl
          have hb3 : (x % 4 == 3) = true := by rw [h4]; rfl
          clear h4
          go_wp2_with (first
            | (guard_target = wpList _ _ _ (Oper.mk _ (Op.load 54 _) _ _ _ _ :: _) _ _; refine wpList_load_row' rfl 54 _ rfl F 54 65 gr m cr (D.row.map wv) k _ (wv p) _ Hrows.out (by rw [List.length_map]; exact hlt) Hpk.out rfl (by rfl) Try.underlying54 rfl info54 ?_)
            | (guard_target = wpList _ _ _ (Oper.mk _ (Op.alloc 54) _ _ _ _ :: _) _ _; refine wpList_alloc_store rfl 54 rfl 8 _ rfl (by rfl) rfl rfl (by decide) zw (wv p) (by rw [Hw65.out]; exact info54) (wv (0, zb)) zw_cells (Hw65.out.trans wv0_length.symm) (by rfl) (wv_one _) ?_; intro b8 w8 hb8 B8 K8))
          have HI0 : CrIn w w8 g5 n c5 b2 b4 b8 [.slice (some ⟨gl, 0, none⟩) n cl, .slice (some ⟨gr, 0, none⟩) m cr, .int .i64 op, .int .i64 fu, .bool dn] p (L.set p.1 (mixJ 3 0 (L.getD p.1 []) p.2)) := HO.start 3 hb8 B8 K8 HpL.out H64L.out
          clear HO B8 K8 c0 c1 hcA
          go_loopw [9] (fun i wx => ∃ j : Nat, i = .int .i64 j ∧ j ≤ 64 ∧ CrIn w wx g5 n c5 b2 b4 b8 [.slice (some ⟨gl, 0, none⟩) n cl, .slice (some ⟨gr, 0, none⟩) m cr, .int .i64 op, .int .i64 fu, .bool dn] p (L.set p.1 (mixJ 3 j (L.getD p.1 []) p.2))) (fun i _ => 64 - (intOf i).toNat)
          case atStart => exact ⟨0, rfl, Nat.zero_le _, HI0⟩
          case round =>
            obtain ⟨j, rfl, hj, HI⟩ := hrel
            clear HI0
            by_cases h64j : j < 64
            · have hj64 : (j : Int) < 64 := by omega
              obtain ⟨y, hyd, hy⟩ := wv_byte p j (by rw [Hp64.out]; exact h64j)
              have Hy := hid hy
              have Hyd := hid hyd
              clear hy hyd
              by_cases h32 : (j : Int) < 32
              · have h32n : j < 32 := by omega
                have Hskip : Hid (L.set p.1 (mixJ 3 (j + 1) (L.getD p.1 []) p.2) = L.set p.1 (mixJ 3 j (L.getD p.1 []) p.2)) := by
                  show _ = _
                  rw [mixJ_no _ _ _ _ (by unfold takes; omega)]
                have HI' := HI
                rw [← Hskip.out] at HI'
                clear HI
                go_wp2_with fail
                go_roundw
                case rel => exact ⟨j + 1, by go_num, h64j, HI'⟩
                case measure => simp [intOf]; omega
              · have h32n : ¬ j < 32 := by omega
                have ht : takes 3 j := by unfold takes; omega
                have Hset : Hid (((L.set p.1 (mixJ 3 j (L.getD p.1 []) p.2)).set p.1 (((L.set p.1 (mixJ 3 j (L.getD p.1 []) p.2)).getD p.1 []).set j y)) = L.set p.1 (mixJ 3 (j + 1) (L.getD p.1 []) p.2)) := by
                  show _ = _
                  rw [List.set_set, getD_set_same HpL.out, mixJ_yes _ _ _ _ h64j ht, Hyd.out]
                have HM : Hid (((L.set p.1 (mixJ 3 j (L.getD p.1 []) p.2)).getD p.1 []).length = 64) := by
                  show _ = _
                  rw [getD_set_same HpL.out, mixJ_length]
                have Hpn : Hid (p.1 < (L.set p.1 (mixJ 3 j (L.getD p.1 []) p.2)).length) := by
                  show _ < _
                  rw [List.length_set]; exact HpL.out
                clear ht
                go_wp2_with fail
                refine wp_region_ordL [(0, true), (1, true), (2, true), (3, true), (4, true), (5, true), (6, true), (7, true), (8, true), (9, true), (10, false)] (fun w' => BlockIs w' b8 (wv p) 54) follows_mixed (by kernel_rfl) HI.blk8.drew ?_
                simp only [List.map_cons, List.map_nil, List.getElem?_cons_succ, List.getElem?_cons_zero, Option.getD_some]
                refine wpO_pure (v := .slice (some ⟨g5, 0, none⟩) n c5) (by rfl) (fun w' hw' => by rfl) ?_
                go_frame
                refine wpO_pure (v := .pointer (some ⟨b8, 0, none⟩)) (by rfl) (fun w' hw' => by go_simp) ?_
                go_frame
                refine wpO_pure (v := .int .i64 (p.1 : Int)) (by rfl) (fun w' hw' => by have hc := hw'.cell 0; simp only [wv, List.getElem?_cons_zero] at hc; go_simp) ?_
                go_frame
                refine wpO_pure (v := .int .i64 (j : Int)) (by rfl) (fun w' hw' => by rfl) ?_
                go_frame
                refine wpO_pure (v := .int .i64 (j : Int)) (by rfl) (fun w' hw' => by rfl) ?_
                go_frame
                refine wpO_pure (v := .pointer (some ⟨b8, 1, none⟩)) (by rfl) (fun w' hw' => by go_simp) ?_
                go_frame
                refine wpO_pure (v := .pointer (some ⟨b8, 1 + j, none⟩)) (by rfl) (fun w' hw' => by go_simp) ?_
                go_frame
                refine wpO_pure (v := .int .u8 (y.toNat : Int)) (by rfl) (fun w' hw' => by have hc : w'.cell? ⟨b8, 1 + j, none⟩ = some (.int .u8 (y.toNat : Int)) := (hw'.cell (1 + j)).trans Hy.out; go_simp) ?_
                go_frame
                refine wpO_pure (v := .pointer (some ⟨g5, p.1 * 64, none⟩)) (by rfl) (fun w' hw' => by go_simp) ?_
                go_frame
                refine wpO_pure (v := .pointer (some ⟨g5, p.1 * 64 + j, none⟩)) (by rfl) (fun w' hw' => by go_simp) ?_
                go_frame
                have HP := HI.drew.put j y h64j Hpn.out HM.out
                refine wpO_store (by rfl) (exec_store1 5 _ _ rfl g5 (p.1 * 64 + j) (.int .u8 (y.toNat : Int)) (by simp [Act.eval]) (by simp [Act.eval]) HP.2 rfl rfl info5') (.inl rfl) ?_
                refine wpO_nil ?_
                have HP1 := HP.1
                rw [Hset.out] at HP1
                clear HP HI
                go_frame
                go_wp2_with fail
                go_roundw
                case rel => exact ⟨j + 1, by go_num, h64j, HP1⟩
                case measure => simp [intOf]; omega
            · have hge : j = 64 := by omega
              subst hge
              have HN := HI.finish fs k Hnext.out 3 HFm.out H64L.out Hp64.out
              clear HI
              go_wp2_with fail
              go_roundw
              case rel => exact ⟨k + 1, by go_num, hlt', HN⟩
              case measure => simp [intOf]; omega
end Go.Proofs.Ytffcglfepobdjaa
