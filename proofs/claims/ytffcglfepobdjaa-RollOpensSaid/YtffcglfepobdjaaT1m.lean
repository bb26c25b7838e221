/- quiltworklaw11.RollOpens (f12). -/
import Derived.Test.YtffcglfepobdjaaZ5
set_option linter.unusedVariables false
set_option linter.unusedSimpArgs false
set_option maxRecDepth 100000
set_option maxHeartbeats 2000000
namespace Go.Proofs.Ytffcglfepobdjaa
open Go.RowKit


theorem ropens_calls (w : World) (A : Option Addr) (c : Nat) (im : List UInt8) (hA : Reads w A (bv im)) (hc : im.length ≤ c) :
    Calls Try.prog 12 #[.slice A im.length c] w (fun e w' => e = .returned (.bool true) ∧ Keep Noth w w') := by
  by_cases hbig : 4000 < im.length
  · have hb' : (4000 : Int) < im.length := by omega
    go_enter Try.func12, Try.ntmps12
    go_wp2_with fail
    refine (ralive_calls w).mono ?_
    rintro e w1 ⟨rfl, K1⟩
    go_wp2_with fail
    go_ret
    exact ⟨rfl, K1⟩
  have hb' : ¬ (4000 : Int) < im.length := by omega
  obtain ⟨D, hD⟩ : ∃ D, D = DS.of im := ⟨_, rfl⟩
  have hok : D.ok := by rw [hD]; exact of_ok im
  have hrow : D.row.length = 0 := by rw [hD]; rfl
  have hdn : D.down = false := by rw [hD]; rfl
  have hops : D.ops = 0 := by rw [hD]; rfl
  have hdo := of_calls0 w A c im hA (by omega) hc
  have hso := fun W (hW : Keep Noth w W) => st_of W A c im (hA.keep hW (fun _ _ => id)) (by omega)
  rw [← hD] at hdo hso
  have Hso := hid hso
  clear hA hso hD
  go_enter Try.func12, Try.ntmps12
  go_wp2_with fail
  refine hdo.mono ?_
  rintro e w1 ⟨g, rfl, D1, K1⟩
  obtain ⟨va, vr, A1⟩ := D1
  have HA1 := hid A1
  have HK1 := hid K1
  clear hdo A1 K1
  by_cases h4 : D.l.length < 4
  · go_wp2_with fail
    refine (open_form HA1.out hdn hok h4).mono ?_
    rintro e w' ⟨rfl, rfl⟩
    go_wp2_with fail
    refine (Hso.out w1 HK1.out).mono ?_
    rintro e w2 ⟨vl, rfl, S2, K2⟩
    have HA2 := hid (HA1.out.keep K2 (Dj.noth _))
    have HK2 := hid (HK1.out.trans K2 (fun _ _ h => h))
    clear K2
    go_wp2_with fail
    refine (refOpen_form S2 hdn hok h4).mono ?_
    rintro e w3 ⟨rfl, K3⟩
    have HA3 := hid (HA2.out.keep K3 (Dj.noth _))
    have HK3 := hid (HK2.out.trans K3 (fun _ _ h => h))
    clear K3 S2
    go_wp2_with (first
      | (guard_target = wpList _ _ _ (Oper.mk _ (Op.alloc 68) _ _ _ _ :: _) _ _; refine wpList_alloc_v rfl 68 rfl (.agg zfs.toArray) info68 zfs zfs_cells ?_; intro b6 w4 hb6 B6 K4)
      | (guard_target = wpList _ _ _ (Oper.mk _ (Op.store 68 _ _) _ _ _ _ :: _) _ _; refine wpList_store_whole rfl 68 _ _ rfl b6 _ zfs 68 (by rfl) (by rfl) B6 rfl info68 (fsv_one 0 0 0 0 (by simp [stz5]; trivial) rfl rfl) ?_; intro w5 B5 K5))
    have K35 : Keep Noth w3 w5 := K4.own K5 (fun q e => by unfold Only at e; subst e; exact hb6)
    have hop := ops_calls (HA3.out.keep K35 (Dj.noth _))
    rw [hops] at hop
    have HK5 := hid (HK3.out.trans K35 (fun _ _ h => h))
    clear B6 K4 B5 K5 K35
    refine hop.mono ?_
    rintro e w' ⟨rfl, rfl⟩
    clear hop
    go_wp2_with fail
    refine (ralive_calls w5).mono ?_
    rintro e w6 ⟨rfl, K6⟩
    have HK6 := hid (HK5.out.trans K6 (fun _ _ h => h))
    clear K6
    go_wp2_with fail
    go_ret
    exact ⟨rfl, HK6.out⟩
  · have h4 : 4 ≤ D.l.length := by omega
    have hgood := openS_good hok h4
    go_wp2_with fail
    refine (open_ok HA1.out hdn hok (by omega) h4).mono ?_
    rintro e w2 ⟨r, rfl, hr, ⟨vl1, vs1, R2⟩, K2⟩
    have HR2 := hid R2
    have HK2 := hid (HK1.out.trans K2 (fun _ _ h => h))
    have HA2 := hid (HA1.out.keep K2 (Dj.noth _))
    clear R2 K2 hr
    go_wp2_with fail
    refine (Hso.out w2 HK2.out).mono ?_
    rintro e w3 ⟨vl, rfl, S3, K3⟩
    have HR3 := hid (HR2.out.keep K3 (Dj.noth _))
    have HK3 := hid (HK2.out.trans K3 (fun _ _ h => h))
    have HA3 := hid (HA2.out.keep K3 (Dj.noth _))
    have hone := S3.l.one_val.1
    have HS3 := hid S3
    clear K3
    go_wp2_with fail
    refine (refOpen_ok S3 hok (by omega) hdn h4).mono ?_
    rintro e w4 ⟨B, b, rfl, RL4, K4⟩
    have HR4 := hid (HR3.out.keep K4 (Dj.noth _))
    have HK4 := hid (HK3.out.trans K4 (fun _ _ h => h))
    have HA4 := hid (HA3.out.keep K4 (Dj.noth _))
    have HS4 := hid (HS3.out.keep K4 (Dj.noth _))
    have HL4 := hid RL4.reads
    obtain ⟨S, hS⟩ : ∃ S, S = openS D := ⟨_, rfl⟩
    have hSD : S.D = D := by rw [hS]; exact openS_D D
    have hSt : S.st = [] := by rw [hS]; exact openS_st D
    have hSm : S.more = 0 := by rw [hS]; exact (openP_st D 2).2
    rw [← hS] at hgood HR4 HL4 ⊢
    obtain ⟨FV, hFV⟩ : ∃ FV, FV = fsv (stv vl (.slice none 0 0) D) S.own.seq S.slot S.own.area S.own.used (.slice B S.l.length b) (.slice none 0 0) := ⟨_, rfl⟩
    have hFl : FV.length = 11 := by rw [hFV]; rfl
    have hFo : ∀ u ∈ FV, u.oneCell' = true := by
      rw [hFV]
      refine fsv_one _ _ _ _ ?_ rfl rfl
      intro u hu
      simp only [List.mem_cons, List.not_mem_nil, or_false] at hu
      rcases hu with rfl | rfl | rfl | rfl | rfl <;> first | exact hone | rfl
    have hF9 : FV[9]? = some (.slice B S.l.length b) := by rw [hFV]; rfl
    have hrr := fun W (hW : Keep Noth w4 W) => refRoom_calls (HS4.out.keep hW (Dj.noth _)) hok S.own.seq S.slot S.own.area S.own.used none 0 [] (vL := .slice B S.l.length b) (G := Noth) ⟨⟨[], rfl, Reads.nil _ _, fun i v b e => by simp at e⟩, fun h => absurd rfl h⟩ (fun x hx => by cases hx) (by decide) (by decide) (by have := hgood.used; have := half_le hgood.dok; omega)
    have hroom : ((D.half : Int) - S.own.used - moreL []) = S.room := by unfold RS.room; rw [hSD, hSm]; simp [moreL]
    rw [hroom] at hrr
    rw [show (([] : List (List UInt8)).length) = 0 from rfl, ← hFV] at hrr
    rw [← hFV]
    have Hrr := hid hrr
    have HFl := hid hFl
    have HFo := hid hFo
    have HF9 := hid hF9
    have Hgood := hid hgood
    have Hst := hid hSt
    clear hrr hFl hFo hF9 hFV hS hSD hSt hSm hroom hgood RL4 K4 S3 hone HR3 HR2 HS3 HA2 HA3 HA1
    go_wp2_with (first
      | (guard_target = wpList _ _ _ (Oper.mk _ (Op.alloc 68) _ _ _ _ :: _) _ _; refine wpList_alloc_v rfl 68 rfl (.agg zfs.toArray) info68 zfs zfs_cells ?_; intro b6 w5 hb6 B6 K5)
      | (guard_target = wpList _ _ _ (Oper.mk _ (Op.store 68 _ _) _ _ _ _ :: _) _ _; refine wpList_store_whole rfl 68 _ _ rfl b6 _ FV 68 (by rfl) (by rfl) B6 (by rw [HFl.out]; rfl) (by rw [HFl.out]; exact info68) HFo.out ?_; intro w6 B7 K6))
    have K46 : Keep Noth w4 w6 := K5.own K6 (fun q e => by unfold Only at e; subst e; exact hb6)
    have hop := ops_calls (HA4.out.keep K46 (Dj.noth _))
    rw [hops] at hop
    have HK46 := hid K46
    clear B6 K5 K6 K46
    refine hop.mono ?_
    rintro e w' ⟨rfl, rfl⟩
    clear hop
    go_wp2_with fail
    refine wp_region_ordL [(0, false), (1, true), (2, true), (4, true), (5, true), (3, false), (6, false), (7, true), (8, true), (9, true), (11, true), (10, false), (12, false), (13, true), (14, true), (15, true), (16, true), (17, false), (18, true), (19, true), (20, false)] (fun W => BlockIs W b6 FV 68) follows_mixed (by kernel_rfl) B7.drew ?_
    simp only [List.map_cons, List.map_nil, List.getElem?_cons_succ, List.getElem?_cons_zero, Option.getD_some]
    refine wpO_call (by rfl) (exec_call' 37 _ _ rfl Try.func37 (by kernel_rfl) (by rfl) #[] (by simp [Act.eval])) ?_
    refine (ralive_calls _).mono ?_
    rintro e w7 ⟨rfl, K7⟩
    have B8 := B7.drew.keep K7 id
    refine ⟨_, rfl, .inr B8, ?_⟩
    go_frame
    refine wpO_pure (v := .bool true) (by rfl) (fun w' hw' => by go_simp) ?_
    go_frame
    refine wpO_pure (v := .pointer (some ⟨r, 0, none⟩)) (by rfl) (fun w' hw' => by go_simp) ?_
    go_frame
    refine wpO_pure (v := .pointer (some ⟨b6, 9, none⟩)) (by rfl) (fun w' hw' => by go_simp) ?_
    go_frame
    refine wpO_pure (v := .slice B S.l.length b) (by rfl) (fun w' hw' => by have hc : w'.cell? ⟨b6, 9, none⟩ = some (.slice B S.l.length b) := (hw'.cell 9).trans HF9.out; go_simp) ?_
    go_frame
    have K67 : Keep Noth w6 w7 := (Keep.refl Noth w6).drew.trans K7 (fun _ _ h => h)
    have K47 : Keep Noth w4 w7 := HK46.out.trans K67 (fun _ _ h => h)
    refine wpO_call (by rfl) (exec_call' 42 _ _ rfl Try.func42 (by kernel_rfl) (by rfl) #[.pointer (some ⟨r, 0, none⟩)] (by simp [Act.eval])) ?_
    refine (records_calls (HR4.out.keep K47 (Dj.noth _)) Hgood.out.ok).mono ?_
    rintro e w8 ⟨v8, rfl, RC, K8⟩
    have B9 := B8.keep K8 id
    refine ⟨_, rfl, .inr B9, ?_⟩
    go_frame
    obtain ⟨A8, c8, rfl⟩ := RC.val
    have K48 : Keep Noth w4 w8 := K47.trans K8 (fun _ _ h => h)
    have hsm := same_calls w8 _ _ A8 B c8 b S.l S.l RC.reads (HL4.out.keep K48 (Dj.noth _)) (by have := Hgood.out.ok.ll; omega)
    rw [show (S.l == S.l) = true by simp] at hsm
    refine wpO_call (by rfl) (exec_call' 41 _ _ rfl Try.func41 (by kernel_rfl) (by rfl) #[.slice A8 S.l.length c8, .slice B S.l.length b] (by simp [Act.eval])) ?_
    refine (hsm).mono ?_
    rintro e w9 ⟨rfl, K9⟩
    have B10 := B9.keep K9 id
    refine ⟨_, rfl, .inr B10, ?_⟩
    go_frame
    refine wpO_pure (v := .bool true) (by rfl) (fun w' hw' => by go_simp) ?_
    go_frame
    refine wpO_pure (v := .bool true) (by rfl) (fun w' hw' => by go_simp) ?_
    go_frame
    refine wpO_pure (v := .pointer (some ⟨r, 0, none⟩)) (by rfl) (fun w' hw' => by go_simp) ?_
    go_frame
    refine wpO_pure (v := .agg FV.toArray) (by rfl) (fun w' hw' => by exact exec_load_blk 68 _ rfl b6 0 FV FV 68 _ (by rfl) hw' (part0 _) Try.underlying68 rfl (by rw [HFl.out]; exact info68)) ?_
    go_frame
    have K49 : Keep Noth w4 w9 := K48.trans K9 (fun _ _ h => h)
    refine wpO_call (by rfl) (exec_call' 39 _ _ rfl Try.func39 (by kernel_rfl) (by rfl) #[.pointer (some ⟨r, 0, none⟩)] (by simp [Act.eval])) ?_
    refine (room_calls (HR4.out.keep K49 (Dj.noth _)) Hgood.out.ok).mono ?_
    rintro e w10 ⟨rfl, K10⟩
    have B11 := B10.keep K10 id
    refine ⟨_, rfl, .inr B11, ?_⟩
    go_frame
    have K410 : Keep Noth w4 w10 := K49.trans K10 (fun _ _ h => h)
    refine wpO_call (by rfl) (exec_call' 49 _ _ rfl Try.func49 (by kernel_rfl) (by rfl) #[.agg FV.toArray] (by simp [Act.eval])) ?_
    refine (Hrr.out _ K410).mono ?_
    rintro e w11 ⟨rfl, K11⟩
    have B12 := B11.keep K11 id
    refine ⟨_, rfl, .inr B12, ?_⟩
    go_frame
    refine wpO_pure (v := .bool true) (by rfl) (fun w' hw' => by go_simp) ?_
    go_frame
    refine wpO_pure (v := .bool true) (by rfl) (fun w' hw' => by go_simp) ?_
    go_frame
    refine wpO_pure (v := .bool true) (by rfl) (fun w' hw' => by go_simp) ?_
    go_frame
    refine wpO_pure (v := .pointer (some ⟨r, 0, none⟩)) (by rfl) (fun w' hw' => by go_simp) ?_
    go_frame
    have K411 : Keep Noth w4 w11 := K410.trans K11 (fun _ _ h => h)
    have hsd := staged_calls (HR4.out.keep K411 (Dj.noth _))
    rw [Hst.out] at hsd
    refine wpO_call (by rfl) (exec_call' 45 _ _ rfl Try.func45 (by kernel_rfl) (by rfl) #[.pointer (some ⟨r, 0, none⟩)] (by simp [Act.eval])) ?_
    refine (hsd).mono ?_
    rintro e w' ⟨rfl, rfl⟩
    refine ⟨_, rfl, .inr B12, ?_⟩
    go_frame
    refine wpO_pure (v := .bool true) (by rfl) (fun w' hw' => by go_simp) ?_
    go_frame
    refine wpO_pure (v := .bool true) (by rfl) (fun w' hw' => by go_simp) ?_
    go_frame
    refine wpO_run (v := .bool true) (w1 := w11) (by rfl) (by go_simp) (.inl rfl) (wpO_nil ?_)
    go_frame
    have HKF := hid (HK4.out.trans K411 (fun _ _ h => h))
    clear hsd hsm K7 K8 K9 K10 K11 K47 K48 K49 K410 K411 K67 B7 B8 B9 B10 B11 B12 RC
    go_wp2_with fail
    go_ret
    exact ⟨rfl, HKF.out⟩
end Go.Proofs.Ytffcglfepobdjaa
