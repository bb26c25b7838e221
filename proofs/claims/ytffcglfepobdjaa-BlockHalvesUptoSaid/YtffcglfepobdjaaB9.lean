/- A copy of a device. -/
import Derived.Test.YtffcglfepobdjaaB6
set_option linter.unusedVariables false
set_option linter.unusedSimpArgs false
set_option maxRecDepth 10000
set_option maxHeartbeats 2000000
namespace Go.Proofs.Ytffcglfepobdjaa
open Go.RowKit

theorem five_one {v1 v2 : Value} (h1 : v1.oneCell' = true) (h2 : v2.oneCell' = true) (a b : Int) (d : Bool) : ∀ u ∈ [v1, v2, .int .i64 a, .int .i64 b, .bool d], u.oneCell' = true := by
  intro u hu
  simp only [List.mem_cons, List.not_mem_nil, or_false] at hu
  rcases hu with rfl | rfl | rfl | rfl | rfl <;> first | assumption | rfl

theorem copy_calls {w : World} {F : Nat → Prop} {g : Nat} {vl vr : Value} {D : DS} (hD : DevAt w F g vl vr D) (hok : D.ok) (hr : D.row.length ≤ 1099511627776) :
    Calls Try.prog 32 #[.pointer (some ⟨g, 0, none⟩)] w (fun e w' => ∃ gn, e = .returned (.pointer (some ⟨gn, 0, none⟩)) ∧ DevIs w' (Fresh w w') gn D ∧ Keep Noth w w') := by
  have Hdev := hid hD
  obtain ⟨Al, cl, rfl⟩ := hD.l.valm
  obtain ⟨Ar, cr, rfl⟩ := hD.row.valm
  have hmost := hok.most
  clear hD
  go_enter Try.func32, Try.ntmps32
  go_wp2_with (first | (refine wpList_load_blk rfl 96 _ rfl g 0 _ [.slice Al D.l.length cl, .slice Ar D.row.length cr, .int .i64 (D.ops : Int), .int .i64 D.fuse, .bool D.down] 96 _ (by rfl) Hdev.out.blk (part0 _) Try.underlying96 rfl info96 ?_) | (refine wpList_alloc_store rfl 96 rfl 3 _ rfl (by rfl) rfl rfl (by decide) zdev [.slice Al D.l.length cl, .slice Ar D.row.length cr, .int .i64 (D.ops : Int), .int .i64 D.fuse, .bool D.down] info96 _ rfl rfl (by rfl) (five_one rfl rfl _ _ _) ?_; intro gn w1 hgn B1 K1))
  have hb1 := Hdev.out.blk.keep K1 id
  go_frame
  refine wp_region_ordL [(0, true), (1, true), (2, true), (3, true), (5, true), (6, true), (7, true), (8, true), (4, false), (9, false), (10, true), (11, false), (12, true), (13, false)] (fun w' => BlockIs w' g [.slice Al D.l.length cl, .slice Ar D.row.length cr, .int .i64 (D.ops : Int), .int .i64 D.fuse, .bool D.down] 96) follows_mixed (by kernel_rfl) hb1 ?_
  simp only [List.map_cons, List.map_nil, List.getElem?_cons_succ, List.getElem?_cons_zero, Option.getD_some]
  refine wpO_pure (v := .pointer (some ⟨g, 0, none⟩)) (by rfl) (fun w' hw' => by rfl) ?_
  go_frame
  refine wpO_pure (v := .pointer (some ⟨g, 0, none⟩)) (by rfl) (fun w' hw' => by rfl) ?_
  go_frame
  refine wpO_pure (v := .pointer (some ⟨g, 0, none⟩)) (by rfl) (fun w' hw' => by go_simp) ?_
  go_frame
  refine wpO_pure (v := .slice Al D.l.length cl) (by rfl) (fun w' hw' => by have hc := hw'.cell 0; simp only [List.getElem?_cons_zero] at hc; go_simp) ?_
  go_frame
  refine wpO_pure (v := .pointer (some ⟨g, 0, none⟩)) (by rfl) (fun w' hw' => by rfl) ?_
  go_frame
  refine wpO_pure (v := .pointer (some ⟨g, 0, none⟩)) (by rfl) (fun w' hw' => by rfl) ?_
  go_frame
  refine wpO_pure (v := .pointer (some ⟨g, 1, none⟩)) (by rfl) (fun w' hw' => by go_simp) ?_
  go_frame
  refine wpO_pure (v := .slice Ar D.row.length cr) (by rfl) (fun w' hw' => by have hc := hw'.cell 1; simp only [List.getElem?_cons_zero, List.getElem?_cons_succ] at hc; go_simp) ?_
  go_frame
  have hD1 := (Hdev.out.keep K1 (Dj.noth _)).keep ((Keep.refl Noth w1).drew) (Dj.noth _)
  refine wpO_call (by rfl) (exec_call' 61 _ _ rfl Try.func61 (by kernel_rfl) (by rfl) #[.slice Al D.l.length cl] (by simp [Act.eval])) ((clone61_calls hD1.l (by omega)).mono ?_)
  rintro e w2 ⟨v2, rfl, H2, K2⟩
  have hD2 := hD1.keep K2 (Dj.noth _)
  refine ⟨v2, rfl, .inr hD2.blk, ?_⟩
  go_frame
  refine wpO_call (by rfl) (exec_call' 62 _ _ rfl Try.func62 (by kernel_rfl) (by rfl) #[.slice Ar D.row.length cr] (by simp [Act.eval])) ((clone62_calls hD2.row hr).mono ?_)
  rintro e w3 ⟨v3, rfl, H3, K3⟩
  have hD3 := hD2.keep K3 (Dj.noth _)
  have B3 := (B1.drew.keep K2 id).keep K3 id
  refine ⟨v3, rfl, .inr hD3.blk, ?_⟩
  go_frame
  have hgg : g ≠ gn := by have := Hdev.out.lt g Hdev.out.here; omega
  refine wpO_pure (v := .pointer (some ⟨gn, 0, none⟩)) (by rfl) (fun w' hw' => by go_simp) ?_
  go_frame
  refine wpO_store (by rfl) (exec_store_cell 93 _ _ rfl gn 0 v2 _ 96 (by simp [Act.eval]) (by simp [Act.eval]) B3 (by simp) H2.one_val.1 H2.one_val.2 info93) (.inr (hD3.blk.far _ hgg _)) ?_
  go_frame
  refine wpO_pure (v := .pointer (some ⟨gn, 1, none⟩)) (by rfl) (fun w' hw' => by go_simp) ?_
  go_frame
  refine wpO_store (by rfl) (exec_store_cell 94 _ _ rfl gn 1 v3 _ 96 (by simp [Act.eval]) (by simp [Act.eval]) (B3.set 0 v2) (by simp) H3.one_val.1 H3.one_val.2 info94) (.inl rfl) ?_
  refine wpO_nil ?_
  go_frame
  have B5 := (B3.set 0 v2).set 1 v3
  generalize hw5 : ((w3.setCell ⟨gn, 0, none⟩ v2).setCell ⟨gn, 1, none⟩ v3) = w5 at *
  have hs1 := K1.size
  have hs2 := K2.size
  have hs3 := K3.size
  have hs5 : w5.heap.size = w3.heap.size := by rw [← hw5]; simp
  simp only [World.size_drew] at hs2
  have K35 : Keep (Only gn) w3 w5 := by rw [← hw5]; exact ((Keep.refl _ _).cell 0 v2).cell 1 v3
  have hfin : DevIs w5 (Fresh w w5) gn D ∧ Keep Noth w w5 := by
    have hlt := B1.lt
    refine ⟨⟨v2, v3, fun k hk => hk.2, ⟨hgn, by omega⟩, by simpa using B5, ?_, ?_⟩, (((K1.drew.trans K2 (fun _ _ h => h)).trans K3 (fun _ _ h => h)).trans K35 (fun i hi e => by unfold Only at e; omega))⟩
    · refine ((H2.keep K3 (Dj.noth _)).stay K35 (fun q hq e => ?_)).mono (fun q hq => ⟨by have := hq.1; simp only [World.size_drew] at this; omega, by have := hq.2; omega⟩)
      have := (H2.foot q hq).1
      unfold Only at e
      simp only [World.size_drew] at this
      omega
    · refine (H3.stay K35 (fun q hq e => ?_)).mono (fun q hq => ⟨by have := hq.1; omega, by have := hq.2; omega⟩)
      have := (H3.foot q hq).1
      unfold Only at e
      omega
  clear K35 hw5 hs5 B5 B3 H2 H3 K2 K3 hD1 hD2 hD3 K1 B1
  go_wp2_with fail
  go_ret
  exact ⟨gn, rfl, hfin.1, hfin.2⟩
end Go.Proofs.Ytffcglfepobdjaa
