/-
  The walk of the law IvalMakes: it answers true. Conditions: those that each theorem names.
-/
import Derived.Test.YtcimfccjcikemaaMakesE
import Derived.Test.YtcimfccjcikemaaIvC
import Derived.Test.YtcimfccjcikemaaRefL
import Derived.Test.YtcimfccjcikemaaRefM
import Derived.Deep.DeepCutAuto
import Derived.Deep.RegionHeld3
import Derived.Test.YtcimfccjcikemaaSteady
namespace Go.Proofs.Ytcimfccjcikemaa
open Go.RowKit Nm Rn
set_option maxRecDepth 100000
set_option linter.unusedVariables false
set_option linter.unusedSimpArgs false

set_option maxHeartbeats 8000000 in
theorem makes_ff (lo hi a b a' b' : Nat) (w : World)
    (hn1 : ∀ w, Calls Try.prog 13 #[.float .f64 lo, .float .f64 hi] w (RetN a b 1 w))
    (hn2 : ∀ w, Calls Try.prog 15 #[.int .u64 (lo : Int), .int .u64 (hi : Int)] w fun e w' => e = .returned (.tuple #[.agg #[.int .u64 (a : Int), .int .u64 (b : Int)], .bool false]) ∧ Ext w w')
    (hp1 : ∀ w, Calls Try.prog 17 #[.float .f64 lo] w (RetN a' b' 1 w))
    (hp2 : ∀ w, Calls Try.prog 15 #[.int .u64 (lo : Int), .int .u64 (lo : Int)] w fun e w' => e = .returned (.tuple #[.agg #[.int .u64 (a' : Int), .int .u64 (b' : Int)], .bool false]) ∧ Ext w w') :
    Calls Try.prog 3 #[.agg #[.int .u64 (lo : Int), .int .u64 (hi : Int)]] w fun e w' => e = .returned (.bool true) ∧ Ext w w' := by
  have HN1 := Lib.hid hn1
  have HN2 := Lib.hid hn2
  have HP1 := Lib.hid hp1
  have HP2 := Lib.hid hp2
  clear hn1 hn2 hp1 hp2
  have hne := neqI_self (a : Int) b
  have heq := eqI_self (a' : Int) b'
  go_enter Try.func3, Try.ntmps3
  go_upto_region 1 with fail
  go_cut [3, 4] (fun x y wx => ∃ g, x = .pointer (some ⟨g, 0, none⟩) ∧ y = .int .i64 1 ∧ Blk wx g 27 #[.float .f64 a, .float .f64 b] ∧ Blk wx w.heap.size 24 #[.int .u64 (lo : Int), .int .u64 (hi : Int)] ∧ w.heap.size < g ∧ Ext w wx)
  case first =>
    go_region_held3 (fun wz => wz.cell? ⟨w.heap.size, 0, none⟩ = some (.int .u64 (lo : Int)) ∧ wz.cell? ⟨w.heap.size, 1, none⟩ = some (.int .u64 (hi : Int))) (go_keep)
      (first | (go_at_call 13; refine (HN1.out _).mono ?_; rintro e w2 ⟨rfl, hE2⟩; have b0 := (hE2.cell (p := ⟨w.heap.size, 0, none⟩) (by simp <;> omega)).trans (b := _) (c := some (Value.int .u64 (lo : Int))) (by go_simp); have b1 := (hE2.cell (p := ⟨w.heap.size, 1, none⟩) (by simp <;> omega)).trans (b := _) (c := some (Value.int .u64 (hi : Int))) (by go_simp); (first | (have hb := Blk.ext (w := ((w.alloc (.cells #[.int .u64 (lo : Int), .int .u64 (hi : Int)] 24)).alloc (.cells #[.float .f64 0, .float .f64 0] 27)).drew) (Blk.new2 w (.cells #[.int .u64 (lo : Int), .int .u64 (hi : Int)] 24) 27 #[.float .f64 0, .float .f64 0]) hE2; have q0 : w2.cell? ⟨w.heap.size + 1, 0, none⟩ = some (.float .f64 0) := hb.cell 0; have q1 : w2.cell? ⟨w.heap.size + 1, 1, none⟩ = some (.float .f64 0) := hb.cell 1; have f0 := hb.frozen 0; have f1 := hb.frozen 1; have hlt := hb.lt) | skip)))
    all_goals
      have hbx : Blk w2 w.heap.size 24 #[.int .u64 (lo : Int), .int .u64 (hi : Int)] := by
        first
        | exact Blk.ext (w := (w.alloc (.cells #[.int .u64 (lo : Int), .int .u64 (hi : Int)] 24)).drew) (Blk.new w _ _) hE2
        | exact Blk.ext (w := ((w.alloc (.cells #[.int .u64 (lo : Int), .int .u64 (hi : Int)] 24)).alloc (.cells #[.float .f64 0, .float .f64 0] 27)).drew) ((Blk.new w _ _).ext (((Ext.refl _).alloc _).drew)) hE2
      have hEw : Ext w w2 := by
        first
        | exact (((Ext.refl w).alloc _).drew).trans hE2
        | exact ((((Ext.refl w).alloc _).alloc _).drew).trans hE2
      have HBX := Lib.hid hbx
      have HEW := Lib.hid hEw
      clear hbx hEw
      go_wp2
      go_meet
      first
      | exact ⟨_, rfl, rfl, Blk.new w2 _ _, HBX.out.ext ((Ext.refl _).alloc _), HBX.out.lt, HEW.out.alloc _⟩
      | exact ⟨_, rfl, rfl, (hb.set_ 0 _).set_ 1 _, (HBX.out.far (by show w.heap.size ≠ w.heap.size + 1; omega) _).far (by show w.heap.size ≠ w.heap.size + 1; omega) _, by omega, (HEW.out.setCell (by show w.heap.size ≤ w.heap.size + 1; omega) _).setCell (by show w.heap.size ≤ w.heap.size + 1; omega) _⟩
  case rest =>
    obtain ⟨g, rfl, rfl, hg, hbx, hlt, hEw⟩ := hcut
    have b0 : wc.cell? ⟨w.heap.size, 0, none⟩ = some (.int .u64 (lo : Int)) := hbx.cell 0
    have b1 : wc.cell? ⟨w.heap.size, 1, none⟩ = some (.int .u64 (hi : Int)) := hbx.cell 1
    go_wp2_with fail
    refine (HN2.out _).mono ?_
    rintro e w3 ⟨rfl, hE3⟩
    clear b0 b1
    go_upto_region 3 with fail
    have hh := Blk.new w3 24 #[.int .u64 (a : Int), .int .u64 (b : Int)]
    have hg4 := (hg.ext hE3).ext ((Ext.refl _).alloc (.cells #[.int .u64 (a : Int), .int .u64 (b : Int)] 24))
    have hb4 := (hbx.ext hE3).ext ((Ext.refl _).alloc (.cells #[.int .u64 (a : Int), .int .u64 (b : Int)] 24))
    have hE4 : Ext w (w3.alloc (.cells #[.int .u64 (a : Int), .int .u64 (b : Int)] 24)) := (hEw.trans hE3).alloc _
    have hlh : g < w3.heap.size := (hg.ext hE3).lt
    generalize w3.alloc (.cells #[.int .u64 (a : Int), .int .u64 (b : Int)] 24) = w4 at *
    generalize w3.heap.size = h at *
    clear hE3 hg hbx hEw
    go_cut [43] (fun x wx => x = .bool false ∧ Blk wx g 27 #[.float .f64 a, .float .f64 b] ∧ Blk wx h 24 #[.int .u64 (a : Int), .int .u64 (b : Int)] ∧ Blk wx w.heap.size 24 #[.int .u64 (lo : Int), .int .u64 (hi : Int)] ∧ Ext w wx)
    case first =>
      obtain ⟨S, hS⟩ : ∃ S : World → Prop, S = fun wz => Blk wz g 27 #[.float .f64 a, .float .f64 b] ∧ Blk wz h 24 #[.int .u64 (a : Int), .int .u64 (b : Int)] ∧ Blk wz w.heap.size 24 #[.int .u64 (lo : Int), .int .u64 (hi : Int)] ∧ Ext w wz := ⟨_, rfl⟩
      have hS4 : S { w4 with drawn := w4.drawn + 1 } := by rw [hS]; exact ⟨hg4, hh, hb4, hE4.drew⟩
      have HS := Lib.hid hS
      clear hg4 hh hb4 hE4 hS
      · go_wp2_with fail
        refine wp_region_steady S (by kernel_rfl) (by kernel_rfl) hS4 ?_
        repeat (refine wpG_step (fun K hK => ?_)
                go_simp
                first
                | (refine hK _ ?_
                   clear hK K)
                | (apply StepG.mk
                   intro wz hz
                   have hz' := hz
                   rw [HS.out] at hz'
                   have g0 := hz'.1.cell 0
                   have g1 := hz'.1.cell 1
                   have h0 := hz'.2.1.cell 0
                   have h1 := hz'.2.1.cell 1
                   simp only [List.getElem?_toArray, List.getElem?_cons_zero, List.getElem?_cons_succ] at g0 g1 h0 h1
                   first
                   | (go_simp
                      exact ⟨rfl, hz⟩)
                   | (go_simp
                      refine (out6_any _ _ _).mono fun e w5 h5 => ⟨h5.1, ?_⟩
                      rw [HS.out]
                      exact ⟨hz'.1.ext h5.2, hz'.2.1.ext h5.2, hz'.2.2.1.ext h5.2, hz'.2.2.2.trans h5.2⟩)
                   refine hK _ ?_
                   clear hK K))
        refine wpG_nil ?_
        intro w5 hw5
        rw [HS.out] at hw5
        go_wp2
        go_meet
        exact ⟨rfl, hw5.1, hw5.2.1, hw5.2.2.1, hw5.2.2.2⟩
    case rest =>
      obtain ⟨rfl, hg5, hh5, hb5, hE5⟩ := hcut
      clear hg4 hh hb4 hE4
      have b0 : wc.cell? ⟨w.heap.size, 0, none⟩ = some (.int .u64 (lo : Int)) := hb5.cell 0
      go_wp2_with fail
      refine (HP1.out _).mono ?_
      rintro e w6 ⟨rfl, hE6⟩
      have hg6 := hg5.ext hE6
      have hh6 := hh5.ext hE6
      have hb6 := hb5.ext hE6
      have hEw6 := hE5.trans hE6
      have g0 : w6.cell? ⟨g, 0, none⟩ = some (.float .f64 a) := hg6.cell 0
      have g1 : w6.cell? ⟨g, 1, none⟩ = some (.float .f64 b) := hg6.cell 1
      have f0 := hg6.frozen 0
      have f1 := hg6.frozen 1
      have c0 : w6.cell? ⟨w.heap.size, 0, none⟩ = some (.int .u64 (lo : Int)) := hb6.cell 0
      have lg : g < w6.heap.size := hg6.lt
      have ngh : ¬ g = w.heap.size := by omega
      have ngh' : ¬ w.heap.size = g := by omega
      clear b0 hg5 hh5 hb5 hE5 hE6
      go_wp2_with fail
      refine (HP2.out _).mono ?_
      rintro e w7 ⟨rfl, hE7⟩
      have hlh7 : h < w6.heap.size := hh6.lt
      have hgl : w.heap.size ≤ g := by omega
      have hgh : ¬ h = g := by omega
      have hgh' : ¬ g = h := by omega
      have hhl : w.heap.size ≤ h := by omega
      have hg7 : Blk w7 g 27 #[.float .f64 a', .float .f64 b'] := ((hg6.set_ 0 _).set_ 1 _).ext hE7
      have hh7 := ((hh6.far (p := ⟨g, 0, none⟩) hgh (.float .f64 a')).far (p := ⟨g, 1, none⟩) hgh (.float .f64 b')).ext hE7
      have hEw7 : Ext w w7 := ((hEw6.setCell (p := ⟨g, 0, none⟩) hgl _).setCell (p := ⟨g, 1, none⟩) hgl _).trans hE7
      clear hg6 hh6 hb6 hEw6 g0 g1 f0 f1 c0 lg ngh ngh' hE7
      have k0 : w7.cell? ⟨h, 0, none⟩ = some (.int .u64 (a : Int)) := hh7.cell 0
      have k1 : w7.cell? ⟨h, 1, none⟩ = some (.int .u64 (b : Int)) := hh7.cell 1
      have f0 := hh7.frozen 0
      have f1 := hh7.frozen 1
      go_upto_region 7 with fail
      have hh8 : Blk ((w7.setCell ⟨h, 0, none⟩ (.int .u64 (a' : Int))).setCell ⟨h, 1, none⟩ (.int .u64 (b' : Int))) h 24 #[.int .u64 (a' : Int), .int .u64 (b' : Int)] := (hh7.set_ 0 _).set_ 1 _
      have hg8 := (hg7.far (p := ⟨h, 0, none⟩) hgh' (.int .u64 (a' : Int))).far (p := ⟨h, 1, none⟩) hgh' (.int .u64 (b' : Int))
      have hE8 : Ext w ((w7.setCell ⟨h, 0, none⟩ (.int .u64 (a' : Int))).setCell ⟨h, 1, none⟩ (.int .u64 (b' : Int))) := (hEw7.setCell (p := ⟨h, 0, none⟩) hhl _).setCell (p := ⟨h, 1, none⟩) hhl _
      generalize (w7.setCell ⟨h, 0, none⟩ (.int .u64 (a' : Int))).setCell ⟨h, 1, none⟩ (.int .u64 (b' : Int)) = w8 at *
      obtain ⟨S, hS⟩ : ∃ S : World → Prop, S = fun wz => Blk wz g 27 #[.float .f64 a', .float .f64 b'] ∧ Blk wz h 24 #[.int .u64 (a' : Int), .int .u64 (b' : Int)] ∧ Ext w wz := ⟨_, rfl⟩
      have hS8 : S { w8 with drawn := w8.drawn + 1 } := by rw [hS]; exact ⟨hg8, hh8, hE8.drew⟩
      have HS := Lib.hid hS
      clear hg7 hh7 hEw7 hg8 hh8 hE8 hS k0 k1 f0 f1 hne
      go_wp2_with fail
      refine wp_region_steady S (by kernel_rfl) (by kernel_rfl) hS8 ?_
      repeat (refine wpG_step (fun K hK => ?_)
              go_simp
              first
              | (refine hK _ ?_
                 clear hK K)
              | (apply StepG.mk
                 intro wz hz
                 have hz' := hz
                 rw [HS.out] at hz'
                 have g0 := hz'.1.cell 0
                 have g1 := hz'.1.cell 1
                 have h0 := hz'.2.1.cell 0
                 have h1 := hz'.2.1.cell 1
                 simp only [List.getElem?_toArray, List.getElem?_cons_zero, List.getElem?_cons_succ] at g0 g1 h0 h1
                 first
                 | (go_simp
                    exact ⟨rfl, hz⟩)
                 | (go_simp
                    refine (out6_any _ _ _).mono fun e w5 h5 => ⟨h5.1, ?_⟩
                    rw [HS.out]
                    exact ⟨hz'.1.ext h5.2, hz'.2.1.ext h5.2, hz'.2.2.trans h5.2⟩)
                 refine hK _ ?_
                 clear hK K))
      refine wpG_nil ?_
      intro w5 hw5
      rw [HS.out] at hw5
      go_wp2
      go_ret
      exact ⟨rfl, hw5.2.2⟩
end Go.Proofs.Ytcimfccjcikemaa
