/-
 The walk through PowerHolds, where none is empty. Conditions: those that each theorem names.
-/
import Derived.Test.YtbcaggdgoidlaaaGreatDoorH46
namespace Go.Proofs.YtbcaggdgoidlaaaGreatDoor
open Go.RowKit Nm Rn
set_option maxRecDepth 100000
set_option linter.unusedVariables false
set_option linter.unusedSimpArgs false
set_option maxHeartbeats 32000000 in
theorem holds_go (x1 x2 y1 y2 p q r t pa pb xa yb : Nat) (n0 M sgx rc : Int) (sX : Bool) (NX DX : Nat) (sY : Bool) (NY DY u1 u2 e1 e2 f1 f2 a1 a2 : Nat) (w : World) (HT : Hid (Tab w)) (HLV : Hid (∀ w, Tab w → Calls Tryz.prog 7 #[] w (fun e w' => e = .returned (.bool true) ∧ Ext w w')))
   (HRX : Hid (∀ w, Calls Tryz.prog 4 #[.agg #[.int .u64 (x1 : Int), .int .u64 (x2 : Int)]] w (RetI p q w))) (HRY : Hid (∀ w, Calls Tryz.prog 4 #[.agg #[.int .u64 (y1 : Int), .int .u64 (y2 : Int)]] w (RetI r t w))) (HLM : Hid (∀ w, Calls Tryz.prog 5 #[.int .i64 n0] w fun e w' => e = .returned (.int .i64 M) ∧ w = w'))
   (HEM : Hid (∀ w, Calls Tryz.prog 6 #[] w (RetI infR minf w))) (HIX : Hid (∀ w, Calls Tryz.prog 10 #[.agg #[.int .u64 (p : Int), .int .u64 (q : Int)]] w (RetF p q w))) (HIY : Hid (∀ w, Calls Tryz.prog 10 #[.agg #[.int .u64 (r : Int), .int .u64 (t : Int)]] w (RetF r t w)))
   (qx : (∀ w, (binOp .eql 24 (.agg #[.int .u64 (p : Int), .int .u64 (q : Int)]) (.agg #[.int .u64 (infR : Int), .int .u64 (minf : Int)])).run Tryz.prog w = .ok (.bool false) w)) (qy : (∀ w, (binOp .eql 24 (.agg #[.int .u64 (r : Int), .int .u64 (t : Int)]) (.agg #[.int .u64 (infR : Int), .int .u64 (minf : Int)])).run Tryz.prog w = .ok (.bool false) w))
   (HN1 : Hid (∀ w, Calls Tryz.prog 13 #[.agg #[.int .u64 (p : Int), .int .u64 (q : Int)], .int .u64 (pa : Int)] w (fun e w' => e = .returned (.int .u64 (xa : Int)) ∧ Ext w w'))) (HB1 : Hid (∀ w, Calls Tryz.prog 12 #[.int .u64 (xa : Int)] w (RetR sX NX DX w)))
   (HN2 : Hid (∀ w, Calls Tryz.prog 13 #[.agg #[.int .u64 (r : Int), .int .u64 (t : Int)], .int .u64 (pb : Int)] w (fun e w' => e = .returned (.int .u64 (yb : Int)) ∧ Ext w w'))) (HB2 : Hid (∀ w, Calls Tryz.prog 12 #[.int .u64 (yb : Int)] w (RetR sY NY DY w)))
   (HPW : Hid (∀ w, Tab w → Calls Tryz.prog 15 #[.agg #[.float .f64 p, .float .f64 q], .int .i64 M] w (RetF u1 u2 w)))
   (HSG : Hid (∀ (A1 : Option Addr) (l1 c1 : Nat) (B1 : Option Addr) (k1 d1 : Nat) w, RatAt w A1 l1 c1 B1 k1 d1 NX DX → Calls Tryz.prog 17 #[.agg #[.bool sX, .slice A1 l1 c1, .slice B1 k1 d1]] w (fun e w' => e = .returned (.int .i64 sgx) ∧ Ext w w')))
   (HI1 : Hid (∀ w, Calls Tryz.prog 19 #[.int .i64 1] w (RetR false 1 1 w)))
   (hn : (decide (0 ≤ M) = true ∧ decide (M < 0) = false ∧ ∃ s5 N5 D5, Hid (∀ (A1 : Option Addr) (l1 c1 : Nat) (B1 : Option Addr) (k1 d1 : Nat) w, RatAt w A1 l1 c1 B1 k1 d1 NX DX → Calls Tryz.prog 16 #[.agg #[.bool sX, .slice A1 l1 c1, .slice B1 k1 d1], .int .i64 M] w (RetR s5 N5 D5 w)) ∧ Hid (∀ (A1 : Option Addr) (l1 c1 : Nat) (B1 : Option Addr) (k1 d1 : Nat) w, RatAt w A1 l1 c1 B1 k1 d1 N5 D5 → Calls Tryz.prog 14 #[.agg #[.float .f64 u1, .float .f64 u2], .agg #[.bool s5, .slice A1 l1 c1, .slice B1 k1 d1]] w (fun e w' => e = .returned (.bool true) ∧ Ext w w'))) ∨ (decide (0 ≤ M) = false ∧ decide (M < 0) = true ∧ (sgx == 0) = false ∧ ∃ (m : Nat) (s5 : Bool) (N5 D5 : Nat) (s6 : Bool) (N6 D6 : Nat), IntKind.i64.wrap (-M) = (m : Int) ∧ Hid (∀ (A1 : Option Addr) (l1 c1 : Nat) (B1 : Option Addr) (k1 d1 : Nat) w, RatAt w A1 l1 c1 B1 k1 d1 NX DX → Calls Tryz.prog 16 #[.agg #[.bool sX, .slice A1 l1 c1, .slice B1 k1 d1], .int .i64 (m : Int)] w (RetR s5 N5 D5 w)) ∧ Hid (∀ (A1 : Option Addr) (l1 c1 : Nat) (B1 : Option Addr) (k1 d1 : Nat) (A2 : Option Addr) (l2 c2 : Nat) (B2 : Option Addr) (k2 d2 : Nat) w, RatAt w A1 l1 c1 B1 k1 d1 1 1 → RatAt w A2 l2 c2 B2 k2 d2 N5 D5 → Calls Tryz.prog 18 #[.agg #[.bool false, .slice A1 l1 c1, .slice B1 k1 d1], .agg #[.bool s5, .slice A2 l2 c2, .slice B2 k2 d2]] w (RetR s6 N6 D6 w)) ∧ Hid (∀ (A1 : Option Addr) (l1 c1 : Nat) (B1 : Option Addr) (k1 d1 : Nat) w, RatAt w A1 l1 c1 B1 k1 d1 N6 D6 → Calls Tryz.prog 14 #[.agg #[.float .f64 u1, .float .f64 u2], .agg #[.bool s6, .slice A1 l1 c1, .slice B1 k1 d1]] w (fun e w' => e = .returned (.bool true) ∧ Ext w w'))) ∨ (decide (0 ≤ M) = false ∧ decide (M < 0) = true ∧ (sgx == 0) = true))
   (HRC : Hid (∀ (A1 : Option Addr) (l1 c1 : Nat) (B1 : Option Addr) (k1 d1 : Nat) (A2 : Option Addr) (l2 c2 : Nat) (B2 : Option Addr) (k2 d2 : Nat) w, RatAt w A1 l1 c1 B1 k1 d1 NX DX → RatAt w A2 l2 c2 B2 k2 d2 NY DY → Calls Tryz.prog 20 #[.agg #[.bool sX, .slice A1 l1 c1, .slice B1 k1 d1], .agg #[.bool sY, .slice A2 l2 c2, .slice B2 k2 d2]] w fun e w' => e = .returned (.int .i64 rc) ∧ Ext w w'))
   (hrc : (decide (0 < rc) = true ∧ Hid (∀ (A1 : Option Addr) (l1 c1 : Nat) (B1 : Option Addr) (k1 d1 : Nat) w, RatAt w A1 l1 c1 B1 k1 d1 NY DY → Calls Tryz.prog 14 #[.agg #[.float .f64 e1, .float .f64 e2], .agg #[.bool sY, .slice A1 l1 c1, .slice B1 k1 d1]] w (fun e w' => e = .returned (.bool true) ∧ Ext w w')) ∧ Hid (∀ (A1 : Option Addr) (l1 c1 : Nat) (B1 : Option Addr) (k1 d1 : Nat) w, RatAt w A1 l1 c1 B1 k1 d1 NX DX → Calls Tryz.prog 14 #[.agg #[.float .f64 f1, .float .f64 f2], .agg #[.bool sX, .slice A1 l1 c1, .slice B1 k1 d1]] w (fun e w' => e = .returned (.bool true) ∧ Ext w w'))) ∨ (decide (0 < rc) = false ∧ Hid (∀ (A1 : Option Addr) (l1 c1 : Nat) (B1 : Option Addr) (k1 d1 : Nat) w, RatAt w A1 l1 c1 B1 k1 d1 NX DX → Calls Tryz.prog 14 #[.agg #[.float .f64 e1, .float .f64 e2], .agg #[.bool sX, .slice A1 l1 c1, .slice B1 k1 d1]] w (fun e w' => e = .returned (.bool true) ∧ Ext w w')) ∧ Hid (∀ (A1 : Option Addr) (l1 c1 : Nat) (B1 : Option Addr) (k1 d1 : Nat) w, RatAt w A1 l1 c1 B1 k1 d1 NY DY → Calls Tryz.prog 14 #[.agg #[.float .f64 f1, .float .f64 f2], .agg #[.bool sY, .slice A1 l1 c1, .slice B1 k1 d1]] w (fun e w' => e = .returned (.bool true) ∧ Ext w w'))))
   (hng : (decide (sgx < 0) = true ∧ Hid (∀ (A1 : Option Addr) (l1 c1 : Nat) (B1 : Option Addr) (k1 d1 : Nat) w, RatAt w A1 l1 c1 B1 k1 d1 NX DX → Calls Tryz.prog 21 #[.agg #[.bool sX, .slice A1 l1 c1, .slice B1 k1 d1]] w (RetR false NX DX w)) ∧ Hid (∀ (A1 : Option Addr) (l1 c1 : Nat) (B1 : Option Addr) (k1 d1 : Nat) w, RatAt w A1 l1 c1 B1 k1 d1 NX DX → Calls Tryz.prog 14 #[.agg #[.float .f64 a1, .float .f64 a2], .agg #[.bool false, .slice A1 l1 c1, .slice B1 k1 d1]] w (fun e w' => e = .returned (.bool true) ∧ Ext w w'))) ∨ (decide (sgx < 0) = false ∧ Hid (∀ (A1 : Option Addr) (l1 c1 : Nat) (B1 : Option Addr) (k1 d1 : Nat) w, RatAt w A1 l1 c1 B1 k1 d1 NX DX → Calls Tryz.prog 14 #[.agg #[.float .f64 a1, .float .f64 a2], .agg #[.bool sX, .slice A1 l1 c1, .slice B1 k1 d1]] w (fun e w' => e = .returned (.bool true) ∧ Ext w w'))))
   (HMN : Hid (∀ w, Calls Tryz.prog 9 #[.agg #[.float .f64 p, .float .f64 q], .agg #[.float .f64 r, .float .f64 t]] w (RetF e1 e2 w))) (HMX : Hid (∀ w, Calls Tryz.prog 11 #[.agg #[.float .f64 p, .float .f64 q], .agg #[.float .f64 r, .float .f64 t]] w (RetF f1 f2 w))) (HAB : Hid (∀ w, Calls Tryz.prog 22 #[.agg #[.float .f64 p, .float .f64 q]] w (RetF a1 a2 w)))
   (HST : Hid (∀ kk : Nat, kk < 6 → ∃ b1 b2 s7 N7, Hid (∀ w, Calls Tryz.prog 23 #[.int .i64 (kk : Int), .agg #[.float .f64 p, .float .f64 q]] w (RetF b1 b2 w)) ∧ Hid (∀ (A1 : Option Addr) (l1 c1 : Nat) (B1 : Option Addr) (k1 d1 : Nat) w, RatAt w A1 l1 c1 B1 k1 d1 NX DX → Calls Tryz.prog 24 #[.int .i64 (kk : Int), .agg #[.bool sX, .slice A1 l1 c1, .slice B1 k1 d1]] w (RetR s7 N7 1 w)) ∧ Hid (∀ (A1 : Option Addr) (l1 c1 : Nat) (B1 : Option Addr) (k1 d1 : Nat) w, RatAt w A1 l1 c1 B1 k1 d1 N7 1 → Calls Tryz.prog 14 #[.agg #[.float .f64 b1, .float .f64 b2], .agg #[.bool s7, .slice A1 l1 c1, .slice B1 k1 d1]] w (fun e w' => e = .returned (.bool true) ∧ Ext w w')))) :
   Calls Tryz.prog 3 #[.agg #[.int .u64 (x1 : Int), .int .u64 (x2 : Int)], .agg #[.int .u64 (y1 : Int), .int .u64 (y2 : Int)], .int .u64 (pa : Int), .int .u64 (pb : Int), .int .i64 n0] w (fun e w' => e = .returned (.bool true) ∧ Ext w w') := by
 obtain ⟨rI, hrI⟩ : ∃ z, z = infR := ⟨_, rfl⟩
 obtain ⟨rM, hrM⟩ : ∃ z, z = minf := ⟨_, rfl⟩
 rw [← hrI, ← hrM] at HEM qx qy
 clear hrI hrM
 have hO := Own.start w
 have hf : True := trivial
 go_enter Tryz.func3, Tryz.ntmps3
 go_wp2_with (first | ((with_reducible refine at_box ?_); refine own_box (cs := [.int .u64 (x1 : Int), .int .u64 (x2 : Int)]) hO rfl rfl ?_; clear hO; intro g5 wa hO; clear hf; have hf := hO.cells; simp only [BC, CC, Nat.zero_add, Nat.reduceAdd, and_true] at hf) | ((with_reducible refine at_box ?_); refine own_box (cs := [.int .u64 (y1 : Int), .int .u64 (y2 : Int)]) hO rfl rfl ?_; clear hO; intro g6 wb hO; clear hf; have hf := hO.cells; simp only [BC, CC, Nat.zero_add, Nat.reduceAdd, and_true] at hf))
 refine (HRX.out _).mono ?_
 rintro e w1 ⟨rfl, hE1⟩
 have hO := hO.ext hE1
 clear hE1
 clear hf
 have hf := hO.cells
 simp only [BC, CC, Nat.zero_add, Nat.reduceAdd, and_true] at hf
 go_wp2_with ((with_reducible refine at_store (T := 24) ?_); refine own_store (T := 24) hO 1 rfl rfl rfl size_It rfl rfl rfl ?_; clear hO; intro w2 hO; simp only [List.set_cons_zero, List.set_cons_succ, spl, List.take_succ_cons, List.take_zero, List.nil_append, List.cons_append, List.length_cons, List.length_nil, List.drop_succ_cons, List.drop_zero, List.drop_nil, Nat.reduceAdd, Nat.zero_add, List.append_nil] at hO; clear hf; have hf := hO.cells; simp only [BC, CC, Nat.zero_add, Nat.reduceAdd, and_true] at hf)
 refine (HRY.out _).mono ?_
 rintro e w3 ⟨rfl, hE1⟩
 have hO := hO.ext hE1
 clear hE1
 clear hf
 have hf := hO.cells
 simp only [BC, CC, Nat.zero_add, Nat.reduceAdd, and_true] at hf
 go_upto_region 4 with (first | ((with_reducible refine at_store (T := 24) ?_); refine own_store (T := 24) hO 0 rfl rfl rfl size_It rfl rfl rfl ?_; clear hO; intro w4 hO; simp only [List.set_cons_zero, List.set_cons_succ, spl, List.take_succ_cons, List.take_zero, List.nil_append, List.cons_append, List.length_cons, List.length_nil, List.drop_succ_cons, List.drop_zero, List.drop_nil, Nat.reduceAdd, Nat.zero_add, List.append_nil] at hO; clear hf; have hf := hO.cells; simp only [BC, CC, Nat.zero_add, Nat.reduceAdd, and_true] at hf) | (go_at_call 5; (with_reducible refine (HLM.out _).mono ?_); rintro e w5 ⟨rfl, rfl⟩))
 obtain ⟨S, hS⟩ : ∃ S : World → Prop, S = Own w [⟨g6, 24, [.int .u64 (r : Int), .int .u64 (t : Int)]⟩, ⟨g5, 24, [.int .u64 (p : Int), .int .u64 (q : Int)]⟩] [] := ⟨_, rfl⟩
 have hSE : ∀ w w', S w → Ext w w' → S w' := fun w w' h1 h2 => by rw [hS] at h1 ⊢; exact h1.ext h2
 have hS1 : S w4.drew := by rw [hS]; exact hO.ext (Ext.refl w4).drew
 have HS := Lib.hid hS
 clear hS hO hf
 obtain ⟨sp, hsp⟩ : ∃ sp : Nat → Sp, sp = ofList [det (.agg #[.int .u64 (p : Int), .int .u64 (q : Int)]), det (.agg #[.int .u64 (rI : Int), .int .u64 (rM : Int)]), det (.bool false), det (.bool false), det (.agg #[.int .u64 (r : Int), .int .u64 (t : Int)]), det (.agg #[.int .u64 (rI : Int), .int .u64 (rM : Int)]), det (.bool false)] := ⟨_, rfl⟩
 have HSP := Lib.hid hsp
 clear hsp
 refine wp_region_loose 7 S sp (by kernel_rfl) (by kernel_rfl) hS1 hSE ?_
 simp only [List.take_succ_cons, List.take_zero, List.drop_succ_cons, List.drop_zero]
 refine wpX_step (fun K hK => ?_)
 go_simp
 refine StepY.det (by rw [HSP.out]; rfl) ?_ ?_
 · intro wz hz hF
   rw [HS.out] at hz
   have hf := hz.cells
   simp only [BC, CC, Nat.zero_add, Nat.reduceAdd, and_true] at hf
   clear hz hF
   go_simp
   exact ⟨rfl, Ext.refl _⟩
 refine hK _ _ ?_
 clear hK K
 refine wpX_step (fun K hK => ?_)
 go_simp
 refine StepY.det (by rw [HSP.out]; rfl) ?_ ?_
 · intro wz hz hF
   clear hz hF
   go_simp
   refine (HEM.out _).mono ?_
   rintro e w2 ⟨rfl, hE1⟩
   exact ⟨_, rfl, rfl, hE1⟩
 refine hK _ _ ?_
 clear hK K
 iterate 3
   refine wpX_step (fun K hK => ?_)
   go_simp
   refine StepY.det (by rw [HSP.out]; rfl) ?_ ?_
   · intro wz hz hF
     rw [HS.out] at hz
     have hf := hz.cells
     simp only [BC, CC, Nat.zero_add, Nat.reduceAdd, and_true] at hf
     clear hz hF
     go_simp
     exact ⟨rfl, Ext.refl _⟩
   refine hK _ _ ?_
   clear hK K
 refine wpX_step (fun K hK => ?_)
 go_simp
 refine StepY.det (by rw [HSP.out]; rfl) ?_ ?_
 · intro wz hz hF
   clear hz hF
   go_simp
   refine (HEM.out _).mono ?_
   rintro e w2 ⟨rfl, hE1⟩
   exact ⟨_, rfl, rfl, hE1⟩
 refine hK _ _ ?_
 clear hK K
 refine wpX_step (fun K hK => ?_)
 go_simp
 refine StepY.det (by rw [HSP.out]; rfl) ?_ ?_
 · intro wz hz hF
   clear hz hF
   go_simp
   exact ⟨rfl, Ext.refl _⟩
 refine hK _ _ ?_
 clear hK K
 refine wpX_nil ?_
 intro wq hz hF
 clear hF
 rw [HS.out] at hz
 have hO := hz
 clear hz HS HSP
 have hf := hO.cells
 simp only [BC, CC, Nat.zero_add, Nat.reduceAdd, and_true] at hf
 go_wp2_with fail
 refine (HN1.out _).mono ?_
 rintro e w6 ⟨rfl, hE1⟩
 have hO := hO.ext hE1
 clear hE1
 clear hf
 have hf := hO.cells
 simp only [BC, CC, Nat.zero_add, Nat.reduceAdd, and_true] at hf
 go_wp2_with fail
 refine (HB1.out _).mono ?_
 rintro e w7 ⟨A1, l1, c1, B1, k1, d1, rfl, hA, hB, hE1⟩
 have hO := ((hO.ext hE1).add hA).add hB
 clear hE1 hA hB
 clear hf
 have hf := hO.cells
 simp only [BC, CC, Nat.zero_add, Nat.reduceAdd, and_true] at hf
 go_wp2_with (first | ((with_reducible refine at_alloc ?_); refine own_alloc hO zero_rat rfl rfl ?_; clear hO; intro g11 w8 hO; clear hf; have hf := hO.cells; simp only [BC, CC, Nat.zero_add, Nat.reduceAdd, and_true] at hf) | ((with_reducible refine at_store (T := 37) ?_); refine own_store (T := 37) hO 0 rfl rfl rfl size_rat rfl rfl rfl ?_; clear hO; intro w9 hO; simp only [List.set_cons_zero, List.set_cons_succ, spl, List.take_succ_cons, List.take_zero, List.nil_append, List.cons_append, List.length_cons, List.length_nil, List.drop_succ_cons, List.drop_zero, List.drop_nil, Nat.reduceAdd, Nat.zero_add, List.append_nil] at hO; clear hf; have hf := hO.cells; simp only [BC, CC, Nat.zero_add, Nat.reduceAdd, and_true] at hf))
 refine (HN2.out _).mono ?_
 rintro e wP ⟨rfl, hE1⟩
 have hO := hO.ext hE1
 clear hE1
 clear hf
 have hf := hO.cells
 simp only [BC, CC, Nat.zero_add, Nat.reduceAdd, and_true] at hf
 go_wp2_with fail
 refine (HB2.out _).mono ?_
 rintro e wQ ⟨A2, l2, c2, B2, k2, d2, rfl, hA, hB, hE1⟩
 have hO := ((hO.ext hE1).add hA).add hB
 clear hE1 hA hB
 clear hf
 have hf := hO.cells
 simp only [BC, CC, Nat.zero_add, Nat.reduceAdd, and_true] at hf
 go_upto_region 8 with (first | ((with_reducible refine at_alloc ?_); refine own_alloc hO zero_rat rfl rfl ?_; clear hO; intro g12 wR hO; clear hf; have hf := hO.cells; simp only [BC, CC, Nat.zero_add, Nat.reduceAdd, and_true] at hf) | ((with_reducible refine at_store (T := 37) ?_); refine own_store (T := 37) hO 0 rfl rfl rfl size_rat rfl rfl rfl ?_; clear hO; intro wA hO; simp only [List.set_cons_zero, List.set_cons_succ, spl, List.take_succ_cons, List.take_zero, List.nil_append, List.cons_append, List.length_cons, List.length_nil, List.drop_succ_cons, List.drop_zero, List.drop_nil, Nat.reduceAdd, Nat.zero_add, List.append_nil] at hO; clear hf; have hf := hO.cells; simp only [BC, CC, Nat.zero_add, Nat.reduceAdd, and_true] at hf))
 rcases hn with ⟨v1, v2, s5, N5, D5, HRP, HH⟩ | ⟨v1, v2, v3, m, s5, N5, D5, s6, N6, D6, vm, HRP, HQU, HH⟩ | ⟨v1, v2, v3⟩
 case' inl =>
   obtain ⟨S, hS⟩ : ∃ S : World → Prop, S = Own w [⟨g12, 37, [.bool sY, .slice A2 l2 c2, .slice B2 k2 d2]⟩, ⟨g11, 37, [.bool sX, .slice A1 l1 c1, .slice B1 k1 d1]⟩, ⟨g6, 24, [.int .u64 (r : Int), .int .u64 (t : Int)]⟩, ⟨g5, 24, [.int .u64 (p : Int), .int .u64 (q : Int)]⟩] [⟨B2, k2, d2, nd DY⟩, ⟨A2, l2, c2, nd NY⟩, ⟨B1, k1, d1, nd DX⟩, ⟨A1, l1, c1, nd NX⟩] := ⟨_, rfl⟩
   have hSE : ∀ w w', S w → Ext w w' → S w' := fun w w' h1 h2 => by rw [hS] at h1 ⊢; exact h1.ext h2
   have hS1 : S wA.drew := by rw [hS]; exact hO.ext (Ext.refl wA).drew
   have HS := Lib.hid hS
   clear hS hO hf
   obtain ⟨sp, hsp⟩ : ∃ sp : Nat → Sp, sp = ofList [det (.int .i64 M), det (.bool true), det (.bool true), det (.agg #[.int .u64 (p : Int), .int .u64 (q : Int)]), det (.agg #[.float .f64 p, .float .f64 q]), det (.int .i64 M), det (.agg #[.float .f64 u1, .float .f64 u2]), det (.agg #[.bool sX, .slice A1 l1 c1, .slice B1 k1 d1]), det (.int .i64 M), anyOf (fun v wz => ∃ A l c B k d, v = .agg #[.bool s5, .slice A l c, .slice B k d] ∧ RatAt wz A l c B k d (N5) (D5)), det (.bool true), det (.bool false)] := ⟨_, rfl⟩
   have HSP := Lib.hid hsp
   clear hsp
   refine wp_region_loose 12 S sp (by kernel_rfl) (by kernel_rfl) hS1 hSE ?_
   simp only [List.take_succ_cons, List.take_zero, List.drop_succ_cons, List.drop_zero]
   iterate 4
     refine wpX_step (fun K hK => ?_)
     go_simp
     refine StepY.det (by rw [HSP.out]; rfl) ?_ ?_
     · intro wz hz hF
       rw [HS.out] at hz
       have hf := hz.cells
       simp only [BC, CC, Nat.zero_add, Nat.reduceAdd, and_true] at hf
       clear hz hF
       go_simp
       exact ⟨rfl, Ext.refl _⟩
     refine hK _ _ ?_
     clear hK K
   refine wpX_step (fun K hK => ?_)
   go_simp
   refine StepY.det (by rw [HSP.out]; rfl) ?_ ?_
   · intro wz hz hF
     clear hz hF
     go_simp
     refine (HIX.out _).mono ?_
     rintro e w2 ⟨rfl, hE1⟩
     exact ⟨_, rfl, rfl, hE1⟩
   refine hK _ _ ?_
   clear hK K
   refine wpX_step (fun K hK => ?_)
   go_simp
   refine StepY.det (by rw [HSP.out]; rfl) ?_ ?_
   · intro wz hz hF
     clear hz hF
     go_simp
     exact ⟨rfl, Ext.refl _⟩
   refine hK _ _ ?_
   clear hK K
   refine wpX_step (fun K hK => ?_)
   go_simp
   refine StepY.det (by rw [HSP.out]; rfl) ?_ ?_
   · intro wz hz hF
     rw [HS.out] at hz
     have hT := HT.out.ext hz.toExt
     clear hz hF
     go_simp
     refine (HPW.out _ hT).mono ?_
     rintro e w2 ⟨rfl, hE1⟩
     exact ⟨_, rfl, rfl, hE1⟩
   refine hK _ _ ?_
   clear hK K
   iterate 2
     refine wpX_step (fun K hK => ?_)
     go_simp
     refine StepY.det (by rw [HSP.out]; rfl) ?_ ?_
     · intro wz hz hF
       rw [HS.out] at hz
       have hf := hz.cells
       simp only [BC, CC, Nat.zero_add, Nat.reduceAdd, and_true] at hf
       clear hz hF
       go_simp
       exact ⟨rfl, Ext.refl _⟩
     refine hK _ _ ?_
     clear hK K
   refine wpX_step (fun K hK => ?_)
   go_simp
   refine StepY.any (by rw [HSP.out]; rfl) ?_ ?_
   · intro wz hz hF
     rw [HS.out] at hz
     have hR : RatAt wz A1 l1 c1 B1 k1 d1 NX DX := ⟨hz.wd 3 rfl, hz.wd 2 rfl⟩
     clear hF hz
     go_simp
     refine (HRP.out _ _ _ _ _ _ _ hR).mono ?_
     rintro e w2 ⟨A9, n9, c9, B9, m9, e9, rfl, hA9, hB9, hE9⟩
     exact ⟨_, rfl, ⟨A9, n9, c9, B9, m9, e9, rfl, hA9, hB9⟩, hE9⟩
   intro v1
   refine hK _ _ ?_
   clear hK K
   refine wpX_step (fun K hK => ?_)
   go_simp
   refine StepY.det (by rw [HSP.out]; rfl) ?_ ?_
   · intro wz hz hF
     obtain ⟨wa', ea, A5, n5, c5, B5, m5, e5, hv1, hw1⟩ := hF.any 9 (by kernel_rfl) (by rw [HSP.out]; rfl)
     clear hF hz
     simp only [asFun, List.nil_append, List.cons_append, List.getD_cons_succ, List.getD_cons_zero] at hv1
     subst hv1
     go_simp
     refine (HH.out _ _ _ _ _ _ _ (hw1.ext ea)).mono ?_
     rintro e w2 ⟨rfl, hE1⟩
     exact ⟨_, rfl, rfl, hE1⟩
   refine hK _ _ ?_
   clear hK K
   refine wpX_step (fun K hK => ?_)
   go_simp
   refine StepY.det (by rw [HSP.out]; rfl) ?_ ?_
   · intro wz hz hF
     clear hz hF
     go_simp
     exact ⟨rfl, Ext.refl _⟩
   refine hK _ _ ?_
   clear hK K
   refine wpX_nil ?_
   intro wq hz hF
   clear hF
   rw [HS.out] at hz
   have hO := hz
   clear hz HS HSP
   have hf := hO.cells
   simp only [BC, CC, Nat.zero_add, Nat.reduceAdd, and_true] at hf
   go_upto_region 10 with fail
   obtain ⟨S, hS⟩ : ∃ S : World → Prop, S = Own w [⟨g12, 37, [.bool sY, .slice A2 l2 c2, .slice B2 k2 d2]⟩, ⟨g11, 37, [.bool sX, .slice A1 l1 c1, .slice B1 k1 d1]⟩, ⟨g6, 24, [.int .u64 (r : Int), .int .u64 (t : Int)]⟩, ⟨g5, 24, [.int .u64 (p : Int), .int .u64 (q : Int)]⟩] [⟨B2, k2, d2, nd DY⟩, ⟨A2, l2, c2, nd NY⟩, ⟨B1, k1, d1, nd DX⟩, ⟨A1, l1, c1, nd NX⟩] := ⟨_, rfl⟩
   have hSE : ∀ w w', S w → Ext w w' → S w' := fun w w' h1 h2 => by rw [hS] at h1 ⊢; exact h1.ext h2
   have hS1 : S wq.drew := by rw [hS]; exact hO.ext (Ext.refl wq).drew
   have HS := Lib.hid hS
   clear hS hO hf
   obtain ⟨sp, hsp⟩ : ∃ sp : Nat → Sp, sp = ofList [det (.int .i64 M), det (.bool false), det (.bool false), det undef, det undef, det undef, det (.bool false), det (.bool false), det undef, det undef, det undef, det undef, det undef, det undef, det undef, det undef, det undef, det undef, det undef, det undef] := ⟨_, rfl⟩
   have HSP := Lib.hid hsp
   clear hsp
   refine wp_region_loose 20 S sp (by kernel_rfl) (by kernel_rfl) hS1 hSE ?_
   simp only [List.take_succ_cons, List.take_zero, List.drop_succ_cons, List.drop_zero]
   iterate 20
     refine wpX_step (fun K hK => ?_)
     go_simp
     first
     | refine ⟨by rw [HSP.out]; rfl, hK _ _ ?_⟩
       clear hK K
     | refine StepY.det (by rw [HSP.out]; rfl) ?_ ?_
       · intro wz hz hF
         clear hz hF
         go_simp
         exact ⟨rfl, Ext.refl _⟩
       refine hK _ _ ?_
       clear hK K
   refine wpX_nil ?_
   intro wq hz hF
   clear hF
   rw [HS.out] at hz
   have hO := hz
   clear hz HS HSP
   have hf := hO.cells
   simp only [BC, CC, Nat.zero_add, Nat.reduceAdd, and_true] at hf
   go_upto_region 12 with fail
 case' inr.inl =>
   have v4 : (sgx != 0) = true := by rw [bne, v3]; rfl
   obtain ⟨S, hS⟩ : ∃ S : World → Prop, S = Own w [⟨g12, 37, [.bool sY, .slice A2 l2 c2, .slice B2 k2 d2]⟩, ⟨g11, 37, [.bool sX, .slice A1 l1 c1, .slice B1 k1 d1]⟩, ⟨g6, 24, [.int .u64 (r : Int), .int .u64 (t : Int)]⟩, ⟨g5, 24, [.int .u64 (p : Int), .int .u64 (q : Int)]⟩] [⟨B2, k2, d2, nd DY⟩, ⟨A2, l2, c2, nd NY⟩, ⟨B1, k1, d1, nd DX⟩, ⟨A1, l1, c1, nd NX⟩] := ⟨_, rfl⟩
   have hSE : ∀ w w', S w → Ext w w' → S w' := fun w w' h1 h2 => by rw [hS] at h1 ⊢; exact h1.ext h2
   have hS1 : S wA.drew := by rw [hS]; exact hO.ext (Ext.refl wA).drew
   have HS := Lib.hid hS
   clear hS hO hf
   obtain ⟨sp, hsp⟩ : ∃ sp : Nat → Sp, sp = ofList [det (.int .i64 M), det (.bool false), det (.bool false), det undef, det undef, det undef, det undef, det undef, det undef, det undef, det undef, det undef] := ⟨_, rfl⟩
   have HSP := Lib.hid hsp
   clear hsp
   refine wp_region_loose 12 S sp (by kernel_rfl) (by kernel_rfl) hS1 hSE ?_
   simp only [List.take_succ_cons, List.take_zero, List.drop_succ_cons, List.drop_zero]
   iterate 12
     refine wpX_step (fun K hK => ?_)
     go_simp
     first
     | refine ⟨by rw [HSP.out]; rfl, hK _ _ ?_⟩
       clear hK K
     | refine StepY.det (by rw [HSP.out]; rfl) ?_ ?_
       · intro wz hz hF
         clear hz hF
         go_simp
         exact ⟨rfl, Ext.refl _⟩
       refine hK _ _ ?_
       clear hK K
   refine wpX_nil ?_
   intro wq hz hF
   clear hF
   rw [HS.out] at hz
   have hO := hz
   clear hz HS HSP
   have hf := hO.cells
   simp only [BC, CC, Nat.zero_add, Nat.reduceAdd, and_true] at hf
   go_upto_region 10 with fail
   obtain ⟨S, hS⟩ : ∃ S : World → Prop, S = Own w [⟨g12, 37, [.bool sY, .slice A2 l2 c2, .slice B2 k2 d2]⟩, ⟨g11, 37, [.bool sX, .slice A1 l1 c1, .slice B1 k1 d1]⟩, ⟨g6, 24, [.int .u64 (r : Int), .int .u64 (t : Int)]⟩, ⟨g5, 24, [.int .u64 (p : Int), .int .u64 (q : Int)]⟩] [⟨B2, k2, d2, nd DY⟩, ⟨A2, l2, c2, nd NY⟩, ⟨B1, k1, d1, nd DX⟩, ⟨A1, l1, c1, nd NX⟩] := ⟨_, rfl⟩
   have hSE : ∀ w w', S w → Ext w w' → S w' := fun w w' h1 h2 => by rw [hS] at h1 ⊢; exact h1.ext h2
   have hS1 : S wq.drew := by rw [hS]; exact hO.ext (Ext.refl wq).drew
   have HS := Lib.hid hS
   clear hS hO hf
   obtain ⟨sp, hsp⟩ : ∃ sp : Nat → Sp, sp = ofList [det (.int .i64 M), det (.bool true), det (.bool true), det (.agg #[.bool sX, .slice A1 l1 c1, .slice B1 k1 d1]), det (.int .i64 sgx), det (.bool true), det (.bool true), det (.bool true), det (.agg #[.int .u64 (p : Int), .int .u64 (q : Int)]), det (.agg #[.float .f64 p, .float .f64 q]), det (.int .i64 M), det (.agg #[.float .f64 u1, .float .f64 u2]), anyOf (fun v wz => ∃ A l c B k d, v = .agg #[.bool false, .slice A l c, .slice B k d] ∧ RatAt wz A l c B k d (1) (1)), det (.agg #[.bool sX, .slice A1 l1 c1, .slice B1 k1 d1]), det (.int .i64 M), det (.int .i64 (m : Int)), anyOf (fun v wz => ∃ A l c B k d, v = .agg #[.bool s5, .slice A l c, .slice B k d] ∧ RatAt wz A l c B k d (N5) (D5)), anyOf (fun v wz => ∃ A l c B k d, v = .agg #[.bool s6, .slice A l c, .slice B k d] ∧ RatAt wz A l c B k d (N6) (D6)), det (.bool true), det (.bool false)] := ⟨_, rfl⟩
   have HSP := Lib.hid hsp
   clear hsp
   refine wp_region_loose 20 S sp (by kernel_rfl) (by kernel_rfl) hS1 hSE ?_
   simp only [List.take_succ_cons, List.take_zero, List.drop_succ_cons, List.drop_zero]
   iterate 4
     refine wpX_step (fun K hK => ?_)
     go_simp
     refine StepY.det (by rw [HSP.out]; rfl) ?_ ?_
     · intro wz hz hF
       rw [HS.out] at hz
       have hf := hz.cells
       simp only [BC, CC, Nat.zero_add, Nat.reduceAdd, and_true] at hf
       clear hz hF
       go_simp
       exact ⟨rfl, Ext.refl _⟩
     refine hK _ _ ?_
     clear hK K
   refine wpX_step (fun K hK => ?_)
   go_simp
   refine StepY.det (by rw [HSP.out]; rfl) ?_ ?_
   · intro wz hz hF
     rw [HS.out] at hz
     have hR : RatAt wz A1 l1 c1 B1 k1 d1 NX DX := ⟨hz.wd 3 rfl, hz.wd 2 rfl⟩
     clear hF hz
     go_simp
     refine (HSG.out _ _ _ _ _ _ _ hR).mono ?_
     rintro e w2 ⟨rfl, hE1⟩
     exact ⟨_, rfl, rfl, hE1⟩
   refine hK _ _ ?_
   clear hK K
   iterate 4
     refine wpX_step (fun K hK => ?_)
     go_simp
     refine StepY.det (by rw [HSP.out]; rfl) ?_ ?_
     · intro wz hz hF
       rw [HS.out] at hz
       have hf := hz.cells
       simp only [BC, CC, Nat.zero_add, Nat.reduceAdd, and_true] at hf
       clear hz hF
       go_simp
       exact ⟨rfl, Ext.refl _⟩
     refine hK _ _ ?_
     clear hK K
   refine wpX_step (fun K hK => ?_)
   go_simp
   refine StepY.det (by rw [HSP.out]; rfl) ?_ ?_
   · intro wz hz hF
     clear hz hF
     go_simp
     refine (HIX.out _).mono ?_
     rintro e w2 ⟨rfl, hE1⟩
     exact ⟨_, rfl, rfl, hE1⟩
   refine hK _ _ ?_
   clear hK K
   refine wpX_step (fun K hK => ?_)
   go_simp
   refine StepY.det (by rw [HSP.out]; rfl) ?_ ?_
   · intro wz hz hF
     clear hz hF
     go_simp
     exact ⟨rfl, Ext.refl _⟩
   refine hK _ _ ?_
   clear hK K
   refine wpX_step (fun K hK => ?_)
   go_simp
   refine StepY.det (by rw [HSP.out]; rfl) ?_ ?_
   · intro wz hz hF
     rw [HS.out] at hz
     have hT := HT.out.ext hz.toExt
     clear hz hF
     go_simp
     refine (HPW.out _ hT).mono ?_
     rintro e w2 ⟨rfl, hE1⟩
     exact ⟨_, rfl, rfl, hE1⟩
   refine hK _ _ ?_
   clear hK K
   refine wpX_step (fun K hK => ?_)
   go_simp
   refine StepY.any (by rw [HSP.out]; rfl) ?_ ?_
   · intro wz hz hF
     clear hz hF
     go_simp
     refine (HI1.out _).mono ?_
     rintro e w2 ⟨A9, n9, c9, B9, m9, e9, rfl, hA9, hB9, hE9⟩
     exact ⟨_, rfl, ⟨A9, n9, c9, B9, m9, e9, rfl, hA9, hB9⟩, hE9⟩
   intro v1
   refine hK _ _ ?_
   clear hK K
   iterate 3
     refine wpX_step (fun K hK => ?_)
     go_simp
     refine StepY.det (by rw [HSP.out]; rfl) ?_ ?_
     · intro wz hz hF
       rw [HS.out] at hz
       have hf := hz.cells
       simp only [BC, CC, Nat.zero_add, Nat.reduceAdd, and_true] at hf
       clear hz hF
       go_simp
       exact ⟨rfl, Ext.refl _⟩
     refine hK _ _ ?_
     clear hK K
   refine wpX_step (fun K hK => ?_)
   go_simp
   refine StepY.any (by rw [HSP.out]; rfl) ?_ ?_
   · intro wz hz hF
     rw [HS.out] at hz
     have hR : RatAt wz A1 l1 c1 B1 k1 d1 NX DX := ⟨hz.wd 3 rfl, hz.wd 2 rfl⟩
     clear hF hz
     go_simp
     refine (HRP.out _ _ _ _ _ _ _ hR).mono ?_
     rintro e w2 ⟨A9, n9, c9, B9, m9, e9, rfl, hA9, hB9, hE9⟩
     exact ⟨_, rfl, ⟨A9, n9, c9, B9, m9, e9, rfl, hA9, hB9⟩, hE9⟩
   intro v2
   refine hK _ _ ?_
   clear hK K
   refine wpX_step (fun K hK => ?_)
   go_simp
   refine StepY.any (by rw [HSP.out]; rfl) ?_ ?_
   · intro wz hz hF
     obtain ⟨wa', ea, A5, n5, c5, B5, m5, e5, hv1, hw1⟩ := hF.any 12 (by kernel_rfl) (by rw [HSP.out]; rfl)
     obtain ⟨wb', eb, A6, n6, c6, B6, m6, e6, hv2, hw2⟩ := hF.any 16 (by kernel_rfl) (by rw [HSP.out]; rfl)
     clear hF hz
     simp only [asFun, List.nil_append, List.cons_append, List.getD_cons_succ, List.getD_cons_zero] at hv1 hv2
     subst hv1 hv2
     go_simp
     refine (HQU.out _ _ _ _ _ _ _ _ _ _ _ _ _ (hw1.ext ea) (hw2.ext eb)).mono ?_
     rintro e w2 ⟨A9, n9, c9, B9, m9, e9, rfl, hA9, hB9, hE9⟩
     exact ⟨_, rfl, ⟨A9, n9, c9, B9, m9, e9, rfl, hA9, hB9⟩, hE9⟩
   intro v3
   refine hK _ _ ?_
   clear hK K
   refine wpX_step (fun K hK => ?_)
   go_simp
   refine StepY.det (by rw [HSP.out]; rfl) ?_ ?_
   · intro wz hz hF
     obtain ⟨wa', ea, A5, n5, c5, B5, m5, e5, hv1, hw1⟩ := hF.any 17 (by kernel_rfl) (by rw [HSP.out]; rfl)
     clear hF hz
     simp only [asFun, List.nil_append, List.cons_append, List.getD_cons_succ, List.getD_cons_zero] at hv1
     subst hv1
     go_simp
     refine (HH.out _ _ _ _ _ _ _ (hw1.ext ea)).mono ?_
     rintro e w2 ⟨rfl, hE1⟩
     exact ⟨_, rfl, rfl, hE1⟩
   refine hK _ _ ?_
   clear hK K
   refine wpX_step (fun K hK => ?_)
   go_simp
   refine StepY.det (by rw [HSP.out]; rfl) ?_ ?_
   · intro wz hz hF
     clear hz hF
     go_simp
     exact ⟨rfl, Ext.refl _⟩
   refine hK _ _ ?_
   clear hK K
   refine wpX_nil ?_
   intro wq hz hF
   clear hF
   rw [HS.out] at hz
   have hO := hz
   clear hz HS HSP
   have hf := hO.cells
   simp only [BC, CC, Nat.zero_add, Nat.reduceAdd, and_true] at hf
   go_upto_region 12 with fail
 case' inr.inr =>
   have v4 : (sgx != 0) = false := by rw [bne, v3]; rfl
   obtain ⟨S, hS⟩ : ∃ S : World → Prop, S = Own w [⟨g12, 37, [.bool sY, .slice A2 l2 c2, .slice B2 k2 d2]⟩, ⟨g11, 37, [.bool sX, .slice A1 l1 c1, .slice B1 k1 d1]⟩, ⟨g6, 24, [.int .u64 (r : Int), .int .u64 (t : Int)]⟩, ⟨g5, 24, [.int .u64 (p : Int), .int .u64 (q : Int)]⟩] [⟨B2, k2, d2, nd DY⟩, ⟨A2, l2, c2, nd NY⟩, ⟨B1, k1, d1, nd DX⟩, ⟨A1, l1, c1, nd NX⟩] := ⟨_, rfl⟩
   have hSE : ∀ w w', S w → Ext w w' → S w' := fun w w' h1 h2 => by rw [hS] at h1 ⊢; exact h1.ext h2
   have hS1 : S wA.drew := by rw [hS]; exact hO.ext (Ext.refl wA).drew
   have HS := Lib.hid hS
   clear hS hO hf
   obtain ⟨sp, hsp⟩ : ∃ sp : Nat → Sp, sp = ofList [det (.int .i64 M), det (.bool false), det (.bool false), det undef, det undef, det undef, det undef, det undef, det undef, det undef, det undef, det undef] := ⟨_, rfl⟩
   have HSP := Lib.hid hsp
   clear hsp
   refine wp_region_loose 12 S sp (by kernel_rfl) (by kernel_rfl) hS1 hSE ?_
   simp only [List.take_succ_cons, List.take_zero, List.drop_succ_cons, List.drop_zero]
   iterate 12
     refine wpX_step (fun K hK => ?_)
     go_simp
     first
     | refine ⟨by rw [HSP.out]; rfl, hK _ _ ?_⟩
       clear hK K
     | refine StepY.det (by rw [HSP.out]; rfl) ?_ ?_
       · intro wz hz hF
         clear hz hF
         go_simp
         exact ⟨rfl, Ext.refl _⟩
       refine hK _ _ ?_
       clear hK K
   refine wpX_nil ?_
   intro wq hz hF
   clear hF
   rw [HS.out] at hz
   have hO := hz
   clear hz HS HSP
   have hf := hO.cells
   simp only [BC, CC, Nat.zero_add, Nat.reduceAdd, and_true] at hf
   go_upto_region 10 with fail
   obtain ⟨S, hS⟩ : ∃ S : World → Prop, S = Own w [⟨g12, 37, [.bool sY, .slice A2 l2 c2, .slice B2 k2 d2]⟩, ⟨g11, 37, [.bool sX, .slice A1 l1 c1, .slice B1 k1 d1]⟩, ⟨g6, 24, [.int .u64 (r : Int), .int .u64 (t : Int)]⟩, ⟨g5, 24, [.int .u64 (p : Int), .int .u64 (q : Int)]⟩] [⟨B2, k2, d2, nd DY⟩, ⟨A2, l2, c2, nd NY⟩, ⟨B1, k1, d1, nd DX⟩, ⟨A1, l1, c1, nd NX⟩] := ⟨_, rfl⟩
   have hSE : ∀ w w', S w → Ext w w' → S w' := fun w w' h1 h2 => by rw [hS] at h1 ⊢; exact h1.ext h2
   have hS1 : S wq.drew := by rw [hS]; exact hO.ext (Ext.refl wq).drew
   have HS := Lib.hid hS
   clear hS hO hf
   obtain ⟨sp, hsp⟩ : ∃ sp : Nat → Sp, sp = ofList [det (.int .i64 M), det (.bool true), det (.bool true), det (.agg #[.bool sX, .slice A1 l1 c1, .slice B1 k1 d1]), det (.int .i64 sgx), det (.bool false), det (.bool false), det (.bool false), det undef, det undef, det undef, det undef, det undef, det undef, det undef, det undef, det undef, det undef, det undef, det undef] := ⟨_, rfl⟩
   have HSP := Lib.hid hsp
   clear hsp
   refine wp_region_loose 20 S sp (by kernel_rfl) (by kernel_rfl) hS1 hSE ?_
   simp only [List.take_succ_cons, List.take_zero, List.drop_succ_cons, List.drop_zero]
   iterate 4
     refine wpX_step (fun K hK => ?_)
     go_simp
     refine StepY.det (by rw [HSP.out]; rfl) ?_ ?_
     · intro wz hz hF
       rw [HS.out] at hz
       have hf := hz.cells
       simp only [BC, CC, Nat.zero_add, Nat.reduceAdd, and_true] at hf
       clear hz hF
       go_simp
       exact ⟨rfl, Ext.refl _⟩
     refine hK _ _ ?_
     clear hK K
   refine wpX_step (fun K hK => ?_)
   go_simp
   refine StepY.det (by rw [HSP.out]; rfl) ?_ ?_
   · intro wz hz hF
     rw [HS.out] at hz
     have hR : RatAt wz A1 l1 c1 B1 k1 d1 NX DX := ⟨hz.wd 3 rfl, hz.wd 2 rfl⟩
     clear hF hz
     go_simp
     refine (HSG.out _ _ _ _ _ _ _ hR).mono ?_
     rintro e w2 ⟨rfl, hE1⟩
     exact ⟨_, rfl, rfl, hE1⟩
   refine hK _ _ ?_
   clear hK K
   iterate 15
     refine wpX_step (fun K hK => ?_)
     go_simp
     first
     | refine ⟨by rw [HSP.out]; rfl, hK _ _ ?_⟩
       clear hK K
     | refine StepY.det (by rw [HSP.out]; rfl) ?_ ?_
       · intro wz hz hF
         clear hz hF
         go_simp
         exact ⟨rfl, Ext.refl _⟩
       refine hK _ _ ?_
       clear hK K
   refine wpX_nil ?_
   intro wq hz hF
   clear hF
   rw [HS.out] at hz
   have hO := hz
   clear hz HS HSP
   have hf := hO.cells
   simp only [BC, CC, Nat.zero_add, Nat.reduceAdd, and_true] at hf
   go_upto_region 12 with fail
 all_goals
   rcases hrc with ⟨cc1, HML, HMG⟩ | ⟨cc1, HML, HMG⟩ <;> rcases hng with ⟨cc2, HNG, HMA⟩ | ⟨cc2, HMA⟩
   go_upto_region 13 with (first | ((with_reducible refine at_alloc ?_); refine own_alloc hO zero_rat rfl rfl ?_; clear hO; intro g13 wb hO; clear hf; have hf := hO.cells; simp only [BC, CC, Nat.zero_add, Nat.reduceAdd, and_true] at hf) | ((with_reducible refine at_store (T := 37) ?_); refine own_store (T := 37) hO 0 rfl rfl rfl size_rat rfl rfl rfl ?_; clear hO; intro wc hO; simp only [List.set_cons_zero, List.set_cons_succ, spl, List.take_succ_cons, List.take_zero, List.nil_append, List.cons_append, List.length_cons, List.length_nil, List.drop_succ_cons, List.drop_zero, List.drop_nil, Nat.reduceAdd, Nat.zero_add, List.append_nil] at hO; clear hf; have hf := hO.cells; simp only [BC, CC, Nat.zero_add, Nat.reduceAdd, and_true] at hf))
   go_upto_region 14 with (first | ((with_reducible refine at_alloc ?_); refine own_alloc hO zero_rat rfl rfl ?_; clear hO; intro g14 wd hO; clear hf; have hf := hO.cells; simp only [BC, CC, Nat.zero_add, Nat.reduceAdd, and_true] at hf) | ((with_reducible refine at_store (T := 37) ?_); refine own_store (T := 37) hO 0 rfl rfl rfl size_rat rfl rfl rfl ?_; clear hO; intro we hO; simp only [List.set_cons_zero, List.set_cons_succ, spl, List.take_succ_cons, List.take_zero, List.nil_append, List.cons_append, List.length_cons, List.length_nil, List.drop_succ_cons, List.drop_zero, List.drop_nil, Nat.reduceAdd, Nat.zero_add, List.append_nil] at hO; clear hf; have hf := hO.cells; simp only [BC, CC, Nat.zero_add, Nat.reduceAdd, and_true] at hf))
   go_wp2_with fail
   refine (HRC.out _ _ _ _ _ _ _ _ _ _ _ _ _ ⟨hO.wd 3 rfl, hO.wd 2 rfl⟩ ⟨hO.wd 1 rfl, hO.wd 0 rfl⟩).mono ?_
   rintro e wf ⟨rfl, hE1⟩
   have hO := hO.ext hE1
   clear hE1
   clear hf
   have hf := hO.cells
   simp only [BC, CC, Nat.zero_add, Nat.reduceAdd, and_true] at hf
   go_wp2_with (first | ((with_reducible refine at_store (T := 37) ?_); refine own_store (T := 37) hO 1 rfl rfl rfl size_rat rfl rfl rfl ?_; clear hO; intro wg hO; simp only [List.set_cons_zero, List.set_cons_succ, spl, List.take_succ_cons, List.take_zero, List.nil_append, List.cons_append, List.length_cons, List.length_nil, List.drop_succ_cons, List.drop_zero, List.drop_nil, Nat.reduceAdd, Nat.zero_add, List.append_nil] at hO; clear hf; have hf := hO.cells; simp only [BC, CC, Nat.zero_add, Nat.reduceAdd, and_true] at hf) | ((with_reducible refine at_store (T := 37) ?_); refine own_store (T := 37) hO 0 rfl rfl rfl size_rat rfl rfl rfl ?_; clear hO; intro wh hO; simp only [List.set_cons_zero, List.set_cons_succ, spl, List.take_succ_cons, List.take_zero, List.nil_append, List.cons_append, List.length_cons, List.length_nil, List.drop_succ_cons, List.drop_zero, List.drop_nil, Nat.reduceAdd, Nat.zero_add, List.append_nil] at hO; clear hf; have hf := hO.cells; simp only [BC, CC, Nat.zero_add, Nat.reduceAdd, and_true] at hf) | ((with_reducible refine at_alloc ?_); refine own_alloc hO zero_rat rfl rfl ?_; clear hO; intro g15 wi hO; clear hf; have hf := hO.cells; simp only [BC, CC, Nat.zero_add, Nat.reduceAdd, and_true] at hf))
   refine (HSG.out _ _ _ _ _ _ _ ⟨hO.wd 3 rfl, hO.wd 2 rfl⟩).mono ?_
   rintro e wj ⟨rfl, hE1⟩
   have hO := hO.ext hE1
   clear hE1
   clear hf
   have hf := hO.cells
   simp only [BC, CC, Nat.zero_add, Nat.reduceAdd, and_true] at hf
   go_wp2_with fail
   refine (HNG.out _ _ _ _ _ _ _ ⟨hO.wd 3 rfl, hO.wd 2 rfl⟩).mono ?_
   rintro e wk ⟨A7, l7, c7, B7, k7, d7, rfl, hA, hB, hE1⟩
   have hO := ((hO.ext hE1).add hA).add hB
   clear hE1 hA hB
   clear hf
   have hf := hO.cells
   simp only [BC, CC, Nat.zero_add, Nat.reduceAdd, and_true] at hf
   go_upto_region 20 with ((with_reducible refine at_store (T := 37) ?_); refine own_store (T := 37) hO 0 rfl rfl rfl size_rat rfl rfl rfl ?_; clear hO; intro wl hO; simp only [List.set_cons_zero, List.set_cons_succ, spl, List.take_succ_cons, List.take_zero, List.nil_append, List.cons_append, List.length_cons, List.length_nil, List.drop_succ_cons, List.drop_zero, List.drop_nil, Nat.reduceAdd, Nat.zero_add, List.append_nil] at hO; clear hf; have hf := hO.cells; simp only [BC, CC, Nat.zero_add, Nat.reduceAdd, and_true] at hf)
   obtain ⟨S, sL, NL, DL, A3, l3, c3, B3, k3, d3, sG, NG, DG, A4, l4, c4, B4, k4, d4, sZ, NZ, DZ, A5, l5, c5, B5, k5, d5, HML, HMG, HMA, HSE, hS0, HFT, HRS⟩ : ∃ (S : World → Prop) (sL : Bool) (NL DL : Nat) (A3 : Option Addr) (l3 c3 : Nat) (B3 : Option Addr) (k3 d3 : Nat) (sG : Bool) (NG DG : Nat) (A4 : Option Addr) (l4 c4 : Nat) (B4 : Option Addr) (k4 d4 : Nat) (sZ : Bool) (NZ DZ : Nat) (A5 : Option Addr) (l5 c5 : Nat) (B5 : Option Addr) (k5 d5 : Nat), Hid (∀ (A1 : Option Addr) (l1 c1 : Nat) (B1 : Option Addr) (k1 d1 : Nat) w, RatAt w A1 l1 c1 B1 k1 d1 NL DL → Calls Tryz.prog 14 #[.agg #[.float .f64 e1, .float .f64 e2], .agg #[.bool sL, .slice A1 l1 c1, .slice B1 k1 d1]] w (fun e w' => e = .returned (.bool true) ∧ Ext w w')) ∧ Hid (∀ (A1 : Option Addr) (l1 c1 : Nat) (B1 : Option Addr) (k1 d1 : Nat) w, RatAt w A1 l1 c1 B1 k1 d1 NG DG → Calls Tryz.prog 14 #[.agg #[.float .f64 f1, .float .f64 f2], .agg #[.bool sG, .slice A1 l1 c1, .slice B1 k1 d1]] w (fun e w' => e = .returned (.bool true) ∧ Ext w w')) ∧ Hid (∀ (A1 : Option Addr) (l1 c1 : Nat) (B1 : Option Addr) (k1 d1 : Nat) w, RatAt w A1 l1 c1 B1 k1 d1 NZ DZ → Calls Tryz.prog 14 #[.agg #[.float .f64 a1, .float .f64 a2], .agg #[.bool sZ, .slice A1 l1 c1, .slice B1 k1 d1]] w (fun e w' => e = .returned (.bool true) ∧ Ext w w')) ∧ Hid (∀ w w', S w → Ext w w' → S w') ∧ S wl ∧ Hid (∀ wz, S wz → Ext w wz ∧ wz.cell? ⟨g5, 0, none⟩ = some (.int .u64 (p : Int)) ∧ wz.cell? ⟨g5, 1, none⟩ = some (.int .u64 (q : Int)) ∧ wz.cell? ⟨g6, 0, none⟩ = some (.int .u64 (r : Int)) ∧ wz.cell? ⟨g6, 1, none⟩ = some (.int .u64 (t : Int)) ∧ wz.cell? ⟨g13, 0, none⟩ = some (.bool sL) ∧ wz.cell? ⟨g13, 1, none⟩ = some (.slice A3 l3 c3) ∧ wz.cell? ⟨g13, 2, none⟩ = some (.slice B3 k3 d3) ∧ wz.cell? ⟨g14, 0, none⟩ = some (.bool sG) ∧ wz.cell? ⟨g14, 1, none⟩ = some (.slice A4 l4 c4) ∧ wz.cell? ⟨g14, 2, none⟩ = some (.slice B4 k4 d4) ∧ wz.cell? ⟨g15, 0, none⟩ = some (.bool sZ) ∧ wz.cell? ⟨g15, 1, none⟩ = some (.slice A5 l5 c5) ∧ wz.cell? ⟨g15, 2, none⟩ = some (.slice B5 k5 d5) ∧ wz.cell? ⟨g11, 0, none⟩ = some (.bool sX) ∧ wz.cell? ⟨g11, 1, none⟩ = some (.slice A1 l1 c1) ∧ wz.cell? ⟨g11, 2, none⟩ = some (.slice B1 k1 d1)) ∧ Hid (∀ wz, S wz → RatAt wz A3 l3 c3 B3 k3 d3 NL DL ∧ RatAt wz A4 l4 c4 B4 k4 d4 NG DG ∧ RatAt wz A5 l5 c5 B5 k5 d5 NZ DZ ∧ RatAt wz A1 l1 c1 B1 k1 d1 NX DX) := by
     exact ⟨Own w _ _, _, _, _, A2, l2, c2, B2, k2, d2, _, _, _, A1, l1, c1, B1, k1, d1, _, _, _, A7, l7, c7, B7, k7, d7, HML, HMG, HMA, Lib.hid (fun _ _ h e => Own.ext h e), hO, Lib.hid (fun wz hz => by have hf := hz.cells; simp only [BC, CC, Nat.zero_add, Nat.reduceAdd, and_true] at hf; obtain ⟨⟨a1, a2, a3⟩, ⟨b1, b2, b3⟩, ⟨c1, c2, c3⟩, ⟨d1, d2, d3⟩, ⟨e1, e2, e3⟩, ⟨f1, f2⟩, ⟨h1, h2⟩⟩ := hf; exact ⟨hz.toExt, h1, h2, f1, f2, c1, c2, c3, b1, b2, b3, a1, a2, a3, e1, e2, e3⟩), Lib.hid (fun wz hz => by exact ⟨⟨hz.wd 3 rfl, hz.wd 2 rfl⟩, ⟨hz.wd 5 rfl, hz.wd 4 rfl⟩, ⟨hz.wd 1 rfl, hz.wd 0 rfl⟩, ⟨hz.wd 5 rfl, hz.wd 4 rfl⟩⟩)⟩
   clear hO hf
   rotate_left
   go_upto_region 13 with (first | ((with_reducible refine at_alloc ?_); refine own_alloc hO zero_rat rfl rfl ?_; clear hO; intro g13 wb hO; clear hf; have hf := hO.cells; simp only [BC, CC, Nat.zero_add, Nat.reduceAdd, and_true] at hf) | ((with_reducible refine at_store (T := 37) ?_); refine own_store (T := 37) hO 0 rfl rfl rfl size_rat rfl rfl rfl ?_; clear hO; intro wc hO; simp only [List.set_cons_zero, List.set_cons_succ, spl, List.take_succ_cons, List.take_zero, List.nil_append, List.cons_append, List.length_cons, List.length_nil, List.drop_succ_cons, List.drop_zero, List.drop_nil, Nat.reduceAdd, Nat.zero_add, List.append_nil] at hO; clear hf; have hf := hO.cells; simp only [BC, CC, Nat.zero_add, Nat.reduceAdd, and_true] at hf))
   go_upto_region 14 with (first | ((with_reducible refine at_alloc ?_); refine own_alloc hO zero_rat rfl rfl ?_; clear hO; intro g14 wd hO; clear hf; have hf := hO.cells; simp only [BC, CC, Nat.zero_add, Nat.reduceAdd, and_true] at hf) | ((with_reducible refine at_store (T := 37) ?_); refine own_store (T := 37) hO 0 rfl rfl rfl size_rat rfl rfl rfl ?_; clear hO; intro we hO; simp only [List.set_cons_zero, List.set_cons_succ, spl, List.take_succ_cons, List.take_zero, List.nil_append, List.cons_append, List.length_cons, List.length_nil, List.drop_succ_cons, List.drop_zero, List.drop_nil, Nat.reduceAdd, Nat.zero_add, List.append_nil] at hO; clear hf; have hf := hO.cells; simp only [BC, CC, Nat.zero_add, Nat.reduceAdd, and_true] at hf))
   go_wp2_with fail
   refine (HRC.out _ _ _ _ _ _ _ _ _ _ _ _ _ ⟨hO.wd 3 rfl, hO.wd 2 rfl⟩ ⟨hO.wd 1 rfl, hO.wd 0 rfl⟩).mono ?_
   rintro e wf ⟨rfl, hE1⟩
   have hO := hO.ext hE1
   clear hE1
   clear hf
   have hf := hO.cells
   simp only [BC, CC, Nat.zero_add, Nat.reduceAdd, and_true] at hf
   go_wp2_with (first | ((with_reducible refine at_store (T := 37) ?_); refine own_store (T := 37) hO 1 rfl rfl rfl size_rat rfl rfl rfl ?_; clear hO; intro wg hO; simp only [List.set_cons_zero, List.set_cons_succ, spl, List.take_succ_cons, List.take_zero, List.nil_append, List.cons_append, List.length_cons, List.length_nil, List.drop_succ_cons, List.drop_zero, List.drop_nil, Nat.reduceAdd, Nat.zero_add, List.append_nil] at hO; clear hf; have hf := hO.cells; simp only [BC, CC, Nat.zero_add, Nat.reduceAdd, and_true] at hf) | ((with_reducible refine at_store (T := 37) ?_); refine own_store (T := 37) hO 0 rfl rfl rfl size_rat rfl rfl rfl ?_; clear hO; intro wh hO; simp only [List.set_cons_zero, List.set_cons_succ, spl, List.take_succ_cons, List.take_zero, List.nil_append, List.cons_append, List.length_cons, List.length_nil, List.drop_succ_cons, List.drop_zero, List.drop_nil, Nat.reduceAdd, Nat.zero_add, List.append_nil] at hO; clear hf; have hf := hO.cells; simp only [BC, CC, Nat.zero_add, Nat.reduceAdd, and_true] at hf) | ((with_reducible refine at_alloc ?_); refine own_alloc hO zero_rat rfl rfl ?_; clear hO; intro g15 wi hO; clear hf; have hf := hO.cells; simp only [BC, CC, Nat.zero_add, Nat.reduceAdd, and_true] at hf))
   refine (HSG.out _ _ _ _ _ _ _ ⟨hO.wd 3 rfl, hO.wd 2 rfl⟩).mono ?_
   rintro e wj ⟨rfl, hE1⟩
   have hO := hO.ext hE1
   clear hE1
   clear hf
   have hf := hO.cells
   simp only [BC, CC, Nat.zero_add, Nat.reduceAdd, and_true] at hf
   go_upto_region 20 with fail
   obtain ⟨S, sL, NL, DL, A3, l3, c3, B3, k3, d3, sG, NG, DG, A4, l4, c4, B4, k4, d4, sZ, NZ, DZ, A5, l5, c5, B5, k5, d5, HML, HMG, HMA, HSE, hS0, HFT, HRS⟩ : ∃ (S : World → Prop) (sL : Bool) (NL DL : Nat) (A3 : Option Addr) (l3 c3 : Nat) (B3 : Option Addr) (k3 d3 : Nat) (sG : Bool) (NG DG : Nat) (A4 : Option Addr) (l4 c4 : Nat) (B4 : Option Addr) (k4 d4 : Nat) (sZ : Bool) (NZ DZ : Nat) (A5 : Option Addr) (l5 c5 : Nat) (B5 : Option Addr) (k5 d5 : Nat), Hid (∀ (A1 : Option Addr) (l1 c1 : Nat) (B1 : Option Addr) (k1 d1 : Nat) w, RatAt w A1 l1 c1 B1 k1 d1 NL DL → Calls Tryz.prog 14 #[.agg #[.float .f64 e1, .float .f64 e2], .agg #[.bool sL, .slice A1 l1 c1, .slice B1 k1 d1]] w (fun e w' => e = .returned (.bool true) ∧ Ext w w')) ∧ Hid (∀ (A1 : Option Addr) (l1 c1 : Nat) (B1 : Option Addr) (k1 d1 : Nat) w, RatAt w A1 l1 c1 B1 k1 d1 NG DG → Calls Tryz.prog 14 #[.agg #[.float .f64 f1, .float .f64 f2], .agg #[.bool sG, .slice A1 l1 c1, .slice B1 k1 d1]] w (fun e w' => e = .returned (.bool true) ∧ Ext w w')) ∧ Hid (∀ (A1 : Option Addr) (l1 c1 : Nat) (B1 : Option Addr) (k1 d1 : Nat) w, RatAt w A1 l1 c1 B1 k1 d1 NZ DZ → Calls Tryz.prog 14 #[.agg #[.float .f64 a1, .float .f64 a2], .agg #[.bool sZ, .slice A1 l1 c1, .slice B1 k1 d1]] w (fun e w' => e = .returned (.bool true) ∧ Ext w w')) ∧ Hid (∀ w w', S w → Ext w w' → S w') ∧ S wj ∧ Hid (∀ wz, S wz → Ext w wz ∧ wz.cell? ⟨g5, 0, none⟩ = some (.int .u64 (p : Int)) ∧ wz.cell? ⟨g5, 1, none⟩ = some (.int .u64 (q : Int)) ∧ wz.cell? ⟨g6, 0, none⟩ = some (.int .u64 (r : Int)) ∧ wz.cell? ⟨g6, 1, none⟩ = some (.int .u64 (t : Int)) ∧ wz.cell? ⟨g13, 0, none⟩ = some (.bool sL) ∧ wz.cell? ⟨g13, 1, none⟩ = some (.slice A3 l3 c3) ∧ wz.cell? ⟨g13, 2, none⟩ = some (.slice B3 k3 d3) ∧ wz.cell? ⟨g14, 0, none⟩ = some (.bool sG) ∧ wz.cell? ⟨g14, 1, none⟩ = some (.slice A4 l4 c4) ∧ wz.cell? ⟨g14, 2, none⟩ = some (.slice B4 k4 d4) ∧ wz.cell? ⟨g15, 0, none⟩ = some (.bool sZ) ∧ wz.cell? ⟨g15, 1, none⟩ = some (.slice A5 l5 c5) ∧ wz.cell? ⟨g15, 2, none⟩ = some (.slice B5 k5 d5) ∧ wz.cell? ⟨g11, 0, none⟩ = some (.bool sX) ∧ wz.cell? ⟨g11, 1, none⟩ = some (.slice A1 l1 c1) ∧ wz.cell? ⟨g11, 2, none⟩ = some (.slice B1 k1 d1)) ∧ Hid (∀ wz, S wz → RatAt wz A3 l3 c3 B3 k3 d3 NL DL ∧ RatAt wz A4 l4 c4 B4 k4 d4 NG DG ∧ RatAt wz A5 l5 c5 B5 k5 d5 NZ DZ ∧ RatAt wz A1 l1 c1 B1 k1 d1 NX DX) := by
     exact ⟨Own w _ _, _, _, _, A2, l2, c2, B2, k2, d2, _, _, _, A1, l1, c1, B1, k1, d1, _, _, _, A1, l1, c1, B1, k1, d1, HML, HMG, HMA, Lib.hid (fun _ _ h e => Own.ext h e), hO, Lib.hid (fun wz hz => by have hf := hz.cells; simp only [BC, CC, Nat.zero_add, Nat.reduceAdd, and_true] at hf; obtain ⟨⟨a1, a2, a3⟩, ⟨b1, b2, b3⟩, ⟨c1, c2, c3⟩, ⟨d1, d2, d3⟩, ⟨e1, e2, e3⟩, ⟨f1, f2⟩, ⟨h1, h2⟩⟩ := hf; exact ⟨hz.toExt, h1, h2, f1, f2, c1, c2, c3, b1, b2, b3, a1, a2, a3, e1, e2, e3⟩), Lib.hid (fun wz hz => by exact ⟨⟨hz.wd 1 rfl, hz.wd 0 rfl⟩, ⟨hz.wd 3 rfl, hz.wd 2 rfl⟩, ⟨hz.wd 3 rfl, hz.wd 2 rfl⟩, ⟨hz.wd 3 rfl, hz.wd 2 rfl⟩⟩)⟩
   clear hO hf
   rotate_left
   go_upto_region 13 with (first | ((with_reducible refine at_alloc ?_); refine own_alloc hO zero_rat rfl rfl ?_; clear hO; intro g13 wb hO; clear hf; have hf := hO.cells; simp only [BC, CC, Nat.zero_add, Nat.reduceAdd, and_true] at hf) | ((with_reducible refine at_store (T := 37) ?_); refine own_store (T := 37) hO 0 rfl rfl rfl size_rat rfl rfl rfl ?_; clear hO; intro wc hO; simp only [List.set_cons_zero, List.set_cons_succ, spl, List.take_succ_cons, List.take_zero, List.nil_append, List.cons_append, List.length_cons, List.length_nil, List.drop_succ_cons, List.drop_zero, List.drop_nil, Nat.reduceAdd, Nat.zero_add, List.append_nil] at hO; clear hf; have hf := hO.cells; simp only [BC, CC, Nat.zero_add, Nat.reduceAdd, and_true] at hf))
   go_upto_region 14 with (first | ((with_reducible refine at_alloc ?_); refine own_alloc hO zero_rat rfl rfl ?_; clear hO; intro g14 wd hO; clear hf; have hf := hO.cells; simp only [BC, CC, Nat.zero_add, Nat.reduceAdd, and_true] at hf) | ((with_reducible refine at_store (T := 37) ?_); refine own_store (T := 37) hO 0 rfl rfl rfl size_rat rfl rfl rfl ?_; clear hO; intro we hO; simp only [List.set_cons_zero, List.set_cons_succ, spl, List.take_succ_cons, List.take_zero, List.nil_append, List.cons_append, List.length_cons, List.length_nil, List.drop_succ_cons, List.drop_zero, List.drop_nil, Nat.reduceAdd, Nat.zero_add, List.append_nil] at hO; clear hf; have hf := hO.cells; simp only [BC, CC, Nat.zero_add, Nat.reduceAdd, and_true] at hf))
   go_wp2_with fail
   refine (HRC.out _ _ _ _ _ _ _ _ _ _ _ _ _ ⟨hO.wd 3 rfl, hO.wd 2 rfl⟩ ⟨hO.wd 1 rfl, hO.wd 0 rfl⟩).mono ?_
   rintro e wf ⟨rfl, hE1⟩
   have hO := hO.ext hE1
   clear hE1
   clear hf
   have hf := hO.cells
   simp only [BC, CC, Nat.zero_add, Nat.reduceAdd, and_true] at hf
   go_wp2_with (first | ((with_reducible refine at_store (T := 37) ?_); refine own_store (T := 37) hO 1 rfl rfl rfl size_rat rfl rfl rfl ?_; clear hO; intro wg hO; simp only [List.set_cons_zero, List.set_cons_succ, spl, List.take_succ_cons, List.take_zero, List.nil_append, List.cons_append, List.length_cons, List.length_nil, List.drop_succ_cons, List.drop_zero, List.drop_nil, Nat.reduceAdd, Nat.zero_add, List.append_nil] at hO; clear hf; have hf := hO.cells; simp only [BC, CC, Nat.zero_add, Nat.reduceAdd, and_true] at hf) | ((with_reducible refine at_store (T := 37) ?_); refine own_store (T := 37) hO 0 rfl rfl rfl size_rat rfl rfl rfl ?_; clear hO; intro wh hO; simp only [List.set_cons_zero, List.set_cons_succ, spl, List.take_succ_cons, List.take_zero, List.nil_append, List.cons_append, List.length_cons, List.length_nil, List.drop_succ_cons, List.drop_zero, List.drop_nil, Nat.reduceAdd, Nat.zero_add, List.append_nil] at hO; clear hf; have hf := hO.cells; simp only [BC, CC, Nat.zero_add, Nat.reduceAdd, and_true] at hf) | ((with_reducible refine at_alloc ?_); refine own_alloc hO zero_rat rfl rfl ?_; clear hO; intro g15 wi hO; clear hf; have hf := hO.cells; simp only [BC, CC, Nat.zero_add, Nat.reduceAdd, and_true] at hf))
   refine (HSG.out _ _ _ _ _ _ _ ⟨hO.wd 3 rfl, hO.wd 2 rfl⟩).mono ?_
   rintro e wj ⟨rfl, hE1⟩
   have hO := hO.ext hE1
   clear hE1
   clear hf
   have hf := hO.cells
   simp only [BC, CC, Nat.zero_add, Nat.reduceAdd, and_true] at hf
   go_wp2_with fail
   refine (HNG.out _ _ _ _ _ _ _ ⟨hO.wd 3 rfl, hO.wd 2 rfl⟩).mono ?_
   rintro e wk ⟨A7, l7, c7, B7, k7, d7, rfl, hA, hB, hE1⟩
   have hO := ((hO.ext hE1).add hA).add hB
   clear hE1 hA hB
   clear hf
   have hf := hO.cells
   simp only [BC, CC, Nat.zero_add, Nat.reduceAdd, and_true] at hf
   go_upto_region 20 with ((with_reducible refine at_store (T := 37) ?_); refine own_store (T := 37) hO 0 rfl rfl rfl size_rat rfl rfl rfl ?_; clear hO; intro wl hO; simp only [List.set_cons_zero, List.set_cons_succ, spl, List.take_succ_cons, List.take_zero, List.nil_append, List.cons_append, List.length_cons, List.length_nil, List.drop_succ_cons, List.drop_zero, List.drop_nil, Nat.reduceAdd, Nat.zero_add, List.append_nil] at hO; clear hf; have hf := hO.cells; simp only [BC, CC, Nat.zero_add, Nat.reduceAdd, and_true] at hf)
   obtain ⟨S, sL, NL, DL, A3, l3, c3, B3, k3, d3, sG, NG, DG, A4, l4, c4, B4, k4, d4, sZ, NZ, DZ, A5, l5, c5, B5, k5, d5, HML, HMG, HMA, HSE, hS0, HFT, HRS⟩ : ∃ (S : World → Prop) (sL : Bool) (NL DL : Nat) (A3 : Option Addr) (l3 c3 : Nat) (B3 : Option Addr) (k3 d3 : Nat) (sG : Bool) (NG DG : Nat) (A4 : Option Addr) (l4 c4 : Nat) (B4 : Option Addr) (k4 d4 : Nat) (sZ : Bool) (NZ DZ : Nat) (A5 : Option Addr) (l5 c5 : Nat) (B5 : Option Addr) (k5 d5 : Nat), Hid (∀ (A1 : Option Addr) (l1 c1 : Nat) (B1 : Option Addr) (k1 d1 : Nat) w, RatAt w A1 l1 c1 B1 k1 d1 NL DL → Calls Tryz.prog 14 #[.agg #[.float .f64 e1, .float .f64 e2], .agg #[.bool sL, .slice A1 l1 c1, .slice B1 k1 d1]] w (fun e w' => e = .returned (.bool true) ∧ Ext w w')) ∧ Hid (∀ (A1 : Option Addr) (l1 c1 : Nat) (B1 : Option Addr) (k1 d1 : Nat) w, RatAt w A1 l1 c1 B1 k1 d1 NG DG → Calls Tryz.prog 14 #[.agg #[.float .f64 f1, .float .f64 f2], .agg #[.bool sG, .slice A1 l1 c1, .slice B1 k1 d1]] w (fun e w' => e = .returned (.bool true) ∧ Ext w w')) ∧ Hid (∀ (A1 : Option Addr) (l1 c1 : Nat) (B1 : Option Addr) (k1 d1 : Nat) w, RatAt w A1 l1 c1 B1 k1 d1 NZ DZ → Calls Tryz.prog 14 #[.agg #[.float .f64 a1, .float .f64 a2], .agg #[.bool sZ, .slice A1 l1 c1, .slice B1 k1 d1]] w (fun e w' => e = .returned (.bool true) ∧ Ext w w')) ∧ Hid (∀ w w', S w → Ext w w' → S w') ∧ S wl ∧ Hid (∀ wz, S wz → Ext w wz ∧ wz.cell? ⟨g5, 0, none⟩ = some (.int .u64 (p : Int)) ∧ wz.cell? ⟨g5, 1, none⟩ = some (.int .u64 (q : Int)) ∧ wz.cell? ⟨g6, 0, none⟩ = some (.int .u64 (r : Int)) ∧ wz.cell? ⟨g6, 1, none⟩ = some (.int .u64 (t : Int)) ∧ wz.cell? ⟨g13, 0, none⟩ = some (.bool sL) ∧ wz.cell? ⟨g13, 1, none⟩ = some (.slice A3 l3 c3) ∧ wz.cell? ⟨g13, 2, none⟩ = some (.slice B3 k3 d3) ∧ wz.cell? ⟨g14, 0, none⟩ = some (.bool sG) ∧ wz.cell? ⟨g14, 1, none⟩ = some (.slice A4 l4 c4) ∧ wz.cell? ⟨g14, 2, none⟩ = some (.slice B4 k4 d4) ∧ wz.cell? ⟨g15, 0, none⟩ = some (.bool sZ) ∧ wz.cell? ⟨g15, 1, none⟩ = some (.slice A5 l5 c5) ∧ wz.cell? ⟨g15, 2, none⟩ = some (.slice B5 k5 d5) ∧ wz.cell? ⟨g11, 0, none⟩ = some (.bool sX) ∧ wz.cell? ⟨g11, 1, none⟩ = some (.slice A1 l1 c1) ∧ wz.cell? ⟨g11, 2, none⟩ = some (.slice B1 k1 d1)) ∧ Hid (∀ wz, S wz → RatAt wz A3 l3 c3 B3 k3 d3 NL DL ∧ RatAt wz A4 l4 c4 B4 k4 d4 NG DG ∧ RatAt wz A5 l5 c5 B5 k5 d5 NZ DZ ∧ RatAt wz A1 l1 c1 B1 k1 d1 NX DX) := by
     exact ⟨Own w _ _, _, _, _, A1, l1, c1, B1, k1, d1, _, _, _, A2, l2, c2, B2, k2, d2, _, _, _, A7, l7, c7, B7, k7, d7, HML, HMG, HMA, Lib.hid (fun _ _ h e => Own.ext h e), hO, Lib.hid (fun wz hz => by have hf := hz.cells; simp only [BC, CC, Nat.zero_add, Nat.reduceAdd, and_true] at hf; obtain ⟨⟨a1, a2, a3⟩, ⟨b1, b2, b3⟩, ⟨c1, c2, c3⟩, ⟨d1, d2, d3⟩, ⟨e1, e2, e3⟩, ⟨f1, f2⟩, ⟨h1, h2⟩⟩ := hf; exact ⟨hz.toExt, h1, h2, f1, f2, c1, c2, c3, b1, b2, b3, a1, a2, a3, e1, e2, e3⟩), Lib.hid (fun wz hz => by exact ⟨⟨hz.wd 5 rfl, hz.wd 4 rfl⟩, ⟨hz.wd 3 rfl, hz.wd 2 rfl⟩, ⟨hz.wd 1 rfl, hz.wd 0 rfl⟩, ⟨hz.wd 5 rfl, hz.wd 4 rfl⟩⟩)⟩
   clear hO hf
   rotate_left
   go_upto_region 13 with (first | ((with_reducible refine at_alloc ?_); refine own_alloc hO zero_rat rfl rfl ?_; clear hO; intro g13 wb hO; clear hf; have hf := hO.cells; simp only [BC, CC, Nat.zero_add, Nat.reduceAdd, and_true] at hf) | ((with_reducible refine at_store (T := 37) ?_); refine own_store (T := 37) hO 0 rfl rfl rfl size_rat rfl rfl rfl ?_; clear hO; intro wc hO; simp only [List.set_cons_zero, List.set_cons_succ, spl, List.take_succ_cons, List.take_zero, List.nil_append, List.cons_append, List.length_cons, List.length_nil, List.drop_succ_cons, List.drop_zero, List.drop_nil, Nat.reduceAdd, Nat.zero_add, List.append_nil] at hO; clear hf; have hf := hO.cells; simp only [BC, CC, Nat.zero_add, Nat.reduceAdd, and_true] at hf))
   go_upto_region 14 with (first | ((with_reducible refine at_alloc ?_); refine own_alloc hO zero_rat rfl rfl ?_; clear hO; intro g14 wd hO; clear hf; have hf := hO.cells; simp only [BC, CC, Nat.zero_add, Nat.reduceAdd, and_true] at hf) | ((with_reducible refine at_store (T := 37) ?_); refine own_store (T := 37) hO 0 rfl rfl rfl size_rat rfl rfl rfl ?_; clear hO; intro we hO; simp only [List.set_cons_zero, List.set_cons_succ, spl, List.take_succ_cons, List.take_zero, List.nil_append, List.cons_append, List.length_cons, List.length_nil, List.drop_succ_cons, List.drop_zero, List.drop_nil, Nat.reduceAdd, Nat.zero_add, List.append_nil] at hO; clear hf; have hf := hO.cells; simp only [BC, CC, Nat.zero_add, Nat.reduceAdd, and_true] at hf))
   go_wp2_with fail
   refine (HRC.out _ _ _ _ _ _ _ _ _ _ _ _ _ ⟨hO.wd 3 rfl, hO.wd 2 rfl⟩ ⟨hO.wd 1 rfl, hO.wd 0 rfl⟩).mono ?_
   rintro e wf ⟨rfl, hE1⟩
   have hO := hO.ext hE1
   clear hE1
   clear hf
   have hf := hO.cells
   simp only [BC, CC, Nat.zero_add, Nat.reduceAdd, and_true] at hf
   go_wp2_with (first | ((with_reducible refine at_store (T := 37) ?_); refine own_store (T := 37) hO 1 rfl rfl rfl size_rat rfl rfl rfl ?_; clear hO; intro wg hO; simp only [List.set_cons_zero, List.set_cons_succ, spl, List.take_succ_cons, List.take_zero, List.nil_append, List.cons_append, List.length_cons, List.length_nil, List.drop_succ_cons, List.drop_zero, List.drop_nil, Nat.reduceAdd, Nat.zero_add, List.append_nil] at hO; clear hf; have hf := hO.cells; simp only [BC, CC, Nat.zero_add, Nat.reduceAdd, and_true] at hf) | ((with_reducible refine at_store (T := 37) ?_); refine own_store (T := 37) hO 0 rfl rfl rfl size_rat rfl rfl rfl ?_; clear hO; intro wh hO; simp only [List.set_cons_zero, List.set_cons_succ, spl, List.take_succ_cons, List.take_zero, List.nil_append, List.cons_append, List.length_cons, List.length_nil, List.drop_succ_cons, List.drop_zero, List.drop_nil, Nat.reduceAdd, Nat.zero_add, List.append_nil] at hO; clear hf; have hf := hO.cells; simp only [BC, CC, Nat.zero_add, Nat.reduceAdd, and_true] at hf) | ((with_reducible refine at_alloc ?_); refine own_alloc hO zero_rat rfl rfl ?_; clear hO; intro g15 wi hO; clear hf; have hf := hO.cells; simp only [BC, CC, Nat.zero_add, Nat.reduceAdd, and_true] at hf))
   refine (HSG.out _ _ _ _ _ _ _ ⟨hO.wd 3 rfl, hO.wd 2 rfl⟩).mono ?_
   rintro e wj ⟨rfl, hE1⟩
   have hO := hO.ext hE1
   clear hE1
   clear hf
   have hf := hO.cells
   simp only [BC, CC, Nat.zero_add, Nat.reduceAdd, and_true] at hf
   go_upto_region 20 with fail
   obtain ⟨S, sL, NL, DL, A3, l3, c3, B3, k3, d3, sG, NG, DG, A4, l4, c4, B4, k4, d4, sZ, NZ, DZ, A5, l5, c5, B5, k5, d5, HML, HMG, HMA, HSE, hS0, HFT, HRS⟩ : ∃ (S : World → Prop) (sL : Bool) (NL DL : Nat) (A3 : Option Addr) (l3 c3 : Nat) (B3 : Option Addr) (k3 d3 : Nat) (sG : Bool) (NG DG : Nat) (A4 : Option Addr) (l4 c4 : Nat) (B4 : Option Addr) (k4 d4 : Nat) (sZ : Bool) (NZ DZ : Nat) (A5 : Option Addr) (l5 c5 : Nat) (B5 : Option Addr) (k5 d5 : Nat), Hid (∀ (A1 : Option Addr) (l1 c1 : Nat) (B1 : Option Addr) (k1 d1 : Nat) w, RatAt w A1 l1 c1 B1 k1 d1 NL DL → Calls Tryz.prog 14 #[.agg #[.float .f64 e1, .float .f64 e2], .agg #[.bool sL, .slice A1 l1 c1, .slice B1 k1 d1]] w (fun e w' => e = .returned (.bool true) ∧ Ext w w')) ∧ Hid (∀ (A1 : Option Addr) (l1 c1 : Nat) (B1 : Option Addr) (k1 d1 : Nat) w, RatAt w A1 l1 c1 B1 k1 d1 NG DG → Calls Tryz.prog 14 #[.agg #[.float .f64 f1, .float .f64 f2], .agg #[.bool sG, .slice A1 l1 c1, .slice B1 k1 d1]] w (fun e w' => e = .returned (.bool true) ∧ Ext w w')) ∧ Hid (∀ (A1 : Option Addr) (l1 c1 : Nat) (B1 : Option Addr) (k1 d1 : Nat) w, RatAt w A1 l1 c1 B1 k1 d1 NZ DZ → Calls Tryz.prog 14 #[.agg #[.float .f64 a1, .float .f64 a2], .agg #[.bool sZ, .slice A1 l1 c1, .slice B1 k1 d1]] w (fun e w' => e = .returned (.bool true) ∧ Ext w w')) ∧ Hid (∀ w w', S w → Ext w w' → S w') ∧ S wj ∧ Hid (∀ wz, S wz → Ext w wz ∧ wz.cell? ⟨g5, 0, none⟩ = some (.int .u64 (p : Int)) ∧ wz.cell? ⟨g5, 1, none⟩ = some (.int .u64 (q : Int)) ∧ wz.cell? ⟨g6, 0, none⟩ = some (.int .u64 (r : Int)) ∧ wz.cell? ⟨g6, 1, none⟩ = some (.int .u64 (t : Int)) ∧ wz.cell? ⟨g13, 0, none⟩ = some (.bool sL) ∧ wz.cell? ⟨g13, 1, none⟩ = some (.slice A3 l3 c3) ∧ wz.cell? ⟨g13, 2, none⟩ = some (.slice B3 k3 d3) ∧ wz.cell? ⟨g14, 0, none⟩ = some (.bool sG) ∧ wz.cell? ⟨g14, 1, none⟩ = some (.slice A4 l4 c4) ∧ wz.cell? ⟨g14, 2, none⟩ = some (.slice B4 k4 d4) ∧ wz.cell? ⟨g15, 0, none⟩ = some (.bool sZ) ∧ wz.cell? ⟨g15, 1, none⟩ = some (.slice A5 l5 c5) ∧ wz.cell? ⟨g15, 2, none⟩ = some (.slice B5 k5 d5) ∧ wz.cell? ⟨g11, 0, none⟩ = some (.bool sX) ∧ wz.cell? ⟨g11, 1, none⟩ = some (.slice A1 l1 c1) ∧ wz.cell? ⟨g11, 2, none⟩ = some (.slice B1 k1 d1)) ∧ Hid (∀ wz, S wz → RatAt wz A3 l3 c3 B3 k3 d3 NL DL ∧ RatAt wz A4 l4 c4 B4 k4 d4 NG DG ∧ RatAt wz A5 l5 c5 B5 k5 d5 NZ DZ ∧ RatAt wz A1 l1 c1 B1 k1 d1 NX DX) := by
     exact ⟨Own w _ _, _, _, _, A1, l1, c1, B1, k1, d1, _, _, _, A2, l2, c2, B2, k2, d2, _, _, _, A1, l1, c1, B1, k1, d1, HML, HMG, HMA, Lib.hid (fun _ _ h e => Own.ext h e), hO, Lib.hid (fun wz hz => by have hf := hz.cells; simp only [BC, CC, Nat.zero_add, Nat.reduceAdd, and_true] at hf; obtain ⟨⟨a1, a2, a3⟩, ⟨b1, b2, b3⟩, ⟨c1, c2, c3⟩, ⟨d1, d2, d3⟩, ⟨e1, e2, e3⟩, ⟨f1, f2⟩, ⟨h1, h2⟩⟩ := hf; exact ⟨hz.toExt, h1, h2, f1, f2, c1, c2, c3, b1, b2, b3, a1, a2, a3, e1, e2, e3⟩), Lib.hid (fun wz hz => by exact ⟨⟨hz.wd 3 rfl, hz.wd 2 rfl⟩, ⟨hz.wd 1 rfl, hz.wd 0 rfl⟩, ⟨hz.wd 3 rfl, hz.wd 2 rfl⟩, ⟨hz.wd 3 rfl, hz.wd 2 rfl⟩⟩)⟩
   clear hO hf
   all_goals
     as_aux_lemma =>
       have hS1 := HSE.out _ _ hS0 (Ext.refl _).drew
       clear hS0
       obtain ⟨sp, hsp⟩ : ∃ sp : Nat → Sp, sp = ofList [det (.agg #[.int .u64 (p : Int), .int .u64 (q : Int)]), det (.agg #[.float .f64 p, .float .f64 q]), det (.agg #[.int .u64 (r : Int), .int .u64 (t : Int)]), det (.agg #[.float .f64 r, .float .f64 t]), det (.agg #[.float .f64 e1, .float .f64 e2]), det (.agg #[.bool sL, .slice A3 l3 c3, .slice B3 k3 d3]), det (.bool true), det (.bool false), det (.bool false), det (.agg #[.int .u64 (p : Int), .int .u64 (q : Int)]), det (.agg #[.float .f64 p, .float .f64 q]), det (.agg #[.int .u64 (r : Int), .int .u64 (t : Int)]), det (.agg #[.float .f64 r, .float .f64 t]), det (.agg #[.float .f64 f1, .float .f64 f2]), det (.agg #[.bool sG, .slice A4 l4 c4, .slice B4 k4 d4]), det (.bool true), det (.bool false), det (.bool false), det (.bool false), det (.agg #[.int .u64 (p : Int), .int .u64 (q : Int)]), det (.agg #[.float .f64 p, .float .f64 q]), det (.agg #[.float .f64 a1, .float .f64 a2]), det (.agg #[.bool sZ, .slice A5 l5 c5, .slice B5 k5 d5]), det (.bool true), det (.bool false)] := ⟨_, rfl⟩
       have HSP := Lib.hid hsp
       clear hsp
       refine wp_region_loose 25 S sp (by kernel_rfl) (by kernel_rfl) hS1 HSE.out ?_
       simp only [List.take_succ_cons, List.take_zero, List.drop_succ_cons, List.drop_zero]
       refine wpX_step (fun K hK => ?_)
       go_simp
       refine StepY.det (by rw [HSP.out]; rfl) ?_ ?_
       · intro wz hz hF
         obtain ⟨hx, y1', y2', y3, y4, y5, y6, y7, y8, y9, z1, z2, z3, z4, z5, z6, z7⟩ := HFT.out _ hz
         clear hz hF
         go_simp
         exact ⟨rfl, Ext.refl _⟩
       refine hK _ _ ?_
       clear hK K
       refine wpX_step (fun K hK => ?_)
       go_simp
       refine StepY.det (by rw [HSP.out]; rfl) ?_ ?_
       · intro wz hz hF
         clear hz hF
         go_simp
         refine (HIX.out _).mono ?_
         rintro e w2 ⟨rfl, hE1⟩
         exact ⟨_, rfl, rfl, hE1⟩
       refine hK _ _ ?_
       clear hK K
       refine wpX_step (fun K hK => ?_)
       go_simp
       refine StepY.det (by rw [HSP.out]; rfl) ?_ ?_
       · intro wz hz hF
         obtain ⟨hx, y1', y2', y3, y4, y5, y6, y7, y8, y9, z1, z2, z3, z4, z5, z6, z7⟩ := HFT.out _ hz
         clear hz hF
         go_simp
         exact ⟨rfl, Ext.refl _⟩
       refine hK _ _ ?_
       clear hK K
       refine wpX_step (fun K hK => ?_)
       go_simp
       refine StepY.det (by rw [HSP.out]; rfl) ?_ ?_
       · intro wz hz hF
         clear hz hF
         go_simp
         refine (HIY.out _).mono ?_
         rintro e w2 ⟨rfl, hE1⟩
         exact ⟨_, rfl, rfl, hE1⟩
       refine hK _ _ ?_
       clear hK K
       refine wpX_step (fun K hK => ?_)
       go_simp
       refine StepY.det (by rw [HSP.out]; rfl) ?_ ?_
       · intro wz hz hF
         clear hz hF
         go_simp
         refine (HMN.out _).mono ?_
         rintro e w2 ⟨rfl, hE1⟩
         exact ⟨_, rfl, rfl, hE1⟩
       refine hK _ _ ?_
       clear hK K
       refine wpX_step (fun K hK => ?_)
       go_simp
       refine StepY.det (by rw [HSP.out]; rfl) ?_ ?_
       · intro wz hz hF
         obtain ⟨hx, y1', y2', y3, y4, y5, y6, y7, y8, y9, z1, z2, z3, z4, z5, z6, z7⟩ := HFT.out _ hz
         clear hz hF
         go_simp
         exact ⟨rfl, Ext.refl _⟩
       refine hK _ _ ?_
       clear hK K
       refine wpX_step (fun K hK => ?_)
       go_simp
       refine StepY.det (by rw [HSP.out]; rfl) ?_ ?_
       · intro wz hz hF
         have hR := (HRS.out _ hz).1
         clear hF hz
         go_simp
         refine (HML.out _ _ _ _ _ _ _ hR).mono ?_
         rintro e w2 ⟨rfl, hE1⟩
         exact ⟨_, rfl, rfl, hE1⟩
       refine hK _ _ ?_
       clear hK K
       iterate 2
         refine wpX_step (fun K hK => ?_)
         go_simp
         refine StepY.det (by rw [HSP.out]; rfl) ?_ ?_
         · intro wz hz hF
           clear hz hF
           go_simp
           exact ⟨rfl, Ext.refl _⟩
         refine hK _ _ ?_
         clear hK K
       refine wpX_step (fun K hK => ?_)
       go_simp
       refine StepY.det (by rw [HSP.out]; rfl) ?_ ?_
       · intro wz hz hF
         obtain ⟨hx, y1', y2', y3, y4, y5, y6, y7, y8, y9, z1, z2, z3, z4, z5, z6, z7⟩ := HFT.out _ hz
         clear hz hF
         go_simp
         exact ⟨rfl, Ext.refl _⟩
       refine hK _ _ ?_
       clear hK K
       refine wpX_step (fun K hK => ?_)
       go_simp
       refine StepY.det (by rw [HSP.out]; rfl) ?_ ?_
       · intro wz hz hF
         clear hz hF
         go_simp
         refine (HIX.out _).mono ?_
         rintro e w2 ⟨rfl, hE1⟩
         exact ⟨_, rfl, rfl, hE1⟩
       refine hK _ _ ?_
       clear hK K
       refine wpX_step (fun K hK => ?_)
       go_simp
       refine StepY.det (by rw [HSP.out]; rfl) ?_ ?_
       · intro wz hz hF
         obtain ⟨hx, y1', y2', y3, y4, y5, y6, y7, y8, y9, z1, z2, z3, z4, z5, z6, z7⟩ := HFT.out _ hz
         clear hz hF
         go_simp
         exact ⟨rfl, Ext.refl _⟩
       refine hK _ _ ?_
       clear hK K
       refine wpX_step (fun K hK => ?_)
       go_simp
       refine StepY.det (by rw [HSP.out]; rfl) ?_ ?_
       · intro wz hz hF
         clear hz hF
         go_simp
         refine (HIY.out _).mono ?_
         rintro e w2 ⟨rfl, hE1⟩
         exact ⟨_, rfl, rfl, hE1⟩
       refine hK _ _ ?_
       clear hK K
       refine wpX_step (fun K hK => ?_)
       go_simp
       refine StepY.det (by rw [HSP.out]; rfl) ?_ ?_
       · intro wz hz hF
         clear hz hF
         go_simp
         refine (HMX.out _).mono ?_
         rintro e w2 ⟨rfl, hE1⟩
         exact ⟨_, rfl, rfl, hE1⟩
       refine hK _ _ ?_
       clear hK K
       refine wpX_step (fun K hK => ?_)
       go_simp
       refine StepY.det (by rw [HSP.out]; rfl) ?_ ?_
       · intro wz hz hF
         obtain ⟨hx, y1', y2', y3, y4, y5, y6, y7, y8, y9, z1, z2, z3, z4, z5, z6, z7⟩ := HFT.out _ hz
         clear hz hF
         go_simp
         exact ⟨rfl, Ext.refl _⟩
       refine hK _ _ ?_
       clear hK K
       refine wpX_step (fun K hK => ?_)
       go_simp
       refine StepY.det (by rw [HSP.out]; rfl) ?_ ?_
       · intro wz hz hF
         have hR := (HRS.out _ hz).2.1
         clear hF hz
         go_simp
         refine (HMG.out _ _ _ _ _ _ _ hR).mono ?_
         rintro e w2 ⟨rfl, hE1⟩
         exact ⟨_, rfl, rfl, hE1⟩
       refine hK _ _ ?_
       clear hK K
       iterate 3
         refine wpX_step (fun K hK => ?_)
         go_simp
         refine StepY.det (by rw [HSP.out]; rfl) ?_ ?_
         · intro wz hz hF
           clear hz hF
           go_simp
           exact ⟨rfl, Ext.refl _⟩
         refine hK _ _ ?_
         clear hK K
       refine wpX_step (fun K hK => ?_)
       go_simp
       refine StepY.det (by rw [HSP.out]; rfl) ?_ ?_
       · intro wz hz hF
         obtain ⟨hx, y1', y2', y3, y4, y5, y6, y7, y8, y9, z1, z2, z3, z4, z5, z6, z7⟩ := HFT.out _ hz
         clear hz hF
         go_simp
         exact ⟨rfl, Ext.refl _⟩
       refine hK _ _ ?_
       clear hK K
       refine wpX_step (fun K hK => ?_)
       go_simp
       refine StepY.det (by rw [HSP.out]; rfl) ?_ ?_
       · intro wz hz hF
         clear hz hF
         go_simp
         refine (HIX.out _).mono ?_
         rintro e w2 ⟨rfl, hE1⟩
         exact ⟨_, rfl, rfl, hE1⟩
       refine hK _ _ ?_
       clear hK K
       refine wpX_step (fun K hK => ?_)
       go_simp
       refine StepY.det (by rw [HSP.out]; rfl) ?_ ?_
       · intro wz hz hF
         clear hz hF
         go_simp
         refine (HAB.out _).mono ?_
         rintro e w2 ⟨rfl, hE1⟩
         exact ⟨_, rfl, rfl, hE1⟩
       refine hK _ _ ?_
       clear hK K
       refine wpX_step (fun K hK => ?_)
       go_simp
       refine StepY.det (by rw [HSP.out]; rfl) ?_ ?_
       · intro wz hz hF
         obtain ⟨hx, y1', y2', y3, y4, y5, y6, y7, y8, y9, z1, z2, z3, z4, z5, z6, z7⟩ := HFT.out _ hz
         clear hz hF
         go_simp
         exact ⟨rfl, Ext.refl _⟩
       refine hK _ _ ?_
       clear hK K
       refine wpX_step (fun K hK => ?_)
       go_simp
       refine StepY.det (by rw [HSP.out]; rfl) ?_ ?_
       · intro wz hz hF
         have hR := (HRS.out _ hz).2.2.1
         clear hF hz
         go_simp
         refine (HMA.out _ _ _ _ _ _ _ hR).mono ?_
         rintro e w2 ⟨rfl, hE1⟩
         exact ⟨_, rfl, rfl, hE1⟩
       refine hK _ _ ?_
       clear hK K
       refine wpX_step (fun K hK => ?_)
       go_simp
       refine StepY.det (by rw [HSP.out]; rfl) ?_ ?_
       · intro wz hz hF
         clear hz hF
         go_simp
         exact ⟨rfl, Ext.refl _⟩
       refine hK _ _ ?_
       clear hK K
       refine wpX_nil ?_
       intro wq hz hF
       clear hF hS1 HSP
       have hS0 := hz
       clear hz
       go_wp2_with fail
       go_loopw [16] (fun kv wr => ∃ kk : Nat, kv = .int .i64 (kk : Int) ∧ kk ≤ 6 ∧ S wr) (fun kv _ => 6 - (intOf kv).toNat)
       case atStart => exact ⟨0, rfl, by omega, hS0⟩
       case round =>
         obtain ⟨kk, rfl, hk6, hS2⟩ := hrel
         clear hS0
         have hS0 := hS2
         clear hS2
         by_cases hk : kk < 6
         · obtain ⟨b1, b2, s7, N7, HS1, HS2, HS3⟩ := HST.out kk hk
           have bk0 : (0 : Int) ≤ (kk : Int) := by omega
           have bk1 : decide ((kk : Int) < 6) = true := decide_eq_true (by omega)
           have bk2 : kk < 6 := hk
           go_upto_region 25 with fail
           have hS1 := HSE.out _ _ hS0 (Ext.refl _).drew
           clear hS0
           obtain ⟨sp, hsp⟩ : ∃ sp : Nat → Sp, sp = ofList [det (.int .i64 (kk : Int)), det (.agg #[.int .u64 (p : Int), .int .u64 (q : Int)]), det (.agg #[.float .f64 p, .float .f64 q]), det (.agg #[.float .f64 b1, .float .f64 b2]), det (.int .i64 (kk : Int)), det (.agg #[.bool sX, .slice A1 l1 c1, .slice B1 k1 d1]), anyOf (fun v wz => ∃ A l c B k d, v = .agg #[.bool s7, .slice A l c, .slice B k d] ∧ RatAt wz A l c B k d (N7) (1)), det (.bool true)] := ⟨_, rfl⟩
           have HSP := Lib.hid hsp
           clear hsp
           refine wp_region_loose 8 S sp (by kernel_rfl) (by kernel_rfl) hS1 HSE.out ?_
           simp only [List.take_succ_cons, List.take_zero, List.drop_succ_cons, List.drop_zero]
           refine wpX_step (fun K hK => ?_)
           go_simp
           refine StepY.det (by rw [HSP.out]; rfl) ?_ ?_
           · intro wz hz hF
             clear hz hF
             go_simp
             exact ⟨rfl, Ext.refl _⟩
           refine hK _ _ ?_
           clear hK K
           refine wpX_step (fun K hK => ?_)
           go_simp
           refine StepY.det (by rw [HSP.out]; rfl) ?_ ?_
           · intro wz hz hF
             obtain ⟨hx, y1', y2', y3, y4, y5, y6, y7, y8, y9, z1, z2, z3, z4, z5, z6, z7⟩ := HFT.out _ hz
             clear hz hF
             go_simp
             exact ⟨rfl, Ext.refl _⟩
           refine hK _ _ ?_
           clear hK K
           refine wpX_step (fun K hK => ?_)
           go_simp
           refine StepY.det (by rw [HSP.out]; rfl) ?_ ?_
           · intro wz hz hF
             clear hz hF
             go_simp
             refine (HIX.out _).mono ?_
             rintro e w2 ⟨rfl, hE1⟩
             exact ⟨_, rfl, rfl, hE1⟩
           refine hK _ _ ?_
           clear hK K
           refine wpX_step (fun K hK => ?_)
           go_simp
           refine StepY.det (by rw [HSP.out]; rfl) ?_ ?_
           · intro wz hz hF
             clear hz hF
             go_simp
             refine (HS1.out _).mono ?_
             rintro e w2 ⟨rfl, hE1⟩
             exact ⟨_, rfl, rfl, hE1⟩
           refine hK _ _ ?_
           clear hK K
           refine wpX_step (fun K hK => ?_)
           go_simp
           refine StepY.det (by rw [HSP.out]; rfl) ?_ ?_
           · intro wz hz hF
             clear hz hF
             go_simp
             exact ⟨rfl, Ext.refl _⟩
           refine hK _ _ ?_
           clear hK K
           refine wpX_step (fun K hK => ?_)
           go_simp
           refine StepY.det (by rw [HSP.out]; rfl) ?_ ?_
           · intro wz hz hF
             obtain ⟨hx, y1', y2', y3, y4, y5, y6, y7, y8, y9, z1, z2, z3, z4, z5, z6, z7⟩ := HFT.out _ hz
             clear hz hF
             go_simp
             exact ⟨rfl, Ext.refl _⟩
           refine hK _ _ ?_
           clear hK K
           refine wpX_step (fun K hK => ?_)
           go_simp
           refine StepY.any (by rw [HSP.out]; rfl) ?_ ?_
           · intro wz hz hF
             have hR := (HRS.out _ hz).2.2.2
             clear hF hz
             go_simp
             refine (HS2.out _ _ _ _ _ _ _ hR).mono ?_
             rintro e w2 ⟨A9, n9, c9, B9, m9, e9, rfl, hA9, hB9, hE9⟩
             exact ⟨_, rfl, ⟨A9, n9, c9, B9, m9, e9, rfl, hA9, hB9⟩, hE9⟩
           intro v1
           refine hK _ _ ?_
           clear hK K
           refine wpX_step (fun K hK => ?_)
           go_simp
           refine StepY.det (by rw [HSP.out]; rfl) ?_ ?_
           · intro wz hz hF
             obtain ⟨wa', ea, A5, n5, c5, B5, m5, e5, hv1, hw1⟩ := hF.any 6 (by kernel_rfl) (by rw [HSP.out]; rfl)
             clear hF hz
             simp only [asFun, List.nil_append, List.cons_append, List.getD_cons_succ, List.getD_cons_zero] at hv1
             subst hv1
             go_simp
             refine (HS3.out _ _ _ _ _ _ _ (hw1.ext ea)).mono ?_
             rintro e w2 ⟨rfl, hE1⟩
             exact ⟨_, rfl, rfl, hE1⟩
           refine hK _ _ ?_
           clear hK K
           refine wpX_nil ?_
           intro wq hz hF
           clear hF hS1 HSP
           have hS0 := hz
           clear hz
           go_wp2_with fail
           go_roundw
           case rel => exact ⟨kk + 1, by go_num, by omega, hS0⟩
           case measure => simp [intOf]; omega
         · have bk1 : decide ((kk : Int) < 6) = false := decide_eq_false (by omega)
           have hEx := (HFT.out _ hS0).1
           go_wp2_with fail
           refine (HLV.out _ (HT.out.ext hEx)).mono ?_
           rintro e wz ⟨rfl, hE1⟩
           go_wp2_with fail
           go_ret
           exact ⟨rfl, hEx.trans hE1⟩
end Go.Proofs.YtbcaggdgoidlaaaGreatDoor
