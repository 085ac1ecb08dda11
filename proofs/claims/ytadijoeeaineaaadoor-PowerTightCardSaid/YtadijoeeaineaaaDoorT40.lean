/-
  The walk through PowerTight. Conditions: those that each theorem names.
-/
import Derived.Test.YtadijoeeaineaaaDoorT31
import Derived.Test.YtadijoeeaineaaaDoorT32
import Derived.Test.YtadijoeeaineaaaDoorT39
import Derived.Test.YtadijoeeaineaaaDoorT27
import Derived.Test.YtadijoeeaineaaaDoorT30
import Derived.Deep.CutRange
namespace Go.Proofs.YtadijoeeaineaaaDoor
open Go.RowKit Go.Proofs.YtadijoeeaineaaaDoor.Nm Rn
set_option maxRecDepth 100000
set_option linter.unusedVariables false
set_option linter.unusedSimpArgs false

theorem Own.mid {w0 w : World} {b c : Bx} {L : List Bx} {W : List Sw} (h : Own w0 (b :: c :: L) W w) : Own w0 (b :: L) W w := by
  refine ⟨h.1, fun d hd => h.2.1 d ?_, ?_, h.2.2.2⟩
  · rcases List.mem_cons.1 hd with e | hd
    · rw [e]; exact List.mem_cons_self
    · exact List.mem_cons_of_mem _ (List.mem_cons_of_mem _ hd)
  · have := h.2.2.1
    rw [List.map_cons, List.map_cons, List.nodup_cons, List.nodup_cons] at this
    rw [List.map_cons, List.nodup_cons]
    exact ⟨fun hm => this.1 (List.mem_cons_of_mem _ hm), this.2.2⟩
theorem Own.tlt {w0 w : World} {b : Bx} {L : List Bx} {W : List Sw} (h : Own w0 (b :: L) W w) : Own w0 L W w :=
  ⟨h.1, fun c hc => h.2.1 c (List.mem_cons_of_mem _ hc), by have := h.2.2.1; rw [List.map_cons, List.nodup_cons] at this; exact this.2, h.2.2.2⟩
theorem Own.baret {w0 w : World} {L : List Bx} {W : List Sw} (h : Own w0 L W w) : Own w0 L [] w := ⟨h.1, h.2.1, h.2.2.1, fun s hs => by cases hs⟩

theorem info_u64t : (Tryd.prog.info? 22).map (fun i => (i.zero, i.size, i.bytes)) = some (some (.int .u64 0), 1, 8) := by kernel_rfl
theorem own_app {w0 w : World} {L : List Bx} {W : List Sw} {ops : Array Oper} {rest : List Oper} {a : Act} {Q : Exit → Act → World → Prop} (hO : Own w0 L W w) {s x : Operand} {d ty ps af} (g n g2 m : Nat) (olds news : List Value) (k1 k2 : Nat) (hk1 : L[k1]? = some ⟨g, 22, olds⟩) (hk2 : L[k2]? = some ⟨g2, 22, news⟩) (hs : a.eval s = .slice (some ⟨g, 0, none⟩) n n) (hlo : olds.length = n) (hx : a.eval x = .slice (some ⟨g2, 0, none⟩) m m) (hn : news.length = m) (h0 : 0 < m) (hb1 : n + m ≤ 1000) (hb2 : True)
    (h : ∀ g' k cap w', Own w0 (⟨g', 22, olds ++ news ++ List.replicate k (.int .u64 0)⟩ :: L) W w' → wpList Tryd.prog ops Q rest (a.put (some d) (.slice (some ⟨g', 0, none⟩) (n + m) cap)) w') :
    wpList Tryd.prog ops Q ({ dst := some d, op := .call { callee := .builtin .append, args := #[s, x], argTypes := #[57, 57] }, type := ty, pos := ps, after := af, guard := none } :: rest) a w := by
  obtain ⟨i0, hi0, hz0, hz1, hz2⟩ := info_parts info_u64t
  exact own_append hO Tryd.underlying57 hi0 hz0 hz1 hz2 g n g2 m olds news k1 k2 hk1 hk2 hs hlo hx hn h0 hb1 (by decide) h
/-- What a round leans on: a number x of the interval. -/
structure TiE (x m y1 y2 nx la : Nat) (lo hi : Bool) (fS : Bool) (fN fD : Nat) (vS : Bool) (vN vD : Nat) (nS : Bool) (nN nD : Nat) (tS : Bool) (tN tD : Nat) (lS : Bool) (lN lD : Nat) (r1 r2 r3 : Int) (c1 c2 c3 : Bool) : Prop where
  fb : Hid (∀ w, Calls Tryd.prog 22 #[.int .u64 (x : Int)] w (RetR fS fN fD w))
  rp : Hid (∀ (A : Option Addr) (l c : Nat) (B : Option Addr) (k d : Nat) (w : World), RatAt w A l c B k d fN fD → Calls Tryd.prog 40 #[.agg #[.bool fS, .slice A l c, .slice B k d], .int .i64 (m : Int)] w (RetR vS vN vD w))
  hd : Hid (∀ (A : Option Addr) (l c : Nat) (B : Option Addr) (k d : Nat) (w : World), RatAt w A l c B k d vN vD → Calls Tryd.prog 41 #[.agg #[.float .f64 y1, .float .f64 y2], .agg #[.bool vS, .slice A l c, .slice B k d]] w (fun x w' => x = .returned (.bool true) ∧ Ext w w'))
  fn : Hid (∀ w, Calls Tryd.prog 22 #[.int .u64 (nx : Int)] w (RetR nS nN nD w))
  cn_ : Hid (∀ (A1 : Option Addr) (l1 c1 : Nat) (B1 : Option Addr) (k1 d1 : Nat) (A2 : Option Addr) (l2 c2 : Nat) (B2 : Option Addr) (k2 d2 : Nat) (w : World), RatAt w A1 l1 c1 B1 k1 d1 vN vD → RatAt w A2 l2 c2 B2 k2 d2 nN nD → Calls Tryd.prog 43 #[.agg #[.bool vS, .slice A1 l1 c1, .slice B1 k1 d1], .agg #[.bool nS, .slice A2 l2 c2, .slice B2 k2 d2]] w (fun x w' => x = .returned (.int .i64 r1) ∧ Ext w w'))
  ft : Hid (∀ w, Calls Tryd.prog 22 #[.int .u64 9223372036854775809] w (RetR tS tN tD w))
  ct : Hid (∀ (A1 : Option Addr) (l1 c1 : Nat) (B1 : Option Addr) (k1 d1 : Nat) (A2 : Option Addr) (l2 c2 : Nat) (B2 : Option Addr) (k2 d2 : Nat) (w : World), RatAt w A1 l1 c1 B1 k1 d1 vN vD → RatAt w A2 l2 c2 B2 k2 d2 tN tD → Calls Tryd.prog 43 #[.agg #[.bool vS, .slice A1 l1 c1, .slice B1 k1 d1], .agg #[.bool tS, .slice A2 l2 c2, .slice B2 k2 d2]] w (fun x w' => x = .returned (.int .i64 r2) ∧ Ext w w'))
  fl : Hid (∀ w, Calls Tryd.prog 22 #[.int .u64 (la : Int)] w (RetR lS lN lD w))
  cl : Hid (∀ (A1 : Option Addr) (l1 c1 : Nat) (B1 : Option Addr) (k1 d1 : Nat) (A2 : Option Addr) (l2 c2 : Nat) (B2 : Option Addr) (k2 d2 : Nat) (w : World), RatAt w A1 l1 c1 B1 k1 d1 vN vD → RatAt w A2 l2 c2 B2 k2 d2 lN lD → Calls Tryd.prog 43 #[.agg #[.bool vS, .slice A1 l1 c1, .slice B1 k1 d1], .agg #[.bool lS, .slice A2 l2 c2, .slice B2 k2 d2]] w (fun x w' => x = .returned (.int .i64 r3) ∧ Ext w w'))
  q1 : Hid (((nx : Int) == 9218868437227405312) = c1)
  q2 : Hid (((y2 : Int) == 0) = c2)
  q3 : Hid (((la : Int) == 18442240474082181120) = c3)
  ql : Hid (lo = (c1 || decide (r1 < 0)))
  qh : Hid (hi = ((c2 && decide (0 < r2)) || (!c2 && (c3 || decide (0 < r3)))))

set_option maxHeartbeats 16000000 in
theorem tight_w (x1 x2 p q e1 e2 a b y1 y2 m : Nat) (n0 n1 : Int) (fe fp fq bad : Bool) (w : World) (hT : Tab w) (HRD : Hid (∀ w, Calls Tryd.prog 32 #[.agg #[.int .u64 (x1 : Int), .int .u64 (x2 : Int)]] w (RetI p q w)))
    (HLM : Hid (∀ w, Calls Tryd.prog 33 #[.int .i64 n0] w (fun x w' => x = .returned (.int .i64 n1) ∧ w = w'))) (hn : (decide (n1 < 1) = true ∧ m = 2) ∨ (decide (n1 < 1) = false ∧ n1 = (m : Int)))
    (HEM : Hid (∀ w, Calls Tryd.prog 34 #[] w (RetI e1 e2 w)))
    (hq1 : ∀ w, (binOp .eql 53 (.agg #[.int .u64 (p : Int), .int .u64 (q : Int)]) (.agg #[.int .u64 (e1 : Int), .int .u64 (e2 : Int)])).run Tryd.prog w = .ok (.bool fe) w)
    (HFP : Hid (∀ w, Calls Tryd.prog 20 #[.int .u64 (p : Int)] w (fun x w' => x = .returned (.bool fp) ∧ w = w'))) (HFQ : Hid (∀ w, Calls Tryd.prog 20 #[.int .u64 (q : Int)] w (fun x w' => x = .returned (.bool fq) ∧ w = w')))
    (hbad : (fe = true ∧ bad = true) ∨ (fe = false ∧ fp = false ∧ bad = true) ∨ (fe = false ∧ fp = true ∧ fq = false ∧ bad = true) ∨ (fe = false ∧ fp = true ∧ fq = true ∧ bad = false))
    (hab : (bad = true ∧ a = 13832806255468478464 ∧ b = 4613937818241073152) ∨ (bad = false ∧ a = p ∧ b = q))
    (z1 z2 z : Bool) (xs : List Nat) (HA1 : Hid (∀ w, Calls Tryd.prog 35 #[.int .u64 0, .int .u64 (a : Int)] w (fun x w' => x = .returned (.bool z1) ∧ w = w'))) (HA2 : Hid (∀ w, Calls Tryd.prog 35 #[.int .u64 (b : Int), .int .u64 0] w (fun x w' => x = .returned (.bool z2) ∧ w = w'))) (hz : (z1 = false ∧ z = false) ∨ (z1 = true ∧ z2 = z)) (hxs : (z = true ∧ xs = [a, b, 0]) ∨ (z = false ∧ xs = [a, b]))
    (HIN : Hid (∀ w, Calls Tryd.prog 38 #[.agg #[.int .u64 (a : Int), .int .u64 (b : Int)]] w (RetF a b w))) (HPN : Hid (∀ w, Tab w → Calls Tryd.prog 37 #[.agg #[.float .f64 a, .float .f64 b], .int .i64 (m : Int)] w (RetF y1 y2 w))) (HOU : Hid (∀ w, Calls Tryd.prog 36 #[.agg #[.float .f64 y1, .float .f64 y2]] w (RetI y1 y2 w))) (HVL : Hid (∀ w, Calls Tryd.prog 39 #[.agg #[.int .u64 (y1 : Int), .int .u64 (y2 : Int)]] w (fun x w' => x = .returned (.bool true) ∧ Ext w w')))
    (hq2 : ∀ w, (binOp .eql 53 (.agg #[.int .u64 (y1 : Int), .int .u64 (y2 : Int)]) (.agg #[.int .u64 (e1 : Int), .int .u64 (e2 : Int)])).run Tryd.prog w = .ok (.bool false) w)
    (nx yn ya la : Nat) (HU1 : Hid (∀ w, Calls Tryd.prog 42 #[.int .u64 (y1 : Int)] w (fun x w' => x = .returned (.int .u64 (nx : Int)) ∧ w = w'))) (HU2 : Hid (∀ w, Calls Tryd.prog 42 #[.int .u64 (yn : Int)] w (fun x w' => x = .returned (.int .u64 (ya : Int)) ∧ w = w'))) (hx1 : bits .xor .u64 (y2 : Int) 9223372036854775808 = (yn : Int)) (hx2 : bits .xor .u64 (ya : Int) 9223372036854775808 = (la : Int))
    (LO HI : Nat → Bool) (HFL : Hid (xs.any LO = true ∧ xs.any HI = true))
    (HX : Hid (∀ (i x : Nat), xs[i]? = some x → ∃ fS fN fD vS vN vD nS nN nD tS tN tD lS lN lD r1 r2 r3 c1 c2 c3, TiE x m y1 y2 nx la (LO x) (HI x) fS fN fD vS vN vD nS nN nD tS tN tD lS lN lD r1 r2 r3 c1 c2 c3)) :
    Calls Tryd.prog 6 #[.agg #[.int .u64 (x1 : Int), .int .u64 (x2 : Int)], .int .i64 n0] w (fun x w' => x = .returned (.bool true) ∧ Ext w w') := by
  have HT := Lib.hid hT
  have HLV := Lib.hid (fun w h => lives7_any w h)
  have hxl : Hid (xs.length ≤ 3) := Lib.hid (by rcases hxs with ⟨_, h⟩ | ⟨_, h⟩ <;> rw [h] <;> simp)
  clear hT
  have hO := Own.start w
  have hf : True := trivial
  go_enter Tryd.func6, Tryd.ntmps6
  go_upto_region 1 with ((with_reducible refine at_box ?_); refine own_box (cs := [.int .u64 (x1 : Int), .int .u64 (x2 : Int)]) hO rfl rfl ?_; clear hO; intro gx wa hO; clear hf; have hf := hO.cells; simp only [BC, CC, Nat.zero_add, Nat.reduceAdd, and_true] at hf)
  go_wp2_with fail
  refine (HRD.out _).mono ?_
  rintro e w3 ⟨rfl, hE1⟩
  have hO := hO.ext hE1
  clear hE1
  clear hf
  have hf := hO.cells
  simp only [BC, CC, Nat.zero_add, Nat.reduceAdd, and_true] at hf
  go_upto_region 2 with ((with_reducible refine at_store (T := 53) ?_); refine own_store (T := 53) hO 0 rfl rfl rfl size_It rfl rfl rfl ?_; clear hO; intro w4 hO; simp only [List.set_cons_zero, List.set_cons_succ, spl, List.take_succ_cons, List.take_zero, List.nil_append, List.cons_append, List.length_cons, List.length_nil, List.drop_succ_cons, List.drop_zero, List.drop_nil, Nat.reduceAdd, Nat.zero_add, List.append_nil] at hO; clear hf; have hf := hO.cells; simp only [BC, CC, Nat.zero_add, Nat.reduceAdd, and_true] at hf)
  go_wp2_with fail
  refine (HLM.out _).mono ?_
  rintro e w5 ⟨rfl, rfl⟩
  go_upto_if 18 with fail
  go_cut [1] from 13 to 138 (fun s wx => s = .int .i64 (m : Int) ∧ Own w [⟨gx, 53, [.int .u64 (p : Int), .int .u64 (q : Int)]⟩] [] wx)
  case first =>
    rcases hn with ⟨hn1, hn2⟩ | ⟨hn1, hn2⟩
    · rw [hn1]
      subst hn2
      go_wp2
      go_meet
      exact ⟨rfl, hO⟩
    · rw [hn1]
      subst hn2
      go_wp2
      go_meet
      exact ⟨rfl, hO⟩
  case rest =>
  obtain ⟨rfl, hO⟩ := hcut
  clear hf HRD HLM hn
  have hf := hO.cells
  simp only [BC, CC, Nat.zero_add, Nat.reduceAdd, and_true] at hf
  go_upto_region 5 with fail
  go_cut [33] from 19 to 138 (fun s wx => s = .bool bad ∧ Own w [⟨gx, 53, [.int .u64 (p : Int), .int .u64 (q : Int)]⟩] [] wx)
  case first =>
    rcases hbad with ⟨h1, h2⟩ | ⟨h1, h2, h3⟩ | ⟨h1, h2, h3, h4⟩ | ⟨h1, h2, h3, h4⟩
    · subst h1 h2
      obtain ⟨S, hS⟩ : ∃ S : World → Prop, S = Own w [⟨gx, 53, [.int .u64 (p : Int), .int .u64 (q : Int)]⟩] [] := ⟨_, rfl⟩
      have hSE : ∀ w w', S w → Ext w w' → S w' := fun w w' h1 h2 => by rw [hS] at h1 ⊢; exact h1.ext h2
      have hS1 : S wc.drew := by rw [hS]; exact hO.ext (Ext.refl wc).drew
      have HS := Lib.hid hS
      clear hS hO hf
      obtain ⟨sp, hsp⟩ : ∃ sp : Nat → Sp, sp = ofList [det (.agg #[.int .u64 (p : Int), .int .u64 (q : Int)]), det (.agg #[.int .u64 (e1 : Int), .int .u64 (e2 : Int)]), det (.bool true), det (.bool true), det undef, det undef, det undef, det undef, det (.bool true), det (.bool true), det undef, det undef, det undef, det undef] := ⟨_, rfl⟩
      have HSP := Lib.hid hsp
      clear hsp
      refine wp_region_loose 14 S sp (by kernel_rfl) (by kernel_rfl) hS1 hSE ?_
      simp only [List.take_succ_cons, List.take_zero, List.drop_succ_cons, List.drop_zero]
      refine wpX_step (fun K hK => ?_)
      go_simp
      refine StepY.det (by rw [HSP.out]; rfl) ?_ ?_
      · intro wz hz hF
        rw [HS.out] at hz
        have hf := hz.cells
        simp only [BC, CC, Nat.zero_add, Nat.reduceAdd, and_true] at hf
        clear hz hF
        go_simp
        exact ⟨rfl, Ext.refl _⟩
      refine hK _ _ ?_
      clear hK K
      refine wpX_step (fun K hK => ?_)
      go_simp
      refine StepY.det (by rw [HSP.out]; rfl) ?_ ?_
      · intro wz hz hF
        clear hz hF
        go_simp
        refine (HEM.out _).mono ?_
        rintro e w2 ⟨rfl, hE1⟩
        exact ⟨_, rfl, rfl, hE1⟩
      refine hK _ _ ?_
      clear hK K
      refine wpX_step (fun K hK => ?_)
      go_simp
      refine StepY.det (by rw [HSP.out]; rfl) ?_ ?_
      · intro wz hz hF
        clear hz hF
        have hq1' := hq1 wz
        go_simp
        exact ⟨rfl, Ext.refl _⟩
      refine hK _ _ ?_
      clear hK K
      iterate 11
        refine wpX_step (fun K hK => ?_)
        go_simp
        first
        | refine ⟨by rw [HSP.out]; rfl, hK _ _ ?_⟩
          clear hK K
        | refine StepY.det (by rw [HSP.out]; rfl) ?_ ?_
          · intro wz hz hF
            clear hz hF
            go_simp
            exact ⟨rfl, Ext.refl _⟩
          refine hK _ _ ?_
          clear hK K
      refine wpX_nil ?_
      intro wq hz hF
      clear hF
      rw [HS.out] at hz
      have hO := hz
      clear hz HS HSP
      have hf := hO.cells
      simp only [BC, CC, Nat.zero_add, Nat.reduceAdd, and_true] at hf
      go_wp2
      go_meet
      exact ⟨rfl, hO⟩
    · subst h1 h2 h3
      obtain ⟨S, hS⟩ : ∃ S : World → Prop, S = Own w [⟨gx, 53, [.int .u64 (p : Int), .int .u64 (q : Int)]⟩] [] := ⟨_, rfl⟩
      have hSE : ∀ w w', S w → Ext w w' → S w' := fun w w' h1 h2 => by rw [hS] at h1 ⊢; exact h1.ext h2
      have hS1 : S wc.drew := by rw [hS]; exact hO.ext (Ext.refl wc).drew
      have HS := Lib.hid hS
      clear hS hO hf
      obtain ⟨sp, hsp⟩ : ∃ sp : Nat → Sp, sp = ofList [det (.agg #[.int .u64 (p : Int), .int .u64 (q : Int)]), det (.agg #[.int .u64 (e1 : Int), .int .u64 (e2 : Int)]), det (.bool false), det (.bool false), det (.pointer (some ⟨gx, 0, none⟩)), det (.int .u64 (p : Int)), det (.bool false), det (.bool true), det (.bool true), det (.bool true), det undef, det undef, det undef, det undef] := ⟨_, rfl⟩
      have HSP := Lib.hid hsp
      clear hsp
      refine wp_region_loose 14 S sp (by kernel_rfl) (by kernel_rfl) hS1 hSE ?_
      simp only [List.take_succ_cons, List.take_zero, List.drop_succ_cons, List.drop_zero]
      refine wpX_step (fun K hK => ?_)
      go_simp
      refine StepY.det (by rw [HSP.out]; rfl) ?_ ?_
      · intro wz hz hF
        rw [HS.out] at hz
        have hf := hz.cells
        simp only [BC, CC, Nat.zero_add, Nat.reduceAdd, and_true] at hf
        clear hz hF
        go_simp
        exact ⟨rfl, Ext.refl _⟩
      refine hK _ _ ?_
      clear hK K
      refine wpX_step (fun K hK => ?_)
      go_simp
      refine StepY.det (by rw [HSP.out]; rfl) ?_ ?_
      · intro wz hz hF
        clear hz hF
        go_simp
        refine (HEM.out _).mono ?_
        rintro e w2 ⟨rfl, hE1⟩
        exact ⟨_, rfl, rfl, hE1⟩
      refine hK _ _ ?_
      clear hK K
      refine wpX_step (fun K hK => ?_)
      go_simp
      refine StepY.det (by rw [HSP.out]; rfl) ?_ ?_
      · intro wz hz hF
        clear hz hF
        have hq1' := hq1 wz
        go_simp
        exact ⟨rfl, Ext.refl _⟩
      refine hK _ _ ?_
      clear hK K
      iterate 3
        refine wpX_step (fun K hK => ?_)
        go_simp
        refine StepY.det (by rw [HSP.out]; rfl) ?_ ?_
        · intro wz hz hF
          rw [HS.out] at hz
          have hf := hz.cells
          simp only [BC, CC, Nat.zero_add, Nat.reduceAdd, and_true] at hf
          clear hz hF
          go_simp
          exact ⟨rfl, Ext.refl _⟩
        refine hK _ _ ?_
        clear hK K
      refine wpX_step (fun K hK => ?_)
      go_simp
      refine StepY.det (by rw [HSP.out]; rfl) ?_ ?_
      · intro wz hz hF
        clear hz hF
        go_simp
        refine (HFP.out _).mono ?_
        rintro e w5 ⟨rfl, rfl⟩
        exact ⟨_, rfl, rfl, Ext.refl _⟩
      refine hK _ _ ?_
      clear hK K
      iterate 7
        refine wpX_step (fun K hK => ?_)
        go_simp
        first
        | refine ⟨by rw [HSP.out]; rfl, hK _ _ ?_⟩
          clear hK K
        | refine StepY.det (by rw [HSP.out]; rfl) ?_ ?_
          · intro wz hz hF
            clear hz hF
            go_simp
            exact ⟨rfl, Ext.refl _⟩
          refine hK _ _ ?_
          clear hK K
      refine wpX_nil ?_
      intro wq hz hF
      clear hF
      rw [HS.out] at hz
      have hO := hz
      clear hz HS HSP
      have hf := hO.cells
      simp only [BC, CC, Nat.zero_add, Nat.reduceAdd, and_true] at hf
      go_wp2
      go_meet
      exact ⟨rfl, hO⟩
    · subst h1 h2 h3 h4
      obtain ⟨S, hS⟩ : ∃ S : World → Prop, S = Own w [⟨gx, 53, [.int .u64 (p : Int), .int .u64 (q : Int)]⟩] [] := ⟨_, rfl⟩
      have hSE : ∀ w w', S w → Ext w w' → S w' := fun w w' h1 h2 => by rw [hS] at h1 ⊢; exact h1.ext h2
      have hS1 : S wc.drew := by rw [hS]; exact hO.ext (Ext.refl wc).drew
      have HS := Lib.hid hS
      clear hS hO hf
      obtain ⟨sp, hsp⟩ : ∃ sp : Nat → Sp, sp = ofList [det (.agg #[.int .u64 (p : Int), .int .u64 (q : Int)]), det (.agg #[.int .u64 (e1 : Int), .int .u64 (e2 : Int)]), det (.bool false), det (.bool false), det (.pointer (some ⟨gx, 0, none⟩)), det (.int .u64 (p : Int)), det (.bool true), det (.bool false), det (.bool false), det (.bool false), det (.pointer (some ⟨gx, 1, none⟩)), det (.int .u64 (q : Int)), det (.bool false), det (.bool true)] := ⟨_, rfl⟩
      have HSP := Lib.hid hsp
      clear hsp
      refine wp_region_loose 14 S sp (by kernel_rfl) (by kernel_rfl) hS1 hSE ?_
      simp only [List.take_succ_cons, List.take_zero, List.drop_succ_cons, List.drop_zero]
      refine wpX_step (fun K hK => ?_)
      go_simp
      refine StepY.det (by rw [HSP.out]; rfl) ?_ ?_
      · intro wz hz hF
        rw [HS.out] at hz
        have hf := hz.cells
        simp only [BC, CC, Nat.zero_add, Nat.reduceAdd, and_true] at hf
        clear hz hF
        go_simp
        exact ⟨rfl, Ext.refl _⟩
      refine hK _ _ ?_
      clear hK K
      refine wpX_step (fun K hK => ?_)
      go_simp
      refine StepY.det (by rw [HSP.out]; rfl) ?_ ?_
      · intro wz hz hF
        clear hz hF
        go_simp
        refine (HEM.out _).mono ?_
        rintro e w2 ⟨rfl, hE1⟩
        exact ⟨_, rfl, rfl, hE1⟩
      refine hK _ _ ?_
      clear hK K
      refine wpX_step (fun K hK => ?_)
      go_simp
      refine StepY.det (by rw [HSP.out]; rfl) ?_ ?_
      · intro wz hz hF
        clear hz hF
        have hq1' := hq1 wz
        go_simp
        exact ⟨rfl, Ext.refl _⟩
      refine hK _ _ ?_
      clear hK K
      iterate 3
        refine wpX_step (fun K hK => ?_)
        go_simp
        refine StepY.det (by rw [HSP.out]; rfl) ?_ ?_
        · intro wz hz hF
          rw [HS.out] at hz
          have hf := hz.cells
          simp only [BC, CC, Nat.zero_add, Nat.reduceAdd, and_true] at hf
          clear hz hF
          go_simp
          exact ⟨rfl, Ext.refl _⟩
        refine hK _ _ ?_
        clear hK K
      refine wpX_step (fun K hK => ?_)
      go_simp
      refine StepY.det (by rw [HSP.out]; rfl) ?_ ?_
      · intro wz hz hF
        clear hz hF
        go_simp
        refine (HFP.out _).mono ?_
        rintro e w5 ⟨rfl, rfl⟩
        exact ⟨_, rfl, rfl, Ext.refl _⟩
      refine hK _ _ ?_
      clear hK K
      iterate 5
        refine wpX_step (fun K hK => ?_)
        go_simp
        refine StepY.det (by rw [HSP.out]; rfl) ?_ ?_
        · intro wz hz hF
          rw [HS.out] at hz
          have hf := hz.cells
          simp only [BC, CC, Nat.zero_add, Nat.reduceAdd, and_true] at hf
          clear hz hF
          go_simp
          exact ⟨rfl, Ext.refl _⟩
        refine hK _ _ ?_
        clear hK K
      refine wpX_step (fun K hK => ?_)
      go_simp
      refine StepY.det (by rw [HSP.out]; rfl) ?_ ?_
      · intro wz hz hF
        clear hz hF
        go_simp
        refine (HFQ.out _).mono ?_
        rintro e w5 ⟨rfl, rfl⟩
        exact ⟨_, rfl, rfl, Ext.refl _⟩
      refine hK _ _ ?_
      clear hK K
      refine wpX_step (fun K hK => ?_)
      go_simp
      refine StepY.det (by rw [HSP.out]; rfl) ?_ ?_
      · intro wz hz hF
        clear hz hF
        go_simp
        exact ⟨rfl, Ext.refl _⟩
      refine hK _ _ ?_
      clear hK K
      refine wpX_nil ?_
      intro wq hz hF
      clear hF
      rw [HS.out] at hz
      have hO := hz
      clear hz HS HSP
      have hf := hO.cells
      simp only [BC, CC, Nat.zero_add, Nat.reduceAdd, and_true] at hf
      go_wp2
      go_meet
      exact ⟨rfl, hO⟩
    · subst h1 h2 h3 h4
      obtain ⟨S, hS⟩ : ∃ S : World → Prop, S = Own w [⟨gx, 53, [.int .u64 (p : Int), .int .u64 (q : Int)]⟩] [] := ⟨_, rfl⟩
      have hSE : ∀ w w', S w → Ext w w' → S w' := fun w w' h1 h2 => by rw [hS] at h1 ⊢; exact h1.ext h2
      have hS1 : S wc.drew := by rw [hS]; exact hO.ext (Ext.refl wc).drew
      have HS := Lib.hid hS
      clear hS hO hf
      obtain ⟨sp, hsp⟩ : ∃ sp : Nat → Sp, sp = ofList [det (.agg #[.int .u64 (p : Int), .int .u64 (q : Int)]), det (.agg #[.int .u64 (e1 : Int), .int .u64 (e2 : Int)]), det (.bool false), det (.bool false), det (.pointer (some ⟨gx, 0, none⟩)), det (.int .u64 (p : Int)), det (.bool true), det (.bool false), det (.bool false), det (.bool false), det (.pointer (some ⟨gx, 1, none⟩)), det (.int .u64 (q : Int)), det (.bool true), det (.bool false)] := ⟨_, rfl⟩
      have HSP := Lib.hid hsp
      clear hsp
      refine wp_region_loose 14 S sp (by kernel_rfl) (by kernel_rfl) hS1 hSE ?_
      simp only [List.take_succ_cons, List.take_zero, List.drop_succ_cons, List.drop_zero]
      refine wpX_step (fun K hK => ?_)
      go_simp
      refine StepY.det (by rw [HSP.out]; rfl) ?_ ?_
      · intro wz hz hF
        rw [HS.out] at hz
        have hf := hz.cells
        simp only [BC, CC, Nat.zero_add, Nat.reduceAdd, and_true] at hf
        clear hz hF
        go_simp
        exact ⟨rfl, Ext.refl _⟩
      refine hK _ _ ?_
      clear hK K
      refine wpX_step (fun K hK => ?_)
      go_simp
      refine StepY.det (by rw [HSP.out]; rfl) ?_ ?_
      · intro wz hz hF
        clear hz hF
        go_simp
        refine (HEM.out _).mono ?_
        rintro e w2 ⟨rfl, hE1⟩
        exact ⟨_, rfl, rfl, hE1⟩
      refine hK _ _ ?_
      clear hK K
      refine wpX_step (fun K hK => ?_)
      go_simp
      refine StepY.det (by rw [HSP.out]; rfl) ?_ ?_
      · intro wz hz hF
        clear hz hF
        have hq1' := hq1 wz
        go_simp
        exact ⟨rfl, Ext.refl _⟩
      refine hK _ _ ?_
      clear hK K
      iterate 3
        refine wpX_step (fun K hK => ?_)
        go_simp
        refine StepY.det (by rw [HSP.out]; rfl) ?_ ?_
        · intro wz hz hF
          rw [HS.out] at hz
          have hf := hz.cells
          simp only [BC, CC, Nat.zero_add, Nat.reduceAdd, and_true] at hf
          clear hz hF
          go_simp
          exact ⟨rfl, Ext.refl _⟩
        refine hK _ _ ?_
        clear hK K
      refine wpX_step (fun K hK => ?_)
      go_simp
      refine StepY.det (by rw [HSP.out]; rfl) ?_ ?_
      · intro wz hz hF
        clear hz hF
        go_simp
        refine (HFP.out _).mono ?_
        rintro e w5 ⟨rfl, rfl⟩
        exact ⟨_, rfl, rfl, Ext.refl _⟩
      refine hK _ _ ?_
      clear hK K
      iterate 5
        refine wpX_step (fun K hK => ?_)
        go_simp
        refine StepY.det (by rw [HSP.out]; rfl) ?_ ?_
        · intro wz hz hF
          rw [HS.out] at hz
          have hf := hz.cells
          simp only [BC, CC, Nat.zero_add, Nat.reduceAdd, and_true] at hf
          clear hz hF
          go_simp
          exact ⟨rfl, Ext.refl _⟩
        refine hK _ _ ?_
        clear hK K
      refine wpX_step (fun K hK => ?_)
      go_simp
      refine StepY.det (by rw [HSP.out]; rfl) ?_ ?_
      · intro wz hz hF
        clear hz hF
        go_simp
        refine (HFQ.out _).mono ?_
        rintro e w5 ⟨rfl, rfl⟩
        exact ⟨_, rfl, rfl, Ext.refl _⟩
      refine hK _ _ ?_
      clear hK K
      refine wpX_step (fun K hK => ?_)
      go_simp
      refine StepY.det (by rw [HSP.out]; rfl) ?_ ?_
      · intro wz hz hF
        clear hz hF
        go_simp
        exact ⟨rfl, Ext.refl _⟩
      refine hK _ _ ?_
      clear hK K
      refine wpX_nil ?_
      intro wq hz hF
      clear hF
      rw [HS.out] at hz
      have hO := hz
      clear hz HS HSP
      have hf := hO.cells
      simp only [BC, CC, Nat.zero_add, Nat.reduceAdd, and_true] at hf
      go_wp2
      go_meet
      exact ⟨rfl, hO⟩
  case rest =>
  obtain ⟨rfl, hO⟩ := hcut
  clear hf HFP HFQ hbad hq1
  have hf := hO.cells
  simp only [BC, CC, Nat.zero_add, Nat.reduceAdd, and_true] at hf
  go_upto_if 33 with fail
  go_cut [1] from 19 to 138 (fun s wx => s = .int .i64 (m : Int) ∧ Own w [⟨gx, 53, [.int .u64 (a : Int), .int .u64 (b : Int)]⟩] [] wx)
  case first =>
    rcases hab with ⟨h1, h2, h3⟩ | ⟨h1, h2, h3⟩
    · subst h1 h2 h3
      go_wp2_with ((with_reducible refine at_store (T := 53) ?_); refine own_store (T := 53) hO 0 rfl rfl rfl size_It rfl rfl rfl ?_; clear hO; intro wc hO; simp only [List.set_cons_zero, List.set_cons_succ, spl, List.take_succ_cons, List.take_zero, List.nil_append, List.cons_append, List.length_cons, List.length_nil, List.drop_succ_cons, List.drop_zero, List.drop_nil, Nat.reduceAdd, Nat.zero_add, List.append_nil] at hO; clear hf; have hf := hO.cells; simp only [BC, CC, Nat.zero_add, Nat.reduceAdd, and_true] at hf)
      go_meet
      exact ⟨rfl, hO⟩
    · subst h1 h2 h3
      go_wp2
      go_meet
      exact ⟨rfl, hO⟩
  case rest =>
  obtain ⟨rfl, hO⟩ := hcut
  clear hf hab
  have hf := hO.cells
  simp only [BC, CC, Nat.zero_add, Nat.reduceAdd, and_true] at hf
  go_upto_region 8 with ((with_reducible refine own_slice (t := 57) (e := 22) (cs := [.int .u64 (a : Int), .int .u64 (b : Int)]) hO ?hu ?hf ?hn ?_); (case hu => rfl); (case hf => kernel_rfl); (case hn => rfl); clear hO; intro g5 wd hO; clear hf; have hf := hO.cells; simp only [BC, CC, Nat.zero_add, Nat.reduceAdd, and_true] at hf)
  go_cut [47] from 40 to 138 (fun s wx => s = .bool z ∧ Own w [⟨g5, 22, [.int .u64 (a : Int), .int .u64 (b : Int)]⟩, ⟨gx, 53, [.int .u64 (a : Int), .int .u64 (b : Int)]⟩] [] wx)
  case first =>
    rcases hz with ⟨h1, h2⟩ | ⟨h1, h2⟩
    · subst h1 h2
      go_wp2_with fail
      refine (HA1.out _).mono ?_
      rintro e w5 ⟨rfl, rfl⟩
      go_wp2
      go_meet
      exact ⟨rfl, hO⟩
    · subst h1 h2
      go_wp2_with fail
      refine (HA1.out _).mono ?_
      rintro e w5 ⟨rfl, rfl⟩
      go_wp2_with fail
      refine (HA2.out _).mono ?_
      rintro e w5 ⟨rfl, rfl⟩
      go_wp2
      go_meet
      exact ⟨rfl, hO⟩
  case rest =>
  obtain ⟨rfl, hO⟩ := hcut
  clear hf hz HA1 HA2
  have hf := hO.cells
  simp only [BC, CC, Nat.zero_add, Nat.reduceAdd, and_true] at hf
  go_upto_if 47 with fail
  go_cut [5] from 40 to 138 (fun s wx => ∃ g cap cs, s = .slice (some ⟨g, 0, none⟩) xs.length cap ∧ Own w [⟨g, 22, cs⟩, ⟨gx, 53, [.int .u64 (a : Int), .int .u64 (b : Int)]⟩] [] wx ∧ Hid (∀ (i x : Nat), xs[i]? = some x → cs[i]? = some (.int .u64 (x : Int))))
  case first =>
    rcases hxs with ⟨h1, h2⟩ | ⟨h1, h2⟩
    · subst h1 h2
      go_wp2_with (first | ((with_reducible refine own_slice (t := 57) (e := 22) (cs := [.int .u64 0]) hO ?hu ?hf ?hn ?_); (case hu => rfl); (case hf => kernel_rfl); (case hn => rfl); clear hO; intro g9 we hO; clear hf; have hf := hO.cells; simp only [BC, CC, Nat.zero_add, Nat.reduceAdd, and_true] at hf) | ((with_reducible refine own_app hO g5 2 g9 1 [.int .u64 (a : Int), .int .u64 (b : Int)] [.int .u64 0] 1 0 ?a1 ?a2 ?a3 ?a4 ?a5 ?a6 ?a7 ?a8 ?a9 ?_); (case a1 => rfl); (case a2 => rfl); (case a3 => rfl); (case a4 => rfl); (case a5 => rfl); (case a6 => rfl); (case a7 => decide); (case a8 => decide); (case a9 => trivial); clear hO; intro gn kn cn wn hO; clear hf; have hf := hO.cells; simp only [BC, CC, Nat.zero_add, Nat.reduceAdd, and_true] at hf))

      go_meet
      refine ⟨gn, cn, _, rfl, hO.mid.mid, Lib.hid fun i x h => ?_⟩
      rcases i with _ | _ | _ | i
      · cases h; rfl
      · cases h; rfl
      · cases h; rfl
      · simp at h
    · subst h1 h2
      go_wp2
      go_meet
      refine ⟨g5, 2, _, rfl, hO, Lib.hid fun i x h => ?_⟩
      rcases i with _ | _ | i
      · cases h; rfl
      · cases h; rfl
      · simp at h
  case rest =>
  obtain ⟨g, cap, cs, rfl, hO, HCS⟩ := hcut
  clear hf hxs
  have hf := hO.cells
  simp only [BC, CC, Nat.zero_add, Nat.reduceAdd, and_true] at hf
  go_wp2_with fail
  refine (HIN.out _).mono ?_
  rintro e w5 ⟨rfl, hE1⟩
  have hO := hO.ext hE1
  clear hE1
  clear hf
  have hf := hO.cells
  simp only [BC, CC, Nat.zero_add, Nat.reduceAdd, and_true] at hf
  go_wp2_with fail
  refine (HPN.out _ (HT.out.ext hO.toExt)).mono ?_
  rintro e w6 ⟨rfl, hE1⟩
  have hO := hO.ext hE1
  clear hE1
  clear hf
  have hf := hO.cells
  simp only [BC, CC, Nat.zero_add, Nat.reduceAdd, and_true] at hf
  go_wp2_with fail
  refine (HOU.out _).mono ?_
  rintro e w7 ⟨rfl, hE1⟩
  have hO := hO.ext hE1
  clear hE1
  clear hf
  have hf := hO.cells
  simp only [BC, CC, Nat.zero_add, Nat.reduceAdd, and_true] at hf
  go_upto_region 11 with (first | ((with_reducible refine at_alloc ?_); refine own_alloc hO zero_It rfl rfl ?_; clear hO; intro g6 w8 hO; clear hf; have hf := hO.cells; simp only [BC, CC, Nat.zero_add, Nat.reduceAdd, and_true] at hf) | ((with_reducible refine at_store (T := 53) ?_); refine own_store (T := 53) hO 0 rfl rfl rfl size_It rfl rfl rfl ?_; clear hO; intro wb hO; simp only [List.set_cons_zero, List.set_cons_succ, spl, List.take_succ_cons, List.take_zero, List.nil_append, List.cons_append, List.length_cons, List.length_nil, List.drop_succ_cons, List.drop_zero, List.drop_nil, Nat.reduceAdd, Nat.zero_add, List.append_nil] at hO; clear hf; have hf := hO.cells; simp only [BC, CC, Nat.zero_add, Nat.reduceAdd, and_true] at hf))
  obtain ⟨S, hS⟩ : ∃ S : World → Prop, S = Own w [⟨g6, 53, [.int .u64 (y1 : Int), .int .u64 (y2 : Int)]⟩, ⟨g, 22, cs⟩, ⟨gx, 53, [.int .u64 (a : Int), .int .u64 (b : Int)]⟩] [] := ⟨_, rfl⟩
  have hSE : ∀ w w', S w → Ext w w' → S w' := fun w w' h1 h2 => by rw [hS] at h1 ⊢; exact h1.ext h2
  have hS1 : S wb.drew := by rw [hS]; exact hO.ext (Ext.refl wb).drew
  have HS := Lib.hid hS
  clear hS hO hf
  obtain ⟨sp, hsp⟩ : ∃ sp : Nat → Sp, sp = ofList [det (.agg #[.int .u64 (y1 : Int), .int .u64 (y2 : Int)]), det (.bool true), det (.bool false), det (.bool false), det (.agg #[.int .u64 (y1 : Int), .int .u64 (y2 : Int)]), det (.agg #[.int .u64 (e1 : Int), .int .u64 (e2 : Int)])] := ⟨_, rfl⟩
  have HSP := Lib.hid hsp
  clear hsp
  refine wp_region_loose 6 S sp (by kernel_rfl) (by kernel_rfl) hS1 hSE ?_
  simp only [List.take_succ_cons, List.take_zero, List.drop_succ_cons, List.drop_zero]
  refine wpX_step (fun K hK => ?_)
  go_simp
  refine StepY.det (by rw [HSP.out]; rfl) ?_ ?_
  · intro wz hz hF
    rw [HS.out] at hz
    have hf := hz.cells
    simp only [BC, CC, Nat.zero_add, Nat.reduceAdd, and_true] at hf
    clear hz hF
    go_simp
    exact ⟨rfl, Ext.refl _⟩
  refine hK _ _ ?_
  clear hK K
  refine wpX_step (fun K hK => ?_)
  go_simp
  refine StepY.det (by rw [HSP.out]; rfl) ?_ ?_
  · intro wz hz hF
    clear hz hF
    go_simp
    refine (HVL.out _).mono ?_
    rintro e w2 ⟨rfl, hE1⟩
    exact ⟨_, rfl, rfl, hE1⟩
  refine hK _ _ ?_
  clear hK K
  iterate 3
    refine wpX_step (fun K hK => ?_)
    go_simp
    refine StepY.det (by rw [HSP.out]; rfl) ?_ ?_
    · intro wz hz hF
      rw [HS.out] at hz
      have hf := hz.cells
      simp only [BC, CC, Nat.zero_add, Nat.reduceAdd, and_true] at hf
      clear hz hF
      go_simp
      exact ⟨rfl, Ext.refl _⟩
    refine hK _ _ ?_
    clear hK K
  refine wpX_step (fun K hK => ?_)
  go_simp
  refine StepY.det (by rw [HSP.out]; rfl) ?_ ?_
  · intro wz hz hF
    clear hz hF
    go_simp
    refine (HEM.out _).mono ?_
    rintro e w2 ⟨rfl, hE1⟩
    exact ⟨_, rfl, rfl, hE1⟩
  refine hK _ _ ?_
  clear hK K
  refine wpX_nil ?_
  intro wq hz hF
  clear hF
  rw [HS.out] at hz
  have hO := hz
  clear hz HS HSP
  have hf := hO.cells
  simp only [BC, CC, Nat.zero_add, Nat.reduceAdd, and_true] at hf
  have hq2' := hq2 wq
  obtain ⟨S, hS⟩ : ∃ S : World → Prop, S = Own w [⟨g6, 53, [.int .u64 (y1 : Int), .int .u64 (y2 : Int)]⟩, ⟨g, 22, cs⟩, ⟨gx, 53, [.int .u64 (a : Int), .int .u64 (b : Int)]⟩] [] := ⟨_, rfl⟩
  rw [← hS] at hO
  have HS1 := Lib.hid hS
  clear hS hf HEM HVL HOU
  go_wp2_with fail
  clear hq2' hq2
  go_loopw [7, 8, 9] (fun lv hv kv wr => ∃ i : Nat, kv = .int .i64 (i : Int) ∧ i ≤ xs.length ∧ lv = .bool ((xs.take i).any LO) ∧ hv = .bool ((xs.take i).any HI) ∧ S wr) (fun _ _ kv _ => xs.length - (intOf kv).toNat)
  case atStart => exact ⟨0, rfl, by omega, by simp, by simp, hO⟩
  case round =>
    obtain ⟨i, rfl, hil, rfl, rfl, hSr⟩ := hrel
    have hxl3 := hxl.out
    clear hO
    have hO := hSr
    rw [HS1.out] at hO
    clear hSr
    by_cases hik : i < xs.length
    · have hi3 : i < 3 := by omega
      have g1 : decide ((i : Int) < (xs.length : Int)) = true := decide_eq_true (by omega)
      obtain ⟨x, hx⟩ : ∃ x, xs[i]? = some x := ⟨_, List.getElem?_eq_getElem hik⟩
      obtain ⟨fS, fN, fD, vS, vN, vD, nS, nN, nD, tS, tN, tD, lS, lN, lD, r1, r2, r3, v1, v2, v3, HW⟩ := HX.out i x hx
      have hc := (hO.2.1 _ (List.mem_cons_of_mem _ List.mem_cons_self)).2.1.cell i
      simp only [List.getElem?_toArray] at hc
      rw [HCS.out i x hx] at hc
      have HLO : Hid ((xs.take (i + 1)).any LO = ((xs.take i).any LO || LO x)) := Lib.hid (by rw [List.take_add_one, hx]; simp)
      have HHI : Hid ((xs.take (i + 1)).any HI = ((xs.take i).any HI || HI x)) := Lib.hid (by rw [List.take_add_one, hx]; simp)
      clear hx
      generalize (xs.take i).any LO = lo at *
      generalize (xs.take i).any HI = hi at *
      have hf := hO.cells
      simp only [BC, CC, Nat.zero_add, Nat.reduceAdd, and_true] at hf
      go_wp2_with fail
      refine (HW.fb.out _).mono ?_
      rintro e w9 ⟨A1, l1, c1, B1, k1, d1, rfl, hW1, hW2, hE1⟩
      have hO := ((hO.ext hE1).add hW1).add hW2
      clear hW1 hW2 hE1
      clear hf
      have hf := hO.cells
      simp only [BC, CC, Nat.zero_add, Nat.reduceAdd, and_true] at hf
      clear hc g1
      go_wp2_with fail
      refine (HW.rp.out _ _ _ _ _ _ _ ⟨hO.wd 1 rfl, hO.wd 0 rfl⟩).mono ?_
      rintro e w9 ⟨A2, l2, c2, B2, k2, d2, rfl, hW1, hW2, hE1⟩
      have hO := ((hO.ext hE1).add hW1).add hW2
      clear hW1 hW2 hE1
      clear hf
      have hf := hO.cells
      simp only [BC, CC, Nat.zero_add, Nat.reduceAdd, and_true] at hf
      go_upto_region 19 with (first | ((with_reducible refine at_alloc ?_); refine own_alloc hO zero_rat rfl rfl ?_; clear hO; intro g7 wc hO; clear hf; have hf := hO.cells; simp only [BC, CC, Nat.zero_add, Nat.reduceAdd, and_true] at hf) | ((with_reducible refine at_store (T := 38) ?_); refine own_store (T := 38) hO 0 rfl rfl rfl size_rat rfl rfl rfl ?_; clear hO; intro wj hO; simp only [List.set_cons_zero, List.set_cons_succ, spl, List.take_succ_cons, List.take_zero, List.nil_append, List.cons_append, List.length_cons, List.length_nil, List.drop_succ_cons, List.drop_zero, List.drop_nil, Nat.reduceAdd, Nat.zero_add, List.append_nil] at hO; clear hf; have hf := hO.cells; simp only [BC, CC, Nat.zero_add, Nat.reduceAdd, and_true] at hf))
      obtain ⟨S, hS⟩ : ∃ S : World → Prop, S = Own w [⟨g7, 38, [.bool vS, .slice A2 l2 c2, .slice B2 k2 d2]⟩, ⟨g6, 53, [.int .u64 (y1 : Int), .int .u64 (y2 : Int)]⟩, ⟨g, 22, cs⟩, ⟨gx, 53, [.int .u64 (a : Int), .int .u64 (b : Int)]⟩] [⟨B2, k2, d2, nd vD⟩, ⟨A2, l2, c2, nd vN⟩, ⟨B1, k1, d1, nd fD⟩, ⟨A1, l1, c1, nd fN⟩] := ⟨_, rfl⟩
      have hSE : ∀ w w', S w → Ext w w' → S w' := fun w w' h1 h2 => by rw [hS] at h1 ⊢; exact h1.ext h2
      have hS1 : S wj.drew := by rw [hS]; exact hO.ext (Ext.refl wj).drew
      have HS := Lib.hid hS
      clear hS hO hf
      obtain ⟨sp, hsp⟩ : ∃ sp : Nat → Sp, sp = ofList [det (.agg #[.int .u64 (a : Int), .int .u64 (b : Int)]), det (.agg #[.float .f64 a, .float .f64 b]), det (.int .i64 (m : Int)), det (.agg #[.float .f64 y1, .float .f64 y2]), det (.agg #[.bool vS, .slice A2 l2 c2, .slice B2 k2 d2])] := ⟨_, rfl⟩
      have HSP := Lib.hid hsp
      clear hsp
      refine wp_region_loose 5 S sp (by kernel_rfl) (by kernel_rfl) hS1 hSE ?_
      simp only [List.take_succ_cons, List.take_zero, List.drop_succ_cons, List.drop_zero]
      refine wpX_step (fun K hK => ?_)
      go_simp
      refine StepY.det (by rw [HSP.out]; rfl) ?_ ?_
      · intro wz hz hF
        rw [HS.out] at hz
        have hf := hz.cells
        simp only [BC, CC, Nat.zero_add, Nat.reduceAdd, and_true] at hf
        clear hz hF
        go_simp
        exact ⟨rfl, Ext.refl _⟩
      refine hK _ _ ?_
      clear hK K
      refine wpX_step (fun K hK => ?_)
      go_simp
      refine StepY.det (by rw [HSP.out]; rfl) ?_ ?_
      · intro wz hz hF
        clear hz hF
        go_simp
        refine (HIN.out _).mono ?_
        rintro e w2 ⟨rfl, hE1⟩
        exact ⟨_, rfl, rfl, hE1⟩
      refine hK _ _ ?_
      clear hK K
      refine wpX_step (fun K hK => ?_)
      go_simp
      refine StepY.det (by rw [HSP.out]; rfl) ?_ ?_
      · intro wz hz hF
        clear hz hF
        go_simp
        exact ⟨rfl, Ext.refl _⟩
      refine hK _ _ ?_
      clear hK K
      refine wpX_step (fun K hK => ?_)
      go_simp
      refine StepY.det (by rw [HSP.out]; rfl) ?_ ?_
      · intro wz hz hF
        rw [HS.out] at hz
        have hTz := HT.out.ext hz.toExt
        clear hz hF
        go_simp
        refine (HPN.out _ hTz).mono ?_
        rintro e w2 ⟨rfl, hE1⟩
        exact ⟨_, rfl, rfl, hE1⟩
      refine hK _ _ ?_
      clear hK K
      refine wpX_step (fun K hK => ?_)
      go_simp
      refine StepY.det (by rw [HSP.out]; rfl) ?_ ?_
      · intro wz hz hF
        rw [HS.out] at hz
        have hf := hz.cells
        simp only [BC, CC, Nat.zero_add, Nat.reduceAdd, and_true] at hf
        clear hz hF
        go_simp
        exact ⟨rfl, Ext.refl _⟩
      refine hK _ _ ?_
      clear hK K
      refine wpX_nil ?_
      intro wq hz hF
      clear hF
      rw [HS.out] at hz
      have hO := hz
      clear hz HS HSP
      have hf := hO.cells
      simp only [BC, CC, Nat.zero_add, Nat.reduceAdd, and_true] at hf
      go_wp2_with fail
      refine (HW.hd.out _ _ _ _ _ _ _ ⟨hO.wd 1 rfl, hO.wd 0 rfl⟩).mono ?_
      rintro e w8 ⟨rfl, hE1⟩
      have hO := hO.ext hE1
      clear hE1
      clear hf
      have hf := hO.cells
      simp only [BC, CC, Nat.zero_add, Nat.reduceAdd, and_true] at hf
      go_wp2_with fail
      refine (HU1.out _).mono ?_
      rintro e w5 ⟨rfl, rfl⟩
      go_upto_region 22 with fail
      have ql := HW.ql
      have qh := HW.qh
      have hS22 := hO
      go_cut [7] from 64 to 131 (fun s wx => s = .bool (lo || LO x) ∧ Own w [⟨g7, 38, [.bool vS, .slice A2 l2 c2, .slice B2 k2 d2]⟩, ⟨g6, 53, [.int .u64 (y1 : Int), .int .u64 (y2 : Int)]⟩, ⟨g, 22, cs⟩, ⟨gx, 53, [.int .u64 (a : Int), .int .u64 (b : Int)]⟩] [⟨B2, k2, d2, nd vD⟩, ⟨A2, l2, c2, nd vN⟩, ⟨B1, k1, d1, nd fD⟩, ⟨A1, l1, c1, nd fN⟩] wx)
      case first =>
        clear hS22 qh
        have HFN := HW.fn
        have HCN := HW.cn_
        have q1 := HW.q1.out
        clear HW
        cases lo
        · cases v1
          · obtain ⟨S, hS⟩ : ∃ S : World → Prop, S = Own w [⟨g7, 38, [.bool vS, .slice A2 l2 c2, .slice B2 k2 d2]⟩, ⟨g6, 53, [.int .u64 (y1 : Int), .int .u64 (y2 : Int)]⟩, ⟨g, 22, cs⟩, ⟨gx, 53, [.int .u64 (a : Int), .int .u64 (b : Int)]⟩] [⟨B2, k2, d2, nd vD⟩, ⟨A2, l2, c2, nd vN⟩, ⟨B1, k1, d1, nd fD⟩, ⟨A1, l1, c1, nd fN⟩] := ⟨_, rfl⟩
            have hSE : ∀ w w', S w → Ext w w' → S w' := fun w w' h1 h2 => by rw [hS] at h1 ⊢; exact h1.ext h2
            have hS1 : S w8.drew := by rw [hS]; exact hO.ext (Ext.refl w8).drew
            have HS := Lib.hid hS
            clear hS hO hf
            obtain ⟨sp, hsp⟩ : ∃ sp : Nat → Sp, sp = ofList [det (.bool false), det (.bool false), det (.int .u64 (nx : Int)), det (.bool false), det (.bool false), det (.bool false), det (.agg #[.bool vS, .slice A2 l2 c2, .slice B2 k2 d2]), det (.int .u64 (nx : Int)), anyOf (fun v wz => ∃ A l c B m d, v = .agg #[.bool nS, .slice A l c, .slice B m d] ∧ RatAt wz A l c B m d nN nD), det (.int .i64 r1)] := ⟨_, rfl⟩
            have HSP := Lib.hid hsp
            clear hsp
            refine wp_region_loose 10 S sp (by kernel_rfl) (by kernel_rfl) hS1 hSE ?_
            simp only [List.take_succ_cons, List.take_zero, List.drop_succ_cons, List.drop_zero]
            iterate 8
              refine wpX_step (fun K hK => ?_)
              go_simp
              refine StepY.det (by rw [HSP.out]; rfl) ?_ ?_
              · intro wz hz hF
                rw [HS.out] at hz
                have hf := hz.cells
                simp only [BC, CC, Nat.zero_add, Nat.reduceAdd, and_true] at hf
                clear hz hF
                go_simp
                exact ⟨rfl, Ext.refl _⟩
              refine hK _ _ ?_
              clear hK K
            refine wpX_step (fun K hK => ?_)
            go_simp
            refine StepY.any (by rw [HSP.out]; rfl) ?_ ?_
            · intro wz hz hF
              clear hz hF
              go_simp
              refine (HFN.out _).mono ?_
              rintro e w2 ⟨A3, n3, c3, A4, n4, c4, rfl, hW1, hW2, hE1⟩
              exact ⟨_, rfl, ⟨A3, n3, c3, A4, n4, c4, rfl, hW1, hW2⟩, hE1⟩
            intro v1
            refine hK _ _ ?_
            clear hK K
            refine wpX_step (fun K hK => ?_)
            go_simp
            refine StepY.det (by rw [HSP.out]; rfl) ?_ ?_
            · intro wz hz hF
              obtain ⟨wa', ea, A5, n5, c5, A6, n6, c6, hv1, hw1⟩ := hF.any 8 (by kernel_rfl) (by rw [HSP.out]; rfl)
              rw [HS.out] at hz
              have hA : RatAt wz _ _ _ _ _ _ _ _ := ⟨hz.wd 1 rfl, hz.wd 0 rfl⟩
              clear hz hF
              simp only [asFun, List.nil_append, List.cons_append, List.getD_cons_succ, List.getD_cons_zero] at hv1
              subst hv1
              go_simp
              refine (HCN.out _ _ _ _ _ _ _ _ _ _ _ _ _ hA (hw1.ext ea)).mono ?_
              rintro e w2 ⟨rfl, hE1⟩
              exact ⟨_, rfl, rfl, hE1⟩
            refine hK _ _ ?_
            clear hK K
            refine wpX_nil ?_
            intro wq hz hF
            clear hF
            rw [HS.out] at hz
            have hO := hz
            clear hz HS HSP
            have hf := hO.cells
            simp only [BC, CC, Nat.zero_add, Nat.reduceAdd, and_true] at hf
            go_wp2
            go_meet
            exact ⟨by rw [ql.out]; rfl, hO⟩
          · obtain ⟨S, hS⟩ : ∃ S : World → Prop, S = Own w [⟨g7, 38, [.bool vS, .slice A2 l2 c2, .slice B2 k2 d2]⟩, ⟨g6, 53, [.int .u64 (y1 : Int), .int .u64 (y2 : Int)]⟩, ⟨g, 22, cs⟩, ⟨gx, 53, [.int .u64 (a : Int), .int .u64 (b : Int)]⟩] [⟨B2, k2, d2, nd vD⟩, ⟨A2, l2, c2, nd vN⟩, ⟨B1, k1, d1, nd fD⟩, ⟨A1, l1, c1, nd fN⟩] := ⟨_, rfl⟩
            have hSE : ∀ w w', S w → Ext w w' → S w' := fun w w' h1 h2 => by rw [hS] at h1 ⊢; exact h1.ext h2
            have hS1 : S w8.drew := by rw [hS]; exact hO.ext (Ext.refl w8).drew
            have HS := Lib.hid hS
            clear hS hO hf
            obtain ⟨sp, hsp⟩ : ∃ sp : Nat → Sp, sp = ofList [det (.bool false), det (.bool false), det (.int .u64 (nx : Int)), det (.bool true), det (.bool true), det (.bool true), det undef, det undef, det undef, det undef] := ⟨_, rfl⟩
            have HSP := Lib.hid hsp
            clear hsp
            refine wp_region_loose 10 S sp (by kernel_rfl) (by kernel_rfl) hS1 hSE ?_
            simp only [List.take_succ_cons, List.take_zero, List.drop_succ_cons, List.drop_zero]
            iterate 10
              refine wpX_step (fun K hK => ?_)
              go_simp
              first
              | refine ⟨by rw [HSP.out]; rfl, hK _ _ ?_⟩
                clear hK K
              | refine StepY.det (by rw [HSP.out]; rfl) ?_ ?_
                · intro wz hz hF
                  clear hz hF
                  go_simp
                  exact ⟨rfl, Ext.refl _⟩
                refine hK _ _ ?_
                clear hK K
            refine wpX_nil ?_
            intro wq hz hF
            clear hF
            rw [HS.out] at hz
            have hO := hz
            clear hz HS HSP
            have hf := hO.cells
            simp only [BC, CC, Nat.zero_add, Nat.reduceAdd, and_true] at hf
            go_wp2
            go_meet
            exact ⟨by rw [ql.out]; rfl, hO⟩
        · obtain ⟨S, hS⟩ : ∃ S : World → Prop, S = Own w [⟨g7, 38, [.bool vS, .slice A2 l2 c2, .slice B2 k2 d2]⟩, ⟨g6, 53, [.int .u64 (y1 : Int), .int .u64 (y2 : Int)]⟩, ⟨g, 22, cs⟩, ⟨gx, 53, [.int .u64 (a : Int), .int .u64 (b : Int)]⟩] [⟨B2, k2, d2, nd vD⟩, ⟨A2, l2, c2, nd vN⟩, ⟨B1, k1, d1, nd fD⟩, ⟨A1, l1, c1, nd fN⟩] := ⟨_, rfl⟩
          have hSE : ∀ w w', S w → Ext w w' → S w' := fun w w' h1 h2 => by rw [hS] at h1 ⊢; exact h1.ext h2
          have hS1 : S w8.drew := by rw [hS]; exact hO.ext (Ext.refl w8).drew
          have HS := Lib.hid hS
          clear hS hO hf
          obtain ⟨sp, hsp⟩ : ∃ sp : Nat → Sp, sp = ofList [det (.bool true), det (.bool true), det undef, det undef, det (.bool true), det (.bool true), det undef, det undef, det undef, det undef] := ⟨_, rfl⟩
          have HSP := Lib.hid hsp
          clear hsp
          refine wp_region_loose 10 S sp (by kernel_rfl) (by kernel_rfl) hS1 hSE ?_
          simp only [List.take_succ_cons, List.take_zero, List.drop_succ_cons, List.drop_zero]
          iterate 10
            refine wpX_step (fun K hK => ?_)
            go_simp
            first
            | refine ⟨by rw [HSP.out]; rfl, hK _ _ ?_⟩
              clear hK K
            | refine StepY.det (by rw [HSP.out]; rfl) ?_ ?_
              · intro wz hz hF
                clear hz hF
                go_simp
                exact ⟨rfl, Ext.refl _⟩
              refine hK _ _ ?_
              clear hK K
          refine wpX_nil ?_
          intro wq hz hF
          clear hF
          rw [HS.out] at hz
          have hO := hz
          clear hz HS HSP
          have hf := hO.cells
          simp only [BC, CC, Nat.zero_add, Nat.reduceAdd, and_true] at hf
          go_wp2
          go_meet
          exact ⟨by rfl, hO⟩
      case rest =>
      obtain ⟨rfl, hO⟩ := hcut
      clear hf hS22
      have hf := hO.cells
      simp only [BC, CC, Nat.zero_add, Nat.reduceAdd, and_true] at hf
      go_upto_region 23 with fail
      go_wp2_with fail
      refine (HU2.out _).mono ?_
      rintro e w5 ⟨rfl, rfl⟩
      go_upto_region 24 with fail
      have HFT := HW.ft
      have HCT := HW.ct
      have HFL_ := HW.fl
      have HCL := HW.cl
      have q2 := HW.q2.out
      have q3 := HW.q3.out
      have q2' : ((y2 : Int) != 0) = !v2 := by rw [bne, q2]
      clear HW ql
      cases hi
      · cases v2
        · simp only [Bool.not_false] at q2'
          cases v3
          · obtain ⟨S, hS⟩ : ∃ S : World → Prop, S = Own w [⟨g7, 38, [.bool vS, .slice A2 l2 c2, .slice B2 k2 d2]⟩, ⟨g6, 53, [.int .u64 (y1 : Int), .int .u64 (y2 : Int)]⟩, ⟨g, 22, cs⟩, ⟨gx, 53, [.int .u64 (a : Int), .int .u64 (b : Int)]⟩] [⟨B2, k2, d2, nd vD⟩, ⟨A2, l2, c2, nd vN⟩, ⟨B1, k1, d1, nd fD⟩, ⟨A1, l1, c1, nd fN⟩] := ⟨_, rfl⟩
            have hSE : ∀ w w', S w → Ext w w' → S w' := fun w w' h1 h2 => by rw [hS] at h1 ⊢; exact h1.ext h2
            have hS1 : S wc.drew := by rw [hS]; exact hO.ext (Ext.refl wc).drew
            have HS := Lib.hid hS
            clear hS hO hf
            obtain ⟨sp, hsp⟩ : ∃ sp : Nat → Sp, sp = ofList [det (.bool false), det (.bool false), det (.pointer (some ⟨g6, 1, none⟩)), det (.int .u64 (y2 : Int)), det (.bool false), det (.bool false), det undef, det undef, det undef, det undef, det (.bool false), det (.bool false), det (.bool false), det (.pointer (some ⟨g6, 1, none⟩)), det (.int .u64 (y2 : Int)), det (.bool true), det (.bool true), det (.int .u64 (la : Int)), det (.bool false), det (.bool false), det (.agg #[.bool vS, .slice A2 l2 c2, .slice B2 k2 d2]), det (.int .u64 (la : Int)), anyOf (fun v wz => ∃ A l c B m d, v = .agg #[.bool lS, .slice A l c, .slice B m d] ∧ RatAt wz A l c B m d lN lD), det (.int .i64 r3)] := ⟨_, rfl⟩
            have HSP := Lib.hid hsp
            clear hsp
            refine wp_region_loose 24 S sp (by kernel_rfl) (by kernel_rfl) hS1 hSE ?_
            simp only [List.take_succ_cons, List.take_zero, List.drop_succ_cons, List.drop_zero]
            iterate 22
              refine wpX_step (fun K hK => ?_)
              go_simp
              first
              | refine ⟨by rw [HSP.out]; rfl, hK _ _ ?_⟩
                clear hK K
              | refine StepY.det (by rw [HSP.out]; rfl) ?_ ?_
                · intro wz hz hF
                  rw [HS.out] at hz
                  have hf := hz.cells
                  simp only [BC, CC, Nat.zero_add, Nat.reduceAdd, and_true] at hf
                  clear hz hF
                  go_simp
                  exact ⟨rfl, Ext.refl _⟩
                refine hK _ _ ?_
                clear hK K
            refine wpX_step (fun K hK => ?_)
            go_simp
            refine StepY.any (by rw [HSP.out]; rfl) ?_ ?_
            · intro wz hz hF
              clear hz hF
              go_simp
              refine (HFL_.out _).mono ?_
              rintro e w2 ⟨A3, n3, c3, A4, n4, c4, rfl, hW1, hW2, hE1⟩
              exact ⟨_, rfl, ⟨A3, n3, c3, A4, n4, c4, rfl, hW1, hW2⟩, hE1⟩
            intro v1
            refine hK _ _ ?_
            clear hK K
            refine wpX_step (fun K hK => ?_)
            go_simp
            refine StepY.det (by rw [HSP.out]; rfl) ?_ ?_
            · intro wz hz hF
              obtain ⟨wa', ea, A5, n5, c5, A6, n6, c6, hv1, hw1⟩ := hF.any 22 (by kernel_rfl) (by rw [HSP.out]; rfl)
              rw [HS.out] at hz
              have hA : RatAt wz _ _ _ _ _ _ _ _ := ⟨hz.wd 1 rfl, hz.wd 0 rfl⟩
              clear hz hF
              simp only [asFun, List.nil_append, List.cons_append, List.getD_cons_succ, List.getD_cons_zero] at hv1
              subst hv1
              go_simp
              refine (HCL.out _ _ _ _ _ _ _ _ _ _ _ _ _ hA (hw1.ext ea)).mono ?_
              rintro e w2 ⟨rfl, hE1⟩
              exact ⟨_, rfl, rfl, hE1⟩
            refine hK _ _ ?_
            clear hK K
            refine wpX_nil ?_
            intro wq hz hF
            clear hF
            rw [HS.out] at hz
            have hO := hz
            clear hz HS HSP
            have hf := hO.cells
            simp only [BC, CC, Nat.zero_add, Nat.reduceAdd, and_true] at hf
            have hS := hO.tlt.baret
            have hwr : wrap64 ((i : Int) + 1) = ((i + 1 : Nat) : Int) := by unfold wrap64; omega
            clear hO hf
            rw [← HS1.out] at hS
            go_wp2
            go_roundw
            case rel =>
              first
              | exact ⟨i + 1, by first | rfl | go_num, by omega, by rw [HLO.out], by rw [HHI.out, qh.out]; rfl, hS⟩
              | ((repeat apply Exists.intro)
                 exact ⟨⟨i + 1, by first | rfl | go_num, by omega, by rw [HLO.out], by rw [HHI.out, qh.out]; rfl, hS⟩, rfl⟩)
            case measure => simp [intOf, hwr]; omega
          · obtain ⟨S, hS⟩ : ∃ S : World → Prop, S = Own w [⟨g7, 38, [.bool vS, .slice A2 l2 c2, .slice B2 k2 d2]⟩, ⟨g6, 53, [.int .u64 (y1 : Int), .int .u64 (y2 : Int)]⟩, ⟨g, 22, cs⟩, ⟨gx, 53, [.int .u64 (a : Int), .int .u64 (b : Int)]⟩] [⟨B2, k2, d2, nd vD⟩, ⟨A2, l2, c2, nd vN⟩, ⟨B1, k1, d1, nd fD⟩, ⟨A1, l1, c1, nd fN⟩] := ⟨_, rfl⟩
            have hSE : ∀ w w', S w → Ext w w' → S w' := fun w w' h1 h2 => by rw [hS] at h1 ⊢; exact h1.ext h2
            have hS1 : S wc.drew := by rw [hS]; exact hO.ext (Ext.refl wc).drew
            have HS := Lib.hid hS
            clear hS hO hf
            obtain ⟨sp, hsp⟩ : ∃ sp : Nat → Sp, sp = ofList [det (.bool false), det (.bool false), det (.pointer (some ⟨g6, 1, none⟩)), det (.int .u64 (y2 : Int)), det (.bool false), det (.bool false), det undef, det undef, det undef, det undef, det (.bool false), det (.bool false), det (.bool false), det (.pointer (some ⟨g6, 1, none⟩)), det (.int .u64 (y2 : Int)), det (.bool true), det (.bool true), det (.int .u64 (la : Int)), det (.bool true), det (.bool true), det undef, det undef, det undef, det undef] := ⟨_, rfl⟩
            have HSP := Lib.hid hsp
            clear hsp
            refine wp_region_loose 24 S sp (by kernel_rfl) (by kernel_rfl) hS1 hSE ?_
            simp only [List.take_succ_cons, List.take_zero, List.drop_succ_cons, List.drop_zero]
            iterate 24
              refine wpX_step (fun K hK => ?_)
              go_simp
              first
              | refine ⟨by rw [HSP.out]; rfl, hK _ _ ?_⟩
                clear hK K
              | refine StepY.det (by rw [HSP.out]; rfl) ?_ ?_
                · intro wz hz hF
                  rw [HS.out] at hz
                  have hf := hz.cells
                  simp only [BC, CC, Nat.zero_add, Nat.reduceAdd, and_true] at hf
                  clear hz hF
                  go_simp
                  exact ⟨rfl, Ext.refl _⟩
                refine hK _ _ ?_
                clear hK K
            refine wpX_nil ?_
            intro wq hz hF
            clear hF
            rw [HS.out] at hz
            have hO := hz
            clear hz HS HSP
            have hf := hO.cells
            simp only [BC, CC, Nat.zero_add, Nat.reduceAdd, and_true] at hf
            have hS := hO.tlt.baret
            have hwr : wrap64 ((i : Int) + 1) = ((i + 1 : Nat) : Int) := by unfold wrap64; omega
            clear hO hf
            rw [← HS1.out] at hS
            go_wp2
            go_roundw
            case rel =>
              first
              | exact ⟨i + 1, by first | rfl | go_num, by omega, by rw [HLO.out], by rw [HHI.out, qh.out]; rfl, hS⟩
              | ((repeat apply Exists.intro)
                 exact ⟨⟨i + 1, by first | rfl | go_num, by omega, by rw [HLO.out], by rw [HHI.out, qh.out]; rfl, hS⟩, rfl⟩)
            case measure => simp [intOf, hwr]; omega
        · simp only [Bool.not_true] at q2'
          by_cases hr : 0 < r2
          · have hr2 : decide (0 < r2) = true := decide_eq_true hr
            have qh' : HI x = true := by rw [qh.out, hr2]; rfl
            obtain ⟨S, hS⟩ : ∃ S : World → Prop, S = Own w [⟨g7, 38, [.bool vS, .slice A2 l2 c2, .slice B2 k2 d2]⟩, ⟨g6, 53, [.int .u64 (y1 : Int), .int .u64 (y2 : Int)]⟩, ⟨g, 22, cs⟩, ⟨gx, 53, [.int .u64 (a : Int), .int .u64 (b : Int)]⟩] [⟨B2, k2, d2, nd vD⟩, ⟨A2, l2, c2, nd vN⟩, ⟨B1, k1, d1, nd fD⟩, ⟨A1, l1, c1, nd fN⟩] := ⟨_, rfl⟩
            have hSE : ∀ w w', S w → Ext w w' → S w' := fun w w' h1 h2 => by rw [hS] at h1 ⊢; exact h1.ext h2
            have hS1 : S wc.drew := by rw [hS]; exact hO.ext (Ext.refl wc).drew
            have HS := Lib.hid hS
            clear hS hO hf
            obtain ⟨sp, hsp⟩ : ∃ sp : Nat → Sp, sp = ofList [det (.bool false), det (.bool false), det (.pointer (some ⟨g6, 1, none⟩)), det (.int .u64 (y2 : Int)), det (.bool true), det (.bool true), det (.agg #[.bool vS, .slice A2 l2 c2, .slice B2 k2 d2]), anyOf (fun v wz => ∃ A l c B m d, v = .agg #[.bool tS, .slice A l c, .slice B m d] ∧ RatAt wz A l c B m d tN tD), det (.int .i64 r2), det (.bool true), det (.bool true), det (.bool true), det (.bool true), det undef, det undef, det undef, det undef, det undef, det undef, det undef, det undef, det undef, det undef, det undef] := ⟨_, rfl⟩
            have HSP := Lib.hid hsp
            clear hsp
            refine wp_region_loose 24 S sp (by kernel_rfl) (by kernel_rfl) hS1 hSE ?_
            simp only [List.take_succ_cons, List.take_zero, List.drop_succ_cons, List.drop_zero]
            iterate 7
              refine wpX_step (fun K hK => ?_)
              go_simp
              refine StepY.det (by rw [HSP.out]; rfl) ?_ ?_
              · intro wz hz hF
                rw [HS.out] at hz
                have hf := hz.cells
                simp only [BC, CC, Nat.zero_add, Nat.reduceAdd, and_true] at hf
                clear hz hF
                go_simp
                exact ⟨rfl, Ext.refl _⟩
              refine hK _ _ ?_
              clear hK K
            refine wpX_step (fun K hK => ?_)
            go_simp
            refine StepY.any (by rw [HSP.out]; rfl) ?_ ?_
            · intro wz hz hF
              clear hz hF
              go_simp
              refine (HFT.out _).mono ?_
              rintro e w2 ⟨A3, n3, c3, A4, n4, c4, rfl, hW1, hW2, hE1⟩
              exact ⟨_, rfl, ⟨A3, n3, c3, A4, n4, c4, rfl, hW1, hW2⟩, hE1⟩
            intro v1
            refine hK _ _ ?_
            clear hK K
            refine wpX_step (fun K hK => ?_)
            go_simp
            refine StepY.det (by rw [HSP.out]; rfl) ?_ ?_
            · intro wz hz hF
              obtain ⟨wa', ea, A5, n5, c5, A6, n6, c6, hv1, hw1⟩ := hF.any 7 (by kernel_rfl) (by rw [HSP.out]; rfl)
              rw [HS.out] at hz
              have hA : RatAt wz _ _ _ _ _ _ _ _ := ⟨hz.wd 1 rfl, hz.wd 0 rfl⟩
              clear hz hF
              simp only [asFun, List.nil_append, List.cons_append, List.getD_cons_succ, List.getD_cons_zero] at hv1
              subst hv1
              go_simp
              refine (HCT.out _ _ _ _ _ _ _ _ _ _ _ _ _ hA (hw1.ext ea)).mono ?_
              rintro e w2 ⟨rfl, hE1⟩
              exact ⟨_, rfl, rfl, hE1⟩
            refine hK _ _ ?_
            clear hK K
            iterate 15
              refine wpX_step (fun K hK => ?_)
              go_simp
              first
              | refine ⟨by rw [HSP.out]; rfl, hK _ _ ?_⟩
                clear hK K
              | refine StepY.det (by rw [HSP.out]; rfl) ?_ ?_
                · intro wz hz hF
                  clear hz hF
                  go_simp
                  exact ⟨rfl, Ext.refl _⟩
                refine hK _ _ ?_
                clear hK K
            refine wpX_nil ?_
            intro wq hz hF
            clear hF
            rw [HS.out] at hz
            have hO := hz
            clear hz HS HSP
            have hf := hO.cells
            simp only [BC, CC, Nat.zero_add, Nat.reduceAdd, and_true] at hf
            have hS := hO.tlt.baret
            have hwr : wrap64 ((i : Int) + 1) = ((i + 1 : Nat) : Int) := by unfold wrap64; omega
            clear hO hf
            rw [← HS1.out] at hS
            go_wp2
            go_roundw
            case rel =>
              first
              | exact ⟨i + 1, by first | rfl | go_num, by omega, by rw [HLO.out], by rw [HHI.out, qh']; rfl, hS⟩
              | ((repeat apply Exists.intro)
                 exact ⟨⟨i + 1, by first | rfl | go_num, by omega, by rw [HLO.out], by rw [HHI.out, qh']; rfl, hS⟩, rfl⟩)
            case measure => simp [intOf, hwr]; omega
          · have hr2 : decide (0 < r2) = false := decide_eq_false hr
            have qh' : HI x = false := by rw [qh.out, hr2]; rfl
            obtain ⟨S, hS⟩ : ∃ S : World → Prop, S = Own w [⟨g7, 38, [.bool vS, .slice A2 l2 c2, .slice B2 k2 d2]⟩, ⟨g6, 53, [.int .u64 (y1 : Int), .int .u64 (y2 : Int)]⟩, ⟨g, 22, cs⟩, ⟨gx, 53, [.int .u64 (a : Int), .int .u64 (b : Int)]⟩] [⟨B2, k2, d2, nd vD⟩, ⟨A2, l2, c2, nd vN⟩, ⟨B1, k1, d1, nd fD⟩, ⟨A1, l1, c1, nd fN⟩] := ⟨_, rfl⟩
            have hSE : ∀ w w', S w → Ext w w' → S w' := fun w w' h1 h2 => by rw [hS] at h1 ⊢; exact h1.ext h2
            have hS1 : S wc.drew := by rw [hS]; exact hO.ext (Ext.refl wc).drew
            have HS := Lib.hid hS
            clear hS hO hf
            obtain ⟨sp, hsp⟩ : ∃ sp : Nat → Sp, sp = ofList [det (.bool false), det (.bool false), det (.pointer (some ⟨g6, 1, none⟩)), det (.int .u64 (y2 : Int)), det (.bool true), det (.bool true), det (.agg #[.bool vS, .slice A2 l2 c2, .slice B2 k2 d2]), anyOf (fun v wz => ∃ A l c B m d, v = .agg #[.bool tS, .slice A l c, .slice B m d] ∧ RatAt wz A l c B m d tN tD), det (.int .i64 r2), det (.bool false), det (.bool false), det (.bool false), det (.bool false), det (.pointer (some ⟨g6, 1, none⟩)), det (.int .u64 (y2 : Int)), det (.bool false), det (.bool false), det undef, det undef, det undef, det undef, det undef, det undef, det undef] := ⟨_, rfl⟩
            have HSP := Lib.hid hsp
            clear hsp
            refine wp_region_loose 24 S sp (by kernel_rfl) (by kernel_rfl) hS1 hSE ?_
            simp only [List.take_succ_cons, List.take_zero, List.drop_succ_cons, List.drop_zero]
            iterate 7
              refine wpX_step (fun K hK => ?_)
              go_simp
              refine StepY.det (by rw [HSP.out]; rfl) ?_ ?_
              · intro wz hz hF
                rw [HS.out] at hz
                have hf := hz.cells
                simp only [BC, CC, Nat.zero_add, Nat.reduceAdd, and_true] at hf
                clear hz hF
                go_simp
                exact ⟨rfl, Ext.refl _⟩
              refine hK _ _ ?_
              clear hK K
            refine wpX_step (fun K hK => ?_)
            go_simp
            refine StepY.any (by rw [HSP.out]; rfl) ?_ ?_
            · intro wz hz hF
              clear hz hF
              go_simp
              refine (HFT.out _).mono ?_
              rintro e w2 ⟨A3, n3, c3, A4, n4, c4, rfl, hW1, hW2, hE1⟩
              exact ⟨_, rfl, ⟨A3, n3, c3, A4, n4, c4, rfl, hW1, hW2⟩, hE1⟩
            intro v1
            refine hK _ _ ?_
            clear hK K
            refine wpX_step (fun K hK => ?_)
            go_simp
            refine StepY.det (by rw [HSP.out]; rfl) ?_ ?_
            · intro wz hz hF
              obtain ⟨wa', ea, A5, n5, c5, A6, n6, c6, hv1, hw1⟩ := hF.any 7 (by kernel_rfl) (by rw [HSP.out]; rfl)
              rw [HS.out] at hz
              have hA : RatAt wz _ _ _ _ _ _ _ _ := ⟨hz.wd 1 rfl, hz.wd 0 rfl⟩
              clear hz hF
              simp only [asFun, List.nil_append, List.cons_append, List.getD_cons_succ, List.getD_cons_zero] at hv1
              subst hv1
              go_simp
              refine (HCT.out _ _ _ _ _ _ _ _ _ _ _ _ _ hA (hw1.ext ea)).mono ?_
              rintro e w2 ⟨rfl, hE1⟩
              exact ⟨_, rfl, rfl, hE1⟩
            refine hK _ _ ?_
            clear hK K
            iterate 15
              refine wpX_step (fun K hK => ?_)
              go_simp
              first
              | refine ⟨by rw [HSP.out]; rfl, hK _ _ ?_⟩
                clear hK K
              | refine StepY.det (by rw [HSP.out]; rfl) ?_ ?_
                · intro wz hz hF
                  rw [HS.out] at hz
                  have hf := hz.cells
                  simp only [BC, CC, Nat.zero_add, Nat.reduceAdd, and_true] at hf
                  clear hz hF
                  go_simp
                  exact ⟨rfl, Ext.refl _⟩
                refine hK _ _ ?_
                clear hK K
            refine wpX_nil ?_
            intro wq hz hF
            clear hF
            rw [HS.out] at hz
            have hO := hz
            clear hz HS HSP
            have hf := hO.cells
            simp only [BC, CC, Nat.zero_add, Nat.reduceAdd, and_true] at hf
            have hS := hO.tlt.baret
            have hwr : wrap64 ((i : Int) + 1) = ((i + 1 : Nat) : Int) := by unfold wrap64; omega
            clear hO hf
            rw [← HS1.out] at hS
            go_wp2
            go_roundw
            case rel =>
              first
              | exact ⟨i + 1, by first | rfl | go_num, by omega, by rw [HLO.out], by rw [HHI.out, qh']; rfl, hS⟩
              | ((repeat apply Exists.intro)
                 exact ⟨⟨i + 1, by first | rfl | go_num, by omega, by rw [HLO.out], by rw [HHI.out, qh']; rfl, hS⟩, rfl⟩)
            case measure => simp [intOf, hwr]; omega
      · obtain ⟨S, hS⟩ : ∃ S : World → Prop, S = Own w [⟨g7, 38, [.bool vS, .slice A2 l2 c2, .slice B2 k2 d2]⟩, ⟨g6, 53, [.int .u64 (y1 : Int), .int .u64 (y2 : Int)]⟩, ⟨g, 22, cs⟩, ⟨gx, 53, [.int .u64 (a : Int), .int .u64 (b : Int)]⟩] [⟨B2, k2, d2, nd vD⟩, ⟨A2, l2, c2, nd vN⟩, ⟨B1, k1, d1, nd fD⟩, ⟨A1, l1, c1, nd fN⟩] := ⟨_, rfl⟩
        have hSE : ∀ w w', S w → Ext w w' → S w' := fun w w' h1 h2 => by rw [hS] at h1 ⊢; exact h1.ext h2
        have hS1 : S wc.drew := by rw [hS]; exact hO.ext (Ext.refl wc).drew
        have HS := Lib.hid hS
        clear hS hO hf
        obtain ⟨sp, hsp⟩ : ∃ sp : Nat → Sp, sp = ofList [det (.bool true), det (.bool true), det undef, det undef, det undef, det undef, det undef, det undef, det undef, det undef, det undef, det (.bool true), det (.bool true), det undef, det undef, det undef, det undef, det undef, det undef, det undef, det undef, det undef, det undef, det undef] := ⟨_, rfl⟩
        have HSP := Lib.hid hsp
        clear hsp
        refine wp_region_loose 24 S sp (by kernel_rfl) (by kernel_rfl) hS1 hSE ?_
        simp only [List.take_succ_cons, List.take_zero, List.drop_succ_cons, List.drop_zero]
        iterate 24
          refine wpX_step (fun K hK => ?_)
          go_simp
          first
          | refine ⟨by rw [HSP.out]; rfl, hK _ _ ?_⟩
            clear hK K
          | refine StepY.det (by rw [HSP.out]; rfl) ?_ ?_
            · intro wz hz hF
              clear hz hF
              go_simp
              exact ⟨rfl, Ext.refl _⟩
            refine hK _ _ ?_
            clear hK K
        refine wpX_nil ?_
        intro wq hz hF
        clear hF
        rw [HS.out] at hz
        have hO := hz
        clear hz HS HSP
        have hf := hO.cells
        simp only [BC, CC, Nat.zero_add, Nat.reduceAdd, and_true] at hf
        have hS := hO.tlt.baret
        have hwr : wrap64 ((i : Int) + 1) = ((i + 1 : Nat) : Int) := by unfold wrap64; omega
        clear hO hf
        rw [← HS1.out] at hS
        go_wp2
        go_roundw
        case rel =>
          first
          | exact ⟨i + 1, by first | rfl | go_num, by omega, by rw [HLO.out], by rw [HHI.out]; rfl, hS⟩
          | ((repeat apply Exists.intro)
             exact ⟨⟨i + 1, by first | rfl | go_num, by omega, by rw [HLO.out], by rw [HHI.out]; rfl, hS⟩, rfl⟩)
        case measure => simp [intOf, hwr]; omega
    · have hie : i = xs.length := by omega
      subst hie
      rw [List.take_length, HFL.out.1, HFL.out.2]
      have g1 : decide ((xs.length : Int) < (xs.length : Int)) = false := decide_eq_false (by omega)
      have hE := hO.toExt
      clear hO
      go_wp2_with fail
      refine (HLV.out _ (HT.out.ext hE)).mono ?_
      rintro e w6 ⟨rfl, hE1⟩
      have hEE := hE.trans hE1
      clear hE hE1
      go_wp2
      go_ret
      exact ⟨rfl, hEE⟩
end Go.Proofs.YtadijoeeaineaaaDoor
