/-
  The contracts of the program's sums, second part: lay. Conditions: those that each theorem names.
-/
import Derived.Test.YtfbjeifhpmdjaaaGreatP16
import Derived.Deep.RegionHeld3
import Derived.Laws.Externs
import Derived.Test.YtfbjeifhpmdjaaaGreatP05
namespace Go.Proofs.YtfbjeifhpmdjaaaGreat
open Go.RowKit Nm Rn
set_option maxRecDepth 100000
set_option linter.unusedVariables false
set_option linter.unusedSimpArgs false

/-- The two words, shifted, are three. -/
theorem three_words {hi lo k q x0 y1 y2 x1 x2 : Nat} (hk : k < 64) (hq : q = 63 - k) (hl : lo < 18446744073709551616) (hh : hi < 18446744073709551616)
    (h0 : x0 = lo * 2 ^ k % 18446744073709551616) (h1 : y1 = hi * 2 ^ k % 18446744073709551616) (h2 : y2 = lo / 2 / 2 ^ q) (h3 : x1 = y1 + y2) (h4 : x2 = hi / 2 / 2 ^ q) :
    x0 + 18446744073709551616 * (x1 + 18446744073709551616 * x2) = (hi * 18446744073709551616 + lo) * 2 ^ k ∧ y1 % 2 ^ k = 0 ∧ y2 < 2 ^ k ∧ x1 < 18446744073709551616 ∧ x2 < 18446744073709551616 := by
  have hP : 2 ^ k * (2 * 2 ^ q) = 18446744073709551616 := by
    rw [← Nat.pow_succ', ← Nat.pow_add, show k + (q + 1) = 64 by omega]
  have hp : 0 < 2 ^ k := two_pow_pos k
  have hq0 : 0 < 2 ^ q := two_pow_pos q
  rw [Nat.div_div_eq_div_mul] at h2 h4
  generalize 2 * 2 ^ q = R at *
  have hR : 0 < R := by
    rcases Nat.eq_zero_or_pos R with h | h
    · rw [h, Nat.mul_zero] at hP; omega
    · exact h
  generalize 2 ^ k = P at *
  have sp : ∀ x, x * P % 18446744073709551616 + 18446744073709551616 * (x / R) = x * P := fun x => by
    have : x * P / 18446744073709551616 = x / R := by rw [← hP, Nat.mul_comm x P, Nat.mul_div_mul_left _ _ hp]
    rw [← this]
    exact Nat.mod_add_div _ _
  have s1 := sp lo
  have s2 := sp hi
  rw [← h0, ← h2] at s1
  rw [← h1, ← h4] at s2
  have m1 : y1 % P = 0 := by
    rw [h1, ← hP, Nat.mod_mul_right_mod, Nat.mul_mod_left]
  have b2 : y2 < P := by
    rw [h2, Nat.div_lt_iff_lt_mul hR, hP]; exact hl
  have b4 : x2 < 18446744073709551616 := by
    rw [h4]; exact Nat.lt_of_le_of_lt (Nat.div_le_self _ _) hh
  have b1 : y1 + y2 < 18446744073709551616 := by
    have hy1 : y1 < P * R := by rw [hP, h1]; omega
    have hy : y1 = P * (y1 / P) := by have := Nat.mod_add_div y1 P; omega
    have hd : y1 / P < R := by rw [Nat.div_lt_iff_lt_mul hp, Nat.mul_comm]; exact hy1
    have h9 : P * (y1 / P) + P ≤ P * R := by
      have := Nat.mul_le_mul_left P (show y1 / P + 1 ≤ R by omega)
      rw [Nat.mul_add] at this
      omega
    rw [hP] at h9
    omega
  refine ⟨?_, m1, b2, by omega, b4⟩
  rw [Nat.add_mul, h3, Nat.mul_right_comm hi, ← s2, ← s1]
  omega

/-- What the words have brought, up to word j. -/
def lw (x0 x1 x2 : Nat) : Nat → Nat
  | 0 => x0
  | 1 => x1
  | 2 => x2
  | _ => 0
def lx (s : Bool) (i x0 x1 x2 : Nat) : Nat → Int
  | 0 => 0
  | j + 1 => lx s i x0 x1 x2 j + sn s (lw x0 x1 x2 j * 18446744073709551616 ^ (i + j))
theorem lx_all {s : Bool} {i x0 x1 x2 : Nat} : ∀ j, 3 ≤ j → lx s i x0 x1 x2 j = sn s ((x0 + 18446744073709551616 * (x1 + 18446744073709551616 * x2)) * 18446744073709551616 ^ i)
  | 3, _ => by
    simp only [lx, lw, Nat.add_zero, Nat.pow_add, Nat.pow_one]
    generalize 18446744073709551616 ^ i = P
    have e1 : x1 * (P * 18446744073709551616) = 18446744073709551616 * (x1 * P) := by rw [← Nat.mul_assoc, Nat.mul_comm]
    have e2 : x2 * (P * 18446744073709551616 ^ 2) = 18446744073709551616 * (18446744073709551616 * (x2 * P)) := by rw [show 18446744073709551616 ^ 2 = 18446744073709551616 * 18446744073709551616 from rfl, ← Nat.mul_assoc, ← Nat.mul_assoc, Nat.mul_comm (x2 * P * _), Nat.mul_comm (x2 * P)]
    rw [e1, e2, Nat.add_mul, Nat.mul_assoc, Nat.add_mul, Nat.mul_assoc]
    unfold sn
    cases s
    · simp only [Bool.false_eq_true, if_false]; omega
    · simp only [if_true]; omega
  | j + 4, _ => by
    rw [lx, lx_all (j + 3) (by omega), show lw x0 x1 x2 (j + 3) = 0 from rfl, Nat.zero_mul]
    unfold sn
    cases s <;> simp
theorem three_at {x0 x1 x2 : Nat} (j : Nat) (h : j < 3) : ([Value.int .u64 (x0 : Int), .int .u64 (x1 : Int), .int .u64 (x2 : Int)] : List Value)[j]? = some (.int .u64 (lw x0 x1 x2 j : Int)) := by
  match j, h with
  | 0, _ => rfl
  | 1, _ => rfl
  | 2, _ => rfl
theorem lw_lt {x0 x1 x2 : Nat} (h0 : x0 < 18446744073709551616) (h1 : x1 < 18446744073709551616) (h2 : x2 < 18446744073709551616) (j : Nat) : lw x0 x1 x2 j < 18446744073709551616 := by
  unfold lw
  split <;> omega
theorem lw_zero {x0 x1 x2 j : Nat} (h : 3 ≤ j) : lw x0 x1 x2 j = 0 := by
  match j, h with
  | k + 3, _ => rfl
theorem pow64 (i : Nat) : 18446744073709551616 ^ i = 2 ^ (64 * i) := by rw [Nat.pow_mul]
theorem lx_end {s : Bool} {hi lo i k x0 x1 x2 j : Nat} (hw : x0 + 18446744073709551616 * (x1 + 18446744073709551616 * x2) = (hi * 18446744073709551616 + lo) * 2 ^ k) (hj : 3 ≤ j) : lx s i x0 x1 x2 j = sn s ((hi * 18446744073709551616 + lo) * 2 ^ (64 * i + k)) := by
  rw [lx_all j hj, hw, pow64, Nat.mul_assoc, ← Nat.pow_add, Nat.add_comm k]
/-- The words at the end. -/
theorem lay_end {l : List Nat} {T X c : Int} (hl : l.length = 68) (h6 : W6 l) (h : (vl l : Int) + c * (MM : Int) = vl (sw T) + X) : l = sw (T + X) := by
  refine (sw_end hl h6 h).trans (sw_congr ?_)
  rw [vl_sw, Int.add_emod, Int.emod_emod_of_dvd _ (Int.dvd_refl _), ← Int.add_emod]

theorem run_badd (x y c : Nat) (hc : c ≤ 1) (w : World) : (callFunc 62 #[.int .u64 (x : Int), .int .u64 (y : Int), .int .u64 (c : Int)]).run Tryz.prog w = .ok (.value (.tuple #[.int .u64 (((x + y + c) % 18446744073709551616 : Nat) : Int), .int .u64 (((x + y + c) / 18446744073709551616 : Nat) : Int)])) w := by
  have : c = 0 ∨ c = 1 := by omega
  rcases this with rfl | rfl <;> rfl
theorem run_bsub (x y c : Nat) (hc : c ≤ 1) (w : World) : (callFunc 81 #[.int .u64 (x : Int), .int .u64 (y : Int), .int .u64 (c : Int)]).run Tryz.prog w = .ok (.value (.tuple #[.int .u64 (((x + 18446744073709551616 - y - c) % 18446744073709551616 : Nat) : Int), .int .u64 ((if x < y + c then 1 else 0 : Nat) : Int)])) w := by
  have : c = 0 ∨ c = 1 := by omega
  rcases this with rfl | rfl <;> rfl
theorem zero_three (w : World) : (zeroValue 111).run Tryz.prog w = .ok (.agg #[.int .u64 0, .int .u64 0, .int .u64 0]) w := by kernel_rfl
theorem size_three (w : World) : (sizeOf 111).run Tryz.prog w = .ok 3 w := by kernel_rfl
section
variable {w0 w : World} {L : List Bx} {W : List Sw} {g : Nat} {ws : List Nat} {p m b : Bool} {t : Nat}
set_option maxHeartbeats 4000000 in
theorem tlay_any (s : Bool) (hi lo i k : Nat) (T : Int) (hi64 : hi < 18446744073709551616) (lo64 : lo < 18446744073709551616) (hi63 : i ≤ 63) (hk : k < 64) (hO : Own w0 (⟨g, 55, sc (sw T) p m b t⟩ :: L) W w) :
    Calls Tryz.prog 50 #[.pointer (some ⟨g, 0, none⟩), .bool s, .int .u64 (hi : Int), .int .u64 (lo : Int), .int .i64 ((64 * i + k : Nat) : Int)] w fun e w' => e = .returned (.tuple #[]) ∧ Own w0 (⟨g, 55, sc (sw (T + sn s ((hi * 18446744073709551616 + lo) * 2 ^ (64 * i + k)))) p m b t⟩ :: L) W w' := by
  obtain ⟨at_, hat⟩ : ∃ a, a = 64 * i + k := ⟨_, rfl⟩
  rw [← hat]
  have e1 : ((at_ : Nat) : Int).tdiv 64 = (i : Int) := by rw [Int.tdiv_eq_ediv_of_nonneg (by omega)]; omega
  have e2 : ((at_ : Nat) : Int).tmod 64 = (k : Int) := by rw [Int.tmod_eq_emod_of_nonneg (by omega)]; omega
  have hk1 : (k : Int) < 64 := by omega
  obtain ⟨q, hq⟩ : ∃ q, q = 63 - k := ⟨_, rfl⟩
  have e3 : (63 : Int) - (k : Int) = (q : Int) := by omega
  have hq1 : q ≤ 63 := by omega
  have f6 : IntKind.i64.wrap (q : Int) = (q : Int) := by rw [IntKind.wrap_i64]; omega
  obtain ⟨x0, hx0⟩ : ∃ x, x = lo * 2 ^ k % 18446744073709551616 := ⟨_, rfl⟩
  obtain ⟨y1, hy1⟩ : ∃ x, x = hi * 2 ^ k % 18446744073709551616 := ⟨_, rfl⟩
  obtain ⟨y2, hy2⟩ : ∃ x, x = lo / 2 / 2 ^ q := ⟨_, rfl⟩
  obtain ⟨x1, hx1⟩ : ∃ x, x = y1 + y2 := ⟨_, rfl⟩
  obtain ⟨x2, hx2⟩ : ∃ x, x = hi / 2 / 2 ^ q := ⟨_, rfl⟩
  obtain ⟨hw, hm1, hb2, hb1, hb4⟩ := three_words hk hq lo64 hi64 hx0 hy1 hy2 hx1 hx2
  have hb0 : x0 < 18446744073709551616 := by rw [hx0]; omega
  have f1 : IntKind.u64.wrap ((lo : Int) * 2 ^ k) = (x0 : Int) := by
    rw [hx0, show (lo : Int) * 2 ^ k = ((lo * 2 ^ k : Nat) : Int) by push_cast; rfl, IntKind.wrap_u64]; omega
  have f2 : IntKind.u64.wrap ((hi : Int) * 2 ^ k) = (y1 : Int) := by
    rw [hy1, show (hi : Int) * 2 ^ k = ((hi * 2 ^ k : Nat) : Int) by push_cast; rfl, IntKind.wrap_u64]; omega
  have f3 : (lo : Int) / 2 / 2 ^ q = (y2 : Int) := by rw [hy2]; push_cast; rfl
  have f5 : (hi : Int) / 2 / 2 ^ q = (x2 : Int) := by rw [hx2]; push_cast; rfl
  have f4 : bits .or .u64 (y1 : Int) (y2 : Int) = (x1 : Int) := by
    rw [u64_or_nat _ _ (by omega) (by omega), nat_join k _ _ hm1 hb2, hx1]
  clear hx0 hy1 hy2 hx1 hx2 hq hm1 hb2
  have HT : Hid (at_ = 64 * i + k) := Lib.hid hat
  clear hat
  go_enter Tryz.func50, Tryz.ntmps50
  go_wp2_with fail
  have hTr : True := trivial
  go_region_held3 (fun w' => True) (trivial) (fail)
  have hO := (hO.alloc 111 [.int .u64 (x0 : Int), .int .u64 (x1 : Int), .int .u64 (x2 : Int)] rfl).ext (Ext.refl _).drew
  obtain ⟨w1, hw1⟩ : ∃ w1, w1 = (w.alloc (Obj.cells #[.int .u64 (x0 : Int), .int .u64 (x1 : Int), .int .u64 (x2 : Int)] 111)).drew := ⟨_, rfl⟩
  rw [← hw1] at hO ⊢
  clear hw1
  generalize w.heap.size = g3 at *
  have e4 : (68 : Int) - (i : Int) = ((68 - i : Nat) : Int) := by omega
  have HW := Lib.hid hw
  clear hw f1 f2 f3 f4 f5 f6 e1 e2 hk1 e3 hq1 hi64 lo64 hk
  clear hTr
  go_wp2_with fail
  have HI := Lib.hid hi63
  obtain ⟨N, hN⟩ : ∃ N, N = 68 - i := ⟨_, rfl⟩
  rw [← hN]
  have HN : Hid (i + N = 68 ∧ 5 ≤ N) := Lib.hid ⟨by omega, by omega⟩
  clear e4 hN hi63
  obtain ⟨V, hV⟩ : ∃ V : Int, V = (vl (sw T) : Int) := ⟨_, rfl⟩
  have HV := Lib.hid hV
  have hst := sw_len T
  have hs6 := sw_w6 T
  have hini : (vl (sw T) : Int) + sn s (0 * 18446744073709551616 ^ (i + 0)) = V + lx s i x0 x1 x2 0 := by
    rw [hV, Nat.zero_mul, lx]; unfold sn; cases s <;> simp
  go_loopw [13, 40] (fun cv kv wr => ∃ (j c : Nat) (l : List Nat), kv = .int .i64 (j : Int) ∧ cv = .int .u64 (c : Int) ∧ j ≤ N ∧ Hid (c ≤ 1 ∧ l.length = 68 ∧ W6 l ∧ (vl l : Int) + sn s (c * 18446744073709551616 ^ (i + j)) = V + lx s i x0 x1 x2 j) ∧ Own w0 (⟨g3, 111, [.int .u64 (x0 : Int), .int .u64 (x1 : Int), .int .u64 (x2 : Int)]⟩ :: ⟨g, 55, sc l p m b t⟩ :: L) W wr) (fun _ kv _ => N - (intOf kv).toNat)
  case atStart => exact ⟨0, 0, sw T, rfl, rfl, Nat.zero_le _, Lib.hid ⟨by omega, hst, hs6, hini⟩, hO⟩
  case round =>
    obtain ⟨j, c, l, rfl, rfl, hjN, hinv, hOr⟩ := hrel
    clear hO hst hs6 hini hV
    by_cases hlt : j < N
    · have hnn : i + j < 68 := by have := HN.out; omega
      obtain ⟨pp, hpp⟩ : ∃ pp, pp = i + j := ⟨_, rfl⟩
      have ep : (i : Int) + (j : Int) = (pp : Int) := by omega
      have hp68 : pp < 68 := by omega
      have ew : IntKind.i64.wrap (pp : Int) = (pp : Int) := by rw [IntKind.wrap_i64]; omega
      have bp0 : (0 : Int) ≤ (pp : Int) := by omega
      have bp1 : (pp : Int) < 68 := by omega
      have hpl : pp < l.length := by rw [hinv.out.2.1]; exact hp68
      have hc2 := (hOr.cell 1 rfl pp).trans (sc_word hpl)
      have hf2 := hOr.frozen 1 (b := ⟨g, 55, sc l p m b t⟩) rfl pp
      have hx64 := hinv.out.2.2.1.get hpl
      obtain ⟨o, ho⟩ : ∃ o, o = l[pp] := ⟨_, rfl⟩
      rw [← ho] at hc2 hx64
      have HO : Hid (∃ h : pp < l.length, l[pp] = o) := Lib.hid ⟨hpl, ho.symm⟩
      have HPP := Lib.hid hpp
      clear ho hpl hpp hnn
      obtain ⟨x, hx⟩ : ∃ x, x = lw x0 x1 x2 j := ⟨_, rfl⟩
      have hstep : ∀ (r c' : Nat), (r : Int) + sn s (18446744073709551616 * c') = (o : Int) + sn s (x + c) → r < 18446744073709551616 → c' ≤ 1 → Hid (c' ≤ 1 ∧ (l.set pp r).length = 68 ∧ W6 (l.set pp r) ∧ (vl (l.set pp r) : Int) + sn s (c' * 18446744073709551616 ^ (i + (j + 1))) = V + lx s i x0 x1 x2 (j + 1)) := fun r c' hr hr64 hc' => by
        obtain ⟨i1, i2, i3, i4⟩ := hinv.out
        refine Lib.hid ⟨hc', by rw [List.length_set]; exact i2, i3.set _ hr64, ?_⟩
        rw [lx, ← hx, ← Nat.add_assoc, ← HPP.out]
        rw [← HPP.out] at i4
        obtain ⟨hpl, ho⟩ := HO.out
        exact lay_step hpl (by rw [ho]; exact hr) i4
      have HST := Lib.hid hstep
      have hOst : ∀ v : Nat, Own w0 (⟨g3, 111, [.int .u64 (x0 : Int), .int .u64 (x1 : Int), .int .u64 (x2 : Int)]⟩ :: ⟨g, 55, sc (l.set pp v) p m b t⟩ :: L) W (wr.setCell ⟨g, pp, none⟩ (.int .u64 (v : Int))) := fun (v : Nat) => by
        have := hOr.set 1 rfl pp (.int .u64 (v : Int)) rfl
        simp only [List.set_cons_succ, List.set_cons_zero] at this
        obtain ⟨hpl, ho⟩ := HO.out
        rw [sc_setw hpl] at this
        exact this
      have HOST := Lib.hid hOst
      have hxb : x < 18446744073709551616 := by
        rw [hx]
        exact lw_lt hb0 hb1 hb4 j
      have hc1 := hinv.out.1
      clear hstep hOst
      have hTr : True := trivial
      cases s
      · have hcall := run_badd o x c hc1
        have HN1 := HST.out _ _ (add_word (x := o) (y := x) (c := c)) (by omega) (by omega)
        generalize (o + x + c) % 18446744073709551616 = r at *
        generalize (o + x + c) / 18446744073709551616 = c' at *
        by_cases hj3 : j < 3
        · have hc1 : wr.cell? ⟨g3, j, none⟩ = some (.int .u64 (x : Int)) := by
            refine (hOr.cell 0 rfl j).trans ?_
            rw [hx]
            exact three_at j hj3
          have bj0 : (0 : Int) ≤ (j : Int) := by omega
          have bj1 : (j : Int) < 3 := by omega
          have d0 : decide ((j : Int) < (N : Int)) = true := decide_eq_true (by omega)
          clear hx hinv hOr hxb hx64 HW
          go_wp2_with fail
          go_region_with (fail)
          go_wp2_with fail
          go_roundw
          case rel => exact ⟨j + 1, c', l.set pp r, by go_num, rfl, by omega, HN1, (HOST.out r).ext (Ext.refl _).drew⟩
          case measure => simp [intOf]; omega
        · have d3 : decide ((j : Int) < 3) = false := decide_eq_false (by omega)
          have d0 : decide ((j : Int) < (N : Int)) = true := decide_eq_true (by omega)
          have hx0 : x = 0 := by rw [hx]; exact lw_zero (by omega)
          by_cases hc0 : c = 0
          · have hd : l = sw (T + sn false ((hi * 18446744073709551616 + lo) * 2 ^ (64 * i + k))) := by
              obtain ⟨i1, i2, i3, i4⟩ := hinv.out
              rw [hc0, Nat.zero_mul, lx_end HW.out (by omega), HV.out] at i4
              exact lay_end (c := 0) i2 i3 (by rw [Int.zero_mul]; have : sn false 0 = 0 := rfl; rw [this] at i4; exact i4)
            have HD := Lib.hid hd
            have q0 : ((c : Int) == 0) = true := by rw [beq_iff_eq]; omega
            clear hx hx0 hinv HOST HST HN1 hcall hxb hx64 HW hc0 hd
            go_wp2_with fail
            (try simp only [Exit.inBlock, Exit.then])
            refine bodyPost_ret (results_none rfl _ _ _) rfl ?_
            refine ⟨rfl, ?_⟩
            rw [HT.out, ← HD.out]
            exact hOr.tail
          · have q0 : ((c : Int) == 0) = false := by rw [beq_eq_false_iff_ne]; omega
            have hcall0 : ∀ w, (callFunc 62 #[.int .u64 (o : Int), .int .u64 0, .int .u64 (c : Int)]).run Tryz.prog w = .ok (.value (.tuple #[.int .u64 (r : Int), .int .u64 (c' : Int)])) w := by rw [hx0] at hcall; exact hcall
            clear hx hx0 hinv hOr hxb hx64 HW hcall hc0
            go_wp2_with fail
            go_region_with (fail)
            go_wp2_with fail
            go_roundw
            case rel => exact ⟨j + 1, c', l.set pp r, by go_num, rfl, by omega, HN1, (HOST.out r).ext (Ext.refl _).drew⟩
            case measure => simp [intOf]; omega
      · have hcall := run_bsub o x c hc1
        have HN1 := HST.out _ _ (sub_word (x := o) (y := x) (c := c) hx64 hxb hc1) (by omega) (by split <;> omega)
        generalize (o + 18446744073709551616 - x - c) % 18446744073709551616 = r at *
        generalize (if o < x + c then 1 else 0) = c' at *
        by_cases hj3 : j < 3
        · have hc1 : wr.cell? ⟨g3, j, none⟩ = some (.int .u64 (x : Int)) := by
            refine (hOr.cell 0 rfl j).trans ?_
            rw [hx]
            exact three_at j hj3
          have bj0 : (0 : Int) ≤ (j : Int) := by omega
          have bj1 : (j : Int) < 3 := by omega
          have d0 : decide ((j : Int) < (N : Int)) = true := decide_eq_true (by omega)
          clear hx hinv hOr hxb hx64 HW
          go_wp2_with fail
          go_region_with (fail)
          go_wp2_with fail
          go_roundw
          case rel => exact ⟨j + 1, c', l.set pp r, by go_num, rfl, by omega, HN1, (HOST.out r).ext (Ext.refl _).drew⟩
          case measure => simp [intOf]; omega
        · have d3 : decide ((j : Int) < 3) = false := decide_eq_false (by omega)
          have d0 : decide ((j : Int) < (N : Int)) = true := decide_eq_true (by omega)
          have hx0 : x = 0 := by rw [hx]; exact lw_zero (by omega)
          by_cases hc0 : c = 0
          · have hd : l = sw (T + sn true ((hi * 18446744073709551616 + lo) * 2 ^ (64 * i + k))) := by
              obtain ⟨i1, i2, i3, i4⟩ := hinv.out
              rw [hc0, Nat.zero_mul, lx_end HW.out (by omega), HV.out] at i4
              exact lay_end (c := 0) i2 i3 (by rw [Int.zero_mul]; have : sn true 0 = 0 := rfl; rw [this] at i4; exact i4)
            have HD := Lib.hid hd
            have q0 : ((c : Int) == 0) = true := by rw [beq_iff_eq]; omega
            clear hx hx0 hinv HOST HST HN1 hcall hxb hx64 HW hc0 hd
            go_wp2_with fail
            (try simp only [Exit.inBlock, Exit.then])
            refine bodyPost_ret (results_none rfl _ _ _) rfl ?_
            refine ⟨rfl, ?_⟩
            rw [HT.out, ← HD.out]
            exact hOr.tail
          · have q0 : ((c : Int) == 0) = false := by rw [beq_eq_false_iff_ne]; omega
            have hcall0 : ∀ w, (callFunc 81 #[.int .u64 (o : Int), .int .u64 0, .int .u64 (c : Int)]).run Tryz.prog w = .ok (.value (.tuple #[.int .u64 (r : Int), .int .u64 (c' : Int)])) w := by rw [hx0] at hcall; exact hcall
            clear hx hx0 hinv hOr hxb hx64 HW hcall hc0
            go_wp2_with fail
            go_region_with (fail)
            go_wp2_with fail
            go_roundw
            case rel => exact ⟨j + 1, c', l.set pp r, by go_num, rfl, by omega, HN1, (HOST.out r).ext (Ext.refl _).drew⟩
            case measure => simp [intOf]; omega
    · have hjN2 : j = N := by omega
      have hd : l = sw (T + sn s ((hi * 18446744073709551616 + lo) * 2 ^ (64 * i + k))) := by
        obtain ⟨i1, i2, i3, i4⟩ := hinv.out
        have hn := HN.out
        rw [lx_end HW.out (by omega), HV.out, hjN2, hn.1] at i4
        refine lay_end (c := sn s c) i2 i3 ?_
        rw [← i4]
        unfold sn MM
        cases s <;> simp [Int.neg_mul]
      have HD := Lib.hid hd
      have d0 : decide ((j : Int) < (N : Int)) = false := decide_eq_false (by omega)
      clear hinv hd hjN2
      go_wp2_with fail
      go_end0
      refine ⟨rfl, ?_⟩
      rw [HT.out, ← HD.out]
      exact hOr.tail
end
end Go.Proofs.YtfbjeifhpmdjaaaGreat

/-
  Plain: what is left behind 54 digits only has to be told from nothing; quotients. Conditions: those that each theorem names.
-/
set_option linter.unusedVariables false

namespace Go.Proofs.YtfbjeifhpmdjaaaGreat.Rn

/-- What the rounding asks of a Z. -/
def Asks (T : Nat) : Prop := ∃ k, T = 2 * rv k ∨ T = rv k + rv (k + 1)
theorem rr_same {Z Z' : Nat} (h : ∀ T, Asks T → ((2 * T ≤ Z ↔ 2 * T ≤ Z') ∧ (Z = 2 * T ↔ Z' = 2 * T))) (d : Int) (neg : Bool) : rr d neg Z = rr d neg Z' := by
  have hr : rung (Z / 4) = rung (Z' / 4) := by
    have h1 : ∀ k, k ≤ rung (Z / 4) ↔ k ≤ rung (Z' / 4) := fun k => by
      rw [le_rung_iff, le_rung_iff]
      have := (h (2 * rv k) ⟨k, .inl rfl⟩).1
      omega
    have a := (h1 (rung (Z / 4))).1 (Nat.le_refl _)
    have b := (h1 (rung (Z' / 4))).2 (Nat.le_refl _)
    omega
  have ha : away d neg Z = away d neg Z' := by
    unfold away
    rw [hr]
    obtain ⟨h1, h2⟩ := h (2 * rv (rung (Z' / 4))) ⟨_, .inl rfl⟩
    obtain ⟨h3, h4⟩ := h (rv (rung (Z' / 4)) + rv (rung (Z' / 4) + 1)) ⟨_, .inr rfl⟩
    have e1 : (Z = 4 * rv (rung (Z' / 4))) ↔ (Z' = 4 * rv (rung (Z' / 4))) := by omega
    have e2 : decide (2 * (rv (rung (Z' / 4)) + rv (rung (Z' / 4) + 1)) < Z) = decide (2 * (rv (rung (Z' / 4)) + rv (rung (Z' / 4) + 1)) < Z') := decide_eq_decide.2 (by omega)
    have e3 : decide (Z = 2 * (rv (rung (Z' / 4)) + rv (rung (Z' / 4) + 1))) = decide (Z' = 2 * (rv (rung (Z' / 4)) + rv (rung (Z' / 4) + 1))) := decide_eq_decide.2 (by omega)
    rw [e2, e3]
    by_cases h5 : Z = 4 * rv (rung (Z' / 4))
    · rw [if_pos h5, if_pos (e1.1 h5)]
    · rw [if_neg h5, if_neg (fun h6 => h5 (e1.2 h6))]
  unfold rr
  rw [hr, ha]

theorem asks_dvd {T a b : Nat} (hT : Asks T) (h : 9007199254740992 * 2 ^ a < T * 2 ^ b) : 2 ^ a ∣ T * 2 ^ b := by
  obtain ⟨k, hk⟩ := hT
  obtain ⟨s, h1, h2, h3, -⟩ := rv_dvd k
  generalize k / 4503599627370496 - 1 = v at *
  have key : ∀ {m c : Nat}, m < 9007199254740992 → T * 2 ^ b = m * 2 ^ c → 2 ^ a ∣ T * 2 ^ b := by
    intro m c hm e
    rw [e] at h ⊢
    rcases Nat.lt_or_ge c a with h4 | h4
    · exfalso
      have h5 := pow_mono (Nat.le_of_lt h4)
      have := Nat.mul_le_mul (Nat.le_of_lt hm) h5
      omega
    · exact Nat.dvd_mul_left_of_dvd (pow_dvd h4) _
  rcases hk with hk | hk
  · refine key (m := s) (c := v + 1 + b) h3 ?_
    rw [hk, h1, pow_add_ (v + 1) b, two_pow_s]
    ac_rfl
  · have e : T * 2 ^ b = (2 * s + 1) * 2 ^ (v + b) := by
      rw [hk, h1, h2, pow_add_, ← Nat.mul_assoc, ← Nat.add_mul]
      congr 2
      omega
    rw [e] at h ⊢
    rcases Nat.lt_or_ge (v + b) a with h4 | h4
    · exfalso
      have h5 := pow_mono (show v + b + 1 ≤ a by omega)
      rw [two_pow_s] at h5
      have : (2 * s + 1) * 2 ^ (v + b) ≤ 18014398509481984 * 2 ^ (v + b) := Nat.mul_le_mul_right _ (by omega)
      omega
    · exact Nat.dvd_mul_left_of_dvd (pow_dvd h4) _

/-- Nothing that the rounding asks lies strictly between two neighbours of 54 digits. -/
theorem between {Q a b T : Nat} (hQ : 9007199254740992 ≤ Q) (hT : Asks T) (h1 : Q * 2 ^ a < T * 2 ^ b) (h2 : T * 2 ^ b < (Q + 1) * 2 ^ a) : False := by
  have h3 := asks_dvd (a := a) (b := b) hT (Nat.lt_of_le_of_lt (Nat.mul_le_mul_right _ hQ) h1)
  obtain ⟨m, hm⟩ := h3
  rw [hm, Nat.mul_comm _ (2 ^ a)] at h1 h2
  have := Nat.lt_of_mul_lt_mul_left h1
  have := Nat.lt_of_mul_lt_mul_left h2
  omega

/-- How N by M stands to T times 2^b by 2^a, where nothing asked lies between. -/
theorem floor_le {N M Q a b T : Nat} (hM : 0 < M) (hQ : Q = N / M) (hQ1 : 9007199254740992 ≤ Q) (hT : Asks T) :
    (T * (M * 2 ^ b) ≤ N * 2 ^ a ↔ T * 2 ^ b ≤ Q * 2 ^ a) ∧ (N * 2 ^ a = T * (M * 2 ^ b) ↔ N % M = 0 ∧ Q * 2 ^ a = T * 2 ^ b) := by
  have h0 := Nat.div_add_mod N M
  have hl := Nat.mod_lt N hM
  rw [← hQ] at h0
  have hp := two_pow_pos a
  have e0 : T * (M * 2 ^ b) = M * (T * 2 ^ b) := by rw [Nat.mul_left_comm]
  have e1 : N * 2 ^ a = M * (Q * 2 ^ a) + N % M * 2 ^ a := by
    conv => lhs; rw [← h0]
    rw [Nat.add_mul, Nat.mul_assoc]
  have e2 : N % M * 2 ^ a < M * 2 ^ a := Nat.mul_lt_mul_of_pos_right hl hp
  have e3 : M * ((Q + 1) * 2 ^ a) = M * (Q * 2 ^ a) + M * 2 ^ a := by rw [Nat.add_mul, Nat.one_mul, Nat.mul_add]
  rw [e0, e1]
  rcases Nat.lt_or_ge (Q * 2 ^ a) (T * 2 ^ b) with h1 | h1
  · rcases Nat.lt_or_ge (T * 2 ^ b) ((Q + 1) * 2 ^ a) with h2 | h2
    · exact (between hQ1 hT h1 h2).elim
    · have h3 := Nat.mul_le_mul_left M h2
      rw [e3] at h3
      constructor
      · constructor <;> intro <;> omega
      · constructor
        · intro; omega
        · rintro ⟨-, h4⟩; omega
  · have h3 := Nat.mul_le_mul_left M h1
    constructor
    · constructor <;> intro <;> omega
    · constructor
      · intro h4
        have h5 : N % M * 2 ^ a = 0 := by omega
        have h6 : N % M = 0 := by
          rcases Nat.mul_eq_zero.1 h5 with h | h
          · exact h
          · omega
        have h7 : M * (Q * 2 ^ a) = M * (T * 2 ^ b) := by omega
        exact ⟨h6, Nat.eq_of_mul_eq_mul_left hM h7⟩
      · rintro ⟨h4, h5⟩
        rw [h4, h5]; omega

theorem rr_floor {N M N' M' a b : Nat} (hM : 0 < M) (hM' : 0 < M') (hQ : N / M = N' / M') (hQ1 : 9007199254740992 ≤ N / M) (hx : N % M = 0 ↔ N' % M' = 0) (d : Int) (neg : Bool) :
    rr d neg (zq (N * 2 ^ a) (M * 2 ^ b)) = rr d neg (zq (N' * 2 ^ a) (M' * 2 ^ b)) := by
  refine rr_same (fun T hT => ?_) d neg
  have hb := two_pow_pos b
  rw [zq_le (Nat.mul_pos hM hb), zq_le (Nat.mul_pos hM' hb), zq_eq (Nat.mul_pos hM hb), zq_eq (Nat.mul_pos hM' hb)]
  obtain ⟨h1, h2⟩ := floor_le (a := a) (b := b) hM rfl hQ1 hT
  obtain ⟨h3, h4⟩ := floor_le (a := a) (b := b) hM' hQ (by omega) hT
  rw [h1, h2, h3, h4, hx]
  exact ⟨Iff.rfl, Iff.rfl⟩

theorem zq_floor {N M : Nat} (hM : 0 < M) : zq N M / 2 = N / M ∧ (zq N M % 2 = 0 ↔ N % M = 0) := by
  unfold zq
  split <;> rename_i h
  · constructor
    · omega
    · constructor
      · intro; exact h
      · intro; omega
  · constructor
    · omega
    · constructor
      · intro; omega
      · intro h1; exact absurd h1 h

/-- A quotient of finite patterns. -/
theorem div_fin {x y : Nat} (hx : x < 18446744073709551616) (hy : y < 18446744073709551616) (fx : mg x < infR) (fy : mg y < infR) (hy0 : mg y ≠ 0) :
    Ieee.double.div x y = some (Ieee.double.word (sg x ^^ sg y) (near (zq (rv (mg x) * K75) (rv (mg y))))) := by
  obtain ⟨m, i, e1, hi, v1⟩ := read_fin hx fx
  obtain ⟨n, j, e2, hj, v2⟩ := read_fin hy fy
  have hn : n ≠ 0 := by
    intro h
    rw [h, Nat.zero_mul] at v2
    exact hy0 (rv_eq_zero.1 v2.symm)
  unfold Ieee.Format.div
  rw [e1, e2]
  simp only [Ieee.Datum.quotient, if_neg hn, Option.map_some]
  congr 1
  unfold Ieee.Format.write
  simp only
  rw [nearest_eq, near_eq]
  congr 1
  have e3 : Ieee.double.fractionBits + 2 = 54 := rfl
  rw [e3]
  generalize hmore : 54 + n.log2 - m.log2 = more
  have hmag : 2 * (m <<< more / n) + (m <<< more % n != 0).toNat = zq (m * 2 ^ more) n := by
    rw [Nat.shiftLeft_eq]
    unfold zq
    by_cases h : m * 2 ^ more % n = 0
    · rw [h]; rfl
    · rw [if_neg h, show (m * 2 ^ more % n != 0) = true by simpa using h]; rfl
  rw [hmag]
  -- both sides over powers of 2
  obtain ⟨c, hc⟩ : ∃ c : Nat, c = 1075 := ⟨_, rfl⟩
  have hK : K75 = 2 ^ c := by rw [hc]; exact K75_def
  by_cases hm : m = 0
  · have h1 : rv (mg x) = 0 := by rw [← v1, hm, Nat.zero_mul]
    rw [h1, hm, Nat.zero_mul, Nat.zero_mul]
    have z0 : ∀ M, zq 0 M = 0 := fun M => by simp [zq]
    rw [z0, z0, zd_zero]
  · have hfl : 9007199254740992 ≤ m * 2 ^ more / n := by
      rw [Nat.le_div_iff_mul_le (by omega)]
      obtain ⟨a1, a2⟩ := log2_bounds hm
      obtain ⟨b1, b2⟩ := log2_bounds hn
      have e5 : (9007199254740992 : Nat) = 2 ^ 53 := by decide
      rw [e5]
      have h2 : 2 ^ 53 * n ≤ 2 ^ 53 * 2 ^ (n.log2 + 1) := Nat.mul_le_mul_left _ (by omega)
      have h3 : 2 ^ m.log2 * 2 ^ more ≤ m * 2 ^ more := Nat.mul_le_mul_right _ a1
      rw [← pow_add_] at h2 h3
      have h4 := pow_mono (show 53 + (n.log2 + 1) ≤ m.log2 + more by omega)
      omega
    obtain ⟨f1, f2⟩ := zq_floor (N := m * 2 ^ more) (M := n) (by omega)
    -- places
    obtain ⟨A, B, hAB⟩ : ∃ A B : Nat, (A : Int) - B = i - j - more - 1 + 1075 := by
      refine ⟨(i + 1074).toNat + 1075, (j + 1074).toNat + more + 1, ?_⟩
      omega
    rw [zd_of hAB]
    show near _ = near _
    unfold near
    have h5 := rr_floor (N := m * 2 ^ more) (M := n) (N' := zq (m * 2 ^ more) n) (M' := 2) (a := A + 1) (b := B + 1 - 1) (by omega) (by omega) (by omega) hfl (by rw [f2]) 0 false
    rw [show zq (zq (m * 2 ^ more) n * 2 ^ (A + 1)) (2 * 2 ^ (B + 1 - 1)) = zq (zq (m * 2 ^ more) n * 2 ^ A) (2 ^ B) from zq_congr (Nat.mul_pos (by omega) (two_pow_pos _)) (two_pow_pos _) (by
      rw [show B + 1 - 1 = B by omega, two_pow_s]
      ac_rfl)] at h5
    rw [← h5]
    congr 1
    refine zq_congr (Nat.mul_pos (by omega) (two_pow_pos _)) (by rw [← v2]; exact Nat.mul_pos (by omega) (two_pow_pos _)) ?_
    rw [← v1, ← v2, hK, show B + 1 - 1 = B by omega]
    have e6 : more + (A + 1) + (j + 1074).toNat = (i + 1074).toNat + c + B := by omega
    have e7 : 2 ^ more * 2 ^ (A + 1) * 2 ^ (j + 1074).toNat = 2 ^ (i + 1074).toNat * 2 ^ c * 2 ^ B := by
      rw [← pow_add_, ← pow_add_, ← pow_add_, ← pow_add_, e6]
    calc m * 2 ^ more * 2 ^ (A + 1) * (n * 2 ^ (j + 1074).toNat) = m * n * (2 ^ more * 2 ^ (A + 1) * 2 ^ (j + 1074).toNat) := by ac_rfl
      _ = m * n * (2 ^ (i + 1074).toNat * 2 ^ c * 2 ^ B) := by rw [e7]
      _ = m * 2 ^ (i + 1074).toNat * 2 ^ c * (n * 2 ^ B) := by ac_rfl
end Go.Proofs.YtfbjeifhpmdjaaaGreat.Rn

/-
  Plain: the quick road of a quotient answers the number rounded in the direction. Conditions: those that each theorem names.
-/
set_option linter.unusedVariables false

namespace Go.Proofs.YtfbjeifhpmdjaaaGreat.Rn

theorem cap_rv : 1099511627776 * Kg ≤ rv (infR - 2) := by
  obtain ⟨c, hc⟩ : ∃ c : Nat, c = 1974 := ⟨_, rfl⟩
  rw [Kg_def, ← hc]
  have e : 1099511627776 * 2 ^ c = rv ((c + 40 - 52) * 4503599627370496 + 4503599627370496) := by
    rw [rv_form (c + 40 - 52) 4503599627370496 (by omega) (fun _ => Nat.le_refl _)]
    have : 2 ^ (c + 40) = 2 ^ (c + 40 - 52) * 2 ^ 52 := by rw [← pow_add_]; congr 1; omega
    rw [pow_add_] at this
    have e1 : (2 : Nat) ^ 40 = 1099511627776 := by decide
    have e2 : (2 : Nat) ^ 52 = 4503599627370496 := by decide
    rw [e1, e2] at this
    omega
  rw [e]
  exact rv_le (by rw [infR_val]; omega)

theorem K74_i : ((2 ^ 1074 : Nat) : Int) = (K74 : Int) := congrArg Int.ofNat K74_def.symm

/-- What a Z of a quotient asks. -/
theorem zd_le {X Y r : Nat} (hY : 0 < Y) : 4 * r ≤ zq (X * K75) Y ↔ r * Y ≤ X * K74 := by
  rw [show 4 * r = 2 * (2 * r) by omega, zq_le hY, K75_74]
  have e1 : 2 * r * Y = 2 * (r * Y) := Nat.mul_assoc _ _ _
  have e2 : X * (2 * K74) = 2 * (X * K74) := Nat.mul_left_comm _ _ _
  omega
theorem zd_gt {X Y r : Nat} (hY : 0 < Y) : 4 * r < zq (X * K75) Y ↔ r * Y < X * K74 := by
  rw [show 4 * r = 2 * (2 * r) by omega, zq_gt hY, K75_74]
  have e1 : 2 * r * Y = 2 * (r * Y) := Nat.mul_assoc _ _ _
  have e2 : X * (2 * K74) = 2 * (X * K74) := Nat.mul_left_comm _ _ _
  omega

theorem rn_pos {S : Int} : (0 < rn S ↔ 0 < S) ∧ (rn S < 0 ↔ S < 0) := by
  have h1 : S ≠ 0 → (1 : Int).natAbs ≤ (rn S).natAbs := fun h => rn_ge (g := 1) ⟨1, by decide⟩ (by omega)
  have h2 : S = 0 → rn S = 0 := fun h => by rw [h, rn_zero]
  have h3 : S < 0 → rn S ≤ 0 := fun h => by unfold rn; rw [if_pos h]; omega
  have h4 : ¬ S < 0 → 0 ≤ rn S := fun h => by unfold rn; rw [if_neg h]; omega
  omega

set_option maxHeartbeats 4000000 in
theorem div_quick {x y s p : Nat} {X Y : Int} (hx : Fl x X) (hy : Fl y Y) (mx : Mid X) (my : Mid Y) (hs : Ieee.double.div x y = some s) (fs : mg s < infR) (ms : Mid (sv s)) (hp : Ieee.double.mul s y = some p) (fp : mg p < infR) (mp : Mid (sv p)) :
    ∃ m a b M E, MissedOps s y p m ∧ Ieee.double.sub x p = some a ∧ Ieee.double.sub a m = some b ∧ Fl m M ∧ Fl b E ∧ ∀ d, rnd d (sg x ^^ sg y) (zq (rv (mg x) * K75) (rv (mg y))) = kp (key s + adj d (if Y < 0 then -E else E)) := by
  have hY0 : 0 < rv (mg y) := by have := my.1; have := hy.abs; omega
  have hX0 : 0 < rv (mg x) := by have := mx.1; have := hx.abs; omega
  have hmy : mg y ≠ 0 := fun h => by rw [h, rv_zero] at hY0; omega
  have hdiv := div_fin hx.lt hy.lt hx.fin hy.fin hmy
  rw [hdiv] at hs
  injection hs with hs
  obtain ⟨Z, hZ⟩ : ∃ Z, Z = zq (rv (mg x) * K75) (rv (mg y)) := ⟨_, rfl⟩
  rw [← hZ] at hs ⊢
  have hnl := near_lt' Z
  have hms : mg s = near Z := by rw [← hs, mg_word hnl]
  have hss : sg s = (sg x ^^ sg y) := by rw [← hs, sg_word hnl]
  have hsl : s < 18446744073709551616 := by rw [← hs]; exact word_lt hnl
  have hF : Fl s (sv s) := Fl.of hsl fs
  have hQ := sv_abs s
  obtain ⟨r, m, hr, hr0, hrg, om, fpr, fm, -⟩ := mul_quick hF hy ms my hp fp mp
  -- sizes
  clear hdiv
  have hbig : Z < 4 * (4 * Kg) := by
    rcases Nat.lt_or_ge Z (4 * (4 * Kg)) with h | h
    · exact h
    · exfalso
      obtain ⟨j, hj⟩ := rp_Kg (m := 4) (by omega)
      have h0 := nr_cap (P := 4 * Kg) (by omega)
      rw [← hj, nr_rv] at h0
      have h1 := near_lo (Z := Z) (k := j) (by omega) (by omega)
      have h2 := rv_le h1
      rw [← hms, hj, ← hQ] at h2
      have := ms.2
      omega
  have n3 : near Z = rung (Z / 4) ∨ near Z = rung (Z / 4) + 1 := (near_lt Z (by have := cap_rv; omega)).2.2
  obtain ⟨f, hf⟩ : ∃ f, f = rung (Z / 4) := ⟨_, rfl⟩
  rw [← hf] at n3
  obtain ⟨w1, w2⟩ := rung_spec (Z / 4)
  rw [← hf] at w1 w2
  have z1 : rv f * rv (mg y) ≤ rv (mg x) * K74 := (zd_le hY0).1 (by rw [← hZ]; omega)
  have z2 : rv (mg x) * K74 < rv (f + 1) * rv (mg y) := by
    rcases Nat.lt_or_ge (rv (mg x) * K74) (rv (f + 1) * rv (mg y)) with h | h
    · exact h
    · have := (zd_le hY0).2 h; rw [← hZ] at this; omega
  have hrv : r.natAbs * K74 = rv (mg s) * rv (mg y) := by
    have := congrArg Int.natAbs hr
    rw [Int.natAbs_mul, Int.natAbs_mul, K74_i, Int.natAbs_natCast, hy.abs, hQ] at this
    exact this
  obtain ⟨sf, g1, g2, g3, g4⟩ := rv_dvd f
  obtain ⟨v, hv⟩ : ∃ v, v = f / 4503599627370496 - 1 := ⟨_, rfl⟩
  rw [← hv] at g1 g2 g4
  have hKs : 18014398509481984 * 2 ^ 0 ≤ Ks := by
    obtain ⟨c, hc⟩ : ∃ c : Nat, c = 120 := ⟨_, rfl⟩
    have e : (2 : Nat) ^ 174 = 2 ^ 54 * 2 ^ c := by rw [hc, ← pow_add_]
    rw [Ks_def, e]
    have := two_pow_pos c
    have e1 : (2 : Nat) ^ 54 = 18014398509481984 := by decide
    rw [e1, Nat.pow_zero]
    omega
  rw [Nat.pow_zero, Nat.mul_one] at hKs
  have hs1 := ms.1
  rw [hQ] at hs1
  have hsle : rv (mg s) ≤ rv (f + 1) := rv_le (by omega)
  have hv0 : v ≠ 0 := by
    intro h
    rw [h, Nat.pow_zero] at g2
    omega
  have hu1 : 4503599627370496 * 2 ^ v ≤ rv f := by rw [g1]; exact Nat.mul_le_mul_right _ (g4 hv0)
  have hu2 : rv (f + 1) = rv f + 2 ^ v := by rw [g2, g1, Nat.add_mul, Nat.one_mul]
  obtain ⟨A, hA⟩ : ∃ A, A = 2 ^ v := ⟨_, rfl⟩
  rw [← hA] at hu1 hu2
  clear g1 g2 g3 g4 hA
  -- r beside X
  have hYm : 4503599627370496 * (A * rv (mg y)) ≤ rv f * rv (mg y) := by rw [← Nat.mul_assoc]; exact Nat.mul_le_mul_right _ hu1
  have hs3 : rv f ≤ rv (mg s) := rv_le (by omega)
  have hK := K74_pos
  have b1 : r.natAbs * K74 ≤ rv f * rv (mg y) + A * rv (mg y) := by
    rw [hrv, ← Nat.add_mul, ← hu2]; exact Nat.mul_le_mul_right _ hsle
  have b2 : rv f * rv (mg y) ≤ r.natAbs * K74 := by rw [hrv]; exact Nat.mul_le_mul_right _ hs3
  rw [hu2, Nat.add_mul] at z2
  have c1 : 4503599627370496 * r.natAbs ≤ 4503599627370497 * rv (mg x) := by
    have : (4503599627370496 * r.natAbs) * K74 ≤ (4503599627370497 * rv (mg x)) * K74 := by rw [Nat.mul_assoc, Nat.mul_assoc]; omega
    exact Nat.le_of_mul_le_mul_right this hK
  have c2 : 4503599627370495 * rv (mg x) ≤ 4503599627370496 * r.natAbs := by
    have : (4503599627370495 * rv (mg x)) * K74 ≤ (4503599627370496 * r.natAbs) * K74 := by rw [Nat.mul_assoc, Nat.mul_assoc]; omega
    exact Nat.le_of_mul_le_mul_right this hK
  clear b1 b2 hYm
  -- the signs
  have hXs := sv_sn x
  have hYs := sv_sn y
  have hSs := sv_sn s
  have hx' := hx.abs
  have hy' := hy.abs
  have sgX : (X < 0 ↔ sg x = true) := by
    rw [← hx.val]; unfold sv; cases sg x <;> simp <;> omega
  have sgY : (Y < 0 ↔ sg y = true) := by
    rw [← hy.val]; unfold sv; cases sg y <;> simp <;> omega
  have sgS : (sv s < 0 ↔ sg s = true) := by
    unfold sv; cases sg s <;> simp <;> omega
  have hsr : (r < 0 ↔ X < 0) := by
    have hp : (0 : Int) < (K74 : Int) := by omega
    rw [K74_i] at hr
    have e1 : r < 0 ↔ sv s * Y < 0 := by
      rw [← hr]
      constructor
      · intro h; exact Int.mul_neg_of_neg_of_pos h hp
      · intro h
        rcases Int.lt_or_le r 0 with h' | h'
        · exact h'
        · have := Int.mul_nonneg h' (show (0 : Int) ≤ (K74 : Int) by omega); omega
    rw [e1, sgX]
    rw [hss] at sgS
    have t1 : sv s ≠ 0 := by omega
    have t2 : Y ≠ 0 := by omega
    rcases Int.lt_or_lt_of_ne t1 with a | a <;> rcases Int.lt_or_lt_of_ne t2 with b | b
    · have := Int.mul_pos_of_neg_of_neg a b
      have h1 := sgS.1 a; have h2 := sgY.1 b
      rw [h2] at h1
      cases h3 : sg x
      · exact ⟨fun h => by omega, fun h => by cases h⟩
      · rw [h3] at h1; cases h1
    · have := Int.mul_neg_of_neg_of_pos a b
      have h1 := sgS.1 a
      have h2 : sg y = false := by cases h : sg y; rfl; have := sgY.2 h; omega
      rw [h2] at h1
      cases h3 : sg x
      · rw [h3] at h1; cases h1
      · exact ⟨fun _ => rfl, fun _ => by omega⟩
    · have := Int.mul_neg_of_pos_of_neg a b
      have h1 : ¬ (sg x ^^ sg y) = true := fun h => by have := sgS.2 h; omega
      have h2 := sgY.1 b
      rw [h2] at h1
      cases h3 : sg x
      · rw [h3] at h1; exact absurd rfl h1
      · exact ⟨fun _ => rfl, fun _ => by omega⟩
    · have := Int.mul_pos a b
      have h1 : ¬ (sg x ^^ sg y) = true := fun h => by have := sgS.2 h; omega
      have h2 : sg y = false := by cases h : sg y; rfl; have := sgY.2 h; omega
      rw [h2] at h1
      cases h3 : sg x
      · exact ⟨fun h => by omega, fun h => by cases h⟩
      · rw [h3] at h1; exact absurd rfl h1
  -- x less the nearest product is exact
  have hPr : 9007199254740992 * (rn r - r).natAbs ≤ r.natAbs := by
    have h1 := ex_hi r.natAbs
    have h2 := rn_err h1
    by_cases h3 : ex r.natAbs = 0
    · rw [h3, Nat.pow_zero] at h2; omega
    · have h4 := ex_lo h3
      omega
  have hrep : RpZ (X - rn r) := sterbZ hx.rp (rn_rp _) (by omega)
  have bX := mx.2
  obtain ⟨a, oa, fa⟩ := hx.sub fpr (nr_cap (by omega))
  rw [rn_of hrep] at fa
  obtain ⟨b, ob, fb⟩ := fa.sub fm (nr_cap (by omega))
  rw [show X - rn r - (r - rn r) = X - r by omega] at fb
  refine ⟨m, a, b, _, _, om, oa, ob, fm, fb, fun d => ?_⟩
  obtain ⟨q1, q2⟩ := rn_pos (S := X - r)
  -- the nearest one beside the quotient
  have t1 : 4 * rv (near Z) < Z ↔ r.natAbs < rv (mg x) := by
    rw [← hms]
    conv => lhs; rw [hZ]
    rw [zd_gt hY0, ← hrv]
    exact ⟨fun h => Nat.lt_of_mul_lt_mul_right h, fun h => Nat.mul_lt_mul_of_pos_right h hK⟩
  have t2 : Z < 4 * rv (near Z) ↔ rv (mg x) < r.natAbs := by
    have h1 : 4 * rv (near Z) ≤ Z ↔ r.natAbs ≤ rv (mg x) := by
      rw [← hms]
      conv => lhs; rw [hZ]
      rw [zd_le hY0, ← hrv]
      exact ⟨fun h => Nat.le_of_mul_le_mul_right h hK, fun h => Nat.mul_le_mul_right _ h⟩
    omega
  refine rnd_nudge d (sg x ^^ sg y) (by have := cap_rv; omega) (K := key s) ?_ ?_ ?_
  · unfold key; rw [hss, hms]
  · rw [t1, t2]
    cases h3 : sg x <;> cases h4 : sg y <;> rw [h3] at sgX <;> rw [h4] at sgY <;> simp only [Bool.false_xor, Bool.true_xor, Bool.not_false, Bool.not_true, Bool.false_eq_true, if_true, if_false, iff_false, iff_true] at sgX sgY ⊢
    · rw [if_neg sgY]; omega
    · rw [if_pos sgY]; omega
    · rw [if_neg sgY]; omega
    · rw [if_pos sgY]; omega
  · rw [t1, t2]
    cases h3 : sg x <;> cases h4 : sg y <;> rw [h3] at sgX <;> rw [h4] at sgY <;> simp only [Bool.false_xor, Bool.true_xor, Bool.not_false, Bool.not_true, Bool.false_eq_true, if_true, if_false, iff_false, iff_true] at sgX sgY ⊢
    · rw [if_neg sgY]; omega
    · rw [if_pos sgY]; omega
    · rw [if_neg sgY]; omega
    · rw [if_pos sgY]; omega
end Go.Proofs.YtfbjeifhpmdjaaaGreat.Rn
