/-
  The contracts of the program's sums, second part: lay. Conditions: those that each theorem names.
-/
import Derived.Test.YtfbjeifhpmdjaaaZ06
import Derived.Deep.RegionHeld3
import Derived.Laws.Externs
import Derived.Test.YtfbjeifhpmdjaaaZ04
namespace Go.Proofs.Ytfbjeifhpmdjaaa
open Go.RowKit Nm Rn
set_option maxRecDepth 100000
set_option linter.unusedVariables false
set_option linter.unusedSimpArgs false

/-- The two words, shifted, are three. -/
theorem three_words {hi lo k q x0 y1 y2 x1 x2 : Nat} (hk : k < 64) (hq : q = 63 - k) (hl : lo < 18446744073709551616) (hh : hi < 18446744073709551616)
    (h0 : x0 = lo * 2 ^ k % 18446744073709551616) (h1 : y1 = hi * 2 ^ k % 18446744073709551616) (h2 : y2 = lo / 2 / 2 ^ q) (h3 : x1 = y1 + y2) (h4 : x2 = hi / 2 / 2 ^ q) :
    x0 + 18446744073709551616 * (x1 + 18446744073709551616 * x2) = (hi * 18446744073709551616 + lo) * 2 ^ k ∧ y1 % 2 ^ k = 0 ∧ y2 < 2 ^ k ∧ x1 < 18446744073709551616 ∧ x2 < 18446744073709551616 := by
  have hP : 2 ^ k * (2 * 2 ^ q) = 18446744073709551616 := by
    rw [← Nat.pow_succ', ← Nat.pow_add, show k + (q + 1) = 64 by omega]
  have hp : 0 < 2 ^ k := two_pow_pos k
  have hq0 : 0 < 2 ^ q := two_pow_pos q
  rw [Nat.div_div_eq_div_mul] at h2 h4
  generalize 2 * 2 ^ q = R at *
  have hR : 0 < R := by
    rcases Nat.eq_zero_or_pos R with h | h
    · rw [h, Nat.mul_zero] at hP; omega
    · exact h
  generalize 2 ^ k = P at *
  have sp : ∀ x, x * P % 18446744073709551616 + 18446744073709551616 * (x / R) = x * P := fun x => by
    have : x * P / 18446744073709551616 = x / R := by rw [← hP, Nat.mul_comm x P, Nat.mul_div_mul_left _ _ hp]
    rw [← this]
    exact Nat.mod_add_div _ _
  have s1 := sp lo
  have s2 := sp hi
  rw [← h0, ← h2] at s1
  rw [← h1, ← h4] at s2
  have m1 : y1 % P = 0 := by
    rw [h1, ← hP, Nat.mod_mul_right_mod, Nat.mul_mod_left]
  have b2 : y2 < P := by
    rw [h2, Nat.div_lt_iff_lt_mul hR, hP]; exact hl
  have b4 : x2 < 18446744073709551616 := by
    rw [h4]; exact Nat.lt_of_le_of_lt (Nat.div_le_self _ _) hh
  have b1 : y1 + y2 < 18446744073709551616 := by
    have hy1 : y1 < P * R := by rw [hP, h1]; omega
    have hy : y1 = P * (y1 / P) := by have := Nat.mod_add_div y1 P; omega
    have hd : y1 / P < R := by rw [Nat.div_lt_iff_lt_mul hp, Nat.mul_comm]; exact hy1
    have h9 : P * (y1 / P) + P ≤ P * R := by
      have := Nat.mul_le_mul_left P (show y1 / P + 1 ≤ R by omega)
      rw [Nat.mul_add] at this
      omega
    rw [hP] at h9
    omega
  refine ⟨?_, m1, b2, by omega, b4⟩
  rw [Nat.add_mul, h3, Nat.mul_right_comm hi, ← s2, ← s1]
  omega

/-- What the words have brought, up to word j. -/
def lw (x0 x1 x2 : Nat) : Nat → Nat
  | 0 => x0
  | 1 => x1
  | 2 => x2
  | _ => 0
def lx (s : Bool) (i x0 x1 x2 : Nat) : Nat → Int
  | 0 => 0
  | j + 1 => lx s i x0 x1 x2 j + sn s (lw x0 x1 x2 j * 18446744073709551616 ^ (i + j))
theorem lx_all {s : Bool} {i x0 x1 x2 : Nat} : ∀ j, 3 ≤ j → lx s i x0 x1 x2 j = sn s ((x0 + 18446744073709551616 * (x1 + 18446744073709551616 * x2)) * 18446744073709551616 ^ i)
  | 3, _ => by
    simp only [lx, lw, Nat.add_zero, Nat.pow_add, Nat.pow_one]
    generalize 18446744073709551616 ^ i = P
    have e1 : x1 * (P * 18446744073709551616) = 18446744073709551616 * (x1 * P) := by rw [← Nat.mul_assoc, Nat.mul_comm]
    have e2 : x2 * (P * 18446744073709551616 ^ 2) = 18446744073709551616 * (18446744073709551616 * (x2 * P)) := by rw [show 18446744073709551616 ^ 2 = 18446744073709551616 * 18446744073709551616 from rfl, ← Nat.mul_assoc, ← Nat.mul_assoc, Nat.mul_comm (x2 * P * _), Nat.mul_comm (x2 * P)]
    rw [e1, e2, Nat.add_mul, Nat.mul_assoc, Nat.add_mul, Nat.mul_assoc]
    unfold sn
    cases s
    · simp only [Bool.false_eq_true, if_false]; omega
    · simp only [if_true]; omega
  | j + 4, _ => by
    rw [lx, lx_all (j + 3) (by omega), show lw x0 x1 x2 (j + 3) = 0 from rfl, Nat.zero_mul]
    unfold sn
    cases s <;> simp
theorem three_at {x0 x1 x2 : Nat} (j : Nat) (h : j < 3) : ([Value.int .u64 (x0 : Int), .int .u64 (x1 : Int), .int .u64 (x2 : Int)] : List Value)[j]? = some (.int .u64 (lw x0 x1 x2 j : Int)) := by
  match j, h with
  | 0, _ => rfl
  | 1, _ => rfl
  | 2, _ => rfl
theorem lw_lt {x0 x1 x2 : Nat} (h0 : x0 < 18446744073709551616) (h1 : x1 < 18446744073709551616) (h2 : x2 < 18446744073709551616) (j : Nat) : lw x0 x1 x2 j < 18446744073709551616 := by
  unfold lw
  split <;> omega
theorem lw_zero {x0 x1 x2 j : Nat} (h : 3 ≤ j) : lw x0 x1 x2 j = 0 := by
  match j, h with
  | k + 3, _ => rfl
theorem pow64 (i : Nat) : 18446744073709551616 ^ i = 2 ^ (64 * i) := by rw [Nat.pow_mul]
theorem lx_end {s : Bool} {hi lo i k x0 x1 x2 j : Nat} (hw : x0 + 18446744073709551616 * (x1 + 18446744073709551616 * x2) = (hi * 18446744073709551616 + lo) * 2 ^ k) (hj : 3 ≤ j) : lx s i x0 x1 x2 j = sn s ((hi * 18446744073709551616 + lo) * 2 ^ (64 * i + k)) := by
  rw [lx_all j hj, hw, pow64, Nat.mul_assoc, ← Nat.pow_add, Nat.add_comm k]
/-- The words at the end. -/
theorem lay_end {l : List Nat} {T X c : Int} (hl : l.length = 68) (h6 : W6 l) (h : (vl l : Int) + c * (MM : Int) = vl (sw T) + X) : l = sw (T + X) := by
  refine (sw_end hl h6 h).trans (sw_congr ?_)
  rw [vl_sw, Int.add_emod, Int.emod_emod_of_dvd _ (Int.dvd_refl _), ← Int.add_emod]

theorem run_badd (x y c : Nat) (hc : c ≤ 1) (w : World) : (callFunc 49 #[.int .u64 (x : Int), .int .u64 (y : Int), .int .u64 (c : Int)]).run Try.prog w = .ok (.value (.tuple #[.int .u64 (((x + y + c) % 18446744073709551616 : Nat) : Int), .int .u64 (((x + y + c) / 18446744073709551616 : Nat) : Int)])) w := by
  have : c = 0 ∨ c = 1 := by omega
  rcases this with rfl | rfl <;> rfl
theorem run_bsub (x y c : Nat) (hc : c ≤ 1) (w : World) : (callFunc 85 #[.int .u64 (x : Int), .int .u64 (y : Int), .int .u64 (c : Int)]).run Try.prog w = .ok (.value (.tuple #[.int .u64 (((x + 18446744073709551616 - y - c) % 18446744073709551616 : Nat) : Int), .int .u64 ((if x < y + c then 1 else 0 : Nat) : Int)])) w := by
  have : c = 0 ∨ c = 1 := by omega
  rcases this with rfl | rfl <;> rfl
theorem zero_three (w : World) : (zeroValue 64).run Try.prog w = .ok (.agg #[.int .u64 0, .int .u64 0, .int .u64 0]) w := by kernel_rfl
theorem size_three (w : World) : (sizeOf 64).run Try.prog w = .ok 3 w := by kernel_rfl
section
variable {w0 w : World} {L : List Bx} {W : List Sw} {g : Nat} {ws : List Nat} {p m b : Bool} {t : Nat}
set_option maxHeartbeats 4000000 in
theorem tlay_any (s : Bool) (hi lo i k : Nat) (T : Int) (hi64 : hi < 18446744073709551616) (lo64 : lo < 18446744073709551616) (hi63 : i ≤ 63) (hk : k < 64) (hO : Own w0 (⟨g, 36, sc (sw T) p m b t⟩ :: L) W w) :
    Calls Try.prog 46 #[.pointer (some ⟨g, 0, none⟩), .bool s, .int .u64 (hi : Int), .int .u64 (lo : Int), .int .i64 ((64 * i + k : Nat) : Int)] w fun e w' => e = .returned (.tuple #[]) ∧ Own w0 (⟨g, 36, sc (sw (T + sn s ((hi * 18446744073709551616 + lo) * 2 ^ (64 * i + k)))) p m b t⟩ :: L) W w' := by
  obtain ⟨at_, hat⟩ : ∃ a, a = 64 * i + k := ⟨_, rfl⟩
  rw [← hat]
  have e1 : ((at_ : Nat) : Int).tdiv 64 = (i : Int) := by rw [Int.tdiv_eq_ediv_of_nonneg (by omega)]; omega
  have e2 : ((at_ : Nat) : Int).tmod 64 = (k : Int) := by rw [Int.tmod_eq_emod_of_nonneg (by omega)]; omega
  have hk1 : (k : Int) < 64 := by omega
  obtain ⟨q, hq⟩ : ∃ q, q = 63 - k := ⟨_, rfl⟩
  have e3 : (63 : Int) - (k : Int) = (q : Int) := by omega
  have hq1 : q ≤ 63 := by omega
  have f6 : IntKind.i64.wrap (q : Int) = (q : Int) := by rw [IntKind.wrap_i64]; omega
  obtain ⟨x0, hx0⟩ : ∃ x, x = lo * 2 ^ k % 18446744073709551616 := ⟨_, rfl⟩
  obtain ⟨y1, hy1⟩ : ∃ x, x = hi * 2 ^ k % 18446744073709551616 := ⟨_, rfl⟩
  obtain ⟨y2, hy2⟩ : ∃ x, x = lo / 2 / 2 ^ q := ⟨_, rfl⟩
  obtain ⟨x1, hx1⟩ : ∃ x, x = y1 + y2 := ⟨_, rfl⟩
  obtain ⟨x2, hx2⟩ : ∃ x, x = hi / 2 / 2 ^ q := ⟨_, rfl⟩
  obtain ⟨hw, hm1, hb2, hb1, hb4⟩ := three_words hk hq lo64 hi64 hx0 hy1 hy2 hx1 hx2
  have hb0 : x0 < 18446744073709551616 := by rw [hx0]; omega
  have f1 : IntKind.u64.wrap ((lo : Int) * 2 ^ k) = (x0 : Int) := by
    rw [hx0, show (lo : Int) * 2 ^ k = ((lo * 2 ^ k : Nat) : Int) by push_cast; rfl, IntKind.wrap_u64]; omega
  have f2 : IntKind.u64.wrap ((hi : Int) * 2 ^ k) = (y1 : Int) := by
    rw [hy1, show (hi : Int) * 2 ^ k = ((hi * 2 ^ k : Nat) : Int) by push_cast; rfl, IntKind.wrap_u64]; omega
  have f3 : (lo : Int) / 2 / 2 ^ q = (y2 : Int) := by rw [hy2]; push_cast; rfl
  have f5 : (hi : Int) / 2 / 2 ^ q = (x2 : Int) := by rw [hx2]; push_cast; rfl
  have f4 : bits .or .u64 (y1 : Int) (y2 : Int) = (x1 : Int) := by
    rw [u64_or_nat _ _ (by omega) (by omega), nat_join k _ _ hm1 hb2, hx1]
  clear hx0 hy1 hy2 hx1 hx2 hq hm1 hb2
  have HT : Hid (at_ = 64 * i + k) := Lib.hid hat
  clear hat
  go_enter Try.func46, Try.ntmps46
  go_wp2_with fail
  have hTr : True := trivial
  go_region_held3 (fun w' => True) (trivial) (fail)
  have hO := (hO.alloc 64 [.int .u64 (x0 : Int), .int .u64 (x1 : Int), .int .u64 (x2 : Int)] rfl).ext (Ext.refl _).drew
  obtain ⟨w1, hw1⟩ : ∃ w1, w1 = (w.alloc (Obj.cells #[.int .u64 (x0 : Int), .int .u64 (x1 : Int), .int .u64 (x2 : Int)] 64)).drew := ⟨_, rfl⟩
  rw [← hw1] at hO ⊢
  clear hw1
  generalize w.heap.size = g3 at *
  have e4 : (68 : Int) - (i : Int) = ((68 - i : Nat) : Int) := by omega
  have HW := Lib.hid hw
  clear hw f1 f2 f3 f4 f5 f6 e1 e2 hk1 e3 hq1 hi64 lo64 hk
  clear hTr
  go_wp2_with fail
  have HI := Lib.hid hi63
  obtain ⟨N, hN⟩ : ∃ N, N = 68 - i := ⟨_, rfl⟩
  rw [← hN]
  have HN : Hid (i + N = 68 ∧ 5 ≤ N) := Lib.hid ⟨by omega, by omega⟩
  clear e4 hN hi63
  obtain ⟨V, hV⟩ : ∃ V : Int, V = (vl (sw T) : Int) := ⟨_, rfl⟩
  have HV := Lib.hid hV
  have hst := sw_len T
  have hs6 := sw_w6 T
  have hini : (vl (sw T) : Int) + sn s (0 * 18446744073709551616 ^ (i + 0)) = V + lx s i x0 x1 x2 0 := by
    rw [hV, Nat.zero_mul, lx]; unfold sn; cases s <;> simp
  go_loopw [13, 40] (fun cv kv wr => ∃ (j c : Nat) (l : List Nat), kv = .int .i64 (j : Int) ∧ cv = .int .u64 (c : Int) ∧ j ≤ N ∧ Hid (c ≤ 1 ∧ l.length = 68 ∧ W6 l ∧ (vl l : Int) + sn s (c * 18446744073709551616 ^ (i + j)) = V + lx s i x0 x1 x2 j) ∧ Own w0 (⟨g3, 64, [.int .u64 (x0 : Int), .int .u64 (x1 : Int), .int .u64 (x2 : Int)]⟩ :: ⟨g, 36, sc l p m b t⟩ :: L) W wr) (fun _ kv _ => N - (intOf kv).toNat)
  case atStart => exact ⟨0, 0, sw T, rfl, rfl, Nat.zero_le _, Lib.hid ⟨by omega, hst, hs6, hini⟩, hO⟩
  case round =>
    obtain ⟨j, c, l, rfl, rfl, hjN, hinv, hOr⟩ := hrel
    clear hO hst hs6 hini hV
    by_cases hlt : j < N
    · have hnn : i + j < 68 := by have := HN.out; omega
      obtain ⟨pp, hpp⟩ : ∃ pp, pp = i + j := ⟨_, rfl⟩
      have ep : (i : Int) + (j : Int) = (pp : Int) := by omega
      have hp68 : pp < 68 := by omega
      have ew : IntKind.i64.wrap (pp : Int) = (pp : Int) := by rw [IntKind.wrap_i64]; omega
      have bp0 : (0 : Int) ≤ (pp : Int) := by omega
      have bp1 : (pp : Int) < 68 := by omega
      have hpl : pp < l.length := by rw [hinv.out.2.1]; exact hp68
      have hc2 := (hOr.cell 1 rfl pp).trans (sc_word hpl)
      have hf2 := hOr.frozen 1 (b := ⟨g, 36, sc l p m b t⟩) rfl pp
      have hx64 := hinv.out.2.2.1.get hpl
      obtain ⟨o, ho⟩ : ∃ o, o = l[pp] := ⟨_, rfl⟩
      rw [← ho] at hc2 hx64
      have HO : Hid (∃ h : pp < l.length, l[pp] = o) := Lib.hid ⟨hpl, ho.symm⟩
      have HPP := Lib.hid hpp
      clear ho hpl hpp hnn
      obtain ⟨x, hx⟩ : ∃ x, x = lw x0 x1 x2 j := ⟨_, rfl⟩
      have hstep : ∀ (r c' : Nat), (r : Int) + sn s (18446744073709551616 * c') = (o : Int) + sn s (x + c) → r < 18446744073709551616 → c' ≤ 1 → Hid (c' ≤ 1 ∧ (l.set pp r).length = 68 ∧ W6 (l.set pp r) ∧ (vl (l.set pp r) : Int) + sn s (c' * 18446744073709551616 ^ (i + (j + 1))) = V + lx s i x0 x1 x2 (j + 1)) := fun r c' hr hr64 hc' => by
        obtain ⟨i1, i2, i3, i4⟩ := hinv.out
        refine Lib.hid ⟨hc', by rw [List.length_set]; exact i2, i3.set _ hr64, ?_⟩
        rw [lx, ← hx, ← Nat.add_assoc, ← HPP.out]
        rw [← HPP.out] at i4
        obtain ⟨hpl, ho⟩ := HO.out
        exact lay_step hpl (by rw [ho]; exact hr) i4
      have HST := Lib.hid hstep
      have hOst : ∀ v : Nat, Own w0 (⟨g3, 64, [.int .u64 (x0 : Int), .int .u64 (x1 : Int), .int .u64 (x2 : Int)]⟩ :: ⟨g, 36, sc (l.set pp v) p m b t⟩ :: L) W (wr.setCell ⟨g, pp, none⟩ (.int .u64 (v : Int))) := fun (v : Nat) => by
        have := hOr.set 1 rfl pp (.int .u64 (v : Int)) rfl
        simp only [List.set_cons_succ, List.set_cons_zero] at this
        obtain ⟨hpl, ho⟩ := HO.out
        rw [sc_setw hpl] at this
        exact this
      have HOST := Lib.hid hOst
      have hxb : x < 18446744073709551616 := by
        rw [hx]
        exact lw_lt hb0 hb1 hb4 j
      have hc1 := hinv.out.1
      clear hstep hOst
      have hTr : True := trivial
      cases s
      · have hcall := run_badd o x c hc1
        have HN1 := HST.out _ _ (add_word (x := o) (y := x) (c := c)) (by omega) (by omega)
        generalize (o + x + c) % 18446744073709551616 = r at *
        generalize (o + x + c) / 18446744073709551616 = c' at *
        by_cases hj3 : j < 3
        · have hc1 : wr.cell? ⟨g3, j, none⟩ = some (.int .u64 (x : Int)) := by
            refine (hOr.cell 0 rfl j).trans ?_
            rw [hx]
            exact three_at j hj3
          have bj0 : (0 : Int) ≤ (j : Int) := by omega
          have bj1 : (j : Int) < 3 := by omega
          have d0 : decide ((j : Int) < (N : Int)) = true := decide_eq_true (by omega)
          clear hx hinv hOr hxb hx64 HW
          go_wp2_with fail
          go_region_with (fail)
          go_wp2_with fail
          go_roundw
          case rel => exact ⟨j + 1, c', l.set pp r, by go_num, rfl, by omega, HN1, (HOST.out r).ext (Ext.refl _).drew⟩
          case measure => simp [intOf]; omega
        · have d3 : decide ((j : Int) < 3) = false := decide_eq_false (by omega)
          have d0 : decide ((j : Int) < (N : Int)) = true := decide_eq_true (by omega)
          have hx0 : x = 0 := by rw [hx]; exact lw_zero (by omega)
          by_cases hc0 : c = 0
          · have hd : l = sw (T + sn false ((hi * 18446744073709551616 + lo) * 2 ^ (64 * i + k))) := by
              obtain ⟨i1, i2, i3, i4⟩ := hinv.out
              rw [hc0, Nat.zero_mul, lx_end HW.out (by omega), HV.out] at i4
              exact lay_end (c := 0) i2 i3 (by rw [Int.zero_mul]; have : sn false 0 = 0 := rfl; rw [this] at i4; exact i4)
            have HD := Lib.hid hd
            have q0 : ((c : Int) == 0) = true := by rw [beq_iff_eq]; omega
            clear hx hx0 hinv HOST HST HN1 hcall hxb hx64 HW hc0 hd
            go_wp2_with fail
            (try simp only [Exit.inBlock, Exit.then])
            refine bodyPost_ret (results_none rfl _ _ _) rfl ?_
            refine ⟨rfl, ?_⟩
            rw [HT.out, ← HD.out]
            exact hOr.tail
          · have q0 : ((c : Int) == 0) = false := by rw [beq_eq_false_iff_ne]; omega
            have hcall0 : ∀ w, (callFunc 49 #[.int .u64 (o : Int), .int .u64 0, .int .u64 (c : Int)]).run Try.prog w = .ok (.value (.tuple #[.int .u64 (r : Int), .int .u64 (c' : Int)])) w := by rw [hx0] at hcall; exact hcall
            clear hx hx0 hinv hOr hxb hx64 HW hcall hc0
            go_wp2_with fail
            go_region_with (fail)
            go_wp2_with fail
            go_roundw
            case rel => exact ⟨j + 1, c', l.set pp r, by go_num, rfl, by omega, HN1, (HOST.out r).ext (Ext.refl _).drew⟩
            case measure => simp [intOf]; omega
      · have hcall := run_bsub o x c hc1
        have HN1 := HST.out _ _ (sub_word (x := o) (y := x) (c := c) hx64 hxb hc1) (by omega) (by split <;> omega)
        generalize (o + 18446744073709551616 - x - c) % 18446744073709551616 = r at *
        generalize (if o < x + c then 1 else 0) = c' at *
        by_cases hj3 : j < 3
        · have hc1 : wr.cell? ⟨g3, j, none⟩ = some (.int .u64 (x : Int)) := by
            refine (hOr.cell 0 rfl j).trans ?_
            rw [hx]
            exact three_at j hj3
          have bj0 : (0 : Int) ≤ (j : Int) := by omega
          have bj1 : (j : Int) < 3 := by omega
          have d0 : decide ((j : Int) < (N : Int)) = true := decide_eq_true (by omega)
          clear hx hinv hOr hxb hx64 HW
          go_wp2_with fail
          go_region_with (fail)
          go_wp2_with fail
          go_roundw
          case rel => exact ⟨j + 1, c', l.set pp r, by go_num, rfl, by omega, HN1, (HOST.out r).ext (Ext.refl _).drew⟩
          case measure => simp [intOf]; omega
        · have d3 : decide ((j : Int) < 3) = false := decide_eq_false (by omega)
          have d0 : decide ((j : Int) < (N : Int)) = true := decide_eq_true (by omega)
          have hx0 : x = 0 := by rw [hx]; exact lw_zero (by omega)
          by_cases hc0 : c = 0
          · have hd : l = sw (T + sn true ((hi * 18446744073709551616 + lo) * 2 ^ (64 * i + k))) := by
              obtain ⟨i1, i2, i3, i4⟩ := hinv.out
              rw [hc0, Nat.zero_mul, lx_end HW.out (by omega), HV.out] at i4
              exact lay_end (c := 0) i2 i3 (by rw [Int.zero_mul]; have : sn true 0 = 0 := rfl; rw [this] at i4; exact i4)
            have HD := Lib.hid hd
            have q0 : ((c : Int) == 0) = true := by rw [beq_iff_eq]; omega
            clear hx hx0 hinv HOST HST HN1 hcall hxb hx64 HW hc0 hd
            go_wp2_with fail
            (try simp only [Exit.inBlock, Exit.then])
            refine bodyPost_ret (results_none rfl _ _ _) rfl ?_
            refine ⟨rfl, ?_⟩
            rw [HT.out, ← HD.out]
            exact hOr.tail
          · have q0 : ((c : Int) == 0) = false := by rw [beq_eq_false_iff_ne]; omega
            have hcall0 : ∀ w, (callFunc 85 #[.int .u64 (o : Int), .int .u64 0, .int .u64 (c : Int)]).run Try.prog w = .ok (.value (.tuple #[.int .u64 (r : Int), .int .u64 (c' : Int)])) w := by rw [hx0] at hcall; exact hcall
            clear hx hx0 hinv hOr hxb hx64 HW hcall hc0
            go_wp2_with fail
            go_region_with (fail)
            go_wp2_with fail
            go_roundw
            case rel => exact ⟨j + 1, c', l.set pp r, by go_num, rfl, by omega, HN1, (HOST.out r).ext (Ext.refl _).drew⟩
            case measure => simp [intOf]; omega
    · have hjN2 : j = N := by omega
      have hd : l = sw (T + sn s ((hi * 18446744073709551616 + lo) * 2 ^ (64 * i + k))) := by
        obtain ⟨i1, i2, i3, i4⟩ := hinv.out
        have hn := HN.out
        rw [lx_end HW.out (by omega), HV.out, hjN2, hn.1] at i4
        refine lay_end (c := sn s c) i2 i3 ?_
        rw [← i4]
        unfold sn MM
        cases s <;> simp [Int.neg_mul]
      have HD := Lib.hid hd
      have d0 : decide ((j : Int) < (N : Int)) = false := decide_eq_false (by omega)
      clear hinv hd hjN2
      go_wp2_with fail
      go_end0
      refine ⟨rfl, ?_⟩
      rw [HT.out, ← HD.out]
      exact hOr.tail
end
end Go.Proofs.Ytfbjeifhpmdjaaa

/-
  Plain: the nearest number of 53 bits to a whole number. Conditions: those that each theorem names.
-/
set_option linter.unusedVariables false

namespace Go.Proofs.Ytfbjeifhpmdjaaa.Rn

/-- The nearest rung, without a greatest one. -/
def nr (Q : Nat) : Nat := if away 0 false (4 * Q) then rung Q + 1 else rung Q
theorem near_nr (Q : Nat) : near (4 * Q) = min (nr Q) infR := by
  unfold near rr nr
  rw [show 4 * Q / 4 = Q by omega, if_neg (by omega)]

/-- The exponent of the last place. -/
def ex (Q : Nat) : Nat := rung Q / 4503599627370496 - 1

theorem ex_form (Q : Nat) : ∃ s, rung Q = ex Q * 4503599627370496 + s ∧ s < 9007199254740992 ∧ (ex Q ≠ 0 → 4503599627370496 ≤ s) := by
  obtain ⟨u, s, h1, h2, h3⟩ := form (rung Q)
  have e : ex Q = u := by
    unfold ex
    by_cases h0 : u = 0
    · subst h0; omega
    · have := h3 h0; omega
  rw [e]
  exact ⟨s, h1, h2, h3⟩
theorem ulp_ex (Q : Nat) : ulp (rung Q) = 2 ^ ex Q := rfl
theorem rv_dvd (k : Nat) : ∃ s, rv k = s * 2 ^ (k / 4503599627370496 - 1) ∧ rv (k + 1) = (s + 1) * 2 ^ (k / 4503599627370496 - 1) ∧ s < 9007199254740992 ∧ (k / 4503599627370496 - 1 ≠ 0 → 4503599627370496 ≤ s) := by
  obtain ⟨u, s, h1, h2, h3⟩ := form k
  have e : k / 4503599627370496 - 1 = u := by
    by_cases h0 : u = 0
    · subst h0; omega
    · have := h3 h0; omega
  rw [e, h1]
  refine ⟨s, rv_form u s (by omega) h3, ?_, h2, h3⟩
  rw [rv_succ, rv_form u s (by omega) h3, ulp_form u s h2 h3, Nat.add_mul, Nat.one_mul]
theorem ex_spec (Q : Nat) : ∃ s, rv (rung Q) = s * 2 ^ ex Q ∧ rv (rung Q + 1) = (s + 1) * 2 ^ ex Q ∧ s < 9007199254740992 ∧ (ex Q ≠ 0 → 4503599627370496 ≤ s) := rv_dvd (rung Q)
theorem ex_hi (Q : Nat) : Q < 9007199254740992 * 2 ^ ex Q := by
  obtain ⟨s, h1, h2, h3, h4⟩ := ex_spec Q
  have h5 := (rung_spec Q).2
  rw [h2] at h5
  exact Nat.lt_of_lt_of_le h5 (Nat.mul_le_mul_right _ (by omega))
theorem ex_lo {Q : Nat} (h : ex Q ≠ 0) : 4503599627370496 * 2 ^ ex Q ≤ Q := by
  obtain ⟨s, h1, h2, h3, h4⟩ := ex_spec Q
  have h5 := (rung_spec Q).1
  rw [h1] at h5
  exact Nat.le_trans (Nat.mul_le_mul_right _ (h4 h)) h5
theorem ex_mono {P Q : Nat} (h : P ≤ Q) : ex P ≤ ex Q := by
  have := rung_mono h
  unfold ex
  omega
theorem pow_mono {a b : Nat} (h : a ≤ b) : 2 ^ a ≤ 2 ^ b := Nat.pow_le_pow_right (by omega) h
theorem ex_le {Q u : Nat} (h : Q < 9007199254740992 * 2 ^ u) : ex Q ≤ u := by
  rcases Nat.lt_or_ge u (ex Q) with h1 | h1
  · exfalso
    have h2 := ex_lo (Q := Q) (by omega)
    have h3 := pow_mono (show u + 1 ≤ ex Q by omega)
    rw [two_pow_s] at h3
    omega
  · exact h1
theorem ex_gt {Q u : Nat} (h : 9007199254740992 * 2 ^ u ≤ Q) : u < ex Q := by
  rcases Nat.lt_or_ge u (ex Q) with h1 | h1
  · exact h1
  · exfalso
    have h2 := ex_hi Q
    have h3 := pow_mono h1
    have := Nat.mul_le_mul_left 9007199254740992 h3
    omega

/-- Is it a number of 53 bits? -/
def Rp (Q : Nat) : Prop := ∃ k, rv k = Q
theorem Rp.zero : Rp 0 := ⟨0, rv_zero⟩
theorem Rp.mk {m : Nat} (u : Nat) (hm : m ≤ 9007199254740992) : Rp (m * 2 ^ u) := by
  induction u generalizing m with
  | zero => exact ⟨m, by rw [rv_small hm, Nat.pow_zero, Nat.mul_one]⟩
  | succ u ih =>
    by_cases h : m < 4503599627370496
    · have := ih (m := 2 * m) (by omega)
      rwa [Nat.mul_comm 2 m, Nat.mul_assoc, ← two_pow_s] at this
    · exact ⟨_, rv_form (u + 1) m hm (fun _ => by omega)⟩
theorem Rp.rung {Q : Nat} (h : Rp Q) : rv (rung Q) = Q := by
  obtain ⟨k, rfl⟩ := h
  rw [rung_rv]
theorem Rp.dvd {Q : Nat} (h : Rp Q) : 2 ^ ex Q ∣ Q := by
  obtain ⟨s, h1, -⟩ := ex_spec Q
  rw [h.rung] at h1
  exact ⟨s, by rw [Nat.mul_comm]; exact h1⟩
theorem pow_dvd {a b : Nat} (h : a ≤ b) : 2 ^ a ∣ 2 ^ b := Nat.pow_dvd_pow 2 h
theorem Rp.dvd_of {P Q : Nat} (hQ : Rp Q) (h : P ≤ Q) : 2 ^ ex P ∣ Q := Nat.dvd_trans (pow_dvd (ex_mono h)) hQ.dvd
theorem Rp.of_dvd {Q u : Nat} (h : 2 ^ u ∣ Q) (hq : Q ≤ 9007199254740992 * 2 ^ u) : Rp Q := by
  obtain ⟨m, rfl⟩ := h
  rw [Nat.mul_comm]
  refine Rp.mk u ?_
  rw [Nat.mul_comm] at hq
  exact Nat.le_of_mul_le_mul_right hq (two_pow_pos u)

theorem nr_cases (Q : Nat) : (nr Q = rung Q ∧ 2 * Q ≤ rv (rung Q) + rv (rung Q + 1)) ∨ (nr Q = rung Q + 1 ∧ rv (rung Q) + rv (rung Q + 1) ≤ 2 * Q) := by
  unfold nr away
  have h := rung_spec Q
  rw [show 4 * Q / 4 = Q by omega]
  by_cases h1 : 4 * Q = 4 * rv (rung Q)
  · rw [if_pos h1]
    exact .inl ⟨rfl, by omega⟩
  · rw [if_neg h1, if_neg (show ¬ (0 : Int) = 1 by omega), if_neg (show ¬ (0 : Int) = -1 by omega)]
    by_cases h2 : 2 * (rv (rung Q) + rv (rung Q + 1)) < 4 * Q
    · rw [decide_eq_true h2]
      exact .inr ⟨rfl, by omega⟩
    · rw [decide_eq_false h2]
      by_cases h3 : 4 * Q = 2 * (rv (rung Q) + rv (rung Q + 1))
      · rw [decide_eq_true h3]
        by_cases h4 : rung Q % 2 = 1
        · rw [decide_eq_true h4]; exact .inr ⟨rfl, by omega⟩
        · rw [decide_eq_false h4]; exact .inl ⟨rfl, by omega⟩
      · rw [decide_eq_false h3]
        exact .inl ⟨rfl, by omega⟩
theorem nr_rv (k : Nat) : nr (rv k) = k := by
  unfold nr away
  rw [show 4 * rv k / 4 = rv k by omega, rung_rv, if_pos rfl]
  rfl
theorem nr_mono {P Q : Nat} (h : P ≤ Q) : nr P ≤ nr Q := by
  have hr := rung_mono h
  rcases nr_cases P with ⟨h1, h2⟩ | ⟨h1, h2⟩
  · rcases nr_cases Q with ⟨h3, h4⟩ | ⟨h3, h4⟩ <;> omega
  · rcases nr_cases Q with ⟨h3, h4⟩ | ⟨h3, h4⟩
    · rcases Nat.lt_or_ge (rung P) (rung Q) with h5 | h5
      · omega
      · -- the same rung, P above the middle, Q not above it
        have e : rung P = rung Q := by omega
        rw [e] at h2
        have e2 : P = Q := by omega
        rw [e2]; omega
    · omega

/-- The nearest number of 53 bits to a whole number, with its sign. -/
def rn (S : Int) : Int := if S < 0 then -(rv (nr S.natAbs) : Int) else (rv (nr S.natAbs) : Int)
def RpZ (S : Int) : Prop := Rp S.natAbs
theorem RpZ.neg {S : Int} (h : RpZ S) : RpZ (-S) := by unfold RpZ; rw [Int.natAbs_neg]; exact h
theorem RpZ.zero : RpZ 0 := Rp.zero
theorem rn_zero : rn 0 = 0 := by
  have h := nr_rv 0
  rw [rv_zero] at h
  unfold rn
  simp [h, rv_zero]
theorem rn_neg (S : Int) : rn (-S) = -rn S := by
  rcases Int.lt_trichotomy S 0 with h | h | h
  · unfold rn; rw [if_neg (by omega), if_pos h, Int.natAbs_neg]; omega
  · subst h; rw [Int.neg_zero, rn_zero]; rfl
  · unfold rn; rw [if_pos (by omega), if_neg (by omega), Int.natAbs_neg]
theorem rn_nat (Q : Nat) : rn (Q : Int) = (rv (nr Q) : Int) := by
  unfold rn; rw [if_neg (by omega), Int.natAbs_natCast]
theorem rn_abs (S : Int) : (rn S).natAbs = rv (nr S.natAbs) := by
  unfold rn; split <;> omega
theorem rn_rp (S : Int) : RpZ (rn S) := by unfold RpZ; rw [rn_abs]; exact ⟨_, rfl⟩
/-- What is said of a whole number that is not below 0, and of its negative, is said of each. -/
theorem by_sign {C : Int → Prop} (h1 : ∀ Q : Nat, C Q) (h2 : ∀ S, C S → C (-S)) (S : Int) : C S := by
  obtain ⟨n, rfl | rfl⟩ := Int.eq_nat_or_neg S
  · exact h1 n
  · exact h2 _ (h1 n)
theorem rn_of {S : Int} (h : RpZ S) : rn S = S := by
  revert h
  refine by_sign (C := fun S => RpZ S → rn S = S) (fun Q h => ?_) (fun S ih h => ?_) S
  · obtain ⟨k, hk⟩ := h
    rw [Int.natAbs_natCast] at hk
    rw [rn_nat, ← hk, nr_rv]
  · rw [rn_neg, ih (by have := h.neg; rwa [Int.neg_neg] at this)]
/-- No number of 53 bits is nearer. -/
theorem nr_near (Q k : Nat) : ((rv (nr Q) : Int) - Q).natAbs ≤ ((rv k : Int) - Q).natAbs := by
  have h := rung_spec Q
  have h5 : k ≤ rung Q ∨ rung Q + 1 ≤ k := by omega
  rcases h5 with h5 | h5
  · have h6 := rv_le h5
    rcases nr_cases Q with ⟨h3, h4⟩ | ⟨h3, h4⟩ <;> rw [h3] <;> omega
  · have h6 := rv_le h5
    rcases nr_cases Q with ⟨h3, h4⟩ | ⟨h3, h4⟩ <;> rw [h3] <;> omega
theorem rn_near (S : Int) {g : Int} (hg : RpZ g) : (rn S - S).natAbs ≤ (g - S).natAbs := by
  revert g
  refine by_sign (C := fun S => ∀ {g : Int}, RpZ g → (rn S - S).natAbs ≤ (g - S).natAbs) (fun Q g hg => ?_) (fun S ih g hg => ?_) S
  · rw [rn_nat]
    obtain ⟨k, hk⟩ := hg
    rcases Int.lt_or_le g 0 with h | h
    · have := nr_near Q 0
      rw [rv_zero] at this
      omega
    · have := nr_near Q k
      omega
  · rw [rn_neg]
    have := ih hg.neg
    omega
theorem nr_err {Q u : Nat} (h : Q < 9007199254740992 * 2 ^ u) : 2 * ((rv (nr Q) : Int) - Q).natAbs ≤ 2 ^ u := by
  have h1 := pow_mono (ex_le h)
  have h2 := rung_spec Q
  have h3 : rv (rung Q + 1) = rv (rung Q) + 2 ^ ex Q := by rw [rv_succ, ulp_ex]
  rcases nr_cases Q with ⟨h4, h5⟩ | ⟨h4, h5⟩ <;> rw [h4] <;> omega
theorem rn_err {S : Int} {u : Nat} (h : S.natAbs < 9007199254740992 * 2 ^ u) : 2 * (rn S - S).natAbs ≤ 2 ^ u := by
  revert h
  refine by_sign (C := fun S => S.natAbs < 9007199254740992 * 2 ^ u → 2 * (rn S - S).natAbs ≤ 2 ^ u) (fun Q h => ?_) (fun S ih h => ?_) S
  · rw [rn_nat]; exact nr_err (by rwa [Int.natAbs_natCast] at h)
  · rw [rn_neg]
    rw [Int.natAbs_neg] at h
    have := ih h
    omega
theorem rn_dvd_ex (Q : Nat) : 2 ^ ex Q ∣ rv (nr Q) := by
  obtain ⟨s, h1, h2, -⟩ := ex_spec Q
  rcases nr_cases Q with ⟨h3, -⟩ | ⟨h3, -⟩
  · rw [h3, h1]; exact Nat.dvd_mul_left _ _
  · rw [h3, h2]; exact Nat.dvd_mul_left _ _
theorem nr_dvd {Q u : Nat} (h : 2 ^ u ∣ Q) : 2 ^ u ∣ rv (nr Q) := by
  by_cases h1 : Q < 9007199254740992 * 2 ^ u
  · obtain ⟨k, hk⟩ := Rp.of_dvd h (by omega)
    rw [← hk, nr_rv, hk]; exact h
  · have h2 := ex_gt (Q := Q) (u := u) (by omega)
    exact Nat.dvd_trans (pow_dvd (by omega)) (rn_dvd_ex Q)
/-- 2^u goes into S. -/
def Dv (u : Nat) (S : Int) : Prop := 2 ^ u ∣ S.natAbs
theorem Dv.iff {u : Nat} {S : Int} : Dv u S ↔ ((2 ^ u : Nat) : Int) ∣ S := Int.ofNat_dvd_left.symm
theorem Dv.neg {u : Nat} {S : Int} (h : Dv u S) : Dv u (-S) := by unfold Dv; rw [Int.natAbs_neg]; exact h
theorem Dv.add {u : Nat} {S T : Int} (h : Dv u S) (k : Dv u T) : Dv u (S + T) := Dv.iff.2 (Int.dvd_add (Dv.iff.1 h) (Dv.iff.1 k))
theorem Dv.sub {u : Nat} {S T : Int} (h : Dv u S) (k : Dv u T) : Dv u (S - T) := by rw [Int.sub_eq_add_neg]; exact h.add k.neg
theorem Dv.mono {u v : Nat} {S : Int} (h : Dv v S) (k : u ≤ v) : Dv u S := Nat.dvd_trans (pow_dvd k) h
theorem Dv.rn {u : Nat} {S : Int} (h : Dv u S) : Dv u (rn S) := by unfold Dv; rw [rn_abs]; exact nr_dvd h
theorem Dv.rp {u : Nat} {S : Int} (h : Dv u S) (hq : S.natAbs ≤ 9007199254740992 * 2 ^ u) : RpZ S := Rp.of_dvd h hq
theorem RpZ.dv {S : Int} (h : RpZ S) {P : Nat} (hP : P ≤ S.natAbs) : Dv (ex P) S := Rp.dvd_of h hP
/-- A multiple of 2^u that is below 2^53 2^u and half a place more is at most that. -/
theorem Dv.le {u : Nat} {S : Int} (h : Dv u S) {M : Nat} (hM : S.natAbs < (M + 1) * 2 ^ u) : S.natAbs ≤ M * 2 ^ u := by
  obtain ⟨m, hm⟩ := h
  rw [hm] at hM ⊢
  rw [Nat.mul_comm] at hM ⊢
  have := Nat.lt_of_mul_lt_mul_right hM
  exact Nat.mul_le_mul_right _ (by omega)

/-- What a sum's rounding loses is a number of 53 bits. -/
theorem err_rp' {a b : Int} (ha : RpZ a) (hb : RpZ b) (hba : b.natAbs ≤ a.natAbs) : RpZ (a + b - rn (a + b)) := by
  have h1 : Dv (ex b.natAbs) b := hb.dv (Nat.le_refl _)
  have h2 : Dv (ex b.natAbs) a := ha.dv hba
  have h3 := rn_near (a + b) ha
  have h4 := ex_hi b.natAbs
  exact ((h2.add h1).sub (h2.add h1).rn).rp (by omega)
theorem err_rp {a b : Int} (ha : RpZ a) (hb : RpZ b) : RpZ (a + b - rn (a + b)) := by
  rcases Nat.le_total b.natAbs a.natAbs with h | h
  · exact err_rp' ha hb h
  · rw [Int.add_comm]; exact err_rp' hb ha h

/-- The greater term's part of a rounded sum goes off exactly. -/
theorem fast_rp {a b : Int} (ha : RpZ a) (hb : RpZ b) (hba : b.natAbs ≤ a.natAbs) : RpZ (rn (a + b) - a) := by
  obtain ⟨S, hS⟩ : ∃ S, S = a + b := ⟨_, rfl⟩
  rw [← hS]
  by_cases hx : RpZ S
  · rw [rn_of hx, hS, show a + b - a = b by omega]; exact hb
  · obtain ⟨u, hu⟩ : ∃ u, u = ex S.natAbs := ⟨_, rfl⟩
    have h1 := ex_hi S.natAbs
    rw [← hu] at h1
    have h2 := rn_err h1
    have h3 : Dv u (rn S) := by unfold Dv; rw [rn_abs, hu]; exact rn_dvd_ex _
    have h4 : Dv (ex a.natAbs) a := ha.dv (Nat.le_refl _)
    have h5 := ex_hi a.natAbs
    rcases Nat.lt_or_ge u (ex a.natAbs) with h6 | h6
    · have h7 : Dv u (rn S - a) := h3.sub (h4.mono (by omega))
      rcases Nat.lt_or_ge b.natAbs (9007199254740992 * 2 ^ u) with h8 | h8
      · refine h7.rp (h7.le ?_)
        rw [Nat.add_mul]
        omega
      · exfalso
        refine hx ?_
        have h9 := ex_gt h8
        have h10 : Dv (u + 1) S := by
          rw [hS]
          exact (h4.mono (by omega)).add ((hb.dv (Nat.le_refl _)).mono (by omega))
        refine h10.rp ?_
        rw [two_pow_s]
        omega
    · have h7 : Dv (ex a.natAbs) (rn S - a) := (h3.mono h6).sub h4
      refine h7.rp ?_
      have h8 : S.natAbs < 9007199254740992 * 2 ^ (ex a.natAbs + 1) := by rw [two_pow_s]; omega
      have h9 := rn_err h8
      rw [two_pow_s] at h9
      -- b is a multiple of nothing here; the bound is on the whole
      have h10 := h4.le (M := 9007199254740991) (by omega)
      omega

/-- Two numbers, one not above the double of the other: their difference is one. -/
theorem sterbenz {x y : Nat} (hx : Rp x) (hy : Rp y) (h1 : y ≤ x) (h2 : x ≤ 2 * y) : Rp (x - y) := by
  have h3 := hy.dvd
  have h4 := hx.dvd_of h1
  have h5 := ex_hi y
  exact Rp.of_dvd (Nat.dvd_sub h4 h3) (by omega)
theorem sterbZ {b t : Int} (hb : RpZ b) (ht : RpZ t) (h : 2 * (b - t).natAbs ≤ b.natAbs) : RpZ (b - t) := by
  unfold RpZ at *
  rcases Nat.le_total t.natAbs b.natAbs with h1 | h1
  · have := sterbenz hb ht h1 (by omega)
    rwa [show (b - t).natAbs = b.natAbs - t.natAbs by omega]
  · have := sterbenz ht hb h1 (by omega)
    rwa [show (b - t).natAbs = t.natAbs - b.natAbs by omega]

theorem rn_ge {S g : Int} (hg : RpZ g) (h : g.natAbs ≤ S.natAbs) : g.natAbs ≤ (rn S).natAbs := by
  obtain ⟨k, hk⟩ := hg
  rw [rn_abs, ← hk]
  have := nr_mono h
  rw [← hk, nr_rv] at this
  exact rv_le this

/-- Knuth: the six sums give what the first one lost, exactly. -/
theorem two_sum {a b s t u p q : Int} (ha : RpZ a) (hb : RpZ b) (hs : s = rn (a + b)) (ht : t = rn (s - a)) (hu : u = rn (s - t)) (hp : p = rn (a - u)) (hq : q = rn (b - t)) :
    rn (p + q) = a + b - s := by
  have herr : RpZ (a + b - s) := by rw [hs]; exact err_rp ha hb
  have hsr : RpZ s := by rw [hs]; exact rn_rp _
  -- where the first difference is exact, all goes through
  have easy : RpZ (s - a) → rn (p + q) = a + b - s := fun h => by
    have e1 : t = s - a := by rw [ht, rn_of h]
    have e2 : u = a := by rw [hu, e1, show s - (s - a) = a by omega, rn_of ha]
    have e3 : p = 0 := by rw [hp, e2, Int.sub_self, rn_zero]
    have e4 : q = a + b - s := by rw [hq, e1, show b - (s - a) = a + b - s by omega, rn_of herr]
    rw [e3, e4, Int.zero_add, rn_of herr]
  rcases Nat.le_total b.natAbs a.natAbs with h | h
  · exact easy (by rw [hs]; exact fast_rp ha hb h)
  · by_cases hex : RpZ (a + b)
    · refine easy ?_
      rw [hs, rn_of hex, show a + b - a = b by omega]; exact hb
    · -- the first term is not above the sum
      have has : a.natAbs ≤ s.natAbs := by
        rcases Nat.lt_or_ge (a + b).natAbs a.natAbs with h1 | h1
        · exfalso
          refine hex ?_
          have := sterbenz hb ha h (by omega)
          unfold RpZ
          rwa [show (a + b).natAbs = b.natAbs - a.natAbs by omega]
        · rw [hs]; exact rn_ge ha h1
      have e1 : RpZ (t - s) := by
        have := fast_rp hsr ha.neg (by rw [Int.natAbs_neg]; exact has)
        rwa [← Int.sub_eq_add_neg, ← ht] at this
      have e2 : u = s - t := by
        rw [hu]
        refine rn_of ?_
        have := e1.neg
        rwa [Int.neg_sub] at this
      have e3 : p = a - s + t := by
        rw [hp, e2, show a - (s - t) = a - s + t by omega]
        refine rn_of ?_
        have := (err_rp hsr ha.neg).neg
        rw [← Int.sub_eq_add_neg, ← ht] at this
        rwa [show -(s - a - t) = a - s + t by omega] at this
      have e4 : q = b - t := by
        rw [hq]
        refine rn_of (sterbZ hb (by rw [ht]; exact rn_rp _) ?_)
        -- t is within two errors of b, and these are small beside b
        obtain ⟨v, hv⟩ : ∃ v, v = ex (a + b).natAbs := ⟨_, rfl⟩
        have h1 := ex_hi (a + b).natAbs
        rw [← hv] at h1
        have h2 := rn_err h1
        rw [← hs] at h2
        have h3 := rn_near (s - a) hb
        rw [← ht] at h3
        have h4 : v ≠ 0 := by
          intro h0
          refine hex ?_
          rw [h0, Nat.pow_zero] at h1
          have : Dv 0 (a + b) := by unfold Dv; rw [Nat.pow_zero]; exact Nat.one_dvd _
          exact this.rp (by rw [Nat.pow_zero]; omega)
        have h5 := ex_lo (Q := (a + b).natAbs) (by rw [← hv]; exact h4)
        rw [← hv] at h5
        have := two_pow_pos v
        omega
      rw [e3, e4, show a - s + t + (b - t) = a + b - s by omega, rn_of herr]
end Go.Proofs.Ytfbjeifhpmdjaaa.Rn
