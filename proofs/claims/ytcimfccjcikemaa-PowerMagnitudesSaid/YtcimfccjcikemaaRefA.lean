/-
  The contracts of the reference's naturals, first part: words, Long. Conditions: those that each theorem names.
-/
import Derived.Test.YtcimfccjcikemaaMem
namespace Go.Proofs.Ytcimfccjcikemaa
open Go.RowKit Nm
set_option maxRecDepth 100000
set_option linter.unusedVariables false
set_option linter.unusedSimpArgs false

set_option maxHeartbeats 400000 in
theorem words_any (A : Option Addr) (n c : Nat) (xs : List Nat) (w : World) (h : Wds w A n c xs) (hn : n ≤ 35184372088832) :
    Calls Try.prog 124 #[.slice A n c] w fun e w' => e = .returned (.int .i64 (nw (nv xs) : Int)) ∧ w = w' := by
  have hlen := h.len
  go_enter Try.func124, Try.ntmps124
  go_wp2
  go_loop [3] (fun i => ∃ k : Nat, k ≤ n ∧ i = .int .i64 k ∧ ∀ j, (hj : j < xs.length) → k ≤ j → xs[j] = 0) (fun i => (intOf i).toNat)
  case atStart => exact ⟨n, Nat.le_refl _, rfl, fun j hj hk => by omega⟩
  case round =>
    obtain ⟨k, hk, rfl, hz⟩ := hrel
    have HZ := Lib.hid hz
    clear hz
    by_cases h0 : k = 0
    · subst h0
      go_wp2
      go_ret
      exact ⟨ret_int (by rw [(take_trim h.ws (Nat.zero_le _) HZ.out (fun k hk e => by omega)).2.1]; rfl), rfl⟩
    · obtain ⟨ad, hx, rfl, hb, hc⟩ := h.at_ (k := k - 1) (by omega)
      by_cases hx0 : xs[k - 1] = 0
      · go_wp2
        go_round
        case rel => exact ⟨k - 1, by omega, by go_num, fun j hj hkj => by
          by_cases e : j = k - 1
          · subst e; exact hx0
          · exact HZ.out j hj (by omega)⟩
        case measure => simp [intOf]; omega
      · go_wp2
        go_ret
        exact ⟨ret_int (by rw [(take_trim h.ws (by omega) HZ.out (fun j hj e => by
          have e : j = k - 1 := by omega
          subst e; exact hx0)).2.1]), rfl⟩

theorem info_u32 : (Try.prog.info? 107).map (fun i => (i.zero, i.size, i.bytes)) = some (some (.int .u32 0), 1, 4) := by kernel_rfl

/-- Block g is just the words L, none of them frozen. -/
def Row (w : World) (g : Nat) (L : List Nat) : Prop := w.heap[g]? = some (.cells (u32s L).toArray 107 (0, 0))

section
variable {w w' : World} {g : Nat} {L : List Nat}
theorem Row.lt (h : Row w g L) : g < w.heap.size := by
  rcases Nat.lt_or_ge g w.heap.size with hlt | hge
  · exact hlt
  · unfold Row at h; rw [Array.getElem?_eq_none hge] at h; cases h
theorem Row.cell (h : Row w g L) {i : Nat} (hi : i < L.length) : w.cell? ⟨g, i, none⟩ = some (.int .u32 (L[i] : Int)) := by
  unfold Row at h
  simp [World.cell?, h, u32s, hi]
theorem Row.frozen (h : Row w g L) (i : Nat) : w.frozen? ⟨g, i, none⟩ = false := by
  unfold Row at h
  simp [World.frozen?, h]
theorem Row.set_ (h : Row w g L) (i : Nat) (x : Nat) : Row (w.setCell ⟨g, i, none⟩ (.int .u32 (x : Int))) g (L.set i x) := by
  unfold Row at h ⊢
  simp [World.setCell, Array.getElem?_modify, h, u32s, List.map_set]
theorem Row.new (w : World) (L : List Nat) : Row (w.alloc (.cells (u32s L).toArray 107)) w.heap.size L := heap_alloc_new w _
theorem Row.drew (h : Row w g L) : Row w.drew g L := h
theorem Row.drewN (h : Row w g L) (n : Nat) : Row (w.drewN n) g L := h
theorem Row.ext (h : Row w g L) (hb : Ext w w') : Row w' g L := (Below.block hb g h.lt).trans h
theorem Row.alloc (h : Row w g L) (o : Obj) : Row (w.alloc o) g L := h.ext ((Ext.refl w).alloc o)
theorem Row.far (h : Row w g L) {p : Addr} (hp : g ≠ p.block) (u : Value) : Row (w.setCell p u) g L := (Below.heap_setCell w p u g hp).trans h
theorem Row.wds (h : Row w g L) (hL : Ws L) {n c : Nat} (hn : L.length = n) (hc : n ≤ c) (hm : c ≤ maxLen) : Wds w (some ⟨g, 0, none⟩) n c L :=
  ⟨hn, hc, hm, hL, fun _ => ⟨_, rfl, h.lt, fun k x hk => by
    have hk' : k < L.length := (List.getElem?_eq_some_iff.1 hk).1
    have := h.cell hk'
    rw [List.getElem?_eq_getElem hk'] at hk
    injection hk with hk
    rw [← hk, ← this]
    unfold Addr.add
    split
    · subst_vars; rfl
    · simp⟩⟩
theorem Row.own (h : Row w g L) {base n : Nat} (hb : base ≤ g) (hn : L.length = n) (hm : n ≤ maxLen) : w.ownsRow base 107 1 (.slice (some ⟨g, 0, none⟩) n n) n (u32s L) :=
  ⟨by rw [u32s_length]; omega, .inr ⟨g, n, _, rfl, hb, h, Nat.le_refl _, hm, by simp [u32s_length, hn], by simp [List.take_of_length_le, u32s_length, hn]⟩⟩
end

theorem cells_replicate (n : Nat) : madeCells (Value.int .u32 0).cells (n * 1) = (u32s (List.replicate n 0)).toArray := by
  apply Array.ext
  · simp [size_madeCells, u32s]
  · intro i h1 h2
    simp [madeCells, u32s, Value.cells, Nat.mod_one]

/-- make([]uint32, n). -/
theorem run_make32 (n : Nat) (hn : n ≤ 70368744177664) (w : World) :
    (Instr.makeSlice 48 (.int .i64 (n : Int)) (.int .i64 (n : Int))).run Try.prog w = .ok (.slice (some ⟨w.heap.size, 0, none⟩) n n) (w.alloc (.cells (u32s (List.replicate n 0)).toArray 107)) := by
  obtain ⟨i0, hi0, hz0, hz1, hz2⟩ := info_parts info_u32
  have hr := run_make (P := Try.prog) w 48 107 i0 (.int .u32 0) Try.underlying48 hi0 hz0 .i64 .i64 n n (by omega) (by omega) (by rw [hz2]; omega) (by omega)
  simp only [Int.toNat_natCast] at hr
  rw [hr, hz1, cells_replicate]

/-- One word more, onto a row of the call's own. -/
theorem wp_app32 {ops : Array Oper} {rest : List Oper} {o : Oper} {a : Act} {Q : Exit → Act → World → Prop} (hgd : o.guard = none) (s x : Operand)
    (ho : o.op = .call { callee := .builtin .append, args := #[s, x], argTypes := #[48, 48] })
    {w0 wr : World} {v : Value} {j : Nat} {acc : List Nat} (lo : Nat) {xv : Int} (hs : a.eval s = v) (hown : wr.ownsRow w0.heap.size 107 1 v j (u32s acc)) (hb : Ext w0 wr)
    (hx : a.eval x = .slice (some ⟨wr.heap.size, 0, none⟩) 1 1) (hxv : xv = (lo : Int)) (hj : j ≤ 35184372088000)
    (h : ∀ v' w1, w1.ownsRow w0.heap.size 107 1 v' (j + 1) (u32s (acc ++ [lo])) → Ext w0 w1 → wpList Try.prog ops Q rest (a.put o.dst v') w1) :
    wpList Try.prog ops Q (o :: rest) a (wr.alloc (.cells #[.int .u32 xv] 107)) := by
  obtain ⟨i0, hi0, hz0, hz1, hz2⟩ := info_parts info_u32
  subst hxv
  refine wpList_append_own _ hgd s x _ ho w0.heap.size 107 i0 (.int .u32 0) 1 4 Try.underlying48 hi0 hz0 hz1 hz2 rfl (by decide) _ _ _ hs (hown.alloc _) ⟨wr.heap.size, 0, none⟩ 1 1 [.int .u32 (lo : Int)] hx rfl (cell_one_new _ _ _) (by simp [Value.oneCell']) (by simp only [maxLen]; omega) (by omega) (by have := hb.size; simp; omega) ?_
  intro v' w1 hown' hgrow _
  rw [u32s_snoc] at hown'
  exact h v' w1 hown' ((hb.alloc _).grown hgrow fun q hq => (hown.lt q hq).1)

set_option maxHeartbeats 400000 in
theorem norm_any (A : Option Addr) (n c : Nat) (xs : List Nat) (w : World) (h : Wds w A n c xs) (hn : n ≤ 35184372088000) :
    Calls Try.prog 85 #[.slice A n c] w (RetW (nv xs) w) := by
  have hlen := h.len
  obtain ⟨i0, hi0, hz0, hz1, hz2⟩ := info_parts info_u32
  go_enter Try.func85, Try.ntmps85
  go_wp2
  go_loop [3] (fun i => ∃ k : Nat, k ≤ n ∧ i = .int .i64 k ∧ ∀ j, (hj : j < xs.length) → k ≤ j → xs[j] = 0) (fun i => (intOf i).toNat)
  case atStart => exact ⟨n, Nat.le_refl _, rfl, fun j hj hk => by omega⟩
  case round =>
    obtain ⟨k, hk, rfl, hz⟩ := hrel
    have HZ := Lib.hid hz
    clear hz
    by_cases hx0 : k ≠ 0 ∧ ∃ hx : k - 1 < xs.length, xs[k - 1] = 0
    · obtain ⟨h0, hx, hx0⟩ := hx0
      obtain ⟨ad, hx, rfl, hb, hc⟩ := h.at_ (k := k - 1) (by omega)
      go_wp2
      go_round
      case rel => exact ⟨k - 1, by omega, by go_num, fun j hj hkj => by
        by_cases e : j = k - 1
        · subst e; exact hx0
        · exact HZ.out j hj (by omega)⟩
      case measure => simp [intOf]; omega
    · have hT := take_trim h.ws (n := k) (by omega) HZ.out (fun j hj e => by
        intro hj0
        refine hx0 ⟨by omega, by omega, ?_⟩
        have e : k - 1 = j := by omega
        subst e; exact hj0)
      have HT := Lib.hid hT.1
      clear hT
      have hgo : k ≤ 0 ∨ ∃ ad, ∃ hx : k - 1 < xs.length, 0 < k ∧ A = some ad ∧ xs[k - 1] ≠ 0 ∧ w.cell? (ad.add (k - 1)) = some (.int .u32 (xs[k - 1] : Int)) := by
        by_cases h0 : k = 0
        · exact Or.inl (by omega)
        · obtain ⟨ad, hx, rfl, hb, hc⟩ := h.at_ (k := k - 1) (by omega)
          exact Or.inr ⟨ad, hx, by omega, rfl, fun e => hx0 ⟨h0, hx, e⟩, hc⟩
      clear hx0
      rcases hgo with hk0 | ⟨ad0, hx, hk0, rfl, hx0, hc⟩
      all_goals
        go_wp2
        go_loopw [4, 5] (fun v i wr => ∃ j : Nat, j ≤ k ∧ i = .int .i64 j ∧ wr.ownsRow w.heap.size 107 1 v j (u32s (xs.take j)) ∧ Ext w wr) (fun _ i _ => k - (intOf i).toNat)
        case atStart => exact ⟨0, Nat.zero_le _, rfl, World.ownsRow_nil _ _ _ _, Ext.refl _⟩
        case round =>
          obtain ⟨j, hj, rfl, hown, hb⟩ := hrel
          by_cases hlt : j < k
          · first
            | (exfalso; omega)
            | (obtain ⟨ad, hxj, hA, hbj, hcj⟩ := (h.ext hb).at_ (k := j) (by omega)
               have hrow : u32s (xs.take j) ++ [.int .u32 (xs[j] : Int)] = u32s (xs.take (j + 1)) := by
                 rw [u32s_snoc, List.take_succ_eq_append_getElem hxj]
               have HR := Lib.hid hrow
               clear hrow
               first | subst hA | (injection hA with hA; subst hA)
               go_wp2_with (at_builtin; refine wpList_append_own _ rfl (.tmp 25) (.tmp 30) _ rfl w.heap.size 107 i0 (.int .u32 0) 1 4 Try.underlying48 hi0 hz0 hz1 hz2 rfl (by decide) _ _ _ rfl (hown.alloc _) ⟨wr.heap.size, 0, none⟩ 1 1 [.int .u32 (xs[j] : Int)] rfl rfl (cell_one_new _ _ _) (by simp [Value.oneCell']) (by simp only [maxLen]; omega) (by omega) (by have := hb.size; simp; omega) ?_; intro v' w1 hown' hgrow _)
               go_roundw
               case rel => exact ⟨j + 1, by omega, by go_num, by rw [← HR.out]; exact hown', (hb.alloc _).grown hgrow fun q hq => (hown.lt q hq).1⟩
               case measure => simp [intOf]; omega)
          · have e : j = k := by omega
            subst e
            obtain ⟨A', c', rfl, hW⟩ := Wds.of_own hown (h.ws.take j)
            go_wp2
            go_ret
            exact ⟨A', j, c', rfl, by rw [HT.out]; exact hW, hb⟩
end Go.Proofs.Ytcimfccjcikemaa
