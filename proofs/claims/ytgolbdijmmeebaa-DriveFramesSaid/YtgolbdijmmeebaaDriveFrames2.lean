/- The law DriveFrames of package magnetolaw22 returns true for every input, and its arguments read as before. -/
import Derived.Test.YtgolbdijmmeebaaDriveFrames1
import Derived.ProofKit
set_option linter.unusedVariables false
set_option linter.unusedSimpArgs false
open Go Go.AM
namespace Go.AM.R1
/-! ### All levels of a frame -/
theorem put_spec4 (n w : Nat) (hn : n < 18446744073709551616) (hw : w ≤ 64) (hw0 : w ≠ 0) (X : List Bool) (hX : X.length ≤ 1000000) (lk : Bool) :
    call E (.func (.func 126) [] [.ptr 0 0, .ptr 1 0]) [.lit (.int .u64 n), .lit (.int .i64 w)] [.box [.lit (.int .i64 0)], .box [.own 2 X.length 1 0 X.length], .arr true lk false 1 (X.map encLv)]
      = some (.tup [], [.box [.lit (.int .i64 0)], .box [.own 2 (X ++ bitsOf w n).length 1 0 (X ++ bitsOf w n).length], .arr true lk false 1 ((X ++ bitsOf w n).map encLv)]) := by
  rw [call_func E E126]
  have hb := bof_spec n w hn hw
  have hlen := bitsOf_length w n
  have hr := rowsLv (bitsOf w n)
  have hr2 := rowsLv X
  have hsz : ¬ (70368744177664 < (X.length + w) * 8) := by omega
  generalize bitsOf w n = B at *
  have hcw : cutE (B.map encLv) 0 w = B.map encLv := cutE_whole (by simp [hlen])
  have hB0 : B ≠ [] := by intro q; rw [q] at hlen; simp at hlen; omega
  simp [go_sem, ir126, hb, hlen, hr, hr2, hsz, hcw, hw0, hB0, purse_eq, List.range_succ]
def bytesP (bs : List Nat) : List Bool := bs.flatMap fun c => bitsOf 8 c
theorem bits_loop4 (cs : List AVal) (hcr : refsL cs = []) (bs : List Nat) (hb : ∀ c ∈ bs, c < 256) (hb8 : bs.length ≤ 8) (hcs : ∀ (i : Nat) (h : i < bs.length), cs[4 + i]? = some (u8v bs[i])) (k : List Item) (R : List Bool → Option (AVal × Heap))
    (hk : ∀ τ X, lk 6 τ = .ptr 3 0 → lk 7 τ = .ptr 4 0 → finK 0 [.tmp 2, .tmp 3] (run E 0 k τ [.box cs, .dead, .arr true false false 1 (X.map encLv), .box [.own 2 X.length 1 0 X.length], .box [.lit (.int .i64 0)]]) = R X) :
    ∀ (d i : Nat) (X : List Bool), i + d = bs.length → X.length ≤ 100 + 8 * i →
   finK 0 [.tmp 2, .tmp 3] (run E 0 (.code L92_0 :: .inLoop [6, 7, 8, 39, 40, 41] L92_0 :: .inBlock 0 :: k) [(6, .ptr 3 0), (7, .ptr 4 0), (8, .func (.func 126) [] [.ptr 4 0, .ptr 3 0]), (39, .asl 0 4 1 bs.length), (40, .lit (.int .i64 bs.length)), (41, .lit (.int .i64 i))] [.box cs, .dead, .arr true false false 1 (X.map encLv), .box [.own 2 X.length 1 0 X.length], .box [.lit (.int .i64 0)]]) = R (X ++ bytesP (bs.drop i)) := by
  intro d
  induction d with
  | zero =>
    intro i X hi hX
    have : i = bs.length := by omega
    subst this
    rw [List.drop_length, show bytesP [] = [] from rfl, List.append_nil]
    simp [go_sem, run_codeL E L92_0.eq_1]
    exact hk _ X rfl rfl
  | succ d ih =>
    intro i X hi hX
    have hlt : i < bs.length := by omega
    have w := wrapIdx (i := i) (by omega)
    have hlen := bitsOf_length 8 bs[i]
    have hbi := hb _ (List.getElem_mem hlt)
    have wu : IntKind.wrap .u64 (bs[i] : Int) = bs[i] := wrap_u64 (by omega)
    rw [List.drop_eq_getElem_cons hlt, show bytesP (bs[i] :: bs.drop (i + 1)) = bitsOf 8 bs[i] ++ bytesP (bs.drop (i + 1)) from rfl, ← List.append_assoc]
    have ih2 := ih (i + 1) (X ++ bitsOf 8 bs[i]) (by omega) (by rw [List.length_append, hlen]; omega)
    have hP := put_spec4 bs[i] 8 (by omega) (by omega) (by omega) X (by omega) false
    have hc := hcs i hlt
    generalize R _ = Q at ih2 ⊢
    generalize X ++ bitsOf 8 bs[i] = X2 at *
    generalize bs[i] = c at *
    simp only [u8v] at hc
    simp at ih2 w hP
    simp [go_sem, run_codeL E L92_0.eq_1, hlt, w, hcr, wu, hP, hc, purse_eq, List.range_succ]
    rw [run_inLoop']
    simp [go_sem, hcr, purse_eq, List.range_succ]
    exact ih2
def bitsP (f : Fr) : List Bool := [false] ++ arbP f ++ bitsOf (if f.ext = true then 6 else 5) f.len.toNat ++ (if f.rtr = true then [] else bytesP (f.bytes.take f.len.toNat))
theorem arbP_length (f : Fr) : (arbP f).length = if f.ext = true then 32 else 13 := by
  unfold arbP; split <;> simp [bitsOf_length]
theorem fbits_err (f : Fr) (h : checkP f ≠ 0) : call E (.func (.func 92) [] []) [.agg (encFr f)] [] = some (.tup [nilS, .lit (.int .i64 (checkP f))], []) := by
  rw [call_func E E92]
  have hA := farb_err f h
  generalize checkP f = c at *
  simp [encFr, u8v, nilS] at hA
  simp [go_sem, ir92, encFr, u8v, hA, h, nilS, purse_eq, List.range_succ]
set_option maxHeartbeats 2000000 in
theorem fbits_spec (f : Fr) (hf : f.Ok) (h : checkP f = 0) : call E (.func (.func 92) [] []) [.agg (encFr f)] [] = some (.tup [.own 0 (bitsP f).length 1 0 (bitsP f).length, .lit (.int .i64 0)], [.arr true false false 1 ((bitsP f).map encLv)]) := by
  rw [call_func E E92]
  have hA := farb_spec f h
  obtain ⟨c1, c2, c3, c4, c5, c6⟩ := checkP_ok h
  obtain ⟨n, hn⟩ := Int.eq_ofNat_of_zero_le c4
  have wn : IntKind.wrap .u64 (n : Int) = n := wrap_u64 (by omega)
  have hal := arbP_length f
  have hr := rowsLv (arbP f)
  have hane : arbP f ≠ [] := by intro q; rw [q] at hal; simp at hal; split at hal <;> omega
  have hsz : ¬ (70368744177664 < (1 + (arbP f).length) * 8) := by rw [hal]; split <;> omega
  have hsz2 : ¬ (70368744177664 < ((arbP f).length + 1) * 8) := by rw [hal]; split <;> omega
  have hP := put_spec4 n (if f.ext = true then 6 else 5) (by omega) (by split <;> omega) (by split <;> omega) ([false] ++ arbP f) (by simp; rw [hal]; split <;> omega) false
  have hbl : ([false] ++ arbP f ++ bitsOf (if f.ext = true then 6 else 5) n).length ≤ 100 := by simp [bitsOf_length, hal]; split <;> omega
  have hcsl : ∀ (bs : List Nat), bs = f.bytes.take n → ∀ (i : Nat) (hi : i < bs.length), (encFr f)[4 + i]? = some (u8v bs[i]) := by
    intro bs e i hi
    subst e
    have hi8 : i < 8 := by simp [Fr.bytes] at hi; omega
    rw [List.getElem_take]
    have : i = 0 ∨ i = 1 ∨ i = 2 ∨ i = 3 ∨ i = 4 ∨ i = 5 ∨ i = 6 ∨ i = 7 := by omega
    rcases this with rfl | rfl | rfl | rfl | rfl | rfl | rfl | rfl <;> rfl
  have hcs := hcsl _ rfl
  have hbt : (f.bytes.take n).length = n := by simp [Fr.bytes]; omega
  have e : bitsP f = [false] ++ arbP f ++ bitsOf (if f.ext = true then 6 else 5) n ++ (if f.rtr = true then [] else bytesP (f.bytes.take n)) := by unfold bitsP; rw [hn]; rfl
  have hnl : n ≤ 8 := by omega
  rw [e]
  have hloop := fun k hk => bits_loop4 (encFr f) rfl (f.bytes.take n) (fun c hc => hf.byte c (List.mem_of_mem_take hc)) (by omega) hcs k (fun X => some (.tup [.own 0 X.length 1 0 X.length, .lit (.int .i64 0)], [.arr true false false 1 (X.map encLv)])) hk n 0 ([false] ++ arbP f ++ bitsOf (if f.ext = true then 6 else 5) n) (by omega) (by omega)
  rw [hbt, List.drop_zero] at hloop
  clear hcs hcsl hbt
  generalize f.bytes.take n = bs at *
  have hr1 : rowsOk 1 [[AVal.lit (.int .i64 0)]] = true := rfl
  have hcm : 1 + (arbP f).length = (arbP f).length + 1 := Nat.add_comm _ _
  cases hrt : f.rtr
  · simp only [Bool.false_eq_true, if_false]
    cases hx : f.ext
    · simp only [hx, Bool.false_eq_true, if_false, if_true] at hP hloop ⊢
      generalize hX : [false] ++ arbP f ++ bitsOf 5 n = X at *
      simp [encFr, u8v, hx, hrt, hn, encLv, hcm, show lv false = 0 from rfl] at hA hP
      simp [go_sem, ir92, encFr, u8v, hA, hx, hrt, hn, wn, hr, hane, hsz, hsz2, hP, hnl, hr1, hcm, show IntKind.wrap .i64 5 = 5 from rfl, show IntKind.wrap .i64 6 = 6 from rfl, nilS, purse_eq, List.range_succ]
      rw [run_inLoop']
      simp [go_sem, purse_eq, List.range_succ]
      simp [encFr, u8v, hx, hrt, hn] at hloop
      refine hloop _ ?_
      intro τ Y t6 t7
      simp [go_sem, t6, t7, purse_eq, List.range_succ]
    · simp only [hx, Bool.false_eq_true, if_false, if_true] at hP hloop ⊢
      generalize hX : [false] ++ arbP f ++ bitsOf 6 n = X at *
      simp [encFr, u8v, hx, hrt, hn, encLv, hcm, show lv false = 0 from rfl] at hA hP
      simp [go_sem, ir92, encFr, u8v, hA, hx, hrt, hn, wn, hr, hane, hsz, hsz2, hP, hnl, hr1, hcm, show IntKind.wrap .i64 5 = 5 from rfl, show IntKind.wrap .i64 6 = 6 from rfl, nilS, purse_eq, List.range_succ]
      rw [run_inLoop']
      simp [go_sem, purse_eq, List.range_succ]
      simp [encFr, u8v, hx, hrt, hn] at hloop
      refine hloop _ ?_
      intro τ Y t6 t7
      simp [go_sem, t6, t7, purse_eq, List.range_succ]
  · simp only [if_true, List.append_nil]
    cases hx : f.ext
    · simp only [hx, Bool.false_eq_true, if_false, if_true] at hP hloop ⊢
      generalize hX : [false] ++ arbP f ++ bitsOf 5 n = X at *
      simp [encFr, u8v, hx, hrt, hn, encLv, hcm, show lv false = 0 from rfl] at hA hP
      simp [go_sem, ir92, encFr, u8v, hA, hx, hrt, hn, wn, hr, hane, hsz, hsz2, hP, hnl, hr1, hcm, show IntKind.wrap .i64 5 = 5 from rfl, show IntKind.wrap .i64 6 = 6 from rfl, nilS, purse_eq, List.range_succ]
    · simp only [hx, Bool.false_eq_true, if_false, if_true] at hP hloop ⊢
      generalize hX : [false] ++ arbP f ++ bitsOf 6 n = X at *
      simp [encFr, u8v, hx, hrt, hn, encLv, hcm, show lv false = 0 from rfl] at hA hP
      simp [go_sem, ir92, encFr, u8v, hA, hx, hrt, hn, wn, hr, hane, hsz, hsz2, hP, hnl, hr1, hcm, show IntKind.wrap .i64 5 = 5 from rfl, show IntKind.wrap .i64 6 = 6 from rfl, nilS, purse_eq, List.range_succ]
end Go.AM.R1
open Go Go.AM
namespace Go.AM.R1
theorem bytesP_length : ∀ bs : List Nat, (bytesP bs).length = 8 * bs.length
  | [] => rfl
  | c :: bs => by
    show (bitsOf 8 c ++ bytesP bs).length = _
    rw [List.length_append, bitsOf_length, bytesP_length bs, List.length_cons]; omega
theorem bitsP_length (f : Fr) : (bitsP f).length ≤ 103 ∧ 19 ≤ (bitsP f).length := by
  unfold bitsP
  have h : (f.bytes.take f.len.toNat).length ≤ 8 := by simp [Fr.bytes]; omega
  have h2 := bytesP_length (f.bytes.take f.len.toNat)
  simp only [List.length_append, arbP_length, bitsOf_length, List.length_singleton]
  constructor
  · split <;> split <;> simp <;> omega
  · split <;> split <;> simp <;> omega
def allP (f : Fr) : List Bool := bitsP f ++ bitsOf 15 (c15L (bitsP f)) ++ List.replicate 10 true
theorem fall_err (f : Fr) (h : checkP f ≠ 0) : call E (.func (.func 58) [] []) [.agg (encFr f)] [] = some (.tup [nilS, .lit (.int .i64 (checkP f))], []) := by
  rw [call_func E E58]
  have hA := fbits_err f h
  generalize checkP f = c at *
  simp [encFr, u8v, nilS] at hA
  simp [go_sem, ir58, encFr, u8v, hA, h, nilS, purse_eq, List.range_succ]
theorem fall_spec (f : Fr) (hf : f.Ok) (h : checkP f = 0) : call E (.func (.func 58) [] []) [.agg (encFr f)] [] = some (.tup [.own 0 (allP f).length 1 0 (allP f).length, .lit (.int .i64 0)], [.arr true false false 1 ((allP f).map encLv)]) := by
  rw [call_func E E58]
  have hB := fbits_spec f hf h
  obtain ⟨hl1, hl2⟩ := bitsP_length f
  have hS := csum_spec (bitsP f) (by omega) false false
  have hBt := cbits_spec (c15L (bitsP f)) (c15L_lt _)
  have hO := ones10
  have hbl := bitsOf_length 15 (c15L (bitsP f))
  have hne : bitsP f ≠ [] := by intro q; rw [q] at hl2; simp at hl2
  have hne2 : bitsOf 15 (c15L (bitsP f)) ≠ [] := by intro q; rw [q] at hbl; simp at hbl
  have hC := concatL3 (bitsP f) (bitsOf 15 (c15L (bitsP f))) (List.replicate 10 true) hne hne2 (by simp) (by simp; omega) true false false false false false false
  unfold allP
  generalize bitsOf 15 (c15L (bitsP f)) = S at *
  generalize c15L (bitsP f) = s at *
  generalize bitsP f = B at *
  have c15 : cutE (S.map encLv) 0 15 = S.map encLv := cutE_whole (by simp [hbl])
  have hr := List.map_replicate (f := encLv) (n := 10) (a := true)
  rw [hr] at hC
  rw [show encLv true = [.lit (.int .i64 1)] from rfl] at hC
  generalize hRR : List.replicate 10 [AVal.lit (.int .i64 1)] = RR at *
  have hRl : RR.length = 10 := by rw [← hRR]; simp
  have c10 : cutE RR 0 10 = RR := cutE_whole hRl
  simp [encFr, u8v, nilS] at hB
  simp [hbl, hRR] at hC
  simp [go_sem, ir58, encFr, u8v, hB, hS, hBt, hO, hC, hbl, c15, c10, hRl, nilS, purse_eq, List.range_succ]
/-! ### Levels that are added -/
def tellR (out : List Bool) (run : Nat) (b : Bool) : Nat := if out.getLast? = some b then run + 1 else 1
def addS (out : List Bool) (run : Nat) : List Bool → List Bool
  | [] => out
  | x :: l => if tellR out run x = 5 then addS (out ++ [x, !x]) 1 l else addS (out ++ [x]) (tellR out run x) l
theorem tell_spec (out : List Bool) (ho : out.length ≤ 1000000) (run : Nat) (hr : run ≤ 1000000) (b : Bool) :
    call E (.func (.func 98) [] [.ptr 0 0, .ptr 2 0]) [.lit (.int .i64 (lv b))] [.box [.own 1 out.length 1 0 out.length], .arr true false false 1 (out.map encLv), .box [.lit (.int .i64 run)]]
      = some (.lit (.bool (decide (tellR out run b = 5))), [.box [.own 1 (out ++ [b]).length 1 0 (out ++ [b]).length], .arr true false false 1 ((out ++ [b]).map encLv), .box [.lit (.int .i64 (tellR out run b))]]) := by
  rw [call_func E E98]
  have w1 : IntKind.wrap .i64 ((run : Int) + 1) = run + 1 := wrap64 (by omega) (by omega)
  have hsz : ¬ (70368744177664 < (out.length + 1) * 8) := by omega
  have hrl := rowsLv out
  have hr1 : ∀ x, rowsOk 1 [[AVal.lit (.int .i64 x)]] = true := fun _ => rfl
  rcases List.eq_nil_or_concat out with rfl | ⟨o, c, rfl⟩
  · simp [go_sem, ir98, tellR, hr1, encLv, nilS, purse_eq, List.range_succ]
  · rw [List.concat_eq_append] at *
    have hg : (o ++ [c]).getLast? = some c := by simp
    have w2 : IntKind.wrap .i64 (((o ++ [c]).length : Int) - 1) = (o.length : Int) := by rw [wrap64 (by omega) (by omega)]; simp
    have hgi : ((o ++ [c]).map encLv)[o.length]? = some (encLv c) := by simp
    have hgl : o.length < (o ++ [c]).length := by simp
    have hpos : (0 : Int) < ((o ++ [c]).length : Int) := by simp
    have hpos' : 0 < (o ++ [c]).length := by simp
    have hml : ((o ++ [c]).map encLv).length = (o ++ [c]).length := by simp
    have hge : ∀ h : o.length < ((o ++ [c]).map encLv).length, ((o ++ [c]).map encLv)[o.length]'h = encLv c := fun h => Option.some.inj ((List.getElem?_eq_getElem h).symm.trans hgi)
    unfold tellR
    rw [hg]
    have hmb : (o ++ [c] ++ [b]).map encLv = (o ++ [c]).map encLv ++ [encLv b] := by simp
    have hlb : (o ++ [c] ++ [b]).length = (o ++ [c]).length + 1 := by simp
    rw [hmb, hlb]
    generalize hB : (o ++ [c]).map encLv = B at *
    generalize hN : (o ++ [c]).length = N at *
    by_cases hcb : c = b
    · subst hcb
      have hlv : encLv c = [.lit (.int .i64 (lv c))] := rfl
      by_cases h5 : run + 1 = 5
      · have h5i : (run : Int) + 1 = 5 := by omega
        simp [go_sem, ir98, hr1, hlv, w1, w2, hgi, hgl, hml, hpos, hpos', hge, h5, h5i, show IntKind.wrap .i64 5 = 5 from rfl, hrl, hsz, nilS, purse_eq, List.range_succ]
      · have h5i : ¬ (run : Int) + 1 = 5 := by omega
        simp [go_sem, ir98, hr1, hlv, w1, w2, hgi, hgl, hml, hpos, hpos', hge, h5, h5i, hrl, hsz, nilS, purse_eq, List.range_succ]
    · have hlv : encLv c = [.lit (.int .i64 (lv c))] := rfl
      have hlv2 : encLv b = [.lit (.int .i64 (lv b))] := rfl
      have hne : ¬ lv c = lv b := by cases c <;> cases b <;> simp_all [lv]
      simp [go_sem, ir98, hr1, hlv, hlv2, w1, w2, hgi, hgl, hml, hpos, hpos', hge, hcb, hne, hrl, hsz, nilS, purse_eq, List.range_succ]
theorem other_spec (b : Bool) : call E (.func (.func 99) [] []) [.lit (.int .i64 (lv b))] [] = some (.lit (.int .i64 (lv (!b))), []) := by
  rw [call_func E E99]
  cases b <;> simp [go_sem, ir99, lv] <;> rfl
theorem tellR_le (out : List Bool) (run : Nat) (b : Bool) : tellR out run b ≤ run + 1 := by unfold tellR; split <;> omega
theorem tellR_other (out : List Bool) (run : Nat) (b : Bool) : tellR (out ++ [b]) run (!b) = 1 := by
  unfold tellR; rw [if_neg (by simp)]
theorem add_loop5 (m : List Bool) (hl : m.length ≤ 100000) (nl fu : Bool) (k : List Item) (R : List Bool → Option (AVal × Heap))
    (hk : ∀ τ (out : List Bool) (rn : Nat), lk 3 τ = .ptr 1 0 → finK 0 [.tmp 2] (run E 0 k τ [.arr true false false 1 (out.map encLv), .box [.own 0 out.length 1 0 out.length], .box [.lit (.int .i64 rn)]]) = R out) :
    ∀ (d i : Nat) (out : List Bool) (rn : Nat), i + d = m.length → out.length ≤ 2 * i → rn ≤ 4 →
   finK 0 [.tmp 2] (run E 0 (.code L59_0 :: .inLoop [3, 5, 19, 20, 21] L59_0 :: .inBlock 0 :: k) [(3, .ptr 1 0), (5, .func (.func 98) [] [.ptr 1 0, .ptr 2 0]), (19, .imm nl fu true (m.map encLv)), (20, .lit (.int .i64 m.length)), (21, .lit (.int .i64 i))] [.arr true false false 1 (out.map encLv), .box [.own 0 out.length 1 0 out.length], .box [.lit (.int .i64 rn)]]) = R (addS out rn (m.drop i)) := by
  intro d
  induction d with
  | zero =>
    intro i out rn hi ho hrn
    have : i = m.length := by omega
    subst this
    rw [List.drop_length, addS]
    simp [go_sem, run_codeL E L59_0.eq_1]
    exact hk _ out rn rfl
  | succ d ih =>
    intro i out rn hi ho hrn
    have hlt : i < m.length := by omega
    have w := wrapIdx (i := i) (by omega)
    have hT := tell_spec out (by omega) rn (by omega) m[i]
    have hle := tellR_le out rn m[i]
    rw [List.drop_eq_getElem_cons hlt, addS]
    by_cases h5 : tellR out rn m[i] = 5
    · rw [if_pos h5]
      have hO := other_spec m[i]
      have hT2 := tell_spec (out ++ [m[i]]) (by simp; omega) 5 (by omega) (!m[i])
      rw [tellR_other, List.append_assoc, show [m[i]] ++ [!m[i]] = [m[i], !m[i]] from rfl] at hT2
      have ih2 := ih (i + 1) (out ++ [m[i], !m[i]]) 1 (by omega) (by simp; omega) (by omega)
      generalize R _ = Q at ih2 ⊢
      generalize out ++ [m[i], !m[i]] = out2 at *
      rw [h5] at hT
      generalize out ++ [m[i]] = out1 at *
      simp at ih2 w hT hT2
      simp [go_sem, run_codeL E L59_0.eq_1, hlt, List.getElem?_eq_getElem hlt, encLv, w, hT, hO, hT2, purse_eq, List.range_succ]
      rw [run_inLoop']
      simp [go_sem, purse_eq, List.range_succ]
      exact ih2
    · rw [if_neg h5]
      have ih2 := ih (i + 1) (out ++ [m[i]]) (tellR out rn m[i]) (by omega) (by simp; omega) (by omega)
      generalize R _ = Q at ih2 ⊢
      generalize out ++ [m[i]] = out1 at *
      generalize tellR out rn m[i] = r1 at *
      have hlg : (m.map encLv)[i]? = some (encLv m[i]) := by rw [List.getElem?_map, List.getElem?_eq_getElem hlt]; rfl
      simp [h5] at ih2 w hT
      simp [go_sem, run_codeL E L59_0.eq_1, hlt, List.getElem?_eq_getElem hlt, encLv, w, hT, purse_eq, List.range_succ]
      rw [run_inLoop']
      simp [go_sem, purse_eq, List.range_succ]
      exact ih2
def stuffP (m : List Bool) : List Bool := addS [] 0 m
theorem addS_len : ∀ (m out : List Bool) (rn : Nat), (addS out rn m).length ≤ out.length + 2 * m.length
  | [], out, rn => by simp [addS]
  | x :: m, out, rn => by
    rw [addS]
    split
    · have := addS_len m (out ++ [x, !x]) 1
      simp at this ⊢; omega
    · have := addS_len m (out ++ [x]) (tellR out rn x)
      simp at this ⊢; omega
theorem add_spec5 (m : List Bool) (hl : m.length ≤ 100000) (nl fu : Bool) : call E (.func (.func 59) [] []) [.imm nl fu true (m.map encLv)] [] = some (.own 0 (stuffP m).length 1 0 (stuffP m).length, [.arr true false false 1 ((stuffP m).map encLv)]) := by
  rw [call_func E E59]
  have hc := check_lv m (by omega) nl fu
  have wq : IntKind.wrap .i64 ((m.length : Int).tdiv 4) = ((m.length / 4 : Nat) : Int) := by rw [Int.tdiv_eq_ediv_of_nonneg (by omega), wrap64 (by omega) (by omega)]; omega
  have wq' : IntKind.wrap .i64 ((m.length : Int) / 4) = ((m.length / 4 : Nat) : Int) := by rw [wrap64 (by omega) (by omega)]; omega
  have ws : IntKind.wrap .i64 ((m.length : Int) + ((m.length / 4 : Nat) : Int)) = ((m.length + m.length / 4 : Nat) : Int) := by rw [wrap64 (by omega) (by omega)]; omega
  have hb1 : ((m.length + m.length / 4 : Nat) : Int) ≤ 70368744177664 := by omega
  have hb2 : ((m.length + m.length / 4 : Nat) : Int) * 8 ≤ 70368744177664 := by omega
  have hloop := fun k hk => add_loop5 m hl nl fu k (fun out => some (.own 0 out.length 1 0 out.length, [.arr true false false 1 (out.map encLv)])) hk m.length 0 [] 0 (by omega) (by simp) (by omega)
  rw [List.drop_zero, show addS [] 0 m = stuffP m from rfl] at hloop
  generalize stuffP m = S at *
  generalize m.length + m.length / 4 = q at *
  generalize m.length / 4 = q4 at *
  simp at hloop
  simp [go_sem, ir59, hc, wq, wq', ws, hb1, hb2, nilS, purse_eq, List.range_succ]
  rw [run_inLoop']
  simp [go_sem, purse_eq, List.range_succ]
  refine hloop _ ?_
  intro τ out rn t3
  simp [go_sem, t3, purse_eq, List.range_succ]
/-! ### A frame on the bus -/
def rowP (f : Fr) : List Bool := stuffP (bitsP f ++ bitsOf 15 (c15L (bitsP f))) ++ List.replicate 10 true
def encodeP (f : Fr) (ack : Bool) : List Bool := if ack = true then (rowP f).set ((rowP f).length - 9) false else rowP f
theorem encode_err (f : Fr) (h : checkP f ≠ 0) (ack : Bool) : call E (.func (.func 13) [] []) [.agg (encFr f), .lit (.bool ack)] [] = some (.tup [nilS, .lit (.int .i64 (checkP f))], []) := by
  rw [call_func E E13]
  have hA := fall_err f h
  generalize checkP f = c at *
  simp [encFr, u8v, nilS] at hA
  simp [go_sem, ir13, encFr, u8v, hA, h, nilS, purse_eq, List.range_succ]
theorem encode_spec (f : Fr) (hf : f.Ok) (h : checkP f = 0) (ack : Bool) : call E (.func (.func 13) [] []) [.agg (encFr f), .lit (.bool ack)] [] = some (.tup [.own 0 (encodeP f ack).length 1 0 (encodeP f ack).length, .lit (.int .i64 0)], [.arr true false false 1 ((encodeP f ack).map encLv)]) := by
  rw [call_func E E13]
  have hA := fall_spec f hf h
  obtain ⟨hl1, hl2⟩ := bitsP_length f
  have hbl := bitsOf_length 15 (c15L (bitsP f))
  have hlen : (allP f).length = (bitsP f ++ bitsOf 15 (c15L (bitsP f))).length + 10 := by unfold allP; simp; omega
  have hlen2 : (bitsP f ++ bitsOf 15 (c15L (bitsP f))).length ≤ 118 := by simp; omega
  have htk : List.take (bitsP f ++ bitsOf 15 (c15L (bitsP f))).length ((allP f).map encLv) = (bitsP f ++ bitsOf 15 (c15L (bitsP f))).map encLv := by
    unfold allP; rw [List.map_append, ← List.length_map (f := encLv), List.take_left]
  have hdk : List.drop (bitsP f ++ bitsOf 15 (c15L (bitsP f))).length ((allP f).map encLv) = (List.replicate 10 true).map encLv := by
    unfold allP; rw [List.map_append, ← List.length_map (f := encLv), List.drop_left]
  have hAd := add_spec5 (bitsP f ++ bitsOf 15 (c15L (bitsP f))) (by omega) false false
  have hsl := addS_len (bitsP f ++ bitsOf 15 (c15L (bitsP f))) [] 0
  rw [show addS [] 0 (bitsP f ++ bitsOf 15 (c15L (bitsP f))) = stuffP (bitsP f ++ bitsOf 15 (c15L (bitsP f))) from rfl] at hsl
  have hrow : rowP f = stuffP (bitsP f ++ bitsOf 15 (c15L (bitsP f))) ++ List.replicate 10 true := rfl
  unfold encodeP
  rw [hrow]
  generalize stuffP (bitsP f ++ bitsOf 15 (c15L (bitsP f))) = S at *
  generalize bitsP f ++ bitsOf 15 (c15L (bitsP f)) = B at *
  generalize allP f = A at *
  have hct : cutE (A.map encLv) 0 B.length = B.map encLv := by unfold cutE; simp only [Nat.zero_add, List.drop_zero]; exact htk
  have hcd : cutE (A.map encLv) B.length (A.length - B.length) = (List.replicate 10 true).map encLv := by unfold cutE; rw [Nat.add_sub_cancel' (by omega), List.take_of_length_le (by simp)]; exact hdk
  rw [List.map_replicate, show encLv true = [.lit (.int .i64 1)] from rfl] at hcd
  have w1 : IntKind.wrap .i64 ((A.length : Int) - 10) = (B.length : Int) := by rw [wrap64 (by omega) (by omega)]; omega
  have hle : B.length ≤ A.length := by omega
  have hsub : A.length - B.length = 10 := by omega
  have hrS := rowsLv S
  have hr10 : rowsOk 1 (List.replicate 10 [AVal.lit (.int .i64 1)]) = true := rfl
  have hsz : ¬ (70368744177664 < (S.length + 10) * 8) := by simp at hsl; omega
  have hmap : (S ++ List.replicate 10 true).map encLv = S.map encLv ++ List.replicate 10 [.lit (.int .i64 1)] := by rw [List.map_append, List.map_replicate]; rfl
  have hSl : S.length ≤ 300 := by simp at hsl; omega
  clear htk hdk hsl hrow
  rw [hsub] at hcd
  simp [encFr, u8v, nilS] at hA
  cases ack
  · simp only [Bool.false_eq_true, if_false]
    rw [hmap]
    generalize hRR : List.replicate 10 [AVal.lit (.int .i64 1)] = RR at *
    have hRl : RR.length = 10 := by rw [← hRR]; simp
    have hRn : RR ≠ [] := by intro q; rw [q] at hRl; simp at hRl
    simp [go_sem, ir13, encFr, u8v, hA, w1, hle, hct, hcd, hAd, hsub, hrS, hr10, hsz, hRl, hRn, nilS, purse_eq, List.range_succ]
  · simp only [if_true]
    have hle9 : (S ++ List.replicate 10 true).length - 9 = S.length + 1 := by simp
    have hm2 : ((S ++ List.replicate 10 true).set ((S ++ List.replicate 10 true).length - 9) false).map encLv = (S.map encLv ++ List.replicate 10 [AVal.lit (.int .i64 1)]).set (S.length + 1) [AVal.lit (.int .i64 0)] := by
      rw [List.map_set, hmap, hle9]; rfl
    rw [hm2, List.length_set]
    have hg1 : (S.map encLv ++ List.replicate 10 [AVal.lit (.int .i64 1)])[S.length + 1]? = some [.lit (.int .i64 1)] := by
      rw [List.getElem?_append_right (by simp)]; simp
    have hw9 : IntKind.wrap .i64 ((S.length : Int) + 10 - 10) = S.length := by rw [wrap64 (by omega) (by omega)]; omega
    have hw8 : IntKind.wrap .i64 ((S.length : Int) + 1) = ((S.length + 1 : Nat) : Int) := by rw [wrap64 (by omega) (by omega)]; omega
    have hw7 : IntKind.wrap .i64 (S.length : Int) = S.length := wrap64 (by omega) (by omega)
    generalize hRR : List.replicate 10 [AVal.lit (.int .i64 1)] = RR at *
    have hRl : RR.length = 10 := by rw [← hRR]; simp
    have hRn : RR ≠ [] := by intro q; rw [q] at hRl; simp at hRl
    have hEl : (S.map encLv ++ RR).length = S.length + 10 := by simp [hRl]
    have hlt1 : S.length + 1 < S.length + 10 := by omega
    have hge : ∀ q : S.length + 1 < (S.map encLv ++ RR).length, (S.map encLv ++ RR)[S.length + 1]'q = [.lit (.int .i64 1)] := fun q => Option.some.inj ((List.getElem?_eq_getElem q).symm.trans hg1)
    have h01 : (0 : Int) ≤ (S.length : Int) + 1 := by omega
    generalize hEE : S.map encLv ++ RR = EE at *
    simp [go_sem, ir13, encFr, u8v, hA, w1, hle, hct, hcd, hAd, hsub, hrS, hr10, hsz, hRl, hRn, hw9, hw8, hw7, hg1, hEl, hEE, h01, hlt1, hge, nilS, purse_eq, List.range_succ]
end Go.AM.R1
open Go Go.AM
namespace Go.AM.R1
/-! ### What the law's helpers tell -/
def lvV (ix n : Nat) : AVal := if n = 0 then nilS else .own ix n 1 0 n
def lvH (m : List Bool) : Heap := if m = [] then [] else [.arr true false false 1 (m.map encLv)]
set_option maxRecDepth 100000 in
theorem sg_first : sgAll (List.replicate 11 true ++ encodeP Fr.zero true) = [⟨1, 11, 60, Fr.zero, true⟩] := by decide +kernel
theorem encode_zero_len : (encodeP Fr.zero true).length = 50 := by decide +kernel
theorem zero_ok : Fr.zero.Ok := ⟨by simp [Fr.zero], by simp [Fr.zero], by simp [Fr.zero], by simp [Fr.zero], by simp [Fr.zero, Fr.bytes]⟩
/-- Levels, as a list of them. -/
theorem levels_map : ∀ (l : List Int), (l.all fun x => decide (x = 0 ∨ x = 1)) = true → ∃ m : List Bool, l = m.map lv
  | [], _ => ⟨[], rfl⟩
  | x :: l, h => by
    rw [List.all_cons, Bool.and_eq_true, decide_eq_true_eq] at h
    obtain ⟨m, hm⟩ := levels_map l h.2
    rcases h.1 with e | e
    · exact ⟨false :: m, by rw [e, hm]; rfl⟩
    · exact ⟨true :: m, by rw [e, hm]; rfl⟩
theorem levels_not : ∀ (l : List Int), (l.all fun x => decide (x = 0 ∨ x = 1)) = false → ∃ (m : List Bool) (x : Int) (r : List Int), l = m.map lv ++ x :: r ∧ x ≠ 0 ∧ x ≠ 1
  | [], h => by simp at h
  | x :: l, h => by
    by_cases hx : x = 0 ∨ x = 1
    · rw [List.all_cons, decide_eq_true hx, Bool.true_and] at h
      obtain ⟨m, y, r, e, h1, h2⟩ := levels_not l h
      rcases hx with q | q
      · exact ⟨false :: m, y, r, by rw [q, e]; rfl, h1, h2⟩
      · exact ⟨true :: m, y, r, by rw [q, e]; rfl, h1, h2⟩
    · exact ⟨[], x, l, rfl, fun q => hx (.inl q), fun q => hx (.inr q)⟩
theorem lv_encI (m : List Bool) : (m.map lv).map encI = m.map encLv := by rw [List.map_map]; rfl
/-- Are two sights one? -/
def sgLs : List (Nat × LeafK) := [(0, .i), (1, .i), (2, .i), (3, .i), (4, .b), (5, .b), (6, .i), (7, .i), (8, .i), (9, .i), (10, .i), (11, .i), (12, .i), (13, .i), (14, .i), (15, .b)]
theorem sgEq (s t : Sg) : aleaves (encSg s) (encSg t) sgLs = some (decide (s = t)) := by
  obtain ⟨k, f, o, ⟨i, e, r, l, d0, d1, d2, d3, d4, d5, d6, d7⟩, a⟩ := s
  obtain ⟨k', f', o', ⟨i', e', r', l', d0', d1', d2', d3', d4', d5', d6', d7'⟩, a'⟩ := t
  have hb : ∀ x y : Bool, (x == y) = decide (x = y) := by decide
  have hn : ∀ x y : Nat, decide ((x : Int) = (y : Int)) = decide (x = y) := fun x y => by rw [decide_eq_decide]; omega
  simp [sgLs, encSg, u8v, aleaves, aleaf, hb, hn, Sg.mk.injEq, Fr.mk.injEq, Bool.decide_and, Bool.and_assoc]
theorem eqSgN (H : Heap) (s t : Sg) : eqK true [(0, .i), (1, .i), (2, .i), (3, .i), (4, .b), (5, .b), (6, .i), (7, .i), (8, .i), (9, .i), (10, .i), (11, .i), (12, .i), (13, .i), (14, .i), (15, .b)] H (.agg (encSg s)) (.agg (encSg t)) = some (.lit (.bool (!decide (s = t))), H) := by
  have h := sgEq s t
  unfold sgLs at h
  simp only [eqK, h, Option.map_some, pairK, vbool, if_true, if_false, Bool.false_eq_true]
theorem eqSgP (H : Heap) (s t : Sg) : eqK false [(0, .i), (1, .i), (2, .i), (3, .i), (4, .b), (5, .b), (6, .i), (7, .i), (8, .i), (9, .i), (10, .i), (11, .i), (12, .i), (13, .i), (14, .i), (15, .b)] H (.agg (encSg s)) (.agg (encSg t)) = some (.lit (.bool (decide (s = t))), H) := by
  have h := sgEq s t
  unfold sgLs at h
  simp only [eqK, h, Option.map_some, pairK, vbool, if_true, if_false, Bool.false_eq_true]
end Go.AM.R1
open Go Go.AM
namespace Go.AM.R1

/-! ### Scripts -/
def encScr (node first : Int) (l : List Run) (nl fu : Bool) : List AVal := [.lit (.int .i64 node), .lit (.int .i64 first), .imm nl fu true (l.map encRun)]
def okR (r : Run) : Bool := decide (1 ≤ r.N) && decide (r.N ≤ 1073741824) && (decide (0 ≤ r.Bus) && decide (r.Bus ≤ 1))
def okP (node first : Int) : Bool := decide (0 ≤ node) && decide (node ≤ 31) && (decide (0 ≤ first) && decide (first ≤ 1073741824))
/-- How a script is wrong. -/
def chkS (node first : Int) (l : List Run) : Int := if okP node first = true ∧ l.all okR = true then (if 1073741824 < sumN l then 12 else 0) else 10
theorem okR_N {r : Run} (h : okR r = true) : (1 ≤ r.N ∧ r.N ≤ 1073741824) ∧ (0 ≤ r.Bus ∧ r.Bus ≤ 1) := by
  simp [okR] at h; omega
theorem fits_spec (n lo hi : Int) : call E (.func (.func 61) [] []) [.lit (.int .i64 n), .lit (.int .i64 lo), .lit (.int .i64 hi)] [] = some (.lit (.bool (decide (lo ≤ n) && decide (n ≤ hi))), []) := by
  rw [call_func E E61]
  by_cases h : lo ≤ n <;> simp [go_sem, ir61, h]
theorem place_spec (node first : Int) : call E (.func (.func 54) [] []) [.lit (.int .i64 node), .lit (.int .i64 first)] [] = some (.lit (.bool (okP node first)), []) := by
  rw [call_func E E54]
  have h1 := fits_spec node 0 31
  have h2 := fits_spec first 0 1073741824
  unfold okP
  generalize (decide (0 ≤ node) && decide (node ≤ 31)) = a at *
  generalize (decide (0 ≤ first) && decide (first ≤ 1073741824)) = b at *
  cases a <;> simp [go_sem, ir54, h1, h2]
theorem wrongR_spec (r : Run) : call E (.func (.func 60) [] []) [.agg (encRun r)] [] = some (.lit (.bool (!okR r)), []) := by
  rw [call_func E E60]
  have h1 := fits_spec r.N 1 1073741824
  have h2 := fits_spec r.Bus 0 1
  unfold okR
  generalize (decide (1 ≤ r.N) && decide (r.N ≤ 1073741824)) = a at *
  generalize (decide (0 ≤ r.Bus) && decide (r.Bus ≤ 1)) = b at *
  cases a <;> simp [go_sem, ir60, encRun, h1, h2]
/-- The place of the first one that is so. -/
def findI {α : Type} (p : α → Bool) : Nat → List α → Int
  | _, [] => -1
  | i, r :: l => if p r = true then (i : Int) else findI p (i + 1) l
theorem findI_ge {α : Type} (p : α → Bool) : ∀ (l : List α) (i : Nat), (decide ((0 : Int) ≤ findI p i l)) = l.any p
  | [], i => by simp [findI]
  | r :: l, i => by
    rw [findI, List.any_cons]
    cases hp : p r with
    | true => simp
    | false => simp [findI_ge p l]
theorem idxF_loop (id : Nat) (p : Run → Bool) (l : List Run) (hl : l.length ≤ 1099511627775) (hp : ∀ r : Run, call E (.func (.func id) [] []) [.agg (encRun r)] [] = some (.lit (.bool (p r)), [])) (nl fu : Bool) :
    ∀ (d i : Nat), i + d = l.length →
   finK 0 [.tmp 4] (run E 0 (.code L100_0 :: .inLoop [0, 1, 7, 8] L100_0 :: .inBlock 0 :: [.code (.seq (.reg [⟨none, some 4, .copy (.c (.lit (.int .i64 (-1))))⟩] [] []) .ret)])
     [(0, .imm nl fu true (l.map encRun)), (1, .func (.func id) [] []), (7, .lit (.int .i64 l.length)), (8, .lit (.int .i64 i))] []) = some (.lit (.int .i64 (findI p i (l.drop i))), []) := by
  intro d
  induction d with
  | zero =>
    intro i hi
    have : i = l.length := by omega
    subst this
    simp [go_sem, run_codeL E L100_0.eq_1, findI]
  | succ d ih =>
    intro i hi
    have hlt : i < l.length := by omega
    have w2 := wrapIdx (i := i) (by omega)
    have hs := hp l[i]
    simp only [encRun] at hs
    rw [List.drop_eq_getElem_cons hlt, findI]
    cases hrt : p l[i] with
    | true => simp [go_sem, run_codeL E L100_0.eq_1, hlt, List.getElem?_eq_getElem hlt, encRun, hs, hrt]
    | false =>
      simp [go_sem, run_codeL E L100_0.eq_1, hlt, List.getElem?_eq_getElem hlt, encRun, hs, hrt, w2]
      rw [run_inLoop']
      simp [go_sem, purse_eq]
      exact ih (i + 1) (by omega)
theorem idxF_spec (id : Nat) (p : Run → Bool) (l : List Run) (hl : l.length ≤ 1099511627775) (hp : ∀ r : Run, call E (.func (.func id) [] []) [.agg (encRun r)] [] = some (.lit (.bool (p r)), [])) (nl fu : Bool) :
    call E (.func (.func 100) [] []) [.imm nl fu true (l.map encRun), .func (.func id) [] []] [] = some (.lit (.int .i64 (findI p 0 l)), []) := by
  rw [call_func E E100]
  simp [go_sem, ir100]
  rw [run_inLoop']
  simp [go_sem, purse_eq]
  have := idxF_loop id p l hl hp nl fu l.length 0 (by omega)
  simpa using this
theorem contF_spec (id : Nat) (p : Run → Bool) (l : List Run) (hl : l.length ≤ 1099511627775) (hp : ∀ r : Run, call E (.func (.func id) [] []) [.agg (encRun r)] [] = some (.lit (.bool (p r)), [])) (nl fu : Bool) :
    call E (.func (.func 62) [] []) [.imm nl fu true (l.map encRun), .func (.func id) [] []] [] = some (.lit (.bool (l.any p)), []) := by
  rw [call_func E E62]
  have := idxF_spec id p l hl hp nl fu
  have h2 := findI_ge p l 0
  simp [go_sem, ir62, this, h2]
theorem scheck_loop (l : List Run) (hl : l.length ≤ 1048576) (hN : ∀ r ∈ l, 1 ≤ r.N ∧ r.N ≤ 1073741824) (nl fu : Bool) (k : List Item) (R : Int → Option (AVal × Heap))
    (hk : ∀ τ, finK 0 [.tmp 2] (run E 0 k τ []) = R 0) (hn : R 12 = some (.lit (.int .i64 12), [])) :
    ∀ (d i : Nat) (left : Int), i + d = l.length → 0 ≤ left → left ≤ 1073741824 →
   finK 0 [.tmp 2] (run E 0 (.code L16_0 :: .inLoop [4, 20, 21, 22] L16_0 :: .inBlock 0 :: k) [(4, .lit (.int .i64 left)), (20, .imm nl fu true (l.map encRun)), (21, .lit (.int .i64 l.length)), (22, .lit (.int .i64 i))] []) = R (if left < sumN (l.drop i) then 12 else 0) := by
  intro d
  induction d with
  | zero =>
    intro i left hi h0 h1
    have : i = l.length := by omega
    subst this
    simp [go_sem, run_codeL E L16_0.eq_1, sumN, Int.not_lt.2 h0]
    exact hk _
  | succ d ih =>
    intro i left hi h0 h1
    have hlt : i < l.length := by omega
    have w2 := wrapIdx (i := i) (by omega)
    have hn' := hN _ (List.getElem_mem hlt)
    rw [List.drop_eq_getElem_cons hlt, sumN]
    have hs : 0 ≤ sumN (l.drop (i + 1)) := by
      have : ∀ m : List Run, (∀ r ∈ m, 1 ≤ r.N ∧ r.N ≤ 1073741824) → 0 ≤ sumN m := by
        intro m; induction m with
        | nil => intro _; simp [sumN]
        | cons x xs ih => intro h; have := h x (by simp); have := ih fun r hr => h r (by simp [hr]); simp only [sumN]; omega
      exact this _ fun r hr => hN r (List.mem_of_mem_drop hr)
    by_cases hq : left < l[i].N
    · rw [if_pos (by omega), hn]
      simp [go_sem, run_codeL E L16_0.eq_1, hlt, List.getElem?_eq_getElem hlt, encRun, hq]
    · have w1 : IntKind.wrap .i64 (left - l[i].N) = left - l[i].N := wrap64 (by omega) (by omega)
      simp [go_sem, run_codeL E L16_0.eq_1, hlt, List.getElem?_eq_getElem hlt, encRun, hq, w1, w2]
      rw [run_inLoop']
      simp [go_sem, purse_eq]
      have := ih (i + 1) (left - l[i].N) (by omega) (by omega) (by omega)
      simp only [Int.natCast_add, Int.natCast_one] at this
      rw [this]
      congr 1
      split <;> split <;> first | rfl | omega
theorem any_not {α : Type} (p : α → Bool) (l : List α) : (l.any fun x => !p x) = !(l.all p) := by
  induction l with
  | nil => rfl
  | cons x r ih => simp [List.any_cons, List.all_cons, ih, Bool.not_and]
theorem scheck_spec (node first : Int) (l : List Run) (hl : l.length ≤ 1048576) (nl fu : Bool) :
    call E (.func (.func 16) [] []) [.agg (encScr node first l nl fu)] [] = some (.lit (.int .i64 (chkS node first l)), []) := by
  rw [call_func E E16]
  have hP := place_spec node first
  have hC := contF_spec 60 (fun r => !okR r) l (by omega) wrongR_spec nl fu
  rw [any_not] at hC
  unfold chkS
  cases ho : okP node first with
  | false => simp [go_sem, ir16, encScr, hP, ho]
  | true =>
    cases ha : l.all okR with
    | false =>
      rw [ha] at hC
      simp [go_sem, ir16, encScr, hP, ho, hC]
    | true =>
      rw [ha] at hC
      have hN : ∀ r ∈ l, 1 ≤ r.N ∧ r.N ≤ 1073741824 := fun r hr => (okR_N (List.all_eq_true.1 ha r hr)).1
      simp [go_sem, ir16, encScr, hP, ho, hC]
      rw [run_inLoop']
      simp [go_sem, purse_eq]
      have := scheck_loop l hl hN nl fu [.code (.seq (.reg [⟨none, some 2, .copy (.c (.lit (.int .i64 0)))⟩] [] []) .ret)] (fun n => some (.lit (.int .i64 n), [])) ?_ rfl l.length 0 1073741824 (by omega) (by omega) (by omega)
      · simpa using this
      · intro τ; simp [go_sem]
end Go.AM.R1
open Go Go.AM
namespace Go.AM.R1

theorem okN_of_chk {node first : Int} {l : List Run} (h : chkS node first l = 0) : (0 ≤ node ∧ node ≤ 31) ∧ (0 ≤ first ∧ first ≤ 1073741824) ∧ (∀ r ∈ l, (1 ≤ r.N ∧ r.N ≤ 1073741824) ∧ (0 ≤ r.Bus ∧ r.Bus ≤ 1)) ∧ sumN l ≤ 1073741824 := by
  unfold chkS at h
  split at h
  · rename_i h1
    have hp := h1.1
    simp [okP] at hp
    refine ⟨by omega, by omega, fun r hr => okR_N (List.all_eq_true.1 h1.2 r hr), ?_⟩
    split at h
    · omega
    · omega
  · omega
theorem sumN_pos : ∀ {l : List Run}, (∀ r ∈ l, 1 ≤ r.N) → 0 ≤ sumN l
  | [], _ => by simp [sumN]
  | r :: l, h => by
    have := h r (by simp); have := sumN_pos (l := l) fun x hx => h x (by simp [hx])
    simp only [sumN]; omega
/-- The level of runs at a tick; 1 beyond. -/
def busAt : Int → List Run → Int
  | _, [] => 1
  | t, r :: l => if t < r.N then r.Bus else busAt (t - r.N) l
def atS (node first : Int) (l : List Run) (tick : Int) : Int := if chkS node first l ≠ 0 ∨ tick < first then 1 else busAt (tick - first) l
def endsS (node first : Int) (l : List Run) : Int := if chkS node first l ≠ 0 then 0 else first + sumN l
theorem sat_loop (l : List Run) (hl : l.length ≤ 1048576) (hN : ∀ r ∈ l, 1 ≤ r.N ∧ r.N ≤ 1073741824) (nl fu : Bool) :
    ∀ (d i : Nat) (t : Int), i + d = l.length → 0 ≤ t → t ≤ 9223372036854775807 →
   finK 0 [.tmp 4] (run E 0 (.code L15_0 :: .inLoop [1, 21, 22, 23] L15_0 :: .inBlock 0 :: [.code (.seq (.reg [⟨none, some 4, .copy (.c (.lit (.int .i64 1)))⟩] [] []) .ret)]) [(1, .lit (.int .i64 t)), (21, .imm nl fu true (l.map encRun)), (22, .lit (.int .i64 l.length)), (23, .lit (.int .i64 i))] []) = some (.lit (.int .i64 (busAt t (l.drop i))), []) := by
  intro d
  induction d with
  | zero =>
    intro i t hi h0 h1
    have : i = l.length := by omega
    subst this
    simp [go_sem, run_codeL E L15_0.eq_1, busAt]
  | succ d ih =>
    intro i t hi h0 h1
    have hlt : i < l.length := by omega
    have w2 := wrapIdx (i := i) (by omega)
    have hn' := hN _ (List.getElem_mem hlt)
    rw [List.drop_eq_getElem_cons hlt, busAt]
    by_cases hq : t < l[i].N
    · simp [go_sem, run_codeL E L15_0.eq_1, hlt, List.getElem?_eq_getElem hlt, encRun, hq]
    · have w1 : IntKind.wrap .i64 (t - l[i].N) = t - l[i].N := wrap64 (by omega) (by omega)
      simp [go_sem, run_codeL E L15_0.eq_1, hlt, List.getElem?_eq_getElem hlt, encRun, hq, w1, w2]
      rw [run_inLoop']
      simp [go_sem, purse_eq]
      exact ih (i + 1) (t - l[i].N) (by omega) (by omega) (by omega)
theorem sat_spec (node first : Int) (l : List Run) (hl : l.length ≤ 1048576) (nl fu : Bool) (tick : Int) (ht : -9223372036854775808 ≤ tick ∧ tick ≤ 9223372036854775807) :
    call E (.func (.func 15) [] []) [.agg (encScr node first l nl fu), .lit (.int .i64 tick)] [] = some (.lit (.int .i64 (atS node first l tick)), []) := by
  rw [call_func E E15]
  have hC := scheck_spec node first l hl nl fu
  simp only [encScr] at hC
  unfold atS
  by_cases hc : chkS node first l = 0
  · obtain ⟨h1, h2, h3, h4⟩ := okN_of_chk hc
    by_cases hq : tick < first
    · simp [go_sem, ir15, encScr, hC, hc, hq]
    · have w1 : IntKind.wrap .i64 (tick - first) = tick - first := wrap64 (by omega) (by omega)
      simp [go_sem, ir15, encScr, hC, hc, hq, w1]
      rw [run_inLoop']
      simp [go_sem, purse_eq]
      have := sat_loop l hl (fun r hr => (h3 r hr).1) nl fu l.length 0 (tick - first) (by omega) (by omega) (by omega)
      simpa using this
  · simp [go_sem, ir15, encScr, hC, hc]
theorem sends_loop (l : List Run) (hl : l.length ≤ 1048576) (hN : ∀ r ∈ l, 1 ≤ r.N ∧ r.N ≤ 1073741824) (nl fu : Bool) :
    ∀ (d i : Nat) (n : Int), i + d = l.length → 0 ≤ n → n ≤ 1073741824 * (i + 1) →
   finK 0 [.tmp 2] (run E 0 (.code L14_0 :: .inLoop [3, 12, 13, 14] L14_0 :: .inBlock 0 :: [.code (.seq (.reg [⟨none, some 23, .copy (.t 3)⟩, ⟨none, some 2, .copy (.t 23)⟩] [] []) .ret)]) [(3, .lit (.int .i64 n)), (12, .imm nl fu true (l.map encRun)), (13, .lit (.int .i64 l.length)), (14, .lit (.int .i64 i))] []) = some (.lit (.int .i64 (n + sumN (l.drop i))), []) := by
  intro d
  induction d with
  | zero =>
    intro i n hi h0 h1
    have : i = l.length := by omega
    subst this
    simp [go_sem, run_codeL E L14_0.eq_1, sumN]
  | succ d ih =>
    intro i n hi h0 h1
    have hlt : i < l.length := by omega
    have w2 := wrapIdx (i := i) (by omega)
    have hn' := hN _ (List.getElem_mem hlt)
    have w1 : IntKind.wrap .i64 (n + l[i].N) = n + l[i].N := wrap64 (by omega) (by omega)
    rw [List.drop_eq_getElem_cons hlt, sumN]
    simp [go_sem, run_codeL E L14_0.eq_1, hlt, List.getElem?_eq_getElem hlt, encRun, w1, w2]
    rw [run_inLoop']
    simp [go_sem, purse_eq]
    have := ih (i + 1) (n + l[i].N) (by omega) (by omega) (by omega)
    simp only [Int.natCast_add, Int.natCast_one] at this
    rw [this, Int.add_assoc]
theorem sends_spec (node first : Int) (l : List Run) (hl : l.length ≤ 1048576) (nl fu : Bool) :
    call E (.func (.func 14) [] []) [.agg (encScr node first l nl fu)] [] = some (.lit (.int .i64 (endsS node first l)), []) := by
  rw [call_func E E14]
  have hC := scheck_spec node first l hl nl fu
  simp only [encScr] at hC
  unfold endsS
  by_cases hc : chkS node first l = 0
  · obtain ⟨h1, h2, h3, h4⟩ := okN_of_chk hc
    simp [go_sem, ir14, encScr, hC, hc]
    rw [run_inLoop']
    simp [go_sem, purse_eq]
    have := sends_loop l hl (fun r hr => (h3 r hr).1) nl fu l.length 0 first (by omega) (by omega) (by omega)
    simpa using this
  · simp [go_sem, ir14, encScr, hC, hc]

end Go.AM.R1
open Go Go.AM
namespace Go.AM.R1
end Go.AM.R1
open Go Go.AM
namespace Go.AM.R1

/-! ### Levels as runs -/
def pushL (out : List Run) (x : Int) : List Run :=
  match out.getLast? with
  | none => [⟨1, x, 0⟩]
  | some r => if r.Bus = x then out.dropLast ++ [⟨r.N + 1, r.Bus, r.Drive⟩] else out ++ [⟨1, x, 0⟩]
theorem pushL_nil (x : Int) : pushL [] x = [⟨1, x, 0⟩] := rfl
theorem pushL_snoc (o : List Run) (r : Run) (x : Int) : pushL (o ++ [r]) x = if r.Bus = x then o ++ [⟨r.N + 1, r.Bus, r.Drive⟩] else o ++ [r, ⟨1, x, 0⟩] := by
  simp [pushL]
def rowsA : List Run → List Int → List Run := List.foldl pushL
theorem rows_loop (l : List Int) (hl : l.length ≤ 1048576) (nl fu : Bool) (k : List Item) (R : List Run → Option (AVal × Heap))
    (hk : ∀ (out : List Run) τ, lk 3 τ = resV 1 (out.map encRun) → finK 0 [.tmp 2] (run E 0 k τ (resH [.dead] (out.map encRun))) = R out) :
    ∀ (d i : Nat) (out : List Run), i + d = l.length → out.length ≤ i → (∀ x ∈ out, 1 ≤ x.N ∧ x.N ≤ i) →
   finK 0 [.tmp 2] (run E 0 (.code L55_0 :: .inLoop [3, 7, 8, 9] L55_0 :: .inBlock 0 :: k)
     [(3, resV 1 (out.map encRun)), (7, .imm nl fu true (l.map encI)), (8, .lit (.int .i64 l.length)), (9, .lit (.int .i64 i))]
     (resH [.dead] (out.map encRun)))
   = R (rowsA out (l.drop i)) := by
  intro d
  induction d with
  | zero =>
    intro i out hi h4 h5
    have : i = l.length := by omega
    subst this
    simp [go_sem, run_codeL E L55_0.eq_1, rowsA]
    exact hk out _ rfl
  | succ d ih =>
    intro i out hi h4 h5
    have hlt : i < l.length := by omega
    have w2 := wrapIdx (i := i) (by omega)
    rw [List.drop_eq_getElem_cons hlt, rowsA, List.foldl_cons]
    rcases snoc_cases out with rfl | ⟨o, x, rfl⟩
    · have ih2 := ih (i + 1) (pushL [] l[i]) (by omega) (by simp [pushL]) (by
        intro y hy; simp [pushL_nil] at hy; subst hy; simp; omega)
      rw [rowsA] at ih2
      generalize R _ = Q at ih2 ⊢
      rw [pushL_nil] at ih2
      simp [resV, resH, encRun, nilS] at ih2
      simp [go_sem, run_codeL E L55_0.eq_1, hlt, List.getElem?_eq_getElem hlt, encRun, encI, w2, resV, resH, purse_eq, nilS]
      rw [run_inLoop']
      simp [go_sem, purse_eq]
      simpa [encI] using ih2
    · have hx := h5 x (by simp)
      simp at h4
      have ih2 := ih (i + 1) (pushL (o ++ [x]) l[i]) (by omega) (by
        rw [pushL_snoc]; split <;> simp <;> omega) (by
        intro y hy
        rw [pushL_snoc] at hy
        split at hy
        · simp at hy
          rcases hy with hy | rfl
          · have := h5 y (by simp [hy]); omega
          · simp; omega
        · simp at hy
          rcases hy with hy | rfl | rfl
          · have := h5 y (by simp [hy]); omega
          · omega
          · simp; omega)
      rw [rowsA] at ih2
      generalize R _ = Q at ih2 ⊢
      have wl : IntKind.wrap .i64 (o.length : Int) = o.length := wrap64 (by omega) (by omega)
      have wl1 : IntKind.wrap .i64 ((o.length : Int) + 1 - 1) = o.length := by rw [show (o.length : Int) + 1 - 1 = o.length by omega]; exact wl
      have wx : IntKind.wrap .i64 (x.N + 1) = x.N + 1 := wrap64 (by omega) (by omega)
      have hg := get_snoc (o := o) (x := x)
      simp only [encRun] at hg
      have hb : ¬ ((o.length + 1 + 1) * 24 > 70368744177664) := by omega
      rw [pushL_snoc] at ih2
      by_cases ha : x.Bus = l[i]
      · rw [if_pos ha] at ih2
        simp [resV, resH, encRun] at ih2
        simp [go_sem, run_codeL E L55_0.eq_1, hlt, List.getElem?_eq_getElem hlt, encRun, encI, w2, wl, wl1, wx, resV, resH, purse_eq, hg, ha, set_snoc]
        rw [run_inLoop']
        simp [go_sem, purse_eq]
        simpa [encI, ha] using ih2
      · rw [if_neg ha] at ih2
        simp [resV, resH, encRun] at ih2
        simp [go_sem, run_codeL E L55_0.eq_1, hlt, List.getElem?_eq_getElem hlt, encRun, encI, w2, wl, wl1, wx, resV, resH, purse_eq, hg, ha, hb]
        rw [run_inLoop']
        simp [go_sem, purse_eq]
        simpa [encI] using ih2
theorem rows_spec (l : List Int) (hl : l.length ≤ 1048576) (nl fu : Bool) :
    call E (.func (.func 55) [] []) [.imm nl fu true (l.map encI)] [] = some (resV 0 ((rowsA [] l).map encRun), resH [] ((rowsA [] l).map encRun)) := by
  rw [call_func E E55]
  simp [go_sem, ir55, purse_eq]
  rw [run_inLoop']
  simp [go_sem, purse_eq]
  have h := rows_loop l hl nl fu [.code (.seq (.reg [⟨none, some 42, .copy (.t 3)⟩, ⟨none, some 2, .copy (.t 42)⟩] [] []) .ret)] (fun out => some (resV 0 (out.map encRun), resH [] (out.map encRun))) ?_ l.length 0 [] (by omega) (by simp) (by simp)
  · simpa [resV, resH, nilS] using h
  · intro out τ h
    cases out with
    | nil => simp [go_sem, h, resV, resH, nilS]
    | cons x xs => simp [go_sem, h, resV, resH, purse_eq]
end Go.AM.R1
open Go Go.AM
namespace Go.AM.R1
/-! ### The script of a node in runs -/
def nodeE (l : List Run) (node : Int) : Int := if chk l ≠ 0 then chk l else if node < 0 ∨ 32 ≤ node then 10 else if 1048576 < sumN l then 12 else 0
def nodeLs (l : List Run) (node : Int) : List Int := (expand l).map (nodeLv node)
theorem nodeV_eq (l : List Run) (node : Int) : nodeV l node = if nodeE l node ≠ 0 then .tup [nilS, .lit (.int .i64 (nodeE l node))] else .tup [.own 0 (nodeLs l node).length 1 0 (nodeLs l node).length, .lit (.int .i64 0)] := by
  unfold nodeV nodeE nodeLs levelsV
  by_cases h : chk l = 0
  · by_cases h1 : node < 0 ∨ 32 ≤ node
    · simp [h, h1]
    · by_cases h2 : 1048576 < sumN l <;> simp [h, h1, h2]
  · simp [h]
theorem nodeHp_eq (l : List Run) (node : Int) : nodeHp l node = if nodeE l node ≠ 0 then [] else [.arr true false false 1 ((nodeLs l node).map encI)] := by
  unfold nodeHp nodeE nodeLs levelsH
  by_cases h : chk l = 0
  · by_cases h1 : node < 0 ∨ 32 ≤ node
    · simp [h, h1]
    · by_cases h2 : 1048576 < sumN l
      · simp [h, h1, h2]
      · simp [h, h1, h2]
  · simp [h]
theorem nodeLs_len {l : List Run} {node : Int} (h : nodeE l node = 0) : (nodeLs l node).length ≤ 1048576 := by
  unfold nodeE at h
  split at h
  · rename_i h1; exact absurd h h1
  · rename_i h1
    split at h
    · omega
    · split at h
      · omega
      · rename_i h3
        obtain ⟨hN, h0, h1'⟩ := chk_right (l := l) (by simpa using h1)
        unfold nodeLs
        rw [List.length_map]
        have := expand_length l (fun r hr => by have := hN r hr; omega)
        omega
def dofE (l : List Run) (node first : Int) : Int := if nodeE l node ≠ 0 then nodeE l node else if first < 0 ∨ (nodeLs l node).length < first then 10 else 0
def dofR (l : List Run) (node first : Int) : List Run := rowsA [] ((nodeLs l node).drop first.toNat)
theorem dof_bad (l : List Run) (hdr : ∀ r ∈ l, 0 ≤ r.Drive ∧ r.Drive ≤ 4294967295) (hl : l.length ≤ 1048576) (hl2 : ∀ r ∈ l, r.Ok) (nl fu : Bool) (node first : Int) (h : dofE l node first ≠ 0) :
    call E (.func (.func 57) [] []) [.imm nl fu true (l.map encRun), .lit (.int .i64 node), .lit (.int .i64 first)] [] = some (.tup [.agg (encScr 0 0 [] true true), .lit (.int .i64 (dofE l node first))], []) := by
  rw [call_func E E57]
  have hN := node_spec node l hdr hl hl2 nl fu
  rw [nodeV_eq, nodeHp_eq] at hN
  unfold dofE at h ⊢
  by_cases h1 : nodeE l node = 0
  · simp only [h1, ne_eq, not_true_eq_false, if_false, if_true] at h hN ⊢
    have hlen := nodeLs_len h1
    have hF := fits_spec first 0 ((nodeLs l node).length : Int)
    by_cases h2 : first < 0 ∨ (nodeLs l node).length < first
    · have hb : (decide (0 ≤ first) && decide (first ≤ ((nodeLs l node).length : Int))) = false := by
        simp; omega
      rw [hb] at hF
      rw [if_pos h2] at h ⊢
      generalize nodeLs l node = L at *
      simp [go_sem, ir57, hN, hF, nilS, encScr, purse_eq]
    · rw [if_neg h2] at h; exact absurd rfl h
  · simp only [h1, ne_eq, not_false_eq_true, if_true] at h hN ⊢
    simp [nilS] at hN
    simp [go_sem, ir57, hN, nilS, encScr, h1]
theorem dof_spec (l : List Run) (hdr : ∀ r ∈ l, 0 ≤ r.Drive ∧ r.Drive ≤ 4294967295) (hl : l.length ≤ 1048576) (hl2 : ∀ r ∈ l, r.Ok) (nl fu : Bool) (node first : Int) (h : dofE l node first = 0) :
    call E (.func (.func 57) [] []) [.imm nl fu true (l.map encRun), .lit (.int .i64 node), .lit (.int .i64 first)] [] = some (.tup [.agg [.lit (.int .i64 node), .lit (.int .i64 first), resV 0 ((dofR l node first).map encRun)], .lit (.int .i64 0)], resH [] ((dofR l node first).map encRun)) := by
  rw [call_func E E57]
  have hN := node_spec node l hdr hl hl2 nl fu
  rw [nodeV_eq, nodeHp_eq] at hN
  unfold dofE at h
  by_cases h1 : nodeE l node = 0
  · simp only [h1, ne_eq, not_true_eq_false, if_false, if_true] at h hN ⊢
    have hlen := nodeLs_len h1
    have hF := fits_spec first 0 ((nodeLs l node).length : Int)
    by_cases h2 : first < 0 ∨ (nodeLs l node).length < first
    · rw [if_pos h2] at h; cases h
    · have hb : (decide (0 ≤ first) && decide (first ≤ ((nodeLs l node).length : Int))) = true := by
        simp; omega
      rw [hb] at hF
      have hR := rows_spec ((nodeLs l node).drop first.toNat) (by simp; omega) false false
      have hR2 := rows_spec ((nodeLs l node).drop first.toNat) (by simp; omega) false true
      unfold dofR
      have hce : cutE ((nodeLs l node).map encI) first.toNat ((nodeLs l node).length - first.toNat) = ((nodeLs l node).drop first.toNat).map encI := by
        unfold cutE
        rw [List.take_of_length_le (by simp; omega), List.map_drop]
      have hi0 : 0 ≤ first := by omega
      have hi1 : first.toNat ≤ (nodeLs l node).length := by omega
      generalize nodeLs l node = L at *
      generalize rowsA [] (L.drop first.toNat) = Q at *
      generalize hfj : first.toNat = j at *
      cases Q with
      | nil =>
        simp [resV, resH, nilS] at hR hR2
        simp [go_sem, ir57, hN, hF, nilS, encScr, purse_eq, hi0, hi1, hfj, hce, hR, hR2, resV, resH]
      | cons x xs =>
        simp [resV, resH] at hR hR2
        simp [go_sem, ir57, hN, hF, nilS, encScr, purse_eq, hi0, hi1, hfj, hce, hR, hR2, resV, resH]
  · simp only [h1, ne_eq, not_false_eq_true, if_true] at h
end Go.AM.R1
open Go Go.AM
namespace Go.AM.R1
theorem runs_loop (l m : List Run) (hlm : l.length = m.length) (hl : l.length ≤ 1099511627775) (nl fu nl' fu' : Bool) :
    ∀ (d i : Nat), i + d = l.length →
   finK 0 [.tmp 4] (run E 0 (.code L56_0 :: .inLoop [0, 1, 5] L56_0 :: .inBlock 0 :: [.code (.seq (.reg [⟨none, some 4, .copy (.c (.lit (.bool true)))⟩] [] []) .ret)]) [(0, .imm nl fu true (l.map encRun)), (1, .imm nl' fu' true (m.map encRun)), (5, .lit (.int .i64 i))] [])
   = some (.lit (.bool (decide (l.drop i = m.drop i))), []) := by
  intro d
  induction d with
  | zero =>
    intro i hi
    rw [List.drop_eq_nil_of_le (by omega), List.drop_eq_nil_of_le (by omega)]
    have : ¬ i < l.length := by omega
    simp [go_sem, run_codeL E L56_0.eq_1, this]
  | succ d ih =>
    intro i hi
    have hlt : i < l.length := by omega
    have hlt' : i < m.length := by omega
    have w2 := wrapIdx (i := i) (by omega)
    rw [List.drop_eq_getElem_cons hlt, List.drop_eq_getElem_cons hlt']
    by_cases h : l[i] = m[i]
    · rw [decide_eq_decide.2 (show (l[i] :: l.drop (i + 1) = m[i] :: m.drop (i + 1)) ↔ l.drop (i + 1) = m.drop (i + 1) from ⟨fun e => (List.cons.inj e).2, fun e => by rw [h, e]⟩)]
      simp [go_sem, run_codeL E L56_0.eq_1, hlt, List.getElem?_eq_getElem hlt, List.getElem?_eq_getElem hlt', encRun, h, w2]
      rw [run_inLoop']
      simp [go_sem, purse_eq]
      have := ih (i + 1) (by omega)
      simpa [encRun] using this
    · rw [decide_eq_false (show ¬ (l[i] :: l.drop (i + 1) = m[i] :: m.drop (i + 1)) from fun e => h (List.cons.inj e).1)]
      have h' : ¬ (l[i].N = m[i].N ∧ l[i].Bus = m[i].Bus ∧ l[i].Drive = m[i].Drive) := fun e => h (by
        cases hx : l[i]; cases hy : m[i]; rw [hx, hy] at e; simp at e; simp [e])
      by_cases h1 : l[i].N = m[i].N
      · by_cases h2 : l[i].Bus = m[i].Bus
        · have h3 : ¬ l[i].Drive = m[i].Drive := fun e => h' ⟨h1, h2, e⟩
          simp [go_sem, run_codeL E L56_0.eq_1, hlt, List.getElem?_eq_getElem hlt, List.getElem?_eq_getElem hlt', encRun, h1, h2, h3, w2]
        · simp [go_sem, run_codeL E L56_0.eq_1, hlt, List.getElem?_eq_getElem hlt, List.getElem?_eq_getElem hlt', encRun, h1, h2, w2]
      · simp [go_sem, run_codeL E L56_0.eq_1, hlt, List.getElem?_eq_getElem hlt, List.getElem?_eq_getElem hlt', encRun, h1, w2]
theorem runsEq_spec (l m : List Run) (hl : l.length ≤ 1099511627775) (nl fu nl' fu' : Bool) :
    call E (.func (.func 56) [] []) [.imm nl fu true (l.map encRun), .imm nl' fu' true (m.map encRun)] [] = some (.lit (.bool (decide (l = m))), []) := by
  rw [call_func E E56]
  by_cases hlm : l.length = m.length
  · simp [go_sem, ir56, hlm]
    rw [run_inLoop']
    simp [go_sem, purse_eq]
    have := runs_loop l m hlm hl nl fu nl' fu' l.length 0 (by omega)
    simpa using this
  · have : ¬ (l.length : Int) = m.length := by omega
    have h2 : ¬ l = m := fun h => hlm (by rw [h])
    simp [go_sem, ir56, hlm, this, h2]
theorem same22_spec (n1 f1 : Int) (l : List Run) (nl fu : Bool) (n2 f2 : Int) (m : List Run) (nl' fu' : Bool) (hl : l.length ≤ 1099511627775) :
    call E (.func (.func 11) [] []) [.agg (encScr n1 f1 l nl fu), .agg (encScr n2 f2 m nl' fu')] [] = some (.lit (.bool (decide (n1 = n2 ∧ f1 = f2 ∧ l = m))), []) := by
  rw [call_func E E11]
  have hR := runsEq_spec l m hl nl fu nl' fu'
  by_cases h1 : n1 = n2
  · by_cases h2 : f1 = f2
    · simp [go_sem, ir11, encScr, h1, h2, hR]
    · simp [go_sem, ir11, encScr, h1, h2]
  · simp [go_sem, ir11, encScr, h1]
end Go.AM.R1
open Go Go.AM
namespace Go.AM.R1
/-! ### Levels as runs -/
theorem sumN_app : ∀ (a b : List Run), sumN (a ++ b) = sumN a + sumN b
  | [], b => by simp [sumN]
  | r :: a, b => by simp only [List.cons_append, sumN, sumN_app a b]; omega
theorem sumN_ge : ∀ (l : List Run), (∀ r ∈ l, 1 ≤ r.N) → (l.length : Int) ≤ sumN l
  | [], _ => by simp [sumN]
  | r :: l, h => by
    have h1 := h r (by simp)
    have h2 := sumN_ge l (fun x hx => h x (by simp [hx]))
    simp only [sumN, List.length_cons]; omega
theorem busAt_append : ∀ (o m : List Run) (t : Int), (∀ r ∈ o, 1 ≤ r.N) → 0 ≤ t → busAt t (o ++ m) = if t < sumN o then busAt t o else busAt (t - sumN o) m
  | [], m, t, _, h0 => by
    rw [show sumN [] = 0 from rfl, if_neg (by omega), Int.sub_zero]; rfl
  | r :: o, m, t, hp, h0 => by
    have h1 := hp r (by simp)
    have h2 := sumN_ge o (fun x hx => hp x (by simp [hx]))
    show (if t < r.N then r.Bus else busAt (t - r.N) (o ++ m)) = if t < r.N + sumN o then (if t < r.N then r.Bus else busAt (t - r.N) o) else busAt (t - (r.N + sumN o)) m
    by_cases h : t < r.N
    · rw [if_pos h, if_pos (by omega), if_pos h]
    · rw [if_neg h, busAt_append o m (t - r.N) (fun x hx => hp x (by simp [hx])) (by omega)]
      by_cases h3 : t - r.N < sumN o
      · rw [if_pos h3, if_pos (by omega), if_neg h]
      · rw [if_neg h3, if_neg (by omega)]
        congr 1; omega
structure RowF (l : List Int) (R : List Run) : Prop where
  sum : sumN R = l.length
  at_ : ∀ (i : Nat) (h : i < l.length), busAt i R = l[i]
  beyond : ∀ t : Int, l.length ≤ t → busAt t R = 1
  pos : ∀ r ∈ R, 1 ≤ r.N
  bus : ∀ r ∈ R, r.Bus = 0 ∨ r.Bus = 1
  adj : ∀ (i : Nat) (a b : Run), R[i]? = some a → R[i + 1]? = some b → b.Bus ≠ a.Bus
theorem rowF_nil : RowF [] [] := ⟨rfl, fun i h => by simp at h, fun t _ => rfl, by simp, by simp, fun i a b h => by simp at h⟩
theorem rowF_new {l : List Int} {R : List Run} (h : RowF l R) (x : Int) (hx : x = 0 ∨ x = 1) (hl : ∀ a, R.getLast? = some a → a.Bus ≠ x) : RowF (l ++ [x]) (R ++ [⟨1, x, 0⟩]) := by
  obtain ⟨h1, h2, h3, h4, h5, h6⟩ := h
  refine ⟨?_, ?_, ?_, ?_, ?_, ?_⟩
  · rw [sumN_app, h1]; simp [sumN]
  · intro i hi
    rw [busAt_append _ _ _ h4 (by omega), h1]
    by_cases h : i < l.length
    · rw [if_pos (by omega), h2 i h, List.getElem_append_left h]
    · have e : i = l.length := by simp at hi; omega
      subst e
      rw [if_neg (by omega)]
      simp [busAt]
  · intro t ht
    simp only [List.length_append, List.length_singleton] at ht
    rw [busAt_append _ _ _ h4 (by omega), h1, if_neg (by omega)]
    simp only [busAt]
    rw [if_neg (by omega)]
  · intro r hr
    rcases List.mem_append.1 hr with q | q
    · exact h4 r q
    · simp at q; subst q; simp
  · intro r hr
    rcases List.mem_append.1 hr with q | q
    · exact h5 r q
    · simp at q; subst q; exact hx
  · intro i a b ha hb
    rcases Nat.lt_trichotomy (i + 1) R.length with q | q | q
    · rw [List.getElem?_append_left (by omega)] at ha hb
      exact h6 i a b ha hb
    · rw [List.getElem?_append_left (by omega)] at ha
      rw [List.getElem?_append_right (by omega), q] at hb
      simp at hb
      subst hb
      have := hl a (by rw [List.getLast?_eq_getElem?, ← ha]; congr 1; omega)
      exact fun e => this e.symm
    · rw [List.getElem?_append_right (by omega)] at hb
      have : i + 1 - R.length ≠ 0 := by omega
      cases hq : i + 1 - R.length with
      | zero => omega
      | succ n => rw [hq] at hb; simp at hb
theorem rowF_more {l : List Int} {o : List Run} {r : Run} (h : RowF l (o ++ [r])) : RowF (l ++ [r.Bus]) (o ++ [⟨r.N + 1, r.Bus, r.Drive⟩]) := by
  obtain ⟨h1, h2, h3, h4, h5, h6⟩ := h
  have hpo : ∀ x ∈ o, 1 ≤ x.N := fun x hx => h4 x (by simp [hx])
  have hr := h4 r (by simp)
  have hso : sumN o + r.N = l.length := by rw [sumN_app] at h1; simpa [sumN] using h1
  have hsg := sumN_ge o hpo
  refine ⟨?_, ?_, ?_, ?_, ?_, ?_⟩
  · rw [sumN_app]; simp [sumN]; omega
  · intro i hi
    rw [busAt_append _ _ _ hpo (by omega)]
    by_cases h : i < l.length
    · have := h2 i h
      rw [busAt_append _ _ _ hpo (by omega)] at this
      rw [List.getElem_append_left h, ← this]
      split
      · rfl
      · simp only [busAt]; rw [if_pos (by omega), if_pos (by omega)]
    · have e : i = l.length := by simp at hi; omega
      subst e
      rw [if_neg (by omega)]
      simp only [busAt]; rw [if_pos (by omega)]; simp
  · intro t ht
    simp only [List.length_append, List.length_singleton] at ht
    rw [busAt_append _ _ _ hpo (by omega), if_neg (by omega)]
    simp only [busAt]
    rw [if_neg (by omega)]
  · intro x hx
    rcases List.mem_append.1 hx with q | q
    · exact hpo x q
    · simp at q; subst q; show 1 ≤ r.N + 1; omega
  · intro x hx
    rcases List.mem_append.1 hx with q | q
    · exact h5 x (by simp [q])
    · simp at q; subst q; exact h5 r (by simp)
  · intro i a b ha hb
    have hcon : ∀ (j : Nat) (a : Run), (o ++ [⟨r.N + 1, r.Bus, r.Drive⟩])[j]? = some a → ∃ a', (o ++ [r])[j]? = some a' ∧ a'.Bus = a.Bus := by
      intro j a ha
      rcases Nat.lt_or_ge j o.length with q | q
      · rw [List.getElem?_append_left q] at ha ⊢; exact ⟨a, ha, rfl⟩
      · rw [List.getElem?_append_right q] at ha ⊢
        cases hq : j - o.length with
        | zero => rw [hq] at ha; simp at ha; exact ⟨r, rfl, by rw [← ha]⟩
        | succ n => rw [hq] at ha; simp at ha
    obtain ⟨a', ha', e1⟩ := hcon i a ha
    obtain ⟨b', hb', e2⟩ := hcon (i + 1) b hb
    rw [← e1, ← e2]
    exact h6 i a' b' ha' hb'
theorem rowF_push {l : List Int} {R : List Run} (ih : RowF l R) (x : Int) (hx : x = 0 ∨ x = 1) : RowF (l ++ [x]) (pushL R x) := by
  rcases List.eq_nil_or_concat R with q | ⟨o, r, q⟩
  · rw [q] at ih ⊢
    rw [pushL_nil]
    exact rowF_new ih x hx (by simp)
  · rw [List.concat_eq_append] at q
    rw [q] at ih ⊢
    rw [pushL_snoc]
    split
    · rename_i hb; subst hb; exact rowF_more ih
    · rename_i hb
      have := rowF_new ih x hx (fun a ha => by simp at ha; subst ha; exact hb)
      simpa using this
theorem rowF_fold : ∀ (m l : List Int) (R : List Run), RowF l R → (∀ x ∈ m, x = 0 ∨ x = 1) → RowF (l ++ m) (m.foldl pushL R)
  | [], l, R, h, _ => by simpa using h
  | x :: m, l, R, h, hm => by
    have := rowF_fold m (l ++ [x]) (pushL R x) (rowF_push h x (hm x (by simp))) (fun y hy => hm y (by simp [hy]))
    simpa using this
theorem rowF_rows (l : List Int) (h : ∀ x ∈ l, x = 0 ∨ x = 1) : RowF l (rowsA [] l) := by
  have := rowF_fold l [] [] rowF_nil h
  simpa [rowsA] using this
theorem rowF_chk {l : List Int} {R : List Run} (h : RowF l R) (node first : Int) (hp : okP node first = true) (hl : l.length ≤ 1000000) : chkS node first R = 0 := by
  obtain ⟨h1, h2, h3, h4, h5, h6⟩ := h
  have hle : ∀ r ∈ R, r.N ≤ sumN R := by
    intro r hr
    obtain ⟨a, b, rfl⟩ := List.append_of_mem hr
    have ha := sumN_ge a (fun x hx => h4 x (by simp [hx]))
    have hb := sumN_ge b (fun x hx => h4 x (by simp [hx]))
    rw [sumN_app]; simp only [sumN]; omega
  have hall : R.all okR = true := by
    rw [List.all_eq_true]
    intro r hr
    have a1 := h4 r hr
    have a2 := hle r hr
    unfold okR
    simp only [Bool.and_eq_true, decide_eq_true_eq]
    rcases h5 r hr with q | q <;> omega
  unfold chkS
  rw [if_pos ⟨hp, hall⟩, if_neg (by omega)]
/-! ### drive.Frame -/
theorem dframe_place (node first : Int) (f : Fr) (h : okP node first = false) : call E (.func (.func 10) [] []) [.lit (.int .i64 node), .lit (.int .i64 first), .agg (encFr f)] [] = some (.tup [.agg [.lit (.int .i64 0), .lit (.int .i64 0), nilS], .lit (.int .i64 10)], []) := by
  rw [call_func E E10]
  have hP := place_spec node first
  rw [h] at hP
  simp [go_sem, ir10, encFr, u8v, hP, nilS, purse_eq, List.range_succ]
theorem dframe_err (node first : Int) (f : Fr) (h : okP node first = true) (hc : checkP f ≠ 0) : call E (.func (.func 10) [] []) [.lit (.int .i64 node), .lit (.int .i64 first), .agg (encFr f)] [] = some (.tup [.agg [.lit (.int .i64 0), .lit (.int .i64 0), nilS], .lit (.int .i64 (checkP f))], []) := by
  rw [call_func E E10]
  have hP := place_spec node first
  rw [h] at hP
  have hE := encode_err f hc false
  generalize checkP f = c at *
  simp [encFr, u8v, nilS] at hE
  simp [go_sem, ir10, encFr, u8v, hP, hE, hc, nilS, purse_eq, List.range_succ]
theorem rows_ne {l : List Int} (h : l ≠ []) : rowsA [] l ≠ [] := by
  rcases List.eq_nil_or_concat l with q | ⟨o, x, q⟩
  · exact absurd q h
  · subst q
    rw [List.concat_eq_append]
    have e : rowsA [] (o ++ [x]) = pushL (rowsA [] o) x := by unfold rowsA; rw [List.foldl_append]; rfl
    rw [e]
    rcases List.eq_nil_or_concat (rowsA [] o) with q | ⟨o2, r, q⟩
    · rw [q, pushL_nil]; simp
    · rw [q, List.concat_eq_append, pushL_snoc]; split <;> simp
theorem encodeP_length (f : Fr) (ack : Bool) : (encodeP f ack).length ≤ 400 ∧ 10 ≤ (encodeP f ack).length := by
  obtain ⟨hl1, hl2⟩ := bitsP_length f
  have hbl := bitsOf_length 15 (c15L (bitsP f))
  have hsl := addS_len (bitsP f ++ bitsOf 15 (c15L (bitsP f))) [] 0
  rw [show addS [] 0 (bitsP f ++ bitsOf 15 (c15L (bitsP f))) = stuffP (bitsP f ++ bitsOf 15 (c15L (bitsP f))) from rfl] at hsl
  have hr : (encodeP f ack).length = (rowP f).length := by unfold encodeP; split <;> simp
  rw [hr]
  unfold rowP
  simp only [List.length_append, List.length_replicate, List.length_nil, hbl] at hsl ⊢
  omega
theorem dframe_spec (node first : Int) (f : Fr) (hf : f.Ok) (h : okP node first = true) (hc : checkP f = 0) : call E (.func (.func 10) [] []) [.lit (.int .i64 node), .lit (.int .i64 first), .agg (encFr f)] []
    = some (.tup [.agg [.lit (.int .i64 node), .lit (.int .i64 first), .own 0 (rowsA [] ((encodeP f false).map lv)).length 3 0 (rowsA [] ((encodeP f false).map lv)).length], .lit (.int .i64 0)], [.arr true false false 3 ((rowsA [] ((encodeP f false).map lv)).map encRun)]) := by
  rw [call_func E E10]
  have hP := place_spec node first
  rw [h] at hP
  have hE := encode_spec f hf hc false
  have hlen := encodeP_length f false
  have hR := rows_spec ((encodeP f false).map lv) (by simp; omega) false false
  have hne : rowsA [] ((encodeP f false).map lv) ≠ [] := rows_ne (by intro q; have := congrArg List.length q; simp at this; rw [this] at hlen; simp at hlen)
  rw [show ((encodeP f false).map lv).map encI = (encodeP f false).map encLv from lv_encI _] at hR
  generalize rowsA [] ((encodeP f false).map lv) = R at *
  generalize encodeP f false = W at *
  simp [encFr, u8v, nilS] at hE
  simp [resV, resH, hne] at hR
  simp [go_sem, ir10, encFr, u8v, hP, hE, hR, nilS, purse_eq, List.range_succ]
end Go.AM.R1
open Go Go.AM Go.Proofs
namespace Go.AM.R1
theorem awake22 : call E (.func (.func 12) [] []) [] [] = some (.lit (.bool true), []) :=
  (call_iff E).2 ⟨3000, by kernel_rfl⟩
end Go.AM.R1
open Go Go.AM
namespace Go.AM.R1
theorem dfl_loop0 (W : List Bool) (R : List Run) (hRF : RowF (W.map lv) R) (hl : W.length ≤ 1000) (node first : Int) (hok : okP node first = true) (hRl : R.length ≤ 1000) (lr : Bool) (k : List Item) (Q : Option (AVal × Heap))
    (hk : ∀ τ, lk 7 τ = .ptr 2 0 → finK 0 [.tmp 6] (run E 0 k τ [.dead, .arr true true false 3 (R.map encRun), .box [.lit (.int .i64 node), .lit (.int .i64 first), .own 1 R.length 3 0 R.length], .arr true lr false 1 (W.map encLv)]) = Q) :
    ∀ (d i : Nat), i + d = W.length →
    finK 0 [.tmp 6] (run E 0 (.code L3_0 :: .inLoop [1, 7, 9, 11] L3_0 :: .inBlock 0 :: k) [(1, .lit (.int .i64 first)), (7, .ptr 2 0), (9, .own 3 W.length 1 0 W.length), (11, .lit (.int .i64 i))] [.dead, .arr true true false 3 (R.map encRun), .box [.lit (.int .i64 node), .lit (.int .i64 first), .own 1 R.length 3 0 R.length], .arr true lr false 1 (W.map encLv)]) = Q := by
  intro d
  induction d with
  | zero =>
    intro i hi
    have : i = W.length := by omega
    subst this
    simp [go_sem, run_codeL E L3_0.eq_1]
    exact hk _ rfl
  | succ d ih =>
    intro i hi
    have hlt : i < W.length := by omega
    have w := wrapIdx (i := i) (by omega)
    have hf : 0 ≤ first ∧ first ≤ 1073741824 := by simp [okP] at hok; omega
    have wf : IntKind.wrap .i64 (first + (i : Int)) = first + i := wrap64 (by omega) (by omega)
    have hA := sat_spec node first R (by omega) false false (first + i) (by omega)
    have hat : atS node first R (first + i) = lv W[i] := by
      unfold atS
      rw [if_neg (by rintro (q | q); exact q (rowF_chk hRF node first hok (by simp; omega)); omega), show first + (i : Int) - first = i from by omega, hRF.at_ i (by simpa using hlt)]
      simp
    rw [hat] at hA
    have hr := rowsR R
    have ih2 := ih (i + 1) (by omega)
    simp [encScr] at ih2 w hA
    simp [go_sem, run_codeL E L3_0.eq_1, hlt, List.getElem?_eq_getElem hlt, encLv, w, wf, hA, purse_eq, List.range_succ]
    rw [run_inLoop']
    simp [go_sem, purse_eq, List.range_succ]
    exact ih2
theorem dfl_loop1 (R : List Run) (hadj : ∀ (i : Nat) (a b : Run), R[i]? = some a → R[i + 1]? = some b → b.Bus ≠ a.Bus) (node first : Int) (hRl : R.length ≤ 1000) (k : List Item) (Q : Option (AVal × Heap))
    (hk : ∀ τ, finK 0 [.tmp 6] (run E 0 k τ [.dead, .arr true true false 3 (R.map encRun), .box [.lit (.int .i64 node), .lit (.int .i64 first), .own 1 R.length 3 0 R.length]]) = Q) :
    ∀ (d i : Nat), i + d = R.length → 1 ≤ i →
    finK 0 [.tmp 6] (run E 0 (.code L3_1 :: .inLoop [7, 12] L3_1 :: .inBlock 2 :: k) [(7, .ptr 2 0), (12, .lit (.int .i64 i))] [.dead, .arr true true false 3 (R.map encRun), .box [.lit (.int .i64 node), .lit (.int .i64 first), .own 1 R.length 3 0 R.length]]) = Q := by
  intro d
  induction d with
  | zero =>
    intro i hi h1
    have : i = R.length := by omega
    subst this
    simp [go_sem, run_codeL E L3_1.eq_1, purse_eq, List.range_succ]
    exact hk _
  | succ d ih =>
    intro i hi h1
    have hlt : i < R.length := by omega
    have hlt' : i - 1 < R.length := by omega
    have w := wrapIdx (i := i) (by omega)
    have w1 : IntKind.wrap .i64 ((i : Int) - 1) = ((i - 1 : Nat) : Int) := by rw [wrap64 (by omega) (by omega)]; omega
    have hne := hadj (i - 1) R[i - 1] R[i] (List.getElem?_eq_getElem hlt') (by rw [show i - 1 + 1 = i from by omega]; exact List.getElem?_eq_getElem hlt)
    have ih2 := ih (i + 1) (by omega) (by omega)
    generalize i - 1 = j at *
    simp at ih2 w
    simp [go_sem, run_codeL E L3_1.eq_1, hlt, hlt', List.getElem?_eq_getElem hlt, List.getElem?_eq_getElem hlt', encRun, w, w1, hne, purse_eq, List.range_succ]
    rw [run_inLoop']
    simp [go_sem, purse_eq, List.range_succ]
    simpa [encRun] using ih2
set_option maxHeartbeats 4000000 in
theorem driveFrames_spec (node first : Int) (hn : -9223372036854775808 ≤ node ∧ node ≤ 9223372036854775807) (hfi : -9223372036854775808 ≤ first ∧ first ≤ 9223372036854775807) (f : Fr) (hf : f.Ok) :
    call E (.func (.func 3) [] []) [.lit (.int .i64 node), .lit (.int .i64 first), .agg (encFr f)] [] = some (.lit (.bool true), []) := by
  rw [call_func E E3]
  have hS0 := same22_spec 0 0 [] true true 0 0 [] true true (by simp)
  simp [encScr] at hS0
  by_cases hok : okP node first = true
  · have hb : (0 ≤ node ∧ node ≤ 31) ∧ (0 ≤ first ∧ first ≤ 1073741824) := by simp [okP] at hok; omega
    have b1 : ¬ node < 0 := by omega
    have b2 : ¬ 31 < node := by omega
    have b3 : ¬ first < 0 := by omega
    have b4 : ¬ 1073741824 < first := by omega
    by_cases hc : checkP f = 0
    · have hD := dframe_spec node first f hf hok hc
      have hE := encode_spec f hf hc false
      obtain ⟨hl1, hl2⟩ := encodeP_length f false
      have hRF : RowF ((encodeP f false).map lv) (rowsA [] ((encodeP f false).map lv)) := rowF_rows _ (by
        intro x hx
        obtain ⟨b, -, rfl⟩ := List.mem_map.1 hx
        cases b
        · exact .inl rfl
        · exact .inr rfl)
      have hne : rowsA [] ((encodeP f false).map lv) ≠ [] := rows_ne (by intro q; have := congrArg List.length q; simp at this; rw [this] at hl2; simp at hl2)
      generalize rowsA [] ((encodeP f false).map lv) = R at *
      generalize encodeP f false = W at *
      have hsg := sumN_ge R hRF.pos
      have hsum := hRF.sum
      simp only [List.length_map] at hsum
      have hRl : R.length ≤ 1000 := by omega
      have hck := rowF_chk hRF node first hok (by simp; omega)
      have hEn := sends_spec node first R (by omega) false false
      have hend : endsS node first R = first + W.length := by unfold endsS; rw [if_neg (by simp [hck]), hsum]
      have hA1 := sat_spec node first R (by omega) false false (first - 1) (by omega)
      have ha1 : atS node first R (first - 1) = 1 := by unfold atS; rw [if_pos (.inr (by omega))]
      have hA2 := sat_spec node first R (by omega) false false (first + W.length) (by omega)
      have ha2 : atS node first R (first + W.length) = 1 := by
        unfold atS
        rw [if_neg (by rintro (q | q); exact q hck; omega), hRF.beyond _ (by simp; omega)]
      have hCk := scheck_spec node first R (by omega) false false
      rw [hend] at hEn
      rw [ha1] at hA1
      rw [ha2] at hA2
      rw [hck] at hCk
      have w1 : IntKind.wrap .i64 (first + (W.length : Int)) = first + W.length := wrap64 (by omega) (by omega)
      have w2 : IntKind.wrap .i64 (first - 1) = first - 1 := wrap64 (by omega) (by omega)
      have hRp : 1 ≤ R.length := List.length_pos_iff.2 hne
      simp [encFr, u8v, nilS] at hD hE
      simp [encScr] at hEn hA1 hA2 hCk
      simp [go_sem, ir3, encFr, u8v, hD, hE, b1, b2, b3, b4, hEn, hA1, hA2, hCk, w1, w2, nilS, purse_eq, List.range_succ]
      rw [run_inLoop']
      simp [go_sem, purse_eq, List.range_succ]
      refine dfl_loop0 W R hRF (by omega) node first hok hRl false _ _ ?_ W.length 0 (by omega)
      intro τ t7
      simp [go_sem, t7, purse_eq, List.range_succ]
      rw [run_inLoop']
      simp [go_sem, t7, purse_eq, List.range_succ]
      refine dfl_loop1 R hRF.adj node first hRl _ _ ?_ (R.length - 1) 1 (by omega) (by omega)
      intro τ
      simp [go_sem, awake22, purse_eq, List.range_succ]
    · have hD := dframe_err node first f hok hc
      have hE := encode_err f hc false
      generalize checkP f = c at *
      simp [encFr, u8v, nilS] at hD hE
      simp [go_sem, ir3, encFr, u8v, hD, hE, hc, b1, b2, b3, b4, hS0, awake22, nilS, purse_eq, List.range_succ]
  · have hok' : okP node first = false := by simpa using hok
    have hD := dframe_place node first f hok'
    have hb : node < 0 ∨ 31 < node ∨ first < 0 ∨ 1073741824 < first := by
      apply Classical.byContradiction
      intro q
      apply hok
      simp only [okP, Bool.and_eq_true, decide_eq_true_eq]
      omega
    simp [encFr, u8v, nilS] at hD
    by_cases b1 : node < 0
    · simp [go_sem, ir3, encFr, u8v, hD, b1, hS0, awake22, nilS, purse_eq, List.range_succ]
    · by_cases b2 : 31 < node
      · simp [go_sem, ir3, encFr, u8v, hD, b1, b2, hS0, awake22, nilS, purse_eq, List.range_succ]
      · by_cases b3 : first < 0
        · simp [go_sem, ir3, encFr, u8v, hD, b1, b2, b3, hS0, awake22, nilS, purse_eq, List.range_succ]
        · have b4 : 1073741824 < first := by omega
          simp [go_sem, ir3, encFr, u8v, hD, b1, b2, b3, b4, hS0, awake22, nilS, purse_eq, List.range_succ]
end Go.AM.R1
open Go Go.AM Go.Proofs
namespace Go.AM.R1

section
variable {H : Type} {P : Program}
theorem decV_int {n : Nat} {t : TypeId} {ik : IntKind} (hu : P.underlying t = some (.int ik)) {d : DataW H} {a : AVal} (h : DecV P (n + 1) t d a) :
    ∃ v, d = .lit (.int ik v) ∧ (Lit.int ik v).wf = true ∧ a = .lit (.int ik v) := by
  unfold DecV at h
  rw [if_neg (by simp [isAggT, hu])] at h
  simp only [Dec, hu] at h
  obtain ⟨v, h1, h2, h3⟩ := h
  exact ⟨v, h1, h2, by simpa using h3⟩
theorem all2_forall {α β : Type} {R : α → β → Prop} {Q : β → Prop} (h : ∀ a b, R a b → Q b) : ∀ {l : List α} {m : List β}, All2 R l m → ∀ b ∈ m, Q b
  | [], [], _, b, hb => by cases hb
  | [], _ :: _, h', _, _ => h'.elim
  | _ :: _, [], h', _, _ => h'.elim
  | a :: r, c :: s, h', b, hb => by
    rcases List.mem_cons.1 hb with rfl | hb
    · exact h _ _ h'.1
    · exact all2_forall h h'.2 b hb
theorem all2_length {α β : Type} {R : α → β → Prop} : ∀ {l : List α} {m : List β}, All2 R l m → l.length = m.length
  | [], [], _ => rfl
  | [], _ :: _, h' => h'.elim
  | _ :: _, [], h' => h'.elim
  | a :: r, c :: s, h' => by simp [all2_length h'.2]
/-- Rows that are all of a form. -/
theorem rows_map {α : Type} (f : α → List AVal) (Q : α → Prop) : ∀ {rows : List (List AVal)}, (∀ r ∈ rows, ∃ x, r = f x ∧ Q x) → ∃ l : List α, rows = l.map f ∧ ∀ x ∈ l, Q x
  | [], _ => ⟨[], rfl, by simp⟩
  | r :: s, h => by
    obtain ⟨x, hx, hq⟩ := h r (by simp)
    obtain ⟨l, hl, hl2⟩ := rows_map f Q (rows := s) fun y hy => h y (by simp [hy])
    exact ⟨x :: l, by rw [hx, hl]; rfl, fun y hy => by rcases List.mem_cons.1 hy with rfl | hy <;> simp_all⟩

theorem wf64 {v : Int} (h : (Lit.int .i64 v).wf = true) : -9223372036854775808 ≤ v ∧ v ≤ 9223372036854775807 := by
  simpa [Lit.wf, IntKind.min, IntKind.max, IntKind.signed, IntKind.bits] using h
theorem wfu32 {v : Int} (h : (Lit.int .u32 v).wf = true) : 0 ≤ v ∧ v ≤ 4294967295 := by
  simpa [Lit.wf, IntKind.min, IntKind.max, IntKind.signed, IntKind.bits] using h

theorem fieldsR_cons {α β : Type} {R : TypeId → α → β → Prop} {f : Field} {fs : List Field} : ∀ {l : List α} {m : List β}, FieldsR R (f :: fs) l m → ∃ a r b s, l = a :: r ∧ m = b :: s ∧ R f.type a b ∧ FieldsR R fs r s
  | [], _, h => h.elim
  | _ :: _, [], h => h.elim
  | a :: r, b :: s, h => ⟨a, r, b, s, rfl, rfl, h.1, h.2⟩
theorem fieldsR_nil {α β : Type} {R : TypeId → α → β → Prop} : ∀ {l : List α} {m : List β}, FieldsR R [] l m → l = [] ∧ m = []
  | [], [], _ => ⟨rfl, rfl⟩
  | [], _ :: _, h => h.elim
  | _ :: _, _, h => h.elim
theorem decArgs_cons {k : Nat} {t : TypeId} {ts : List TypeId} : ∀ {ds : List (DataW H)} {cs : List AVal}, DecArgs P k (t :: ts) ds cs → ∃ d r b s, ds = d :: r ∧ cs = b :: s ∧ DecV P k t d b ∧ DecArgs P k ts r s
  | [], _, h => h.elim
  | _ :: _, [], h => h.elim
  | d :: r, b :: s, h => ⟨d, r, b, s, rfl, rfl, h.1, h.2⟩
theorem decArgs_nil {k : Nat} : ∀ {ds : List (DataW H)} {cs : List AVal}, DecArgs P k [] ds cs → ds = [] ∧ cs = []
  | [], [], _ => ⟨rfl, rfl⟩
  | [], _ :: _, h => h.elim
  | _ :: _, _, h => h.elim
structure IsRun (P : Program) (t : TypeId) where
  f1 : Field
  f2 : Field
  f3 : Field
  hu : P.underlying t = some (.struct #[f1, f2, f3])
  h1 : P.underlying f1.type = some (.int .i64)
  h2 : P.underlying f2.type = some (.int .i64)
  h3 : P.underlying f3.type = some (.int .u32)
def Run.Fit (r : Run) : Prop := (-9223372036854775808 ≤ r.N ∧ r.N ≤ 9223372036854775807) ∧ (-9223372036854775808 ≤ r.Bus ∧ r.Bus ≤ 9223372036854775807) ∧ (0 ≤ r.Drive ∧ r.Drive ≤ 4294967295)
theorem dec_run {n : Nat} {t : TypeId} (i : IsRun P t) {d : DataW H} {cs : List AVal} (h : Dec P (n + 2) t d cs) : ∃ r : Run, cs = encRun r ∧ r.Fit := by
  simp only [Dec, i.hu] at h
  obtain ⟨parts, ass, -, rfl, hf⟩ := h
  obtain ⟨p1, ps1, a1, as1, rfl, rfl, r1, hf⟩ := fieldsR_cons hf
  obtain ⟨p2, ps2, a2, as2, rfl, rfl, r2, hf⟩ := fieldsR_cons hf
  obtain ⟨p3, ps3, a3, as3, rfl, rfl, r3, hf⟩ := fieldsR_cons hf
  obtain ⟨rfl, rfl⟩ := fieldsR_nil hf
  simp only [Dec, i.h1, i.h2, i.h3] at r1 r2 r3
  obtain ⟨v1, -, w1, rfl⟩ := r1
  obtain ⟨v2, -, w2, rfl⟩ := r2
  obtain ⟨v3, -, w3, rfl⟩ := r3
  exact ⟨⟨v1, v2, v3⟩, rfl, wf64 w1, wf64 w2, wfu32 w3⟩
theorem dec_runs {n : Nat} {t e : TypeId} (hu : P.underlying t = some (.slice e)) (i : IsRun P e) {d : DataW H} {a : AVal} (h : DecV P (n + 3) t d a) :
    ∃ (nl fu : Bool) (l : List Run), a = .imm nl fu true (l.map encRun) ∧ ∀ r ∈ l, r.Fit := by
  unfold DecV at h
  rw [if_neg (by simp [isAggT, hu])] at h
  rw [Dec, hu] at h
  rcases h with ⟨-, h⟩ | ⟨elems, spare, rows, -, h, h2, h3⟩
  · exact ⟨true, true, [], by simpa [nilS] using h, by simp⟩
  · obtain ⟨l, rfl, hl⟩ := rows_map encRun Run.Fit (all2_forall (Q := fun b => ∃ r : Run, b = encRun r ∧ r.Fit) (fun a b hab => dec_run i hab) h2)
    exact ⟨false, false, l, by simpa using h, hl⟩
theorem all2_flat {α : Type} (f : α → List AVal) (Q : α → Prop) {R : DataW H → List AVal → Prop} (h : ∀ d a, R d a → ∃ x, a = f x ∧ Q x) :
    ∀ {ds : List (DataW H)} {ass : List (List AVal)}, All2 R ds ass → ∃ l : List α, l.length = ds.length ∧ ass = l.map f ∧ ∀ x ∈ l, Q x
  | [], [], _ => ⟨[], rfl, rfl, by simp⟩
  | [], _ :: _, h' => h'.elim
  | _ :: _, [], h' => h'.elim
  | d :: ds, a :: ass, h' => by
    obtain ⟨x, hx, hq⟩ := h _ _ h'.1
    obtain ⟨l, h1, h2, h3⟩ := all2_flat f Q h h'.2
    exact ⟨x :: l, by simp [h1], by rw [hx, h2]; rfl, fun y hy => by rcases List.mem_cons.1 hy with rfl | hy <;> simp_all⟩
theorem decV_ints {n m : Nat} {t e : TypeId} {ik : IntKind} (hu : P.underlying t = some (.array m e)) (he : P.underlying e = some (.int ik)) {d : DataW H} {a : AVal} (h : DecV P (n + 2) t d a) :
    ∃ l : List Int, l.length = m ∧ a = .agg (l.map fun v => .lit (.int ik v)) ∧ ∀ v ∈ l, (Lit.int ik v).wf = true := by
  unfold DecV at h
  rw [if_pos (by simp [isAggT, hu])] at h
  obtain ⟨cs, rfl, h⟩ := h
  rw [Dec, hu] at h
  obtain ⟨parts, ass, -, rfl, hm, h2⟩ := h
  obtain ⟨l, h3, rfl, h5⟩ := all2_flat (fun v => [AVal.lit (.int ik v)]) (fun v => (Lit.int ik v).wf = true) (fun d a hda => by
    simp only [Dec, he] at hda
    obtain ⟨v, -, hw, rfl⟩ := hda
    exact ⟨v, rfl, hw⟩) h2
  refine ⟨l, by omega, ?_, h5⟩
  congr 1
  clear h5 h3 h2
  induction l with
  | nil => rfl
  | cons x r ih => simp [ih]
end
end Go.AM.R1
open Go Go.AM Go.Proofs
namespace Go.AM.R1
section
variable {H : Type} {P : Program}
theorem dec_runs' {n : Nat} {t e : TypeId} (hu : P.underlying t = some (.slice e)) (i : IsRun P e) {d : DataW H} {cs : List AVal} (h : Dec P (n + 3) t d cs) :
    ∃ (nl fu : Bool) (l : List Run), cs = [.imm nl fu true (l.map encRun)] ∧ ∀ r ∈ l, r.Fit := by
  rw [Dec, hu] at h
  rcases h with ⟨-, h⟩ | ⟨elems, spare, rows, -, h, h2, h3⟩
  · exact ⟨true, true, [], by simpa [nilS] using h, by simp⟩
  · obtain ⟨l, rfl, hl⟩ := rows_map encRun Run.Fit (all2_forall (Q := fun b => ∃ r : Run, b = encRun r ∧ r.Fit) (fun a b hab => dec_run i hab) h2)
    exact ⟨false, false, l, h, hl⟩
theorem decV_block {n : Nat} {t e : TypeId} {f1 f2 : Field} (hu : P.underlying t = some (.struct #[f1, f2])) (h1 : P.underlying f1.type = some (.int .i64)) (h2 : P.underlying f2.type = some (.slice e)) (i : IsRun P e)
    {d : DataW H} {a : AVal} (h : DecV P (n + 4) t d a) : ∃ (first : Int) (nl fu : Bool) (l : List Run), a = .agg (encBlk first l nl fu) ∧ (Lit.int .i64 first).wf = true ∧ ∀ r ∈ l, r.Fit := by
  unfold DecV at h
  rw [if_pos (by simp [isAggT, hu])] at h
  obtain ⟨cs, rfl, h⟩ := h
  rw [Dec, hu] at h
  obtain ⟨parts, ass, -, rfl, hf⟩ := h
  obtain ⟨p1, ps1, a1, as1, rfl, rfl, r1, hf⟩ := fieldsR_cons hf
  obtain ⟨p2, ps2, a2, as2, rfl, rfl, r2, hf⟩ := fieldsR_cons hf
  obtain ⟨rfl, rfl⟩ := fieldsR_nil hf
  simp only [Dec, h1] at r1
  obtain ⟨v1, -, w1, rfl⟩ := r1
  obtain ⟨nl, fu, l, rfl, hl⟩ := dec_runs' h2 i r2
  exact ⟨v1, nl, fu, l, rfl, w1, hl⟩
/-- Bytes. -/
theorem decV_bytes {n : Nat} {t e : TypeId} (hu : P.underlying t = some (.slice e)) (he : P.underlying e = some (.int .u8)) {d : DataW H} {a : AVal} (h : DecV P (n + 2) t d a) :
    ∃ (nl fu : Bool) (l : List Nat), a = .imm nl fu true (l.map encB) ∧ (nl = false ∨ l = []) ∧ ∀ c ∈ l, c < 256 := by
  unfold DecV at h
  rw [if_neg (by simp [isAggT, hu])] at h
  rw [Dec, hu] at h
  rcases h with ⟨-, h⟩ | ⟨elems, spare, rows, -, h, h2, h3⟩
  · exact ⟨true, true, [], by simpa [nilS] using h, .inr rfl, by simp⟩
  · obtain ⟨l, rfl, hl⟩ := rows_map encB (fun c => c < 256) (all2_forall (Q := fun b => ∃ c : Nat, b = encB c ∧ c < 256) (fun a b hab => by
      simp only [Dec, he] at hab
      obtain ⟨v, -, hw, rfl⟩ := hab
      have hv : 0 ≤ v ∧ v ≤ 255 := by simpa [Lit.wf, IntKind.min, IntKind.max, IntKind.signed, IntKind.bits] using hw
      refine ⟨v.toNat, ?_, by omega⟩
      unfold encB
      rw [show ((v.toNat : Nat) : Int) = v from by omega]) h2)
    exact ⟨false, false, l, by simpa using h, .inl rfl, hl⟩
end
end Go.AM.R1
open Go Go.AM Go.Proofs
namespace Go.AM.R1
section
variable {H : Type} {P : Program}
structure IsScr (P : Program) (t : TypeId) where
  f1 : Field
  f2 : Field
  f3 : Field
  e : TypeId
  hu : P.underlying t = some (.struct #[f1, f2, f3])
  h1 : P.underlying f1.type = some (.int .i64)
  h2 : P.underlying f2.type = some (.int .i64)
  h3 : P.underlying f3.type = some (.slice e)
  i : IsRun P e
structure Scr where
  node : Int
  first : Int
  runs : List Run
  nl : Bool
  fu : Bool
def encS (s : Scr) : List AVal := encScr s.node s.first s.runs s.nl s.fu
def Scr.Fit (s : Scr) : Prop := (-9223372036854775808 ≤ s.node ∧ s.node ≤ 9223372036854775807) ∧ (-9223372036854775808 ≤ s.first ∧ s.first ≤ 9223372036854775807) ∧ ∀ r ∈ s.runs, r.Fit
theorem dec_scr {n : Nat} {t : TypeId} (i : IsScr P t) {d : DataW H} {cs : List AVal} (h : Dec P (n + 4) t d cs) : ∃ s : Scr, cs = encS s ∧ s.Fit := by
  rw [Dec, i.hu] at h
  obtain ⟨parts, ass, -, rfl, hf⟩ := h
  obtain ⟨p1, ps1, a1, as1, rfl, rfl, r1, hf⟩ := fieldsR_cons hf
  obtain ⟨p2, ps2, a2, as2, rfl, rfl, r2, hf⟩ := fieldsR_cons hf
  obtain ⟨p3, ps3, a3, as3, rfl, rfl, r3, hf⟩ := fieldsR_cons hf
  obtain ⟨rfl, rfl⟩ := fieldsR_nil hf
  simp only [Dec, i.h1, i.h2] at r1 r2
  obtain ⟨v1, -, w1, rfl⟩ := r1
  obtain ⟨v2, -, w2, rfl⟩ := r2
  obtain ⟨nl, fu, l, rfl, hl⟩ := dec_runs' i.h3 i.i r3
  exact ⟨⟨v1, v2, l, nl, fu⟩, rfl, wf64 w1, wf64 w2, hl⟩
theorem decV_scr {n : Nat} {t : TypeId} (i : IsScr P t) {d : DataW H} {a : AVal} (h : DecV P (n + 4) t d a) : ∃ s : Scr, a = .agg (encS s) ∧ s.Fit := by
  unfold DecV at h
  rw [if_pos (by simp [isAggT, i.hu])] at h
  obtain ⟨cs, rfl, h⟩ := h
  obtain ⟨s, rfl, hs⟩ := dec_scr i h
  exact ⟨s, rfl, hs⟩
/-- Rows of scripts. -/
theorem decV_scrs {n : Nat} {t e : TypeId} (hu : P.underlying t = some (.slice e)) (i : IsScr P e) {d : DataW H} {a : AVal} (h : DecV P (n + 5) t d a) :
    ∃ (nl fu : Bool) (l : List Scr), a = .imm nl fu true (l.map encS) ∧ ∀ r ∈ l, r.Fit := by
  unfold DecV at h
  rw [if_neg (by simp [isAggT, hu])] at h
  rw [Dec, hu] at h
  rcases h with ⟨-, h⟩ | ⟨elems, spare, rows, -, h, h2, h3⟩
  · exact ⟨true, true, [], by simpa [nilS] using h, by simp⟩
  · obtain ⟨l, rfl, hl⟩ := rows_map encS Scr.Fit (all2_forall (Q := fun b => ∃ r : Scr, b = encS r ∧ r.Fit) (fun a b hab => dec_scr i hab) h2)
    exact ⟨false, false, l, by simpa using h, hl⟩
end
end Go.AM.R1
open Go Go.AM Go.Proofs
namespace Go.AM.R1
section
variable {H : Type} {P : Program}
/-- A row of runs, as it is handed over. -/
structure RowV where
  nl : Bool
  fu : Bool
  l : List Run
def encRow (r : RowV) : List AVal := [.imm r.nl r.fu true (r.l.map encRun)]
def RowV.Fit (r : RowV) : Prop := (∀ x ∈ r.l, x.Fit) ∧ r.l.length ≤ 9223372036854775807
theorem dec_row {n : Nat} {t e : TypeId} (hu : P.underlying t = some (.slice e)) (i : IsRun P e) {d : DataW H} {cs : List AVal} (h : Dec P (n + 3) t d cs) :
    ∃ r : RowV, cs = encRow r ∧ r.Fit := by
  rw [Dec, hu] at h
  rcases h with ⟨-, h⟩ | ⟨elems, spare, rows, -, h, h2, h3⟩
  · exact ⟨⟨true, true, []⟩, by simpa [nilS, encRow] using h, by simp, by simp⟩
  · obtain ⟨l, rfl, hl⟩ := rows_map encRun Run.Fit (all2_forall (Q := fun b => ∃ r : Run, b = encRun r ∧ r.Fit) (fun a b hab => dec_run i hab) h2)
    exact ⟨⟨false, false, l⟩, h, hl, by simpa [maxLen] using h3⟩
theorem dec_rows {n : Nat} {t s e : TypeId} (ht : P.underlying t = some (.slice s)) (hu : P.underlying s = some (.slice e)) (i : IsRun P e) {d : DataW H} {cs : List AVal} (h : Dec P (n + 4) t d cs) :
    ∃ (nl fu : Bool) (l : List RowV), cs = [.imm nl fu true (l.map encRow)] ∧ (∀ r ∈ l, r.Fit) ∧ l.length ≤ 9223372036854775807 := by
  rw [Dec, ht] at h
  rcases h with ⟨-, h⟩ | ⟨elems, spare, rows, -, h, h2, h3⟩
  · exact ⟨true, true, [], by simpa [nilS] using h, by simp, by simp⟩
  · obtain ⟨l, rfl, hl⟩ := rows_map encRow RowV.Fit (all2_forall (Q := fun b => ∃ r : RowV, b = encRow r ∧ r.Fit) (fun a b hab => dec_row hu i hab) h2)
    exact ⟨false, false, l, h, hl, by simpa [maxLen] using h3⟩
theorem decV_rows {n : Nat} {t s e : TypeId} (ht : P.underlying t = some (.slice s)) (hu : P.underlying s = some (.slice e)) (i : IsRun P e) {d : DataW H} {a : AVal} (h : DecV P (n + 4) t d a) :
    ∃ (nl fu : Bool) (l : List RowV), a = .imm nl fu true (l.map encRow) ∧ (∀ r ∈ l, r.Fit) ∧ l.length ≤ 9223372036854775807 := by
  unfold DecV at h
  rw [if_neg (by simp [isAggT, ht])] at h
  obtain ⟨nl, fu, l, h1, h2⟩ := dec_rows ht hu i h
  exact ⟨nl, fu, l, by simpa using h1, h2⟩
/-- Two lists of rows. -/
theorem decV_two {n : Nat} {t u s e : TypeId} (hh : P.underlying t = some (.array 2 u)) (ht : P.underlying u = some (.slice s)) (hu : P.underlying s = some (.slice e)) (i : IsRun P e) {d : DataW H} {a : AVal} (h : DecV P (n + 5) t d a) :
    ∃ (nl fu nl' fu' : Bool) (l m : List RowV), a = .agg [.imm nl fu true (l.map encRow), .imm nl' fu' true (m.map encRow)] ∧ ((∀ r ∈ l, r.Fit) ∧ l.length ≤ 9223372036854775807) ∧ ((∀ r ∈ m, r.Fit) ∧ m.length ≤ 9223372036854775807) := by
  unfold DecV at h
  rw [if_pos (by simp [isAggT, hh])] at h
  obtain ⟨cs, rfl, h⟩ := h
  rw [Dec, hh] at h
  obtain ⟨parts, ass, -, rfl, hm, h2⟩ := h
  match parts, ass, hm, h2 with
  | [p1, p2], [a1, a2], _, ⟨h1, h2, _⟩ =>
    obtain ⟨nl, fu, l, rfl, hl⟩ := dec_rows ht hu i h1
    obtain ⟨nl', fu', m, rfl, hm⟩ := dec_rows ht hu i h2
    exact ⟨nl, fu, nl', fu', l, m, rfl, hl, hm⟩
/-- A row of rows in a struct of one part. -/
theorem dec_act {n : Nat} {t e : TypeId} {f1 : Field} (hs : P.underlying t = some (.struct #[f1])) (hu : P.underlying f1.type = some (.slice e)) (i : IsRun P e) {d : DataW H} {cs : List AVal} (h : Dec P (n + 4) t d cs) :
    ∃ r : RowV, cs = encRow r ∧ r.Fit := by
  rw [Dec, hs] at h
  obtain ⟨parts, ass, -, rfl, hf⟩ := h
  obtain ⟨p1, ps1, a1, as1, rfl, rfl, r1, hf⟩ := fieldsR_cons hf
  obtain ⟨rfl, rfl⟩ := fieldsR_nil hf
  obtain ⟨r, rfl, hr⟩ := dec_row hu i r1
  exact ⟨r, by simp [encRow], hr⟩
theorem decV_acts {n : Nat} {t s e : TypeId} {f1 : Field} (ht : P.underlying t = some (.slice s)) (hs : P.underlying s = some (.struct #[f1])) (hu : P.underlying f1.type = some (.slice e)) (i : IsRun P e) {d : DataW H} {a : AVal} (h : DecV P (n + 5) t d a) :
    ∃ (nl fu : Bool) (l : List RowV), a = .imm nl fu true (l.map encRow) ∧ (∀ r ∈ l, r.Fit) ∧ l.length ≤ 9223372036854775807 := by
  unfold DecV at h
  rw [if_neg (by simp [isAggT, ht])] at h
  rw [Dec, ht] at h
  rcases h with ⟨-, h⟩ | ⟨elems, spare, rows, -, h, h2, h3⟩
  · exact ⟨true, true, [], by simpa [nilS] using h, by simp, by simp⟩
  · obtain ⟨l, rfl, hl⟩ := rows_map encRow RowV.Fit (all2_forall (Q := fun b => ∃ r : RowV, b = encRow r ∧ r.Fit) (fun a b hab => dec_act hs hu i hab) h2)
    exact ⟨false, false, l, by simpa using h, hl, by simpa [maxLen] using h3⟩
end
end Go.AM.R1
open Go Go.AM Go.Proofs
namespace Go.AM.R1
section
variable {H : Type} {P : Program}
/-- A struct of three numbers. -/
theorem decV_i3 {n : Nat} {t : TypeId} {f1 f2 f3 : Field} {k1 k2 k3 : IntKind} (hu : P.underlying t = some (.struct #[f1, f2, f3])) (h1 : P.underlying f1.type = some (.int k1)) (h2 : P.underlying f2.type = some (.int k2)) (h3 : P.underlying f3.type = some (.int k3))
    {d : DataW H} {a : AVal} (h : DecV P (n + 2) t d a) : ∃ (x y z : Int), a = .agg [.lit (.int k1 x), .lit (.int k2 y), .lit (.int k3 z)] ∧ (Lit.int k1 x).wf = true ∧ (Lit.int k2 y).wf = true ∧ (Lit.int k3 z).wf = true := by
  unfold DecV at h
  rw [if_pos (by simp [isAggT, hu])] at h
  obtain ⟨cs, rfl, h⟩ := h
  rw [Dec, hu] at h
  obtain ⟨parts, ass, -, rfl, hf⟩ := h
  obtain ⟨p1, ps1, a1, as1, rfl, rfl, r1, hf⟩ := fieldsR_cons hf
  obtain ⟨p2, ps2, a2, as2, rfl, rfl, r2, hf⟩ := fieldsR_cons hf
  obtain ⟨p3, ps3, a3, as3, rfl, rfl, r3, hf⟩ := fieldsR_cons hf
  obtain ⟨rfl, rfl⟩ := fieldsR_nil hf
  simp only [Dec, h1] at r1
  simp only [Dec, h2] at r2
  simp only [Dec, h3] at r3
  obtain ⟨v1, -, w1, rfl⟩ := r1
  obtain ⟨v2, -, w2, rfl⟩ := r2
  obtain ⟨v3, -, w3, rfl⟩ := r3
  exact ⟨v1, v2, v3, rfl, w1, w2, w3⟩
end
end Go.AM.R1
open Go Go.AM Go.Proofs
namespace Go.AM.R1
section
variable {H : Type} {P : Program}
/-- The types of a frame. -/
structure IsFr (P : Program) (t : TypeId) (f1 f2 f3 f4 f5 : Field) (e : TypeId) : Prop where
  hs : P.underlying t = some (.struct #[f1, f2, f3, f4, f5])
  h1 : P.underlying f1.type = some (.int .i64)
  h2 : P.underlying f2.type = some .bool
  h3 : P.underlying f3.type = some .bool
  h4 : P.underlying f4.type = some (.int .i64)
  h5 : P.underlying f5.type = some (.array 8 e)
  he : P.underlying e = some (.int .u8)
theorem wfu8 {v : Int} (h : (Lit.int .u8 v).wf = true) : 0 ≤ v ∧ v ≤ 255 := by
  simpa [Lit.wf, IntKind.min, IntKind.max, IntKind.signed, IntKind.bits] using h
theorem dec_frame {n : Nat} {t e : TypeId} {f1 f2 f3 f4 f5 : Field} (i : IsFr P t f1 f2 f3 f4 f5 e) {d : DataW H} {cs : List AVal} (h : Dec P (n + 3) t d cs) : ∃ f : Fr, cs = encFr f ∧ f.Ok := by
  rw [Dec, i.hs] at h
  obtain ⟨parts, ass, -, rfl, hf⟩ := h
  obtain ⟨p1, ps1, a1, as1, rfl, rfl, r1, hf⟩ := fieldsR_cons hf
  obtain ⟨p2, ps2, a2, as2, rfl, rfl, r2, hf⟩ := fieldsR_cons hf
  obtain ⟨p3, ps3, a3, as3, rfl, rfl, r3, hf⟩ := fieldsR_cons hf
  obtain ⟨p4, ps4, a4, as4, rfl, rfl, r4, hf⟩ := fieldsR_cons hf
  obtain ⟨p5, ps5, a5, as5, rfl, rfl, r5, hf⟩ := fieldsR_cons hf
  obtain ⟨rfl, rfl⟩ := fieldsR_nil hf
  simp only [Dec, i.h1] at r1
  simp only [Dec, i.h2] at r2
  simp only [Dec, i.h3] at r3
  simp only [Dec, i.h4] at r4
  rw [Dec, i.h5] at r5
  obtain ⟨v1, -, w1, rfl⟩ := r1
  obtain ⟨b2, -, rfl⟩ := r2
  obtain ⟨b3, -, rfl⟩ := r3
  obtain ⟨v4, -, w4, rfl⟩ := r4
  obtain ⟨pp, aa, -, rfl, hm, h2⟩ := r5
  obtain ⟨l, hl, rfl, hw⟩ := all2_flat (fun v => [AVal.lit (.int .u8 v)]) (fun v => (Lit.int .u8 v).wf = true) (fun d a hda => by
    simp only [Dec, i.he] at hda
    obtain ⟨v, -, hw, rfl⟩ := hda
    exact ⟨v, rfl, hw⟩) h2
  rw [hm] at hl
  match l, hl, hw with
  | [x0, x1, x2, x3, x4, x5, x6, x7], _, hw =>
    have y0 := wfu8 (hw x0 (by simp))
    have y1 := wfu8 (hw x1 (by simp))
    have y2 := wfu8 (hw x2 (by simp))
    have y3 := wfu8 (hw x3 (by simp))
    have y4 := wfu8 (hw x4 (by simp))
    have y5 := wfu8 (hw x5 (by simp))
    have y6 := wfu8 (hw x6 (by simp))
    have y7 := wfu8 (hw x7 (by simp))
    refine ⟨⟨v1, b2, b3, v4, x0.toNat, x1.toNat, x2.toNat, x3.toNat, x4.toNat, x5.toNat, x6.toNat, x7.toNat⟩, ?_, ⟨(wf64 w1).1, (wf64 w1).2, (wf64 w4).1, (wf64 w4).2, ?_⟩⟩
    · have e : ∀ v : Int, 0 ≤ v ∧ v ≤ 255 → u8v v.toNat = .lit (.int .u8 v) := fun v hv => by unfold u8v; rw [show ((v.toNat : Nat) : Int) = v from by omega]
      simp only [encFr, e x0 y0, e x1 y1, e x2 y2, e x3 y3, e x4 y4, e x5 y5, e x6 y6, e x7 y7]
      rfl
    · intro c hc
      simp only [Fr.bytes, List.mem_cons, List.not_mem_nil, or_false] at hc
      omega
theorem decV_frame {n : Nat} {t e : TypeId} {f1 f2 f3 f4 f5 : Field} (i : IsFr P t f1 f2 f3 f4 f5 e) {d : DataW H} {a : AVal} (h : DecV P (n + 3) t d a) : ∃ f : Fr, a = .agg (encFr f) ∧ f.Ok := by
  unfold DecV at h
  rw [if_pos (by simp [isAggT, i.hs])] at h
  obtain ⟨cs, rfl, h⟩ := h
  obtain ⟨f, rfl, hf⟩ := dec_frame i h
  exact ⟨f, rfl, hf⟩
/-- A row of frames. -/
theorem decV_frames {n : Nat} {s t e : TypeId} {f1 f2 f3 f4 f5 : Field} (hu : P.underlying s = some (.slice t)) (i : IsFr P t f1 f2 f3 f4 f5 e) {d : DataW H} {a : AVal} (h : DecV P (n + 4) s d a) :
    ∃ (nl fu : Bool) (l : List Fr), a = .imm nl fu true (l.map encFr) ∧ (∀ f ∈ l, f.Ok) ∧ l.length ≤ 9223372036854775807 := by
  unfold DecV at h
  rw [if_neg (by simp [isAggT, hu])] at h
  rw [Dec, hu] at h
  rcases h with ⟨-, h⟩ | ⟨elems, spare, rows, -, h, h2, h3⟩
  · exact ⟨true, true, [], by simpa [nilS] using h, by simp, by simp⟩
  · obtain ⟨l, rfl, hl⟩ := rows_map encFr Fr.Ok (all2_forall (Q := fun b => ∃ r : Fr, b = encFr r ∧ r.Ok) (fun a b hab => dec_frame i hab) h2)
    exact ⟨false, false, l, by simpa using h, hl, by simpa [maxLen] using h3⟩
/-- A row of numbers. -/
theorem dec_nums {n : Nat} {t e : TypeId} (hu : P.underlying t = some (.slice e)) (he : P.underlying e = some (.int .i64)) {d : DataW H} {cs : List AVal} (h : Dec P (n + 2) t d cs) :
    ∃ (nl fu : Bool) (l : List Int), cs = [.imm nl fu true (l.map encI)] ∧ (∀ x ∈ l, -9223372036854775808 ≤ x ∧ x ≤ 9223372036854775807) ∧ l.length ≤ 9223372036854775807 := by
  rw [Dec, hu] at h
  rcases h with ⟨-, h⟩ | ⟨elems, spare, rows, -, h, h2, h3⟩
  · exact ⟨true, true, [], by simpa [nilS] using h, by simp, by simp⟩
  · obtain ⟨l, rfl, hl⟩ := rows_map encI (fun x => -9223372036854775808 ≤ x ∧ x ≤ 9223372036854775807) (all2_forall (Q := fun b => ∃ x : Int, b = encI x ∧ (-9223372036854775808 ≤ x ∧ x ≤ 9223372036854775807)) (fun a b hab => by
      simp only [Dec, he] at hab
      obtain ⟨v, -, hw, rfl⟩ := hab
      exact ⟨v, rfl, wf64 hw⟩) h2)
    exact ⟨false, false, l, h, hl, by simpa [maxLen] using h3⟩
theorem decV_nums {n : Nat} {t e : TypeId} (hu : P.underlying t = some (.slice e)) (he : P.underlying e = some (.int .i64)) {d : DataW H} {a : AVal} (h : DecV P (n + 2) t d a) :
    ∃ (nl fu : Bool) (l : List Int), a = .imm nl fu true (l.map encI) ∧ (∀ x ∈ l, -9223372036854775808 ≤ x ∧ x ≤ 9223372036854775807) ∧ l.length ≤ 9223372036854775807 := by
  unfold DecV at h
  rw [if_neg (by simp [isAggT, hu])] at h
  obtain ⟨nl, fu, l, h1, h2⟩ := dec_nums hu he h
  exact ⟨nl, fu, l, by simpa using h1, h2⟩
end
end Go.AM.R1
open Go Go.AM Go.AM.R1 Go.Proofs
namespace Go.Proofs.Ytgolbdijmmeebaa
open Go.ChangeShapes Go.WideShapes Go.ChangeAt Go.RowKit
namespace driveFrames
theorem own : ownKnob Try.prog.godebug = none := by kernel_rfl
theorem laidOut : laidOutB Try.prog = true := by kernel_rfl
theorem mixed : Try.prog.follows .mixedOrders = true := by kernel_rfl
set_option maxRecDepth 100000 in
theorem contract (H : Type) (enc : TypeId × Value → H) (W : World) (base : Nat) (args : Array Value) (ds gs : List (DataW H)) (before : List MemPlace)
    (hval : ∀ (j : Nat) t v, Try.f3.params[j]? = some t → args[j]? = some v → Value.okWide Try.prog W .any base t v)
    (hW : DataW.Whole enc Try.prog Try.f3.params.toList Rows.driveFramesSpec.vars false W args.toList ds gs before) :
    Calls Try.prog 3 args W fun e W' => ∃ v, e = .returned v ∧ Rows.driveFramesSpec.post enc Try.prog Try.f3 false true false false W args v W' := by
  refine law_contract (id := 3) (f := Try.f3) (s := Rows.driveFramesSpec) (k := 7) (nargs := 3) (base := base) (ds := ds) (gs := gs) (before := before) mixed R1.hE laidOut ?e1 ?e2 (tb := 4) ?e3 Try.underlying4 ?e4 ?e5 ?e7 ?e8 ?e6
  case e7 => exact hval
  case e8 => exact hW
  case e1 => rfl
  case e3 => kernel_rfl
  case e4 => rw [Try.params3]; rfl
  · rw [Try.params3]; decide +kernel
  · intro ds h
    match ds, h with
    | [d1, d2, d3], _ => rfl
  · intro cs hA
    rw [Try.params3] at hA
    obtain ⟨d1, r1, a1, s1, rfl, rfl, h1, hA⟩ := decArgs_cons hA
    obtain ⟨d2, r2, a2, s2, rfl, rfl, h2, hA⟩ := decArgs_cons hA
    obtain ⟨d3, r3, a3, s3, rfl, rfl, h3, hA⟩ := decArgs_cons hA
    obtain ⟨rfl, rfl⟩ := decArgs_nil hA
    obtain ⟨node, -, hw1, rfl⟩ := decV_int (n := 6) Try.underlying3 h1
    obtain ⟨first, -, hw2, rfl⟩ := decV_int (n := 6) Try.underlying3 h2
    obtain ⟨f, rfl, hf⟩ := decV_frame (n := 4) ⟨Try.underlying24, Try.underlying3, Try.underlying4, Try.underlying4, Try.underlying3, Try.underlying22, Try.underlying5⟩ h3
    obtain ⟨n, hn⟩ := (call_iff R1.E).1 (driveFrames_spec node first (wf64 hw1) (wf64 hw2) f hf)
    exact ⟨n, _, hn⟩

set_option maxRecDepth 100000 in
theorem lifted (os : Os) (started : os.Started) (H : Type) (enc : TypeId × Value → H) :
    ReturnsInHanded {} Try.checked os 3 .any (Rows.driveFramesSpec.pre6 enc Try.prog Try.f3 Rows.driveFramesRow.domain false) (Rows.driveFramesSpec.post enc Try.prog Try.f3 false true false false) := by
  refine returnsInHanded_of_change (C := Try.checked) own started (by kernel_rfl) Try.func3
    (ChangeSpec.witness6 (enc := enc) (C := Try.checked) false ⟨#[], #[.int .i64 0, .int .i64 0, .agg #[.int .i64 0, .bool false, .bool false, .int .i64 0, .int .u8 0, .int .u8 0, .int .u8 0, .int .u8 0, .int .u8 0, .int .u8 0, .int .u8 0, .int .u8 0]], []⟩ 8 (by kernel_rfl) (by kernel_rfl) (by kernel_rfl) (by kernel_rfl)) ?_
  intro W base args ds gs before hval hW _ _
  exact contract H enc W base args ds gs before hval hW

theorem proved : Rows.DriveFramesSaid :=
  OpenClaim.holds_of_wide 3 Try.f3 rfl rfl rfl rfl rfl rfl rfl ⟨rfl, rfl, rfl, rfl, rfl⟩ rfl rfl rfl rfl rfl (by kernel_rfl) Try.func3 (by kernel_rfl)
    (of_decide_eq_true (by kernel_rfl)) (by unfold Func.isWrapper; first | (rw [if_pos (by decide +kernel)]; kernel_rfl) | (rw [if_neg (by decide +kernel)]; exact ⟨rfl, rfl⟩))
    (fun os started H enc _ => lifted os started H enc)
end driveFrames
theorem driveFramesProved : Rows.DriveFramesSaid := driveFrames.proved
end Go.Proofs.Ytgolbdijmmeebaa
