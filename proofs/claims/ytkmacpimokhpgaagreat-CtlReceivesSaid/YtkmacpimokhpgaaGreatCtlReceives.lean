/- The law CtlReceives of package magnetolaw10 returns true for every input, and its arguments read as before. -/
import Derived.Test.YtkmacpimokhpgaaGreatCtl3
import Derived.ProofKit
set_option linter.unusedVariables false
set_option linter.unusedSimpArgs false
open Go Go.AM
namespace Go.AM.R1
theorem encFr_eq (f : Fr) : encFr f = [.lit (.int .i64 f.id), .lit (.bool f.ext), .lit (.bool f.rtr), .lit (.int .i64 f.len), u8v f.d0, u8v f.d1, u8v f.d2, u8v f.d3, u8v f.d4, u8v f.d5, u8v f.d6, u8v f.d7] := rfl
end Go.AM.R1
open Go Go.AM
namespace Go.AM.R1
set_option maxHeartbeats 4000000 in
theorem rl_loop1 (frs : List Fr) (n1 f1 : Bool) (i : Nat) (f : Fr) (hf : frs[i]? = some f) (row : List Bool) (S : Nat) (hlen : row.length = S + 10) (hS : S ≤ 100000) (sl : Int) (hsl : sl = S + 1) (k : List Item) (Q : Option (AVal × Heap)) (b : Nat) (lkr : Bool) (m : Nd)
    (hk : ∀ H fs τ, lk 0 τ = .imm n1 f1 true (frs.map encFr) → lk 3 τ = .ptr 0 0 → lk 4 τ = .lit (.int .i64 i) → NodeAt H 0 m fs → finK 0 [.tmp 2] (run E 0 k τ H) = Q) :
    ∀ (d j : Nat), j + d = S + 13 → ∀ H fs n, NodeAt H 0 n fs → n.Inv → n.k ≤ 100 + j → Ext H fs b (rowE row lkr) → Chk (RcvP f S) j n ((row ++ [true, true, true]).drop j) m →
    finK 0 [.tmp 2] (run E 0 (.code L3_1 :: .inLoop [0, 3, 4, 5, 7, 8] L3_1 :: .inBlock 2 :: k) [(0, .imm n1 f1 true (frs.map encFr)), (3, .ptr 0 0), (4, .lit (.int .i64 i)), (5, .own b row.length 1 0 row.length), (7, .lit (.int .i64 sl)), (8, .lit (.int .i64 j))] H) = Q := by
  intro d
  induction d with
  | zero =>
    intro j hj H fs n h hI hkk hb hok
    have hlt : ((j : Int) < (row.length : Int) + 3) = False := eq_false (by omega)
    have w := wrap64 (x := (row.length : Int) + 3) (by omega) (by omega)
    rw [List.drop_eq_nil_of_le (by simp; omega)] at hok
    have : m = n := hok
    subst this
    simp [go_sem, run_codeL E L3_1.eq_1, w, hlt]
    exact hk H fs _ (by simp [lk]) (by simp [lk]) (by simp [lk]) h
  | succ d ih =>
    intro j hj H fs n h hI hkk hb hok
    have hlt : ((j : Int) < (row.length : Int) + 3) = True := eq_true (by omega)
    have w := wrap64 (x := (row.length : Int) + 3) (by omega) (by omega)
    have w2 := wrap64 (x := (row.length : Int) - 2) (by omega) (by omega)
    have w3 := wrapIdx (i := j) (by omega)
    have hil : j < (row ++ [true, true, true]).length := by simp; omega
    obtain ⟨x, hx⟩ : ∃ x, x = (row ++ [true, true, true])[j] := ⟨_, rfl⟩
    rw [List.drop_eq_getElem_cons hil, ← hx] at hok
    obtain ⟨⟨hd0, hev⟩, hrest⟩ := hok
    obtain ⟨H1, hd, h1, a1⟩ := drive_at h hI
    have hb1 := hb.around a1
    obtain ⟨H2, fs2, ix, hs, h2, a2, hix⟩ := step_at h1 hI (by omega) x
    have hb2 := hb1.around a2
    have ih2 := ih (j + 1) (by omega) (sweep (fs2 ++ [b]) 0 H2) fs2 (nxN n x) (nodeAt_sw2 h2 b) (inv_next hI x) (by have := k_next n x hI.mode; omega) (ext_sw2 hb2) hrest
    have hre := reach_p2 h2 hb2
    have g0 := hb.get
    have g1 := hb1.get
    have g2 := hb2.get
    have hff : (frs.map encFr)[i]? = some (encFr f) := by rw [List.getElem?_map, hf]; rfl
    have hml : (row.map encLv).length = row.length := by simp
    have hx2 : j < row.length → (row.map encLv)[j]? = some (encLv x) := by
      intro q
      rw [List.getElem?_map, List.getElem?_eq_getElem q, hx, List.getElem_append_left q]; rfl
    have hx3 : ¬ j < row.length → x = true := by
      intro q
      rw [hx, List.getElem_append_right (by omega)]
      have : j - row.length = 0 ∨ j - row.length = 1 ∨ j - row.length = 2 := by omega
      rcases this with q | q | q <;> simp [q]
    unfold rowE at g0 g1 g2
    generalize row.map encLv = rows at *
    generalize frs.map encFr = frows at *
    rw [hd0] at hd
    simp at w w2 w3 ih2
    by_cases qs : j = S + 1
    · have e1 : ((j : Int) = sl) = True := eq_true (by omega)
      have e2 : ((j : Int) = (row.length : Int) - 2) = False := eq_false (by omega)
      have e3 : ((j : Int) < (row.length : Int)) = True := eq_true (by omega)
      have hjl : j < row.length := by omega
      have hg := hx2 hjl
      have hg2 : ∀ (q : j < rows.length), rows[j] = encLv x := fun q => (List.getElem?_eq_some_iff.1 hg).2
      rw [hev, if_neg (by omega)] at hs
      rw [show (!decide (j = S + 1)) = false by simp [qs]] at hd
      simp [evV, lvF] at hs hd
      simp [go_sem, run_codeL E L3_1.eq_1, w, w2, w3, hlt, hd, hs, hg, hg2, hml, g0, g1, g2, e1, e2, e3, hjl, encLv, lvF, nilS]
      rw [run_inLoop']
      simp [go_sem, hre]
      exact ih2
    · have e1 : ((j : Int) = sl) = False := eq_false (by omega)
      rw [show (!decide (j = S + 1)) = true by simp [qs]] at hd
      by_cases qt : j = S + 8
      · have e2 : ((j : Int) = (row.length : Int) - 2) = True := eq_true (by omega)
        have e3 : ((j : Int) < (row.length : Int)) = True := eq_true (by omega)
        have hjl : j < row.length := by omega
        have hg := hx2 hjl
        have hg2 : ∀ (q : j < rows.length), rows[j] = encLv x := fun q => (List.getElem?_eq_some_iff.1 hg).2
        rw [if_pos qt] at hev
        have hx4 := (hix (by rw [hev]; simp)).1
        rw [hev] at hs hx4
        simp [evV, encEv, lvT] at hs hd hx4
        simp [encFr, u8v] at hff
        simp [go_sem, run_codeL E L3_1.eq_1, w, w2, w3, hlt, hd, hs, hg, hg2, hml, g0, g1, g2, e1, e2, e3, hjl, hx4, hff, encLv, lvT, nilS, encFr_eq, u8v]
        rw [run_inLoop']
        simp [go_sem, hre]
        exact ih2
      · have e2 : ((j : Int) = (row.length : Int) - 2) = False := eq_false (by omega)
        rw [hev, if_neg qt] at hs
        simp [evV, lvT] at hs hd
        by_cases qj : j < row.length
        · have e3 : ((j : Int) < (row.length : Int)) = True := eq_true (by omega)
          have hg := hx2 qj
          have hg2 : ∀ (q : j < rows.length), rows[j] = encLv x := fun q => (List.getElem?_eq_some_iff.1 hg).2
          simp [go_sem, run_codeL E L3_1.eq_1, w, w2, w3, hlt, hd, hs, hg, hg2, hml, g0, g1, g2, e1, e2, e3, qj, encLv, lvT, nilS]
          rw [run_inLoop']
          simp [go_sem, hre]
          exact ih2
        · have e3 : ((j : Int) < (row.length : Int)) = False := eq_false (by omega)
          rw [hx3 qj, lvT] at hs
          simp [go_sem, run_codeL E L3_1.eq_1, w, w2, w3, hlt, hd, hs, hml, g0, g1, g2, e1, e2, e3, qj, encLv, lvT, nilS]
          rw [run_inLoop']
          simp [go_sem, hre]
          exact ih2
set_option maxHeartbeats 4000000 in
theorem rl_loop0 (frs : List Fr) (h4 : frs.length ≤ 4) (hok : ∀ f ∈ frs, f.Ok) (n1 f1 : Bool) (k : List Item) (Q : Option (AVal × Heap)) (hbad : some (.lit (.bool true), []) = Q)
    (hk : ∀ τ H, finK 0 [.tmp 2] (run E 0 k τ H) = Q) :
    ∀ (d i : Nat), i + d = frs.length → ∀ H fs n, NodeAt H 0 n fs → Ready n →
    finK 0 [.tmp 2] (run E 0 (.code L3_0 :: .inLoop [0, 3, 4] L3_0 :: .inBlock 0 :: k) [(0, .imm n1 f1 true (frs.map encFr)), (3, .ptr 0 0), (4, .lit (.int .i64 i))] H) = Q := by
  intro d
  induction d with
  | zero =>
    intro i hi H fs n h r
    have hlt : ((i : Int) < (frs.length : Int)) = False := eq_false (by omega)
    simp [go_sem, run_codeL E L3_0.eq_1, hlt]
    exact hk _ _
  | succ d ih =>
    intro i hi H fs n h r
    have hlt : ((i : Int) < (frs.length : Int)) = True := eq_true (by omega)
    have hltn : i < frs.length := by omega
    have w := wrapIdx (i := i) (by omega)
    have hfi : frs[i]? = some frs[i] := List.getElem?_eq_getElem hltn
    have hfo := hok frs[i] (List.getElem_mem _)
    generalize frs[i] = f at hfi hfo
    have ha := awake10
    by_cases hc : checkP f = 0
    · obtain ⟨m, hm, rm⟩ := ready_row hfo hc r
      have hE := encode_spec f hfo hc true
      have hl10 : (encodeP f true).length = ((encodeP f true).length - 10) + 10 := by
        have : (encodeP f true).length = (stuffP (sentP f)).length + 10 := by rw [encodeP_parts]; simp
        omega
      have hl5 : (encodeP f true).length ≤ 100000 := by
        have h1 : (encodeP f true).length = (stuffP (sentP f)).length + 10 := by rw [encodeP_parts]; simp
        have h2 := addS_len (sentP f) [] 0
        have h3 : (stuffP (sentP f)).length = (addS [] 0 (sentP f)).length := rfl
        have h5 := bitsP_length f
        have h6 : (sentP f).length = (bitsP f).length + 15 := (sentP_sum f hc []).2.2
        simp only [List.length_nil] at h2
        omega
      generalize encodeP f true = row at *
      have h2 := nodeAt_append h [rowE row false]
      have hb := ext_new h (rowE row false)
      have hre := reach_p2 h2 hb
      have hsl : IntKind.wrap .i64 ((row.length : Int) - 9) = (row.length : Int) - 9 := wrap64 (by omega) (by omega)
      have hl := fun k hk => rl_loop1 frs n1 f1 i f hfi row (row.length - 10) hl10 (by omega) ((row.length : Int) - 9) (by omega) k Q H.length false m hk (row.length + 3) 0 (by omega) _ _ n (nodeAt_sw2 h2 _) r.inv (by rw [r.k]; omega) (ext_sw2 hb) hm
      have hrr := rowsLv row
      unfold rowE at *
      generalize row.map encLv = rows at *
      simp [encFr, u8v] at hE w
      simp at hl
      simp [go_sem, run_codeL E L3_0.eq_1, hlt, hfi, encFr, u8v, hE, hsl, hrr, nilS]
      rw [run_inLoop']
      simp [go_sem, hre]
      refine hl _ ?_
      intro H3 fs3 τ t0 t3 t4 h3
      obtain ⟨H4, hk4, h4, -⟩ := look_at h3 rm.inv.ok
      have hre4 := fun X => reach_p1 (nodeAt_append h4 X)
      have ih2 := fun X => ih (i + 1) (by omega) _ _ m (nodeAt_sw1 (nodeAt_append h4 X)) rm
      simp [lookC, rm.mode, rm.tx, rm.ct, rm.q, Ct.zero] at hk4
      simp at ih2
      simp [go_sem, t0, t3, t4, hk4, w]
      rw [run_inLoop']
      simp [go_sem, t0, t3, t4, hre4]
      exact ih2 _
    · have hE := encode_err f hc true
      have hC := fcheck_spec f
      simp [encFr, u8v] at hE hC
      simp [go_sem, run_codeL E L3_0.eq_1, hlt, hfi, encFr, u8v, hE, hC, hc, ha, nilS]
      exact hbad
set_option maxHeartbeats 4000000 in
theorem ctlReceives_spec (frs : List Fr) (hok : ∀ f ∈ frs, f.Ok) (n1 f1 : Bool) :
    call E (.func (.func 3) [] []) [.imm n1 f1 true (frs.map encFr)] [] = some (.lit (.bool true), []) := by
  have ha := awake10
  obtain ⟨F, hj⟩ := joined_nil
  have h0 := nodeAt_can nd1 F []
  rw [List.append_nil] at h0
  have hre := reach_p1 h0
  rw [call_func E E3]
  by_cases h4 : (4 : Int) < (frs.length : Int)
  · simp [go_sem, ir3, h4, ha]
  · have hl := fun k hk => rl_loop0 frs (by omega) hok n1 f1 k (some (.lit (.bool true), [])) rfl hk frs.length 0 (by omega) _ _ nd1 (nodeAt_sw1 h0) nd1_ready
    simp [nilS] at hl hj
    simp [go_sem, ir3, h4, hj, back_new, nilS]
    rw [run_inLoop']
    simp [go_sem, hre]
    refine hl _ ?_
    intro τ H
    simp [go_sem, ha]
end Go.AM.R1
open Go Go.AM Go.AM.R1 Go.Proofs
namespace Go.Proofs.YtkmacpimokhpgaaGreat
open Go.ChangeShapes Go.WideShapes Go.ChangeAt Go.RowKit
namespace ctlReceives
theorem own : ownKnob Tryz.prog.godebug = none := by kernel_rfl
theorem laidOut : laidOutB Tryz.prog = true := by kernel_rfl
theorem mixed : Tryz.prog.follows .mixedOrders = true := by kernel_rfl
set_option maxRecDepth 100000 in
theorem contract (H : Type) (enc : TypeId × Value → H) (W : World) (base : Nat) (args : Array Value) (ds gs : List (DataW H)) (before : List MemPlace)
    (hval : ∀ (j : Nat) t v, Tryz.f3.params[j]? = some t → args[j]? = some v → Value.okWide Tryz.prog W .any base t v)
    (hW : DataW.Whole enc Tryz.prog Tryz.f3.params.toList Rows.ctlReceivesSpec.vars false W args.toList ds gs before) :
    Calls Tryz.prog 3 args W fun e W' => ∃ v, e = .returned v ∧ Rows.ctlReceivesSpec.post enc Tryz.prog Tryz.f3 false true false false W args v W' := by
  refine law_contract (id := 3) (f := Tryz.f3) (s := Rows.ctlReceivesSpec) (k := 7) (nargs := 1) (base := base) (ds := ds) (gs := gs) (before := before) mixed libs_ok R1.hE laidOut ?e1 ?e2 (tb := 4) ?e3 Tryz.underlying4 ?e4 ?e5 ?e7 ?e8 ?e6
  case e7 => exact hval
  case e8 => exact hW
  case e1 => rfl
  case e3 => kernel_rfl
  case e4 => rw [Tryz.params3]; rfl
  · rw [Tryz.params3]; decide +kernel
  · intro ds h
    match ds, h with
    | [d1], _ => rfl
  · intro cs hA
    rw [Tryz.params3] at hA
    obtain ⟨d1, r1, a1, s1, rfl, rfl, h1, hA⟩ := decArgs_cons hA
    obtain ⟨rfl, rfl⟩ := decArgs_nil hA
    obtain ⟨n1, f1, fs, rfl, hfo, -⟩ := decV_frames (n := 3) Tryz.underlying22 ⟨Tryz.underlying32, Tryz.underlying3, Tryz.underlying4, Tryz.underlying4, Tryz.underlying3, Tryz.underlying30, Tryz.underlying5⟩ h1
    obtain ⟨n, hn⟩ := (call_iff R1.E).1 (ctlReceives_spec fs hfo n1 f1)
    exact ⟨n, _, hn⟩

set_option maxRecDepth 100000 in
theorem lifted (os : Os) (started : os.Started) (H : Type) (enc : TypeId × Value → H) :
    ReturnsInHanded {} Tryz.checked os 3 .any (Rows.ctlReceivesSpec.pre6 enc Tryz.prog Tryz.f3 Rows.ctlReceivesRow.domain false) (Rows.ctlReceivesSpec.post enc Tryz.prog Tryz.f3 false true false false) := by
  refine returnsInHanded_of_change (C := Tryz.checked) own started (by kernel_rfl) Tryz.func3
    (ChangeSpec.witness6 (enc := enc) (C := Tryz.checked) false ⟨#[], #[.slice none 0 0], []⟩ 8 (by kernel_rfl) (by kernel_rfl) (by kernel_rfl) (by kernel_rfl)) ?_
  intro W base args ds gs before hval hW _ _
  exact contract H enc W base args ds gs before hval hW

theorem proved : Rows.CtlReceivesSaid :=
  OpenClaim.holds_of_wide 3 Tryz.f3 rfl rfl rfl rfl rfl rfl rfl ⟨rfl, rfl, rfl, rfl, rfl⟩ rfl rfl rfl rfl rfl (by kernel_rfl) Tryz.func3 (by kernel_rfl)
    (of_decide_eq_true (by kernel_rfl)) (by unfold Func.isWrapper; first | (rw [if_pos (by decide +kernel)]; kernel_rfl) | (rw [if_neg (by decide +kernel)]; exact ⟨rfl, rfl⟩))
    (fun os started H enc _ => lifted os started H enc)
end ctlReceives
theorem ctlReceivesProved : Rows.CtlReceivesSaid := ctlReceives.proved
end Go.Proofs.YtkmacpimokhpgaaGreat
