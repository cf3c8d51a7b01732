/- A machine of its own for the loaded program's code, and that it is sound: what it answers, a call of the program answers. -/
import Derived.Test.YtkmacpimokhpgaaGreatAm2
import Derived.Deep.Slices
import Derived.Carry
import Derived.ChangeArms
import Derived.OpenShut
import Derived.ChangeSame
import Derived.ChangeShapes
set_option linter.unusedVariables false
set_option linter.unusedSimpArgs false
namespace Go.AM
section
set_option linter.unusedSectionVars false
variable [DecidableEq AVal] {E : Nat → Option IFn} {P : Program}

theorem arun_nil {n m τ H} : arun E (n + 1) m [] τ H = some (none, τ, H) := by simp only [arun]
theorem arun_inBlock {n m id k τ H} : arun E (n + 1) m (.inBlock id :: k) τ H = arun E n m k τ H := by simp only [arun]
theorem arun_inScope {n m k τ H} : arun E (n + 1) m (.inScope :: k) τ H = arun E n m k τ H := by simp only [arun]
theorem arun_inLoop {n m live b k τ H} : arun E (n + 1) m (.inLoop live b :: k) τ H = (gcLoop m live τ H).bind fun s => arun E n m (.code b :: .inLoop live b :: k) s.1 s.2 := by simp only [arun]

/-- The record of an ended loop. -/
theorem end_loop {C : Ctx} {H : Heap} {i st : Nat} {pd : Option Jump} {sn : Tmps} {ps : List Nat} {a b : ICode} {τ : Tmps} {tmps : Array Value} (hH : HR P C H) (hi : H[i]? = some (.loop st pd sn ps a b)) (hst : st ≠ 1) (hx : RT C τ tmps) :
    ∃ C' , (Instr.endLoop (C.ν i)).run P C.w = .ok (jumpCode pd) C'.w ∧ HR P C' (H.set i .dead) ∧ Nx C C' ∧ RT C' τ tmps ∧ C'.Fz = C.Fz := by
  obtain ⟨h1, L, nt, h2, h3, h4, h5, h6, h7, h8, h9, h10, h11, h12⟩ := hH.ent i _ hi
  have hil : i < H.length := (List.getElem?_eq_some_iff.1 hi).1
  have hbz : C.ν i < C.w.heap.size := hH.block h1 (by simp)
  have hbusy : L.state ≠ .busy := by
    rw [h4]
    unfold stateOf
    split
    · simp
    · exact absurd rfl hst
    · simp
  let C' : Ctx := { C with sh := upd C.sh i (some .dead), w := C.w.putObj (C.ν i) (.loop { L with state := .exhausted }) }
  have s1 : C'.sh i = some .dead := upd_same _ _ _
  have hrun : (Instr.endLoop (C.ν i)).run P C.w = .ok (jumpCode pd) C'.w := by rw [← h5]; exact run_endLoop h2 hbusy
  have hp := hH.gen (C' := C') (fun j => j = i) (H' := H.set i .dead)
    (fun j hj => by rw [List.getElem?_set_ne (fun e => hj e.symm)])
    (fun j hj => by simp at hj; simp only [C']; rw [upd_ne _ _ (by omega)]; exact hH.out j hj)
    (fun j hj => by simp only [C']; rw [upd_ne _ _ hj]; exact ⟨rfl, trivial⟩)
    (fun j s hj hs hd => World.putObj_heap_other (fun e => hj (hH.inj j i _ _ hs hd h1 (by simp) e))) rfl
    (fun b o hf => by
      by_cases hb : b = C.ν i
      · subst hb; exact absurd hf (h12 o)
      · simp only [World.cell?, C', World.putObj_heap_other hb]) (by simp [C'])
    (fun b hb hn => World.putObj_heap_other (fun e => hn i _ h1 (by simp) e.symm))
    (fun j s hj hs hd => by subst hj; rw [s1] at hs; cases hs; exact absurd rfl hd)
    (fun j k s s' hj hk hs hd hs' hd' e => by rw [hj, hk])
    (fun j s hj hs => by subst hj; exact .inl s1)
    (fun N j e' hj he' => by
      subst hj
      rw [List.getElem?_set_self hil] at he'
      cases he'; exact s1) (env := putObj_env h2 (by simp) (by simp))
  exact ⟨C', hrun, hp.1, hp.2, hx.nx hp.2, rfl⟩

theorem compC_inv {nt : Nat} {c : Code} {ic : ICode} (h : CompC P nt c ic) :
    match c with
    | .skip => ic = .skip
    | .label _ => ic = .skip
    | .region _ ops d => ∃ is, compOpers P ops nt ops.toList = some is ∧ (if d then ((drawOk (Region.before ops) ((ops.toList.zip is).zipIdx) = true ∧ ic = .reg is (chkOf (Region.before ops) ((ops.toList.zip is).zipIdx)) []) ∨
        ∃ i0 d0 js, lateOk ops is i0 d0 js = true ∧ edgesOk ((ops.toList.zip is).zipIdx) = true ∧ drawOk (Region.before (hoisted ops i0 js)) (((hoisted ops i0 js).toList.zip is).zipIdx) = true ∧
          ic = .reg is (chkOf (Region.before (hoisted ops i0 js)) (((hoisted ops i0 js).toList.zip is).zipIdx)) []) else ic = .reg is [] [])
    | .seq a b => ∃ ia ib, CompC P nt a ia ∧ CompC P nt b ib ∧ ic = .seq ia ib
    | .cond c a b => ∃ c' ia ib, opd c = some c' ∧ CompC P nt a ia ∧ CompC P nt b ib ∧ ic = .cond c' ia ib
    | .block id b => ∃ ib, CompC P nt b ib ∧ ic = .block id ib
    | .loop b => ∃ l ib, CompC P nt b ib ∧ ic = .loop l ib
    | .rangeFunc f ps a b => ∃ f' l ia ib, opd f = some f' ∧ ((∀ p ∈ ps.toList, p < nt) ∧ ps.toList.Nodup) ∧ CompP P nt a ia ∧ CompP P nt b ib ∧ ic = .range f' l ps.toList ia ib
    | .exit id => ic = .exit id
    | .scope b => ∃ ib, CompC P nt b ib ∧ ic = .scope ib
    | .ret => ic = .ret
    | _ => False := by
  obtain ⟨ls, ls', h⟩ := h
  cases c with
  | skip =>
    simp only [compC] at h
    cases h; rfl
  | label l =>
    simp only [compC] at h
    cases h; rfl
  | ret =>
    simp only [compC] at h
    cases h; rfl
  | exit id =>
    simp only [compC] at h
    cases h; rfl
  | region id ops d =>
    simp only [compC] at h
    simp only [Option.bind_eq_some_iff] at h
    obtain ⟨is, hi, h⟩ := h
    refine ⟨is, hi, ?_⟩
    cases d with
    | true =>
      simp only [if_true] at h ⊢
      split at h
      · rename_i h1
        cases h
        exact .inl ⟨h1, rfl⟩
      · simp only [Option.bind_eq_some_iff] at h
        obtain ⟨i0, _, d0, _, h⟩ := h
        obtain ⟨h1, h⟩ := Option.ite_none_right_eq_some.1 h
        cases h
        simp only [Bool.and_eq_true] at h1
        exact .inr ⟨i0, d0, _, h1.1, h1.2.1, h1.2.2, rfl⟩
    | false => cases h; rfl
  | seq a b =>
    simp only [compC] at h
    simp only [Option.bind_eq_some_iff, Option.map_eq_some_iff] at h
    obtain ⟨x, hx, y, hy, h⟩ := h
    cases h
    exact ⟨x.1, y.1, ⟨_, _, hx⟩, ⟨_, _, hy⟩, rfl⟩
  | cond c a b =>
    simp only [compC] at h
    simp only [Option.bind_eq_some_iff, Option.map_eq_some_iff] at h
    obtain ⟨c', hc, x, hx, y, hy, h⟩ := h
    cases h
    exact ⟨c', x.1, y.1, hc, ⟨_, _, hx⟩, ⟨_, _, hy⟩, rfl⟩
  | block id b =>
    simp only [compC] at h
    simp only [Option.map_eq_some_iff] at h
    obtain ⟨x, hx, h⟩ := h
    cases h
    exact ⟨x.1, ⟨_, _, hx⟩, rfl⟩
  | loop b =>
    cases ls with
    | nil => simp [compC] at h
    | cons l ls =>
      simp only [compC, Option.map_eq_some_iff] at h
      obtain ⟨x, hx, h⟩ := h
      cases h
      exact ⟨l, x.1, ⟨_, _, hx⟩, rfl⟩
  | scope b =>
    simp only [compC] at h
    simp only [Option.map_eq_some_iff] at h
    obtain ⟨x, hx, h⟩ := h
    cases h
    exact ⟨x.1, ⟨_, _, hx⟩, rfl⟩
  | rangeFunc f ps a b =>
    cases ls with
    | nil => simp [compC] at h
    | cons l ls =>
      simp only [compC] at h
      obtain ⟨hp, h⟩ := Option.ite_none_left_eq_some.1 h
      simp only [Option.bind_eq_some_iff, Option.map_eq_some_iff] at h
      obtain ⟨f', hf, x, hx, y, hy, h⟩ := h
      cases h
      have hp' : ((plain a && plain b) && (ps.toList.all fun p => decide (p < nt)) && decide ps.toList.Nodup) = true := by
        cases hq : ((plain a && plain b) && (ps.toList.all fun p => decide (p < nt)) && decide ps.toList.Nodup) with
        | true => rfl
        | false => rw [hq] at hp; exact absurd rfl hp
      simp only [Bool.and_eq_true] at hp'
      exact ⟨f', l, x.1, y.1, hf, ⟨fun p hpm => by have := List.all_eq_true.1 hp'.1.2 p hpm; simpa using this, of_decide_eq_true hp'.2⟩, ⟨⟨_, _, hx⟩, hp'.1.1.1⟩, ⟨⟨_, _, hy⟩, hp'.1.1.2⟩, rfl⟩
  | _ => simp only [compC] at h; cases h

theorem run_step (hmix : P.follows .mixedOrders = true) {n : Nat} (hc : CalleeOk P (acall E n)) (ih : RunOk E P n) : RunOk E P (n + 1) := by
  intro m k τ H j τ' H' h C0 H0 C b a kr tail cs nt hH0 hm hN hH hT hx hn hM hpl
  cases k with
  | nil =>
    cases kr with
    | cons x kr => cases x <;> simp [TodoR] at hT
    | nil =>
      rw [arun_nil] at h
      cases h
      exact ⟨C, a.tmps, a.defers, hH, hN, hx, rfl, hM, .refl P _⟩
  | cons y k =>
    cases kr with
    | nil => simp [TodoR] at hT
    | cons x kr =>
      have hplk : ∀ {kr'}, (plainT (x :: kr) = true → plainT kr' = true) → (b.roundOf = none ∨ plainT kr' = true) := fun {kr'} hh => hpl.imp id hh
      cases x <;> cases y <;> simp only [TodoR] at hT
      case inBlock.inBlock i i' =>
        obtain ⟨rfl, hT⟩ := hT
        rw [arun_inBlock] at h
        exact Ends.head (.one stepR_inBlock) (ih m k τ H j τ' H' h C0 H0 C b a kr tail cs nt hH0 hm hN hH hT hx hn hM (hplk fun hp => by simpa [plainT] using hp))
      case inScope.inScope c =>
        rw [arun_inScope] at h
        exact Ends.head (.one stepR_inScope) (ih m k τ H j τ' H' h C0 H0 C b a kr tail cs nt hH0 hm hN hH hT hx hn hM (hplk fun hp => by simpa [plainT] using hp))
      case inLoop.inLoop c l ic =>
        rw [arun_inLoop, Option.bind_eq_some_iff] at h
        obtain ⟨s, hs, h⟩ := h
        obtain ⟨C1, w1, k1, k2, k3, k4⟩ := sim_gcLoop hH0 hm hN hH hx hs
        have := ih m _ s.1 s.2 j τ' H' h C0 H0 C1 b a (.code c :: .inLoop c :: kr) tail cs nt hH0 hm k2 k1 ⟨hT.1, hT.1, hT.2⟩ k3 hn (hM.less w1 k4) (hplk fun hp => by simp [plainT] at hp ⊢; exact ⟨hp.1, hp.2⟩)
        rw [w1] at this
        exact Ends.head (.one stepR_inLoop) this
      case code.code c ic =>
        obtain ⟨hcc, hT⟩ := hT
        have hinv := compC_inv hcc
        cases c <;> simp only [] at hinv
        case skip =>
          subst hinv
          rw [arun_skip] at h
          exact Ends.head (.one stepR_skip) (ih m k τ H j τ' H' h C0 H0 C b a kr tail cs nt hH0 hm hN hH hT hx hn hM (hplk fun hp => by simp [plainT] at hp; exact hp.2))
        case label l =>
          subst hinv
          rw [arun_skip] at h
          exact Ends.head (.one stepR_label) (ih m k τ H j τ' H' h C0 H0 C b a kr tail cs nt hH0 hm hN hH hT hx hn hM (hplk fun hp => by simp [plainT] at hp; exact hp.2))
        case region id ops d =>
          obtain ⟨is, hi, hd⟩ := hinv
          have key : ∀ {chk flo}, ic = .reg is chk flo → (∀ τ1 H1, areg (acall E n) is chk flo τ H = some (τ1, H1) → ∃ tmps' C', HR P C' H1 ∧ Nx C C' ∧ RT C' τ1 tmps' ∧ tmps'.size = a.tmps.size ∧
              Steps P (lone (b.atR a (.code (.region id ops d) :: (kr ++ tail))) cs C.w) (lone (b.atR { tmps := tmps', defers := a.defers } (kr ++ tail)) cs C'.w)) → Ends P C0 b a.tmps.size tail cs (lone (b.atR a (.code (.region id ops d) :: kr ++ tail)) cs C.w) j τ' H' := by
            rintro chk flo rfl hk
            rw [arun_reg, Option.bind_eq_some_iff] at h
            obtain ⟨⟨τ1, H1⟩, hs, h⟩ := h
            obtain ⟨tmps', C', k1, k2, k3, k4, k5⟩ := hk τ1 H1 hs
            have := ih m k τ1 H1 j τ' H' h C0 H0 C' b { tmps := tmps', defers := a.defers } kr tail cs nt hH0 hm (hN.trans k2) k1 hT k3 (by simp only [k4]; exact hn) (hM.nx k2) (hplk fun hp => by simp [plainT] at hp; exact hp.2)
            simp only [k4] at this
            exact Ends.head k5 this
          cases d with
          | false =>
            simp only [Bool.false_eq_true, if_false] at hd
            exact key hd fun τ1 H1 hs => by
              simp only [areg] at hs
              exact sim_region hc hi hH hx hn hs
          | true =>
            simp only [if_true] at hd
            rcases hd with hd | ⟨i0, d0, js, e1, e2, e3, e4⟩
            · exact key hd.2 fun τ1 H1 hs => sim_draw hmix hc hi hd.1 hH hx hn hs
            · exact key e4 fun τ1 H1 hs => sim_draw2 hmix hc hi e1 e2 e3 hH hx hn hs
        case seq c1 c2 =>
          obtain ⟨ia, ib, ha, hb, rfl⟩ := hinv
          rw [arun_seq] at h
          exact Ends.head (.one stepR_seq) (ih m _ τ H j τ' H' h C0 H0 C b a (.code c1 :: .code c2 :: kr) tail cs nt hH0 hm hN hH ⟨ha, hb, hT⟩ hx hn hM (hplk fun hp => by simp [plainT, plain] at hp ⊢; exact ⟨hp.1.1, hp.1.2, hp.2⟩))
        case cond c c1 c2 =>
          obtain ⟨c', ia, ib, hcd, ha, hb, rfl⟩ := hinv
          rw [arun_cond] at h
          split at h
          · rename_i t ht
            have hv := (RO'.of_RT (ds := a.defers) hx).ro c c' hcd
            rw [ht] at hv
            have hv : a.eval c = .bool t := hv
            refine Ends.head (.one (stepR_cond hv)) ?_
            cases t with
            | true => exact ih m _ τ H j τ' H' h C0 H0 C b a (.code c1 :: kr) tail cs nt hH0 hm hN hH ⟨ha, hT⟩ hx hn hM (hplk fun hp => by simp [plainT, plain] at hp ⊢; exact ⟨hp.1.1, hp.2⟩)
            | false => exact ih m _ τ H j τ' H' h C0 H0 C b a (.code c2 :: kr) tail cs nt hH0 hm hN hH ⟨hb, hT⟩ hx hn hM (hplk fun hp => by simp [plainT, plain] at hp ⊢; exact ⟨hp.1.2, hp.2⟩)
          · cases h
        case block id c =>
          obtain ⟨ib, hb, rfl⟩ := hinv
          rw [arun_block] at h
          exact Ends.head (.one stepR_block) (ih m _ τ H j τ' H' h C0 H0 C b a (.code c :: .inBlock id :: kr) tail cs nt hH0 hm hN hH ⟨hb, rfl, hT⟩ hx hn hM (hplk fun hp => by simp [plainT, plain] at hp ⊢; exact ⟨hp.1, hp.2⟩))
        case scope c =>
          obtain ⟨ib, hb, rfl⟩ := hinv
          rw [arun_scope] at h
          exact Ends.head (.one stepR_scope) (ih m _ τ H j τ' H' h C0 H0 C b a (.code c :: .inScope c :: kr) tail cs nt hH0 hm hN hH ⟨hb, hT⟩ hx hn hM (hplk fun hp => by simp [plainT, plain] at hp ⊢; exact ⟨hp.1, hp.2⟩))
        case loop c =>
          obtain ⟨l, ib, hb, rfl⟩ := hinv
          rw [arun_loop, Option.bind_eq_some_iff] at h
          obtain ⟨s, hs, h⟩ := h
          obtain ⟨C1, w1, k1, k2, k3, k4⟩ := sim_gcLoop hH0 hm hN hH hx hs
          have := ih m _ s.1 s.2 j τ' H' h C0 H0 C1 b a (.code c :: .inLoop c :: kr) tail cs nt hH0 hm k2 k1 ⟨hb, hb, hT⟩ k3 hn (hM.less w1 k4) (hplk fun hp => by simp [plainT, plain] at hp ⊢; exact ⟨hp.1, hp.2⟩)
          rw [w1] at this
          exact Ends.head (.one stepR_loop) this
        case exit id =>
          subst hinv
          rw [arun_exit] at h
          split at h
          · rename_i k' hk'
            obtain ⟨r, e1, e2, e3⟩ := exit_some hT hk'
            exact Ends.head (.one (stepR_exit (e1 tail))) (ih m _ τ H j τ' H' h C0 H0 C b a r tail cs nt hH0 hm hN hH e2 hx hn hM (hplk fun hp => by simp [plainT] at hp; exact e3 hp.2))
          · rename_i hk'
            cases h
            refine ⟨C, a.tmps, a.defers, hH, hN, hx, rfl, hM, fun e => ⟨kr ++ tail, ?_, .refl P _⟩⟩
            rw [e, List.append_nil]; exact exit_none hT hk'
        case ret =>
          subst hinv
          rw [arun_ret] at h
          cases h
          exact ⟨C, a.tmps, a.defers, hH, hN, hx, rfl, hM, kr ++ tail, .refl P _⟩
        case rangeFunc f ps as bd =>
          obtain ⟨f', l, ia, ib, hf, hps, hca, hcb, rfl⟩ := hinv
          have hround : b.roundOf = none := by
            rcases hpl with hp | hp
            · exact hp
            · simp [plainT, plain] at hp
          rw [arun_range, Option.bind_eq_some_iff] at h
          obtain ⟨r, hr, h⟩ := h
          simp only [afterA] at h
          obtain ⟨C2, k1, k2, k2', k3, k4, k5, k6⟩ := sim_range_call (k := kr ++ tail) (cs := cs) hc hN hH hx hn hM hround hf hps hca hcb hr
          split at h
          · rename_i st pd sn p' a' b' hl
            obtain ⟨hst, h⟩ := Option.ite_none_left_eq_some.1 h
            obtain ⟨s1, s2⟩ := k5 _ _ _ _ _ _ hl
            obtain ⟨C3, e1, e2, e3, e4, e5⟩ := end_loop k1 hl hst k3
            rw [s2] at e1
            have hstep := stepR_endRangeFunc (b := b) (a := { tmps := a.tmps, defers := { target := .collected C.w.heap.size, args := #[] } :: a.defers }) (k := kr ++ tail) (cs := cs) e1
            have hsteps := k6.trans (.one hstep)
            have hM3 := k4.nx e3
            have hN3 := k2.trans e3
            split at h
            · simp only [jumpCode, Option.map_none, Option.toList_none, List.nil_append] at hsteps
              have := ih m k τ _ j τ' H' h C0 H0 C3 b { tmps := a.tmps, defers := { target := .collected C.w.heap.size, args := #[] } :: a.defers } kr tail cs nt hH0 hm hN3 e2 hT e4 hn hM3 (.inl hround)
              exact Ends.head hsteps this
            · simp only [jumpCode, Option.map_some, Option.toList_some, List.singleton_append] at hsteps
              cases h
              exact ⟨C3, a.tmps, _, e2, hN3, e4, rfl, hM3, kr ++ tail, hsteps⟩
            · rename_i id
              simp only [jumpCode, Option.map_some, Option.toList_some, List.singleton_append] at hsteps
              split at h
              · rename_i k' hk'
                obtain ⟨q, q1, q2, q3⟩ := exit_some hT hk'
                have := ih m k' τ _ j τ' H' h C0 H0 C3 b { tmps := a.tmps, defers := { target := .collected C.w.heap.size, args := #[] } :: a.defers } q tail cs nt hH0 hm hN3 e2 q2 e4 hn hM3 (.inl hround)
                exact Ends.head (hsteps.trans (.one (stepR_exit (q1 tail)))) this
              · rename_i hk'
                cases h
                refine ⟨C3, a.tmps, _, e2, hN3, e4, rfl, hM3, fun e => ⟨kr ++ tail, ?_, hsteps⟩⟩
                rw [e, List.append_nil]; exact exit_none hT hk'
          · cases h
end
end Go.AM
namespace Go.AM
section
set_option linter.unusedSectionVars false
variable [DecidableEq AVal] {E : Nat → Option IFn} {P : Program}

theorem lk_number {C : Ctx} : ∀ {vs : List AVal} {xs : List Value}, RL C vs xs → ∀ (i t : Nat), RV C (lk t (number i vs)) (if i ≤ t then xs.getD (t - i) undef else undef)
  | [], xs, h, i, t => trivial
  | v :: r, xs, h, i, t => by
    simp only [RL] at h
    obtain ⟨x, s, rfl, h1, h2⟩ := h
    simp only [number, lk]
    by_cases ht : t = i
    · subst ht; simp; exact h1
    · rw [if_neg ht]
      have := lk_number h2 (i + 1) t
      by_cases hle : i ≤ t
      · rw [if_pos hle]
        rw [if_pos (by omega)] at this
        have e : t - i = (t - (i + 1)) + 1 := by omega
        rw [e]; simpa using this
      · rw [if_neg hle]
        rw [if_neg (by omega)] at this
        exact this

theorem rt_number {C : Ctx} {vs : List AVal} {xs : Array Value} {n : Nat} (h : RL C vs xs.toList) : RT C (number 0 vs) (xs ++ Array.replicate n undef) := by
  intro t
  have := lk_number h 0 t
  simp only [Nat.zero_le, if_true, Nat.sub_zero] at this
  have e : (xs ++ Array.replicate n undef).getD t undef = xs.toList.getD t undef := by
    rw [Array.getD_eq_getD_getElem?, List.getD_eq_getElem?_getD, Array.getElem?_append]
    split
    · simp
    · rename_i hlt
      rw [List.getElem?_eq_none (by simpa using hlt)]
      by_cases h2 : t - xs.size < n
      · simp [h2]
      · simp [h2]
  rw [e]; exact this

theorem results_rel {C : Ctx} {H : Heap} {τ : Tmps} {tmps : Array Value} (hH : HR P C H) (hx : RT C τ tmps) : ∀ {rs : List ResultVar} {irs : List IRes} {vs : List AVal}, compR P rs = some irs → aresults τ H irs = some vs →
    ∃ xs, (rs.mapM fun | .tmp t => pure (tmps.getD t undef) | .cell a t => do loadVar t (← asAddr (tmps.getD a undef)) : Sem (List Value)).run P C.w = .ok xs C.w ∧ RL C vs xs
  | [], irs, vs, hc, h => by
    simp only [compR, Option.some.injEq] at hc; subst hc
    simp only [aresults, Option.some.injEq] at h; subst h
    exact ⟨[], rfl, rfl⟩
  | .tmp t :: r, irs, vs, hc, h => by
    simp only [compR, Option.map_eq_some_iff] at hc
    obtain ⟨l, hl, rfl⟩ := hc
    simp only [aresults, Option.map_eq_some_iff] at h
    obtain ⟨ws, hw, rfl⟩ := h
    obtain ⟨xs, h1, h2⟩ := results_rel hH hx hl hw
    refine ⟨tmps.getD t undef :: xs, ?_, _, _, rfl, hx t, h2⟩
    rw [List.mapM_cons]
    simp only [Sem.run_bind, Sem.run_pure, Result.andThen_ok, h1]
  | .cell a t :: r, irs, vs, hc, h => by
    simp only [compR] at hc
    obtain ⟨hu, hc⟩ := Option.ite_none_right_eq_some.1 hc
    simp only [Option.map_eq_some_iff] at hc
    obtain ⟨l, hl, rfl⟩ := hc
    simp only [aresults, Option.bind_eq_some_iff, Option.map_eq_some_iff] at h
    obtain ⟨v, hv, ws, hw, rfl⟩ := h
    obtain ⟨xs, h1, h2⟩ := results_rel hH hx hl hw
    obtain ⟨d, hd⟩ := Option.isSome_iff_exists.1 hu
    obtain ⟨x, hx1, hx2⟩ := sim_load (t := t) hH hd rfl rfl (hx a) hv
    have hx3 : (do loadVar t (← asAddr (tmps.getD a undef)) : Sem Value).run P C.w = .ok x C.w := by
      rw [← hx1]
      generalize tmps.getD a undef = q at hx1 ⊢
      unfold Instr.loadAt at hx1 ⊢
      cases q with
      | pointer p => cases p with
        | none => simp [Instr.sureAddr, stuck] at hx1
        | some p => rfl
      | _ => simp [Instr.sureAddr, stuck] at hx1
    refine ⟨x :: xs, ?_, _, _, rfl, hx2, h2⟩
    rw [List.mapM_cons]
    simp only [Sem.run_bind, Sem.run_pure, Result.andThen_ok, h1]
    simp only [Sem.run_bind] at hx3
    rw [hx3]
    simp only [Result.andThen_ok, Sem.run_pure]
    rw [h1]; rfl

theorem packed_rel {C : Ctx} {vs : List AVal} {xs : List Value} (h : RL C vs xs) : RV C (packed vs) (if hh : xs.toArray.size = 1 then xs.toArray[0] else .tuple xs.toArray) := by
  have hl := RL_length h
  unfold packed
  split
  · rename_i v
    simp only [RL] at h
    obtain ⟨x, s, rfl, h1, h2⟩ := h
    subst h2
    exact h1
  · rename_i hne
    have : ¬ (xs.toArray.size = 1) := by
      intro e
      have : vs.length = 1 := by rw [← hl]; simpa using e
      obtain ⟨v, hv⟩ := List.length_eq_one_iff.1 this
      exact hne v hv
    rw [dif_neg this]
    exact ⟨_, rfl, h⟩

theorem run_results {C : Ctx} {H : Heap} {τ : Tmps} {fn : Func} {tmps : Array Value} {irs : List IRes} {vs : List AVal} (hH : HR P C H) (hx : RT C τ tmps) (hc : compR P fn.results.toList = some irs) (h : aresults τ H irs = some vs) :
    ∃ x, (results fn tmps).run P C.w = .ok x C.w ∧ RV C (packed vs) x := by
  obtain ⟨xs, h1, h2⟩ := results_rel hH hx hc h
  refine ⟨_, ?_, packed_rel h2⟩
  unfold results
  rw [Array.mapM_eq_mapM_toList]
  rw [Sem.run_bind, map_eq_pure_bind, Sem.run_bind]
  have : ∀ f : ResultVar → Sem Value, (f = fun | .tmp t => pure (tmps.getD t undef) | .cell a t => do loadVar t (← asAddr (tmps.getD a undef))) → (fn.results.toList.mapM f).run P C.w = .ok xs C.w := fun f e => by rw [e]; exact h1
  rw [this _ (by funext q; cases q <;> rfl)]
  simp only [Result.andThen_ok, Sem.run_pure]

/-- A function of the program. -/
theorem func_ok (hE : ∀ f fn, E f = some fn → ∃ ls, compF P ls f = some fn) {n : Nat} (ih : RunOk E P n) {id : Nat} {first cap args : List AVal} {H : Heap} {v : AVal} {H' : Heap} (h : acall E (n + 1) (.func (.func id) first cap) args H = some (v, H'))
    {C : Ctx} {rf : Value} {rargs : Array Value} (hH : HR P C H) (hf : RV C (.func (.func id) first cap) rf) (ha : RL C args rargs.toList) :
    Goes P (do let d ← Deferred.ofValue rf rargs; invoke d.target d.args) C.w (After P C v H') := by
  rw [acall_func] at h
  simp only [Option.bind_eq_some_iff] at h
  obtain ⟨fn, hfn, ⟨j, τ1, H1⟩, hrun, h⟩ := h
  obtain ⟨ls, hcf⟩ := hE id fn hfn
  simp only [compF, Option.bind_eq_some_iff] at hcf
  obtain ⟨fd, hfd, c, hbody, hcf⟩ := hcf
  obtain ⟨hhb, hcf⟩ := Option.ite_none_right_eq_some.1 hcf
  simp only [Option.bind_eq_some_iff, Option.map_eq_some_iff] at hcf
  obtain ⟨x, hx, rs, hrs, rfl⟩ := hcf
  obtain ⟨va, vb, rfl, hva, hvb⟩ := hf
  have hargs : RL C (first ++ args ++ cap) (va ++ rargs ++ vb).toList := by
    simp only [Array.toList_append]
    exact RL_append (RL_append hva ha) hvb
  have hen : (do let d ← Deferred.ofValue (.func (.func id) va vb) rargs; invoke d.target d.args : Sem Next).run P C.w = .ok (.enter id (va ++ rargs ++ vb)) C.w := by
    have hb : fd.body.isSome = true ∧ (fd.name == "runtime.NumGoroutine") = false := by
      unfold hasBody at hhb
      rw [hfd] at hhb
      simp only [Bool.and_eq_true, bne_iff_ne, ne_eq] at hhb
      exact ⟨hhb.1, by simpa using hhb.2⟩
    have hb1 : fd.body.isNone = false := by rw [hbody]; rfl
    simp only [Deferred.ofValue, pure_bind, invoke, callFunc, Sem.run_bind, run_program, Result.andThen_ok, hfd, hb.2, hb1, Bool.false_eq_true, if_false, Sem.run_pure]
  refine .inr (.inr (.inl ⟨id, _, C.w, hen, fun cs => ?_⟩))
  -- the run of its body
  let b : Frame := { (default : Frame) with fn := id, kind := .normal }
  have henter : Frame.enter P id (va ++ rargs ++ vb) .normal = b.atR { tmps := (va ++ rargs ++ vb) ++ Array.replicate (fd.ntmps - (va ++ rargs ++ vb).size) undef, defers := [] } [.code c] := by
    simp [Frame.enter, Frame.atR, hfd, hbody, b]
    rfl
  have hends := ih H.length _ _ H j τ1 H1 hrun C H C b { tmps := (va ++ rargs ++ vb) ++ Array.replicate (fd.ntmps - (va ++ rargs ++ vb).size) undef, defers := [] } [.code c] [] cs fd.ntmps hH rfl (Nx.refl C) hH ⟨⟨_, _, hx⟩, trivial⟩ (rt_number hargs)
    (by simp only [Array.size_append, Array.size_replicate]; omega) trivial (.inl rfl)
  rw [List.append_nil, ← henter] at hends
  obtain ⟨C1, tmps', ds', k1, k2, k3, k4, k5, k6⟩ := hends
  -- to the end of the frame
  have hret : ∃ todo, Steps P (lone (Frame.enter P id (va ++ rargs ++ vb) .normal) cs C.w) (lone { (b.atR ⟨tmps', ds'⟩ todo) with mode := .returning } cs C1.w) ∧ ∃ vs, aresults τ1 H1 rs = some vs ∧ gcRet H.length (packed vs) H1 = some (v, H') := by
    cases j with
    | none =>
      simp only [Option.bind_eq_some_iff] at h
      obtain ⟨vs, hvs, h⟩ := h
      exact ⟨[], Steps.trans k6 (.one (stepR_end rfl)), vs, hvs, h⟩
    | some j =>
      cases j with
      | exit i => cases h
      | ret =>
        simp only [Option.bind_eq_some_iff] at h
        obtain ⟨vs, hvs, h⟩ := h
        obtain ⟨rest, k6⟩ := k6
        exact ⟨_, Steps.trans k6 (.one (stepR_ret rfl)), vs, hvs, h⟩
  obtain ⟨todo, hs, vs, hvs, hgc⟩ := hret
  obtain ⟨w', u1, u2, u3, u6, u4, u5⟩ := unmark (fr := { (b.atR ⟨tmps', ds'⟩ todo) with mode := .returning }) (cs := cs) rfl k5 k1
  have hx2 : RT { C1 with w := w' } τ1 tmps' := fun t => RV_id u2 (fun _ _ => trivial) (k3 t)
  have hN2 : Nx C { C1 with w := w' } := by
    refine ⟨by simpa using k2.tr.comp u2 (fun _ _ => trivial), by simp only [u3]; exact k2.size, fun b hb hne => ?_, fun i s hs hd hlt => k2.own i s hs hd hlt, k2.env.trans u6, fun b o hf => k2.fzg b o hf⟩
    show w'.heap[b]? = _
    rw [u4 b hb]; exact k2.frame b hb hne
  obtain ⟨y, y1, y2⟩ := run_results u1 hx2 hrs hvs
  obtain ⟨C3, w3, g1, g2, g3⟩ := sim_gcRet hH rfl hN2 u1 y2 hgc
  refine ⟨.returned y, w', { (b.atR ⟨tmps', ds'⟩ todo) with mode := .returning, defers := [] }, ⟨y, rfl, C3, w3, g1, g2, g3⟩, ?_, rfl, rfl, rfl, rfl, fd, hfd, y1⟩
  exact Steps.trans hs u5
end
end Go.AM
namespace Go.AM
section
set_option linter.unusedSectionVars false
variable [DecidableEq AVal] {E : Nat → Option IFn} {P : Program}

/-- A loop's record with another state. -/
theorem turn_loop {C : Ctx} {H : Heap} {i st st' : Nat} {pd pd' : Option Jump} {sn : Tmps} {ps : List Nat} {a b : ICode} (hH : HR P C H) (hi : H[i]? = some (.loop st pd sn ps a b)) (hst : st' ≤ 2) :
    ∃ L : Loop, C.w.heap[C.ν i]? = some (.loop L) ∧ L.state = stateOf st ∧ ∀ {C' : Ctx}, C'.w = C.w.putObj (C.ν i) (.loop { L with state := stateOf st', pending := jumpCode pd' }) → C'.ν = C.ν → C'.sh = C.sh → C'.Fz = C.Fz →
      HR P C' (H.set i (.loop st' pd' sn ps a b)) ∧ Nx C C' := by
  obtain ⟨h1, L, nt, h2, h3, h4, h5, h6, h7, h8, h9, h10, h11, h12⟩ := hH.ent i _ hi
  have hbz : C.ν i < C.w.heap.size := hH.block h1 (by simp)
  refine ⟨L, h2, h4, fun {C'} hw hν hsh hF => ?_⟩
  refine hH.turn (s := .loop) (s' := .loop) hi h1 (by simp) (fun b hb => by rw [hw]; exact World.putObj_heap_other hb) (by rw [hw]; simp) hν (by
    rw [hsh]
    funext j
    by_cases hj : j = i
    · subst hj; rw [upd_same]; exact h1
    · rw [upd_ne _ _ hj]) (by simp) hF (fun o ho => absurd ho (h12 o)) (.inl rfl) (fun N => ?_) (env := by rw [hw]; exact putObj_env h2 (by simp) (by simp))
  exact ⟨by rw [hsh]; exact h1, { L with state := stateOf st', pending := jumpCode pd' }, nt, by rw [hν, hw]; exact World.putObj_heap_same hbz, hst, rfl, rfl, h6.nx N, h7, h8, h9, h10, h11, fun o ho => h12 o (by rw [hF, hν] at ho; exact ho)⟩

theorem lk_middle {t p : Nat} {v : AVal} {τ : Tmps} : ∀ {A : Tmps}, (∀ q ∈ A, q.1 ≠ p) → lk t (A ++ (p, v) :: τ) = lk t ((p, v) :: (A ++ τ))
  | [], _ => rfl
  | (u, x) :: r, h => by
    have h1 := h (u, x) (by simp)
    have ih := lk_middle (t := t) (v := v) (τ := τ) (A := r) (fun q hq => h q (by simp [hq]))
    simp only [List.cons_append, lk] at ih ⊢
    by_cases e1 : t = u
    · have : ¬ (t = p) := fun e => h1 (e1.symm.trans e)
      simp [e1, h1]
    · simp only [e1, if_false, ih]

theorem foldl_params {C : Ctx} : ∀ {ps : List Nat} {args : List AVal} {xs : List Value} {τ : Tmps} {tmps : Array Value}, args.length = ps.length → RL C args xs → RT C τ tmps → (∀ p ∈ ps, p < tmps.size) → ps.Nodup →
    RT C (ps.zip args ++ τ) ((ps.zip xs).foldl (fun tmps (p : Nat × Value) => tmps.setIfInBounds p.1 p.2) tmps) ∧ ((ps.zip xs).foldl (fun tmps (p : Nat × Value) => tmps.setIfInBounds p.1 p.2) tmps).size = tmps.size
  | [], args, xs, τ, tmps, hl, ha, hx, hp, hn => ⟨by simpa using hx, by simp⟩
  | p :: ps, [], xs, τ, tmps, hl, ha, hx, hp, hn => by simp at hl
  | p :: ps, v :: args, xs, τ, tmps, hl, ha, hx, hp, hn => by
    simp only [RL] at ha
    obtain ⟨x, s, rfl, h1, h2⟩ := ha
    rw [List.nodup_cons] at hn
    have hx' : RT C ((p, v) :: τ) (tmps.setIfInBounds p x) := RT.put (a := { tmps, defers := [] }) (dst := some p) hx h1 (fun d e => by cases e; exact hp p (by simp))
    obtain ⟨j1, j2⟩ := foldl_params (ps := ps) (args := args) (τ := (p, v) :: τ) (tmps := tmps.setIfInBounds p x) (by simpa using hl) h2 hx' (fun q hq => by simp; exact hp q (by simp [hq])) hn.2
    simp only [List.zip_cons_cons, List.foldl_cons]
    refine ⟨fun t => ?_, by rw [j2]; simp⟩
    have := j1 t
    rw [lk_middle (fun q hq => by
      have := (List.of_mem_zip hq).1
      exact fun e => hn.1 (e ▸ this))] at this
    exact this

/-- A round of a loop. -/
theorem yld_ok {n : Nat} (ih : RunOk E P n) {i : Nat} {args : List AVal} {H : Heap} {v : AVal} {H' : Heap} (h : acall E (n + 1) (.yld i) args H = some (v, H'))
    {C : Ctx} {rf : Value} {rargs : Array Value} (hH : HR P C H) (hf : RV C (.yld i) rf) (ha : RL C args rargs.toList) :
    Goes P (do let d ← Deferred.ofValue rf rargs; invoke d.target d.args) C.w (After P C v H') := by
  rw [acall_yld] at h
  split at h
  · rename_i pd sn ps ia ib hi
    split at h
    · cases h
    · rename_i hlen
      have hlen : args.length = ps.length := by simpa using hlen
      simp only [Option.bind_eq_some_iff] at h
      obtain ⟨⟨j1, τ1, H1⟩, hr1, h⟩ := h
      unfold roundBody at h
      split at h
      · cases h
      · rename_i hj1
        simp only [] at hj1
        subst hj1
        split at h
        · rename_i p1 sn1 ps1 a1 b1 hi1
          simp only [Option.bind_eq_some_iff] at h
          obtain ⟨⟨j2, τ2, H2⟩, hr2, h⟩ := h
          unfold roundEnd at h
          split at h
          · rename_i st2 pd2 sn2 ps2 a2 b2 hi2
            simp only [] at hi1 hi2 h hr2
            -- the record
            obtain ⟨h1, L, nt, h2, h3, h4, h5, h6, h7, h8, h9, h10, h11, h12⟩ := hH.ent i _ hi
            obtain ⟨l, rfl, hl⟩ := hf
            rw [h1] at hl
            rcases hl with hl | ⟨_, rfl⟩
            · cases hl
            have hrl := RL_length ha
            have hsz : (#[] ++ rargs).size = L.params.size := by
              have e1 : rargs.size = args.length := by simpa using hrl
              have e2 : L.params.size = ps.length := by rw [← h8]; simp
              simp [e1, e2, hlen]
            have hy : (do let d ← Deferred.ofValue (.func (.yield (C.ν i)) #[] #[]) rargs; invoke d.target d.args : Sem Next).run P C.w = .ok (.round (C.ν i) L.fn ((L.params.zip (#[] ++ rargs)).foldl (fun tmps (t, a) => tmps.setIfInBounds t a) L.tmps) L.assign L.body) C.w := by
              simp only [Deferred.ofValue, pure_bind, invoke]
              exact run_yield h2 hsz
            refine .inr (.inr (.inr ⟨_, _, _, _, _, C.w, hy, fun c cs => ?_⟩))
            have hfold : (L.params.zip (#[] ++ rargs)).foldl (fun tmps (x : Nat × Value) => tmps.setIfInBounds x.1 x.2) L.tmps = (ps.zip rargs.toList).foldl (fun tmps (x : Nat × Value) => tmps.setIfInBounds x.1 x.2) L.tmps := by
              rw [← Array.foldl_toList, Array.toList_zip, h8]; simp
            obtain ⟨f1, f2⟩ := foldl_params (C := C) hlen ha h6 (fun p hp => Nat.lt_of_lt_of_le (h9.1 p hp) h7) h9.2
            rw [← hfold] at f1 f2
            generalize hT : (L.params.zip (#[] ++ rargs)).foldl (fun tmps (x : Nat × Value) => tmps.setIfInBounds x.1 x.2) L.tmps = T at f1 f2
            let b : Frame := { (default : Frame) with fn := L.fn, kind := .normal, roundOf := some (C.ν i) }
            have hfr : Frame.round (C.ν i) L.fn T L.assign L.body .normal = b.atR { tmps := T, defers := [] } ([.code L.assign] ++ [.beginRound, .code L.body]) := rfl
            rw [hfr]
            -- the assignments
            obtain ⟨C1, T1, ds1, k1, k2, k3, k4, k5, k6⟩ := ih H.length _ _ H none τ1 H1 hr1 C H C b { tmps := T, defers := [] } [.code L.assign] [.beginRound, .code L.body] (c :: cs) nt hH rfl (Nx.refl C) hH ⟨h10.1, trivial⟩ f1 (by simp only [f2]; exact h7) trivial
              (.inr (by simp [plainT, h10.2]))
            simp only [] at k6 k4
            -- the round is begun
            have hν1 : C1.ν i = C.ν i := by
              obtain ⟨e1, _⟩ := k1.ent i _ hi1
              have := k2.tr.sh i _ trivial h1
              simp only [id, e1] at this
              rcases this with e | ⟨_, e⟩ | ⟨_, _, _, _, _, e, _⟩
              · cases e
              · exact e
              · cases e
            obtain ⟨L1, m1, m2, m3⟩ := turn_loop (st' := 1) (pd' := p1) k1 hi1 (by omega)
            have hbz : C1.ν i < C1.w.heap.size := (Array.getElem?_eq_some_iff.1 m1).1
            have hbeg := run_beginRound (P := P) m1 (by rw [m2]; rfl)
            rw [hν1] at hbeg
            have hpend : L1.pending = jumpCode p1 := by
              obtain ⟨_, L', _, e1, _, _, e2, _⟩ := k1.ent i _ hi1
              rw [m1] at e1; cases e1; exact e2
            obtain ⟨n1, n2⟩ := m3 (C' := { C1 with w := C1.w.putObj (C1.ν i) (.loop { L1 with state := .busy }) }) (by rw [← hpend]; rfl) rfl rfl rfl
            have hst1 := stepR_beginRound (b := b) (a := { tmps := T1, defers := ds1 }) (k := [.code L.body]) (cs := c :: cs) rfl hbeg
            -- the body
            have hends := ih H.length _ _ _ j2 τ2 H2 hr2 C H { C1 with w := C1.w.putObj (C1.ν i) (.loop { L1 with state := .busy }) } b { tmps := T1, defers := ds1 } [.code L.body] [] (c :: cs) nt hH rfl (k2.trans n2) n1 ⟨h11.1, trivial⟩ (k3.nx n2)
              (by simp only [k4, f2]; exact h7) (k5.nx n2) (.inr (by simp [plainT, h11.2]))
            obtain ⟨C2, T2, ds2, q1, q2, q3, q4, q5, q6⟩ := hends
            have hν2 : C2.ν i = C.ν i := by
              obtain ⟨e1, _⟩ := q1.ent i _ hi2
              have := q2.tr.sh i _ trivial h1
              simp only [id, e1] at this
              rcases this with e | ⟨_, e⟩ | ⟨_, _, _, _, _, e, _⟩
              · cases e
              · exact e
              · cases e
            -- the round is ended
            obtain ⟨L2, r1, r2, r3⟩ := turn_loop (st' := if j2.isNone = true then 0 else 2) (pd' := j2) q1 hi2 (by split <;> omega)
            have hend := run_endRound (P := P) (jumpCode j2) r1
            rw [hν2] at hend
            have hjn : (jumpCode j2).isNone = j2.isNone := by
              cases j2 with
              | none => rfl
              | some j => cases j <;> rfl
            rw [hjn] at hend
            have hstate : (if j2.isNone = true then LoopState.ready else .done) = stateOf (if j2.isNone = true then 0 else 2) := by split <;> rfl
            rw [hstate, ← hν2] at hend
            obtain ⟨t1, t2⟩ := r3 (C' := { C2 with w := C2.w.putObj (C2.ν i) (.loop { L2 with state := stateOf (if j2.isNone = true then 0 else 2), pending := jumpCode j2 }) }) rfl rfl rfl rfl
            obtain ⟨C3, w3, g1, g2, g3⟩ := sim_gcRet (v := vbool j2.isNone) (x := .bool j2.isNone) hH rfl (q2.trans t2) t1 rfl h
            refine ⟨.bool j2.isNone, C3.w, ⟨C3, rfl, g1, g2, g3⟩, ?_⟩
            rw [w3]
            have hpre := Steps.trans k6 (.one hst1)
            rw [hν1] at q6
            simp only [List.append_nil] at q6
            rw [hν2] at hend
            rw [hν2]
            cases j2 with
            | none => exact Steps.trans hpre (Steps.trans q6 (.one (stepR_round_end rfl rfl hend)))
            | some j =>
              cases j with
              | ret =>
                obtain ⟨rest, q6⟩ := q6
                exact Steps.trans hpre (Steps.trans q6 (.one (stepR_round_ret rfl rfl hend)))
              | exit id =>
                obtain ⟨rest, q7, q6⟩ := q6 trivial
                exact Steps.trans hpre (Steps.trans q6 (.one (stepR_round_exit rfl rfl q7 hend)))
          · cases h
        · cases h
  · cases h

/-- THE SOUNDNESS OF THE MACHINE. -/
theorem sound (hmix : P.follows .mixedOrders = true) (hL : LibsOk P) (hE : ∀ f fn, E f = some fn → ∃ ls, compF P ls f = some fn) : ∀ n, CalleeOk P (acall E n) ∧ RunOk E P n
  | 0 => ⟨⟨fun f args H v H' h => by simp [acall] at h, hL⟩, fun m k τ H j τ' H' h => by simp [arun] at h⟩
  | n + 1 => by
    obtain ⟨h1, h2⟩ := sound hmix hL hE n
    refine ⟨⟨fun f args H v H' h C rf rargs hH hf ha => ?_, hL⟩, run_step hmix h1 h2⟩
    cases f with
    | func fn first cap =>
      cases fn with
      | func id => exact func_ok hE h2 h hH hf ha
      | _ => simp [acall] at h
    | yld i => exact yld_ok h2 h hH hf ha
    | _ => simp [acall] at h
end
end Go.AM
namespace Go.AM
section
variable {H : Type}

/-! ### Arguments, as they are read -/

def All2 {α β : Type} (R : α → β → Prop) : List α → List β → Prop
  | [], [] => True
  | a :: r, b :: s => R a b ∧ All2 R r s
  | _, _ => False

def FieldsR {α β : Type} (R : TypeId → α → β → Prop) : List Field → List α → List β → Prop
  | [], [], [] => True
  | f :: fs, a :: r, b :: s => R f.type a b ∧ FieldsR R fs r s
  | _, _, _ => False

/-- The cells that a datum comes to. -/
def Dec (P : Program) : Nat → TypeId → DataW H → List AVal → Prop
  | 0, _, _, _ => False
  | n + 1, t, d, as => match P.underlying t with
    | some .bool => ∃ b, d = .lit (.bool b) ∧ as = [.lit (.bool b)]
    | some (.int k) => ∃ v, d = .lit (.int k v) ∧ (Lit.int k v).wf = true ∧ as = [.lit (.int k v)]
    | some .string => ∃ s : ByteArray, d = .lit (.string s.data.toList) ∧ s.size ≤ maxLen ∧ as = [.lit (.string s)]
    | some (.slice e) => (d = .nil ∧ as = [nilS]) ∨ ∃ elems spare rows, d = .slice elems spare ∧ as = [.imm false false true rows] ∧ All2 (Dec P n e) elems rows ∧ rows.length ≤ maxLen
    | some (.struct fs) => ∃ parts ass, d = .agg parts ∧ as = ass.flatten ∧ FieldsR (Dec P n) fs.toList parts ass
    | some (.array m e) => ∃ parts ass, d = .agg parts ∧ as = ass.flatten ∧ parts.length = m ∧ All2 (Dec P n e) parts ass
    | _ => False

def tiles (P : Program) : Nat → List Field → Nat → Bool
  | off, [], total => off == total
  | off, f :: r, total => f.offset == off && tiles P (off + P.cellsOf f.type) r total

/-- A type of plain data whose parts lie side by side. -/
def dataT (P : Program) : Nat → TypeId → Bool
  | 0, _ => false
  | d + 1, t => match P.underlying t with
    | some .bool | some (.int _) | some .string => true
    | some (.slice e) => dataT P d e && P.cellsOf e != 0
    | some (.array n e) => dataT P d e && P.cellsOf t == n * P.cellsOf e
    | some (.struct fs) => tiles P 0 fs.toList (P.cellsOf t) && fs.toList.all fun f => dataT P d f.type
    | _ => false

/-- The memory of the arguments: nothing of it turns. -/
def startC (w : World) : Ctx := { ν := fun _ => 0, sh := fun _ => none, Fz := fun b o => (w.cell? ⟨b, o, none⟩).isSome = true, w := w }

theorem startC_ok (P : Program) (w : World) : HR P (startC w) [] := by
  refine ⟨by simp, fun _ _ => rfl, fun i j s s' h => by simp [startC] at h, fun b o h => ?_⟩
  simp only [startC, World.cell?] at h ⊢
  rcases Nat.lt_or_ge b w.heap.size with hlt | hge
  · exact hlt
  · rw [Array.getElem?_eq_none hge] at h; simp at h

theorem mapM_spec {α β : Type} {f : α → Option β} : ∀ {l : List α} {bs : List β}, l.mapM f = some bs → bs.length = l.length ∧ ∀ (i : Nat) (a : α) (b : β), l[i]? = some a → bs[i]? = some b → f a = some b
  | [], bs, h => by simp at h; subst h; simp
  | x :: r, bs, h => by
    rw [List.mapM_cons] at h
    simp only [bind, Option.bind_eq_some_iff, pure, Option.some.injEq] at h
    obtain ⟨y, hy, ys, hys, rfl⟩ := h
    obtain ⟨h1, h2⟩ := mapM_spec hys
    refine ⟨by simp [h1], fun i a b ha hb => ?_⟩
    cases i with
    | zero => simp at ha hb; subst ha hb; exact hy
    | succ i => exact h2 i a b (by simpa using ha) (by simpa using hb)

theorem cells_spec {w : World} {a : Addr} {n : Nat} {cs : List Value} (h : w.cells? 0 a n = some cs) : cs.length = n ∧ ∀ i v, cs[i]? = some v → w.cell? (a.add i) = some v := by
  unfold World.cells? at h
  rw [if_pos (Nat.zero_le _)] at h
  obtain ⟨h1, h2⟩ := mapM_spec h
  have hl : cs.length = n := by simpa using h1
  refine ⟨hl, fun i v hv => ?_⟩
  have hi := (List.getElem?_eq_some_iff.1 hv).1
  exact h2 i i v (by rw [List.getElem?_range (by omega)]) hv

theorem all2_map {α β γ : Type} {R : α → β → Prop} {D : γ → α} {f : γ → β} : ∀ {l : List γ}, (∀ x ∈ l, R (D x) (f x)) → All2 R (l.map D) (l.map f)
  | [], _ => trivial
  | x :: r, h => ⟨h x (by simp), all2_map fun y hy => h y (by simp [hy])⟩

theorem flatL_mem {l : List AVal} (h : ∀ a ∈ l, flatV a = true) : flatL l = true := by
  induction l with
  | nil => rfl
  | cons a r ih => rw [flatL, h a (by simp), ih fun b hb => h b (by simp [hb])]; rfl
theorem flatL_flatten {ass : List (List AVal)} (h : ∀ a ∈ ass, flatL a = true) : flatL ass.flatten = true := by
  induction ass with
  | nil => rfl
  | cons a r ih => rw [List.flatten_cons, flatL_append, h a (by simp), ih fun b hb => h b (by simp [hb])]; rfl
theorem flatLL_of {ass : List (List AVal)} (h : ∀ a ∈ ass, flatL a = true) : flatLL ass = true := by
  rw [flatLL_flatten]; exact flatL_flatten h

variable {enc : TypeId × Value → H} {P : Program} {w : World} {sp : Nat → Bool} {held : Bool}

theorem fields_rel {R : TypeId → DataW H → List AVal → Prop} : ∀ {fs : List Field} {off total : Nat} {cs : List Value} {xs : List (DataW H × List MemPlace)}, tiles P off fs total = true → cs.length = total → xs.length = fs.length →
    (∀ (i : Nat) (f : Field) (y : DataW H × List MemPlace), fs[i]? = some f → xs[i]? = some y → ∃ as, RL (startC w) as ((cs.drop f.offset).take (P.cellsOf f.type)) ∧ flatL as = true ∧ (∀ c ∈ (cs.drop f.offset).take (P.cellsOf f.type), c.oneCell' = true) ∧ R f.type y.1 as) →
    ∃ ass, RL (startC w) ass.flatten (cs.drop off) ∧ flatL ass.flatten = true ∧ (∀ c ∈ cs.drop off, c.oneCell' = true) ∧ FieldsR R fs (xs.map (·.1)) ass
  | [], off, total, cs, xs, ht, hl, hx, h => by
    have : off = total := by simpa [tiles] using ht
    have hxs : xs = [] := List.length_eq_zero_iff.1 (by simpa using hx)
    subst hxs
    refine ⟨[], ?_, rfl, ?_, trivial⟩
    · rw [List.drop_eq_nil_of_le (by omega)]; rfl
    · rw [List.drop_eq_nil_of_le (by omega)]; simp
  | f :: r, off, total, cs, [], ht, hl, hx, h => by simp at hx
  | f :: r, off, total, cs, y :: ys, ht, hl, hx, h => by
    simp only [tiles, Bool.and_eq_true, beq_iff_eq] at ht
    obtain ⟨as, h1, h2, h3, h4⟩ := h 0 f y rfl rfl
    rw [ht.1] at h1 h3
    obtain ⟨ass, k1, k2, k3, k4⟩ := fields_rel (fs := r) (xs := ys) ht.2 hl (by simpa using hx) (fun i g z hg hz => h (i + 1) g z (by simpa using hg) (by simpa using hz))
    have hsplit : cs.drop off = (cs.drop off).take (P.cellsOf f.type) ++ cs.drop (off + P.cellsOf f.type) := by
      rw [← List.drop_drop, List.take_append_drop]
    refine ⟨as :: ass, ?_, ?_, fun c hc => ?_, h4, k4⟩
    · rw [List.flatten_cons, hsplit]; exact RL_append h1 k1
    · rw [List.flatten_cons, flatL_append, h2, k2]; rfl
    · rw [hsplit] at hc
      rcases List.mem_append.1 hc with hc | hc
      · exact h3 c hc
      · exact k3 c hc

theorem elems_rel {R : DataW H → List AVal → Prop} {sz : Nat} : ∀ {n : Nat} {cs : List Value} {xs : List (DataW H × List MemPlace)}, cs.length = n * sz → xs.length = n →
    (∀ (i : Nat) (y : DataW H × List MemPlace), xs[i]? = some y → ∃ as, RL (startC w) as ((cs.drop (i * sz)).take sz) ∧ flatL as = true ∧ (∀ c ∈ (cs.drop (i * sz)).take sz, c.oneCell' = true) ∧ R y.1 as) →
    ∃ ass, RL (startC w) ass.flatten cs ∧ flatL ass.flatten = true ∧ (∀ c ∈ cs, c.oneCell' = true) ∧ All2 R (xs.map (·.1)) ass
  | 0, cs, xs, hl, hx, h => by
    have hc : cs = [] := List.length_eq_zero_iff.1 (by simpa using hl)
    have hxs : xs = [] := List.length_eq_zero_iff.1 hx
    subst hc hxs
    exact ⟨[], rfl, rfl, by simp, trivial⟩
  | n + 1, cs, [], hl, hx, h => by simp at hx
  | n + 1, cs, y :: ys, hl, hx, h => by
    obtain ⟨as, h1, h2, h3, h4⟩ := h 0 y rfl
    simp only [Nat.zero_mul, List.drop_zero] at h1 h3
    rw [Nat.succ_mul] at hl
    obtain ⟨ass, k1, k2, k3, k4⟩ := elems_rel (sz := sz) (n := n) (cs := cs.drop sz) (xs := ys) (by rw [List.length_drop]; omega) (by simpa using hx) (fun i z hz => by
      have := h (i + 1) z (by simpa using hz)
      rw [show (i + 1) * sz = sz + i * sz by rw [Nat.succ_mul]; omega, ← List.drop_drop] at this
      exact this)
    refine ⟨as :: ass, ?_, ?_, fun c hc => ?_, h4, k4⟩
    · rw [List.flatten_cons]
      have := RL_append h1 k1
      rwa [List.take_append_drop] at this
    · rw [List.flatten_cons, flatL_append, h2, k2]; rfl
    · rw [← List.take_append_drop sz cs] at hc
      rcases List.mem_append.1 hc with hc | hc
      · exact h3 c hc
      · exact k3 c hc

theorem of_trod : ∀ (d : Nat) (t : TypeId) (fuel : Nat) (cs : List Value) (x : DataW H × List MemPlace), dataT P d t = true → DataW.trod enc P w 0 sp held fuel t cs = some x →
    ∃ as, RL (startC w) as cs ∧ flatL as = true ∧ (∀ c ∈ cs, c.oneCell' = true) ∧ Dec P d t x.1 as
  | 0, t, fuel, cs, x, hd, h => by simp [dataT] at hd
  | d + 1, t, fuel, cs, x, hd, h => by
    rw [dataT] at hd
    simp only [Dec]
    cases hu : P.underlying t with
    | none => rw [hu] at hd; cases hd
    | some td =>
      rw [hu] at hd
      cases td with
      | bool =>
        obtain ⟨b, rfl, rfl⟩ := DataW.trod_bool hu h
        exact ⟨[.lit (.bool b)], ⟨_, [], rfl, rfl, rfl⟩, rfl, by simp [Value.oneCell'], b, rfl, rfl⟩
      | int k =>
        obtain ⟨n, rfl, rfl, hw⟩ := DataW.trod_int hu h
        exact ⟨[.lit (.int k n)], ⟨_, [], rfl, rfl, rfl⟩, rfl, by simp [Value.oneCell'], n, rfl, hw, rfl⟩
      | string =>
        obtain ⟨s, rfl, rfl, hs⟩ := DataW.trod_string hu h
        exact ⟨[.lit (.string s)], ⟨_, [], rfl, rfl, rfl⟩, rfl, by simp [Value.oneCell'], s, rfl, hs, rfl⟩
      | struct fs =>
        simp only [Bool.and_eq_true] at hd
        obtain ⟨xs, n, rfl, rfl, hl, hxl, hf⟩ := DataW.trod_struct hu h
        obtain ⟨ass, k1, k2, k3, k4⟩ := fields_rel (R := fun t y as => Dec P d t y as) (w := w) hd.1 hl (by simpa using hxl) (fun i f y hfi hy => by
          have h1 := hf i f (by simpa using hfi)
          rw [hy] at h1
          exact of_trod d f.type n _ y (List.all_eq_true.1 hd.2 f (List.mem_of_getElem? hfi)) h1)
        rw [List.drop_zero] at k1 k3
        exact ⟨_, k1, k2, k3, _, ass, rfl, rfl, k4⟩
      | array n e =>
        simp only [Bool.and_eq_true, beq_iff_eq] at hd
        obtain ⟨xs, m, rfl, rfl, hl, hxl, hf⟩ := DataW.trod_array hu h
        obtain ⟨ass, k1, k2, k3, k4⟩ := elems_rel (R := fun y as => Dec P d e y as) (w := w) (sz := P.cellsOf e) (n := n) (by rw [hl, hd.2]) hxl (fun i y hy => by
          have hi : i < n := by rw [← hxl]; exact (List.getElem?_eq_some_iff.1 hy).1
          have h1 := hf i hi
          rw [hy] at h1
          exact of_trod d e m _ y hd.1 h1)
        exact ⟨_, k1, k2, k3, _, ass, rfl, rfl, by simpa using hxl, k4⟩
      | slice e =>
        simp only [Bool.and_eq_true, bne_iff_ne, ne_eq] at hd
        rcases DataW.trod_slice hu h with ⟨rfl, rfl⟩ | ⟨a, len, cap, elems, rest, n, rfl, rfl, rfl, _, hlc, hcm, hel, hcell, _, _⟩
        · refine ⟨[nilS], ⟨_, [], rfl, ⟨none, 0, rfl, Nat.le_refl _, fun _ => rfl, rfl, fun _ => rfl, fun _ => rfl, fun ad e => by cases e⟩, rfl⟩, rfl, by simp [Value.oneCell'], .inl ⟨rfl, rfl⟩⟩
        · -- the rows
          have hrow : ∀ i, i < len → ∃ as cs', w.cells? 0 (a.add (i * P.cellsOf e)) (P.cellsOf e) = some cs' ∧ RL (startC w) as cs' ∧ flatL as = true ∧ (∀ c ∈ cs', c.oneCell' = true) ∧ ∃ y, elems[i]? = some y ∧ Dec P d e y.1 as := by
            intro i hi
            have h1 := hcell i hi
            have h2 : ∃ y, elems[i]? = some y := ⟨_, List.getElem?_eq_getElem (by omega)⟩
            obtain ⟨y, hy⟩ := h2
            rw [hy, Option.bind_eq_some_iff] at h1
            obtain ⟨cs', hc, ht⟩ := h1
            obtain ⟨as, k1, k2, k3, k4⟩ := of_trod d e n cs' y hd.1 ht
            exact ⟨as, cs', hc, k1, k2, k3, y, hy, k4⟩
          let row : Nat → List AVal := fun i => if h : i < len then Classical.choose (hrow i h) else []
          have hrs : ∀ i, i < len → ∃ cs', w.cells? 0 (a.add (i * P.cellsOf e)) (P.cellsOf e) = some cs' ∧ RL (startC w) (row i) cs' ∧ flatL (row i) = true ∧ (∀ c ∈ cs', c.oneCell' = true) ∧ ∃ y, elems[i]? = some y ∧ Dec P d e y.1 (row i) := by
            intro i hi
            have := Classical.choose_spec (hrow i hi)
            simp only [row, hi, dif_pos]
            exact this
          let rows := (List.range len).map row
          have hlen : rows.length = len := by simp [rows]
          have hget : ∀ i r, rows[i]? = some r → i < len ∧ r = row i := by
            intro i r hr
            simp only [rows, List.getElem?_map, Option.map_eq_some_iff] at hr
            obtain ⟨j, hj, rfl⟩ := hr
            obtain ⟨h1, h2⟩ := List.getElem?_eq_some_iff.1 hj
            simp at h1 h2
            subst h2
            exact ⟨h1, rfl⟩
          have hflat : flatLL rows = true := flatLL_of fun r hr => by
            obtain ⟨i, hi⟩ := List.mem_iff_getElem?.1 hr
            obtain ⟨h1, rfl⟩ := hget i r hi
            obtain ⟨_, _, _, h2, _⟩ := hrs i h1
            exact h2
          have hall : All2 (Dec P d e) (elems.map (·.1)) rows := by
            have he : elems.map (·.1) = (List.range len).map fun i => (elems.getD i (.nil, [])).1 := by
              apply List.ext_getElem?
              intro i
              simp only [List.getElem?_map]
              by_cases hi : i < len
              · have : i < elems.length := by omega
                simp [hi, List.getD_eq_getElem?_getD, List.getElem?_eq_getElem this]
              · rw [List.getElem?_eq_none (by omega), List.getElem?_eq_none (by simpa using hi)]; rfl
            rw [he]
            refine all2_map fun i hi => ?_
            have hi : i < len := by simpa using hi
            obtain ⟨_, _, _, _, _, y, hy, hdec⟩ := hrs i hi
            rw [List.getD_eq_getElem?_getD, hy]
            exact hdec
          refine ⟨[.imm false false true rows], ⟨_, [], rfl, ⟨some a, cap, by rw [hlen], by rw [hlen]; exact hlc, (fun e => by cases e), rfl, (fun e => by cases e), fun _ => hflat, fun ad e hne => ?_⟩, rfl⟩, rfl, by simp [Value.oneCell'], .inr ⟨_, _, rows, rfl, rfl, hall, by rw [hlen]; omega⟩⟩
          cases e
          have h0 : 0 < len := by
            rcases Nat.eq_zero_or_pos len with h0 | h0
            · exact absurd (List.length_eq_zero_iff.1 (by rw [hlen, h0])) hne
            · exact h0
          have hspot : a.spot = none := by
            obtain ⟨cs', hc, _⟩ := hrs 0 h0
            obtain ⟨h1, h2⟩ := cells_spec hc
            have hpos : 0 < cs'.length := by rw [h1]; exact Nat.pos_of_ne_zero hd.2
            have h3 := h2 0 _ (List.getElem?_eq_getElem hpos)
            simp only [Nat.zero_mul] at h3
            unfold World.cell? at h3
            split at h3
            · split at h3
              · cases h3
              · rename_i hsp
                have : ((a.add 0).add 0).spot = a.spot := by simp [Addr.add]
                rw [this] at hsp
                simpa using hsp
            · cases h3
          refine ⟨hspot, P.cellsOf e, ?_⟩
          have ha : a = ⟨a.block, a.off, none⟩ := by cases a; simp_all
          rw [RLL_iff]
          intro j r hr
          obtain ⟨hj, rfl⟩ := hget j r hr
          obtain ⟨cs', hc, k1, k2, k3, _⟩ := hrs j hj
          obtain ⟨h1, h2⟩ := cells_spec hc
          refine ⟨by rw [← RL_length k1, h1], ?_⟩
          rw [RC_iff]
          intro i b hb
          obtain ⟨v, hv, hrv⟩ := RL_get k1 hb
          have h3 := h2 i v hv
          rw [ha, addr_add, addr_add] at h3
          exact ⟨v, h3, by show (w.cell? _).isSome = true; rw [h3]; rfl, k3 v (List.mem_of_getElem? hv), hrv⟩
      | _ => cases hd
end
end Go.AM
namespace Go.AM
open Go.RowKit Go.ChangeShapes
section
set_option linter.unusedSectionVars false
variable {H : Type} {enc : TypeId × Value → H} {P : Program} {w : World} {sp : Nat → Bool} {held : Bool}

theorem okWide_plain {base : Nat} {t : TypeId} {v : Value} {k : Nat} (hd : dataT P k t = true) (h : Value.okWide P w .any base t v) :
    (isAggT P t = true ∧ ∃ cs, v = .agg cs) ∨ (isAggT P t = false ∧ v.cells = #[v]) := by
  cases k with
  | zero => simp [dataT] at hd
  | succ k =>
    rw [dataT] at hd
    unfold Value.okWide at h
    unfold isAggT
    cases hu : P.underlying t with
    | none => rw [hu] at hd; cases hd
    | some td =>
      rw [hu] at hd h
      cases td <;> simp only [] at hd h ⊢
      case struct fs => obtain ⟨cs, rfl, _⟩ := h; exact .inl ⟨trivial, cs, rfl⟩
      case array n e => obtain ⟨cs, rfl, _⟩ := h; exact .inl ⟨trivial, cs, rfl⟩
      all_goals first
        | (exfalso; revert hd; simp; done)
        | (right; refine ⟨trivial, ?_⟩; unfold Cell.okWide Cell.ok at h; rw [hu] at h; cases v <;> first | rfl | (simp at h))

/-- One argument, as the machine has it. -/
def DecV (P : Program) (k : Nat) (t : TypeId) (d : DataW H) (a : AVal) : Prop :=
  if isAggT P t = true then ∃ cs, a = .agg cs ∧ Dec P k t d cs else Dec P k t d [a]

def DecArgs (P : Program) (k : Nat) : List TypeId → List (DataW H) → List AVal → Prop
  | [], [], [] => True
  | t :: ts, d :: ds, a :: as => DecV P k t d a ∧ DecArgs P k ts ds as
  | _, _, _ => False

theorem decode_arg {base k : Nat} {t : TypeId} {v : Value} {d : DataW H} {ps : List MemPlace} (hd : dataT P k t = true) (hok : Value.okWide P w .any base t v) (h : DataW.Trod enc P w 0 sp held t v d ps) :
    ∃ a, RV (startC w) a v ∧ DecV P k t d a := by
  obtain ⟨fuel, h⟩ := h
  obtain ⟨as, h1, h2, h3, h4⟩ := of_trod k t fuel _ _ hd h
  unfold DecV
  rcases okWide_plain hd hok with ⟨ha, cs, rfl⟩ | ⟨ha, hc⟩
  · simp only [ha, if_true]
    exact ⟨.agg as, ⟨cs, rfl, fun v hv => h3 v hv, h1⟩, as, rfl, h4⟩
  · simp only [ha, Bool.false_eq_true, if_false]
    rw [hc] at h1
    have hl := RL_length h1
    cases as with
    | nil => simp at hl
    | cons a r =>
      cases r with
      | cons b r => simp at hl
      | nil =>
        simp only [RL] at h1
        obtain ⟨x, s, e, hx, _⟩ := h1
        cases e
        exact ⟨a, hx, h4⟩

theorem decode_args {base k : Nat} : ∀ {ts : List TypeId} {vs : List Value} {ds : List (DataW H)} {ps : List MemPlace}, (∀ t ∈ ts, dataT P k t = true) → (∀ (j : Nat) (t : TypeId) (v : Value), ts[j]? = some t → vs[j]? = some v → Value.okWide P w .any base t v) →
    DataW.TrodAll enc P w 0 sp held ts vs ds ps → ∃ as, RL (startC w) as vs ∧ DecArgs P k ts ds as
  | [], [], [], ps, _, _, _ => ⟨[], rfl, trivial⟩
  | [], [], _ :: _, ps, _, _, h => by simp [DataW.TrodAll] at h
  | [], _ :: _, _, ps, _, _, h => by simp [DataW.TrodAll] at h
  | _ :: _, [], _, ps, _, _, h => by simp [DataW.TrodAll] at h
  | _ :: _, _ :: _, [], ps, _, _, h => by simp [DataW.TrodAll] at h
  | t :: ts, v :: vs, d :: ds, ps, hd, hok, h => by
    obtain ⟨p, q, h1, h2, rfl⟩ := h
    obtain ⟨a, a1, a2⟩ := decode_arg (hd t (by simp)) (hok 0 t v rfl rfl) h1
    obtain ⟨as, b1, b2⟩ := decode_args (fun u hu => hd u (by simp [hu])) (fun j u x hu hx => hok (j + 1) u x (by simpa using hu) (by simpa using hx)) h2
    exact ⟨a :: as, ⟨v, vs, rfl, a1, b1⟩, a2, b2⟩

theorem trodAll_stays (hl : laidOutB P = true) {W W' : World} {sp' : Nat → Bool} (hb : Below W.heap.size W W') : ∀ {ts : List TypeId} {vs : List Value} {ds : List (DataW H)} {ps : List MemPlace}, (∀ t ∈ ts, P.readableRec t = true ∧ t < P.types.size) →
    DataW.TrodAll enc P W 0 (fun _ => true) true ts vs ds ps → (∀ p ∈ ps, p.block < W.heap.size) → (∀ p ∈ ps, sp' p.block = true) → DataW.TrodAll enc P W' 0 sp' true ts vs ds ps
  | [], [], [], ps, _, h, _, _ => h
  | [], [], _ :: _, ps, _, h, _, _ => by simp [DataW.TrodAll] at h
  | [], _ :: _, _, ps, _, h, _, _ => by simp [DataW.TrodAll] at h
  | _ :: _, [], _, ps, _, h, _, _ => by simp [DataW.TrodAll] at h
  | _ :: _, _ :: _, [], ps, _, h, _, _ => by simp [DataW.TrodAll] at h
  | t :: ts, v :: vs, d :: ds, ps, hr, h, hlt, hs => by
    obtain ⟨p, q, h1, h2, rfl⟩ := h
    exact ⟨p, q, WideElems.Trod_stays hl (hr t (by simp)).1 (hr t (by simp)).2 h1 (fun x hx => hb.same (hlt x (List.mem_append_left _ hx))) (fun x hx => hs x (List.mem_append_left _ hx)),
      trodAll_stays hl hb (fun u hu => hr u (by simp [hu])) h2 (fun x hx => hlt x (List.mem_append_right _ hx)) (fun x hx => hs x (List.mem_append_right _ hx)), rfl⟩

variable [DecidableEq AVal] {E : Nat → Option IFn}

/-- A law's call. -/
theorem law_calls (hmix : P.follows .mixedOrders = true) (hL : LibsOk P) (hE : ∀ f fn, E f = some fn → ∃ ls, compF P ls f = some fn) {n id : Nat} {as : List AVal} {H' : Heap} {args : Array Value} {W : World} (hs : acall E n (.func (.func id) [] []) as [] = some (.lit (.bool true), H')) (hr : RL (startC W) as args.toList) :
    Calls P id args W fun e W' => e = .returned (.bool true) ∧ Below W.heap.size W W' ∧ ∀ a, W'.frozen? a = W.frozen? a := by
  have hg := (sound hmix hL hE n).1.1 _ _ _ _ _ hs (startC W) (.func (.func id) #[] #[]) args (startC_ok P W) ⟨#[], #[], rfl, rfl, rfl⟩ hr
  -- the function has a body
  have hb : ∃ fn ls, E id = some fn ∧ compF P ls id = some fn := by
    cases n with
    | zero => simp [acall] at hs
    | succ n =>
      rw [acall_func] at hs
      simp only [Option.bind_eq_some_iff] at hs
      obtain ⟨fn, hfn, _⟩ := hs
      obtain ⟨ls, hls⟩ := hE id fn hfn
      exact ⟨fn, ls, hfn, hls⟩
  obtain ⟨fn, ls, _, hcf⟩ := hb
  simp only [compF, Option.bind_eq_some_iff] at hcf
  obtain ⟨fd, hfd, c, hbody, hcf⟩ := hcf
  obtain ⟨hhb, _⟩ := Option.ite_none_right_eq_some.1 hcf
  have hen : (do let d ← Deferred.ofValue (.func (.func id) #[] #[]) args; invoke d.target d.args : Sem Next).run P W = .ok (.enter id args) W := by
    have hb : fd.body.isSome = true ∧ (fd.name == "runtime.NumGoroutine") = false := by
      unfold hasBody at hhb
      rw [hfd] at hhb
      simp only [Bool.and_eq_true, bne_iff_ne, ne_eq] at hhb
      exact ⟨hhb.1, by simpa using hhb.2⟩
    have hb1 : fd.body.isNone = false := by rw [hbody]; rfl
    simp only [Deferred.ofValue, pure_bind, invoke, callFunc, Sem.run_bind, run_program, Result.andThen_ok, hfd, hb.2, hb1, Bool.false_eq_true, if_false, Sem.run_pure]
    simp
  have key : Calls P id args W fun e w' => ∃ v, e = .returned v ∧ After P (startC W) (.lit (.bool true)) H' v w' := by
    rcases hg with ⟨v, w', h, _⟩ | ⟨w', h, _⟩ | ⟨f, as', w₁, h, hk⟩ | ⟨l, f, t, a, b, w₁, h, _⟩
    · rw [show (startC W).w = W from rfl, hen] at h; cases h
    · rw [show (startC W).w = W from rfl, hen] at h; cases h
    · rw [show (startC W).w = W from rfl, hen] at h
      cases h
      exact hk
    · rw [show (startC W).w = W from rfl, hen] at h; cases h
  refine key.mono fun e W' hk => ?_
  obtain ⟨v, rfl, C', rfl, hH, hN, hv⟩ := hk
  have hv : v = .bool true := hv
  subst hv
  refine ⟨rfl, ⟨hN.env.os, hN.env.tape, hN.env.output, hN.size, fun k hk => hN.frame k hk fun i s hs => by cases hs⟩, hN.env.frozen⟩

/-- A LAW's CONTRACT: it answers true, and the arguments read as they did. -/
theorem law_contract (hmix : P.follows .mixedOrders = true) (hL : LibsOk P) (hE : ∀ f fn, E f = some fn → ∃ ls, compF P ls f = some fn) (hl : laidOutB P = true) {id : Nat} {f : Func} {s : ChangeSpec} {k nargs : Nat} (hvars : s.vars = [])
    (hts : ∀ t ∈ f.params.toList, dataT P k t = true ∧ P.readableRec t = true ∧ t < P.types.size) {tb : TypeId} (hres : f.resultTypes = #[tb]) (htb : P.underlying tb = some .bool) (hn : f.params.size = nargs)
    (hfn : ∀ ds : List (DataW H), ds.length = nargs → s.fn H ds = { results := [.lit (.bool true)], args := ds })
    {W : World} {base : Nat} {args : Array Value} {ds gs : List (DataW H)} {before : List MemPlace}
    (hval : ∀ (j : Nat) t v, f.params[j]? = some t → args[j]? = some v → Value.okWide P W .any base t v)
    (hW : DataW.Whole enc P f.params.toList s.vars false W args.toList ds gs before)
    (hspec : ∀ as, DecArgs P k f.params.toList ds as → ∃ n H', acall E n (.func (.func id) [] []) as [] = some (.lit (.bool true), H')) :
    Calls P id args W fun e W' => ∃ v, e = .returned v ∧ s.post enc P f false true false false W args v W' := by
  have hW' := hW
  obtain ⟨p, q, hA, hV, rfl, hfz, hnd⟩ := hW
  obtain ⟨as, h1, h2⟩ := decode_args (k := k) (fun t ht => (hts t ht).1) (fun j t v ht hv => hval j t v (by simpa using ht) (by simpa using hv)) hA
  obtain ⟨n, H', hs⟩ := hspec as h2
  rw [hvars] at hV
  obtain ⟨rfl, rfl⟩ := trodVars_none hV
  refine (law_calls hmix hL hE hs h1).mono fun e W' hk => ?_
  obtain ⟨rfl, hb, hfr⟩ := hk
  have hlen : ds.length = nargs := by
    have : ∀ {ts : List TypeId} {vs : List Value} {ds : List (DataW H)} {ps : List MemPlace}, DataW.TrodAll enc P W 0 (fun _ => true) true ts vs ds ps → ds.length = ts.length := by
      intro ts
      induction ts with
      | nil => intro vs ds ps h; cases vs <;> cases ds <;> simp_all [DataW.TrodAll]
      | cons t ts ih =>
        intro vs ds ps h
        cases vs with
        | nil => simp [DataW.TrodAll] at h
        | cons v vs => cases ds with
          | nil => simp [DataW.TrodAll] at h
          | cons d ds => obtain ⟨_, _, _, h2, _⟩ := h; simp [ih h2]
    rw [this hA]; simpa using hn
  have hlt : ∀ x ∈ p, x.block < W.heap.size := fun x hx => by simpa using hW'.lt x (by simp [hx])
  have e1 := hfn (ds ++ []) (by simpa using hlen)
  refine ⟨_, rfl, post_of_same (pa := p) (pv := []) hW' (fun b sp hd => ?_) (fun sp hsp => ?_) (fun sp _ => ?_) (by simp) (hb.frame _) hfr ?_⟩
  · rw [e1, hres]
    exact trodAll_cons_mk (shut_bool htb _) trodAll_mk0
  · rw [e1, List.append_nil]
    exact trodAll_stays hl hb (fun t ht => (hts t ht).2) hA hlt (fun x hx => hsp x (by simp [hx]))
  · rw [hvars, e1]; rfl
  · exact ok_one hres rfl (okWide_bool_mk htb _)
end
end Go.AM
namespace Go.AM
open Go
section
variable (c : Callee) (ρ : Opd → AVal) (H : Heap)
theorem aop_isNil (neg k x) : aop c ρ H (.isNil neg k x) = pairK H ((anil k (ρ x)).map fun b => vbool (if neg then !b else b)) := by
  simp only [aop]
  cases anil k (ρ x) <;> rfl
theorem aop_eqB (neg x y) : aop c ρ H (.eqB neg x y) = pairK H ((aleaf .b (ρ x) (ρ y)).map fun b => vbool (if neg then !b else b)) := by
  simp only [aop]
  cases aleaf .b (ρ x) (ρ y) <;> rfl
def eqK (neg : Bool) (ls : List (Nat × LeafK)) (H : Heap) : AVal → AVal → Option (AVal × Heap)
  | .agg xs, .agg ys => pairK H ((aleaves xs ys ls).map fun b => vbool (if neg then !b else b))
  | _, _ => none
theorem aop_eqA (neg ls x y) : aop c ρ H (.eqA neg ls x y) = eqK neg ls H (ρ x) (ρ y) := by
  simp only [aop, eqK]
  cases ρ x <;> try rfl
  cases ρ y <;> try rfl
  simp only
  rename_i xs ys
  cases aleaves xs ys ls <;> rfl
theorem eqK_agg (neg ls xs ys) : eqK neg ls H (.agg xs) (.agg ys) = pairK H ((aleaves xs ys ls).map fun b => vbool (if neg then !b else b)) := rfl
theorem aleaf_i (k : IntKind) (x y : Int) : aleaf .i (.lit (.int k x)) (.lit (.int k y)) = some (decide (x = y)) := by simp [aleaf]
theorem aleaf_b (x y : Bool) : aleaf .b (.lit (.bool x)) (.lit (.bool y)) = some (x == y) := rfl
theorem aleaf_s (x y : ByteArray) : aleaf .s (.lit (.string x)) (.lit (.string y)) = some (x == y) := rfl
def toIntK (k : IntKind) (H : Heap) : AVal → Option (AVal × Heap)
  | .lit (.int _ n) => some (.lit (.int k (k.wrap n)), H)
  | _ => none
theorem aop_toInt (k x) : aop c ρ H (.toInt k x) = toIntK k H (ρ x) := by
  simp only [aop]
  cases ρ x with
  | lit v => cases v <;> rfl
  | _ => rfl
theorem toIntK_int (k k' n) : toIntK k H (.lit (.int k' n)) = some (.lit (.int k (k.wrap n)), H) := rfl
theorem aop_mkFunc (fn xs ys) : aop c ρ H (.mkFunc fn xs ys) = some (.func fn (xs.map ρ) (ys.map ρ), H) := rfl
theorem aop_mkIface (t x) : aop c ρ H (.mkIface t x) = some (.iface t (ρ x), H) := rfl
theorem aop_lenArr (n) : aop c ρ H (.lenArr n) = some (.lit (.int .i64 n), H) := rfl
def aggK (H : Heap) : Option (List AVal) → Option (AVal × Heap)
  | some cs => some (.agg cs, H)
  | none => none
theorem aop_build (z ps) : aop c ρ H (.build z ps) = aggK H (afill ρ z ps) := by
  simp only [aop]
  cases afill ρ z ps <;> rfl
theorem aggK_some (cs) : aggK H (some cs) = some (.agg cs, H) := rfl
def fillK (ρ : Opd → AVal) (cells : List AVal) (off n : Nat) (r : List (Nat × Nat × Opd)) : Option (List AVal) → Option (List AVal)
  | some vs => if vs.length = n ∧ off + n ≤ cells.length then afill ρ (over cells off vs) r else none
  | none => none
theorem afill_nil (cells) : afill ρ cells [] = some cells := rfl
theorem afill_cons (cells off n x r) : afill ρ cells ((off, n, x) :: r) = fillK ρ cells off n r (cellsO (ρ x)) := by
  simp only [afill]
  cases cellsO (ρ x) <;> rfl
theorem fillK_some (cells off n r vs) : fillK ρ cells off n r (some vs) = if vs.length = n ∧ off + n ≤ cells.length then afill ρ (over cells off vs) r else none := rfl
def sliceK (fl : Bool) (sz len : Nat) (H : Heap) : Option (List (List AVal) × List Nat) → Option (AVal × Heap)
  | some r => some (.own H.length len sz 0 len, locks H r.2 ++ [.arr fl false true sz r.1])
  | none => none
theorem aop_mkSlice (fl sz z len ps) : aop c ρ H (.mkSlice fl sz z len ps) = sliceK fl sz len H (afillS fl sz ρ H (List.replicate len z) [] ps) := by
  simp only [aop]
  cases afillS fl sz ρ H (List.replicate len z) [] ps <;> rfl
theorem sliceK_some (fl sz len es ls) : sliceK fl sz len H (some (es, ls)) = some (.own H.length len sz 0 len, locks H ls ++ [.arr fl false true sz es]) := rfl
theorem locks_nil : locks H [] = H := rfl
theorem afillS_nil (fl sz es ls) : afillS fl sz ρ H es ls [] = some (es, ls) := rfl
def cellsK (fl : Bool) (sz : Nat) (ρ : Opd → AVal) (H : Heap) (es : List (List AVal)) (ls : List Nat) (j : Nat) (r : List (Nat × Opd)) (l : List Nat) : Option (List AVal) → Option (List (List AVal) × List Nat)
  | some vs => if vs.length = sz ∧ j < es.length ∧ (fl = true → flatL vs = true) then afillS fl sz ρ H (es.set j vs) (ls ++ l) r else none
  | none => none
def snapK (fl : Bool) (sz : Nat) (ρ : Opd → AVal) (H : Heap) (es : List (List AVal)) (ls : List Nat) (j : Nat) (r : List (Nat × Opd)) : Option (AVal × List Nat) → Option (List (List AVal) × List Nat)
  | some v => cellsK fl sz ρ H es ls j r v.2 (cellsO v.1)
  | none => none
theorem afillS_cons (fl sz es ls j x r) : afillS fl sz ρ H es ls ((j, x) :: r) = snapK fl sz ρ H es ls j r (snapV H (ρ x)) := by
  simp only [afillS]
  cases snapV H (ρ x) with
  | none => rfl
  | some v => simp only [snapK, Option.bind_some]; cases cellsO v.1 <;> rfl
theorem snapK_some (fl sz es ls j r v l) : snapK fl sz ρ H es ls j r (some (v, l)) = cellsK fl sz ρ H es ls j r l (cellsO v) := rfl
theorem cellsK_some (fl sz es ls j r l vs) : cellsK fl sz ρ H es ls j r l (some vs) = if vs.length = sz ∧ j < es.length ∧ (fl = true → flatL vs = true) then afillS fl sz ρ H (es.set j vs) (ls ++ l) r else none := rfl
theorem aop_append (fl sz b s x) : aop c ρ H (.append fl sz b s x) = aappend fl sz b H (ρ s) (ρ x) := rfl
def appK (fl : Bool) (sz bytes : Nat) (H : Heap) (s : AVal) : Option (Bool × List (List AVal)) → Option (AVal × Heap)
  | some r => aadd fl sz bytes H s r.1 r.2
  | none => none
theorem aappend_str (fl sz b s x) : aappend fl sz b H s (.lit (.string x)) = aadd fl sz b H s true (x.toList.map fun c => [vint .u8 c.toNat]) := rfl
theorem aappend_own (fl sz b s i l z o n) : aappend fl sz b H s (.own i l z o n) = appK fl sz b H s (content H (.own i l z o n)) := by
  simp only [aappend]
  cases content H (.own i l z o n) <;> rfl
theorem aappend_imm (fl sz b s x y z es) : aappend fl sz b H s (.imm x y z es) = aadd fl sz b H s z es := rfl
theorem appK_some (fl sz b s r) : appK fl sz b H s (some r) = aadd fl sz b H s r.1 r.2 := rfl
def contK (len sz off n : Nat) : Option Entry → Option (Bool × List (List AVal))
  | some (.arr fl _ _ se es) => if es.length = len ∧ se = sz then some (fl, (es.take (off + n)).drop off) else none
  | _ => none
theorem content_own (i len sz off n) : content H (.own i len sz off n) = contK len sz off n H[i]? := by
  simp only [content, contK]
  cases H[i]? with
  | none => rfl
  | some e => cases e <;> rfl
/-- A part of a row. -/
def cutE (es : List (List AVal)) (off n : Nat) : List (List AVal) := (es.take (off + n)).drop off
theorem cutE_whole {es : List (List AVal)} {n : Nat} (h : es.length = n) : cutE es 0 n = es := by
  unfold cutE
  rw [List.drop_zero, List.take_of_length_le (by omega)]
theorem contK_arr (len sz off n fl lk fu se es) : contK len sz off n (some (.arr fl lk fu se es)) = if es.length = len ∧ se = sz then some (fl, cutE es off n) else none := rfl
theorem content_imm (x y z es) : content H (.imm x y z es) = some (z, es) := rfl
theorem aadd_imm (fl sz bytes n full fs es fx ys) : aadd fl sz bytes H (.imm n full fs es) fx ys =
    if ((fl && !fx) || !rowsOk sz ys) = true then none else if ys.length = 0 then some (.imm n full fs es, H)
    else if (!full || (fl && !fs) || !rowsOk sz es || decide ((es.length + ys.length) * bytes > 2 ^ 46)) = true then none
    else some (.own H.length (es.length + ys.length) sz 0 (es.length + ys.length), H ++ [.arr fl false false sz (es ++ ys)]) := by
  simp only [aadd]
def addK (fl : Bool) (sz bytes : Nat) (H : Heap) (i len so off n : Nat) (ys : List (List AVal)) : Option Entry → Option (AVal × Heap)
  | some (.arr fe lk fu se es) =>
        if es.length = len ∧ so = sz ∧ off = 0 ∧ n ≤ len ∧ se = sz ∧ fe = fl then
          if ys.length = 0 then some (.own i len so off n, H)
          else if (n + ys.length) * bytes > 2 ^ 46 then none
          else if n = len then some (.own i (len + ys.length) sz 0 (len + ys.length), H.set i (.arr fl lk false sz (es ++ ys)))
          else if lk then none
          else some (.own H.length (n + ys.length) sz 0 (n + ys.length), H.set i .dead ++ [.arr fl false false sz (es.take n ++ ys)])
        else none
  | _ => none
theorem aadd_own (fl sz bytes i len so off n fx ys) : aadd fl sz bytes H (.own i len so off n) fx ys =
    if ((fl && !fx) || !rowsOk sz ys) = true then none else addK fl sz bytes H i len so off n ys H[i]? := by
  simp only [aadd, addK]
  cases H[i]? with
  | none => rfl
  | some e => cases e <;> rfl
theorem addK_arr (fl sz bytes i len so off n ys fe lk fu se es) : addK fl sz bytes H i len so off n ys (some (.arr fe lk fu se es)) =
        if es.length = len ∧ so = sz ∧ off = 0 ∧ n ≤ len ∧ se = sz ∧ fe = fl then
          if ys.length = 0 then some (.own i len so off n, H)
          else if (n + ys.length) * bytes > 2 ^ 46 then none
          else if n = len then some (.own i (len + ys.length) sz 0 (len + ys.length), H.set i (.arr fl lk false sz (es ++ ys)))
          else if lk then none
          else some (.own H.length (n + ys.length) sz 0 (n + ys.length), H.set i .dead ++ [.arr fl false false sz (es.take n ++ ys)])
        else none := rfl
theorem rowsOk_nil (sz) : rowsOk sz [] = true := rfl
theorem rowsOk_cons (sz r es) : rowsOk sz (r :: es) = (r.length == sz && rowsOk sz es) := rfl
theorem rowsOk_map {α : Type} {sz : Nat} {f : α → List AVal} (h : ∀ a, (f a).length = sz) (l : List α) : rowsOk sz (l.map f) = true := by
  unfold rowsOk
  rw [List.all_eq_true]
  intro r hr
  obtain ⟨a, _, rfl⟩ := List.mem_map.1 hr
  simp [h a]
theorem rowsOk_append (sz l r) : rowsOk sz (l ++ r) = (rowsOk sz l && rowsOk sz r) := by unfold rowsOk; rw [List.all_append]

/-- A call, piece by piece. -/
def callK1 (c : Callee) (H : Heap) : Option (AVal × List Nat) → Option (List AVal × List Nat) → Option (AVal × Heap)
  | some fs, some xs => let H1 := locks H (fs.2 ++ xs.2)
    (reach H1 purse (refsV fs.1 ++ refsL xs.1) []).bind fun ρ =>
    let g := fun i => ρ.idxOf i
    (c (renV g fs.1) (renL g xs.1) (ρ.map fun i => renE g (H1.getD i .dead))).bind fun r =>
    let h := toGlob ρ H1.length
    some (renV h r.1, setAll H1 ρ ((r.2.take ρ.length).map (renE h)) ++ (r.2.drop ρ.length).map (renE h))
  | _, _ => none
theorem withCall_eq (f args) : withCall c f args H = callK1 c H (snapV H f) (snapL H args) := by
  unfold withCall
  cases snapV H f with
  | none => rfl
  | some fs => cases snapL H args <;> rfl
theorem callK1_flat (f xs l l') (hf : flatV f = true) (hx : flatL xs = true) : callK1 c H (some (f, l)) (some (xs, l')) = backK (locks H (l ++ l')) (c f xs []) := by
  rw [← withCall_flat c (locks H (l ++ l')) f xs hf hx, withCall_eq]
  rw [snapV_flat _ f hf, snapL_flat _ xs hx]
  simp only [callK1, List.append_nil, locks]
def lockK (H : Heap) (i : Nat) : Option Entry → Heap
  | some (.arr fl _ full sz es) => H.set i (.arr fl true full sz es)
  | _ => H
theorem locks_cons (i l) : locks H (i :: l) = locks (lockK H i H[i]?) l := by
  rw [locks]
  unfold lock lockK
  cases H[i]? with
  | none => rfl
  | some e => cases e <;> rfl
theorem lockK_arr (i fl lk fu sz es) : lockK H i (some (.arr fl lk fu sz es)) = H.set i (.arr fl true fu sz es) := rfl
def snK (i len sz off n : Nat) : Option Entry → Option (AVal × List Nat)
  | some (.arr fl _ full se es) => if es.length = len ∧ se = sz then some (.imm false (full && decide (off + n = len)) fl ((es.take (off + n)).drop off), [i]) else none
  | _ => none
theorem snapV_own (i len sz off n) : snapV H (.own i len sz off n) = snK i len sz off n H[i]? := by
  rw [snapV]
  simp only [snK]
  cases H[i]? with
  | none => rfl
  | some e => cases e <;> rfl
theorem snK_arr (i len sz off n fl lk fu se es) : snK i len sz off n (some (.arr fl lk fu se es)) = if es.length = len ∧ se = sz then some (.imm false (fu && decide (off + n = len)) fl (cutE es off n), [i]) else none := rfl
theorem snapL_nil : snapL H [] = some ([], []) := by rw [snapL]
def snapCK : Option (AVal × List Nat) → Option (List AVal × List Nat) → Option (List AVal × List Nat)
  | some x, some y => some (x.1 :: y.1, x.2 ++ y.2)
  | _, _ => none
theorem snapL_cons (v r) : snapL H (v :: r) = snapCK (snapV H v) (snapL H r) := by
  rw [snapL]
  cases snapV H v with
  | none => rfl
  | some x => cases snapL H r <;> rfl
theorem snapCK_some (x l y l') : snapCK (some (x, l)) (some (y, l')) = some (x :: y, l ++ l') := rfl
theorem snapV_lit (v) : snapV H (.lit v) = some (.lit v, []) := by rw [snapV]
theorem snapV_ptr (i k) : snapV H (.ptr i k) = some (.ptr i k, []) := by rw [snapV]
theorem snapV_yld (i) : snapV H (.yld i) = some (.yld i, []) := by rw [snapV]
theorem snapV_imm (x y z es) : snapV H (.imm x y z es) = some (.imm x y z es, []) := by rw [snapV]
def snapAK : Option (List AVal × List Nat) → Option (AVal × List Nat)
  | some r => some (.agg r.1, r.2)
  | none => none
theorem snapV_agg (cs) : snapV H (.agg cs) = snapAK (snapL H cs) := by
  rw [snapV]
  cases snapL H cs <;> rfl
theorem snapAK_some (cs l) : snapAK (some (cs, l)) = some (.agg cs, l) := rfl
def snapFK (fn : Fn) : Option (List AVal × List Nat) → Option (List AVal × List Nat) → Option (AVal × List Nat)
  | some r, some s => some (.func fn r.1 s.1, r.2 ++ s.2)
  | _, _ => none
theorem snapV_func (fn a b) : snapV H (.func fn a b) = snapFK fn (snapL H a) (snapL H b) := by
  rw [snapV]
  cases snapL H a with
  | none => rfl
  | some r => cases snapL H b <;> rfl
theorem snapFK_some (fn a l b l') : snapFK fn (some (a, l)) (some (b, l')) = some (.func fn a b, l ++ l') := rfl
def sliceOK (sz : Nat) (H : Heap) (x : AVal) (lo : Option Nat) (hi mx : Option (Option Nat)) : Option (AVal × Heap) :=
  match lo, hi, mx with
  | some l, none, none => aslice sz H x l none none
  | some l, some (some h), none => aslice sz H x l (some h) none
  | some l, some (some h), some (some m) => aslice sz H x l (some h) (some m)
  | _, _, _ => none
theorem aop_slice (sz x lo hi mx) : aop c ρ H (.slice sz x lo hi mx) = sliceOK sz H (ρ x) (optNat ρ 0 lo) (hi.map fun h => asNat (ρ h)) (mx.map fun m => asNat (ρ m)) := by
  simp only [aop, sliceOK]
  cases optNat ρ 0 lo with
  | none => rfl
  | some l =>
    simp only [Option.bind_some]
    cases hi with
    | none => cases mx with
      | none => rfl
      | some m => cases asNat (ρ m) <;> rfl
    | some h => cases mx with
      | none => simp only [Option.map_some, Option.map_none]; cases asNat (ρ h) <;> rfl
      | some m => simp only [Option.map_some]; cases asNat (ρ h) <;> try rfl
                  simp only [Option.bind_some]; cases asNat (ρ m) <;> rfl
theorem sliceOK_0 (sz x l) : sliceOK sz H x (some l) none none = aslice sz H x l none none := rfl
theorem sliceOK_1 (sz x l h) : sliceOK sz H x (some l) (some (some h)) none = aslice sz H x l (some h) none := rfl
theorem sliceOK_2 (sz x l h m) : sliceOK sz H x (some l) (some (some h)) (some (some m)) = aslice sz H x l (some h) (some m) := rfl
theorem optNat_none (d) : optNat ρ d none = some d := rfl
theorem optNat_some (d x) : optNat ρ d (some x) = asNat (ρ x) := rfl
theorem asNat_int (k n) : asNat (.lit (.int k n)) = if 0 ≤ n then some n.toNat else none := rfl
theorem aslice_imm (sz n full fl es lo hi mx) : aslice sz H (.imm n full fl es) lo hi mx =
    if lo ≤ hi.getD es.length ∧ hi.getD es.length ≤ mx.getD (hi.getD es.length) ∧ mx.getD (hi.getD es.length) ≤ es.length ∧ rowsOk sz es = true then
      some (.imm n (if mx.isSome then decide (mx.getD (hi.getD es.length) = hi.getD es.length) else full && decide (hi.getD es.length = es.length)) fl ((es.take (hi.getD es.length)).drop lo), H)
    else none := by
  simp only [aslice]
theorem aslice_own (sz i len so off n lo hi) : aslice sz H (.own i len so off n) lo hi none =
    if so ≠ sz then none else if lo ≤ hi.getD n ∧ hi.getD n ≤ n then some (.own i len sz (off + lo) (hi.getD n - lo), H) else none := by
  simp only [aslice]
end
theorem getElem?_set_self' {α : Type} {l : List α} {i : Nat} {a : α} : (l.set i a)[i]? = if i < l.length then some a else none := by
  rw [List.getElem?_set]; simp
attribute [go_sem] aop_isNil aop_eqB aop_eqA eqK_agg aleaf_i aleaf_b aleaf_s aleaves aop_toInt toIntK_int aop_mkFunc aop_mkIface aop_lenArr aop_build aggK_some afill_nil afill_cons fillK_some
  aop_mkSlice sliceK_some locks_nil afillS_nil afillS_cons snapK_some cellsK_some aop_append aappend_str aappend_own aappend_imm appK_some content_own contK_arr content_imm aadd_imm aadd_own addK_arr
  rowsOk_nil rowsOk_cons rowsOk_append withCall_eq callK1_flat locks_cons lockK_arr snapV_own snK_arr snapL_nil snapL_cons snapCK_some snapV_lit snapV_ptr snapV_yld snapV_imm snapV_agg snapAK_some snapV_func snapFK_some
  aop_slice sliceOK_0 sliceOK_1 sliceOK_2 optNat_none optNat_some asNat_int aslice_imm aslice_own anil
attribute [-go_sem] withCall_flat
attribute [go_sem] nilS

/-- A call with references. -/
def refK (H : Heap) (ρ : List Nat) : Option (AVal × Heap) → Option (AVal × Heap)
  | some r => some (renV (toGlob ρ H.length) r.1, setAll H ρ ((r.2.take ρ.length).map (renE (toGlob ρ H.length))) ++ (r.2.drop ρ.length).map (renE (toGlob ρ H.length)))
  | none => none
def rchK (c : Callee) (H : Heap) (f : AVal) (xs : List AVal) : Option (List Nat) → Option (AVal × Heap)
  | some ρ => refK H ρ (c (renV (fun i => ρ.idxOf i) f) (renL (fun i => ρ.idxOf i) xs) (ρ.map fun i => renE (fun i => ρ.idxOf i) (H.getD i .dead)))
  | none => none
theorem callK1_ref (c : Callee) (H : Heap) (f xs l l') : callK1 c H (some (f, l)) (some (xs, l')) = rchK c (locks H (l ++ l')) f xs (reach (locks H (l ++ l')) purse (refsV f ++ refsL xs) []) := by
  simp only [callK1]
  cases reach (locks H (l ++ l')) purse (refsV f ++ refsL xs) [] with
  | none => rfl
  | some ρ =>
    simp only [Option.bind_some, rchK]
    cases c (renV (fun i => ρ.idxOf i) f) (renL (fun i => ρ.idxOf i) xs) (ρ.map fun i => renE (fun i => ρ.idxOf i) ((locks H (l ++ l')).getD i .dead)) <;> rfl
theorem rchK_some (c : Callee) (H : Heap) (f xs ρ) : rchK c H f xs (some ρ) = refK H ρ (c (renV (fun i => ρ.idxOf i) f) (renL (fun i => ρ.idxOf i) xs) (ρ.map fun i => renE (fun i => ρ.idxOf i) (H.getD i .dead))) := rfl
theorem refK_some (H : Heap) (ρ v Hn) : refK H ρ (some (v, Hn)) = some (renV (toGlob ρ H.length) v, setAll H ρ ((Hn.take ρ.length).map (renE (toGlob ρ H.length))) ++ (Hn.drop ρ.length).map (renE (toGlob ρ H.length))) := rfl
theorem setAll_cons (H : Heap) (i r e es) : setAll H (i :: r) (e :: es) = setAll (H.set i e) r es := rfl
theorem sweep_cons (R i e r) : sweep R i (e :: r) = if i ∈ R then e :: sweep R (i + 1) r else match sweep R (i + 1) r with
    | [] => []
    | r' => .dead :: r' := rfl
attribute [go_sem] cutE_whole
attribute [go_sem low] callK1_ref
attribute [go_sem] rchK_some refK_some setAll_cons setAll_nil toGlob sweep_cons List.idxOf_cons

section
variable (c : Callee) (ρ : Opd → AVal) (H : Heap)
def idxAK (len sz : Nat) (H : Heap) (x : AVal) : AVal → Option (AVal × Heap)
  | .lit (.int _ n) => if 0 ≤ n then (if n.toNat < len then pairK H (addOff (n.toNat * sz) x) else none) else none
  | _ => none
theorem aop_idxA (len sz x i) : aop c ρ H (.idxA len sz x i) = idxAK len sz H (ρ x) (ρ i) := by
  show (asNat (ρ i)).bind _ = _
  rw [bind_asNat]
  cases ρ i with
  | lit v => cases v <;> first | rfl | (simp only [natK, idxAK, map_pair])
  | _ => rfl
theorem idxAK_int (len sz x k n) : idxAK len sz H x (.lit (.int k n)) = if 0 ≤ n then (if n.toNat < len then pairK H (addOff (n.toNat * sz) x) else none) else none := rfl
def aggGetK (ag : Bool) (n off : Nat) (H : Heap) : AVal → Option (AVal × Heap)
  | .agg cs => pairK H (get1 ag n (cs.drop off))
  | _ => none
theorem aop_fieldV (ag n off x) : aop c ρ H (.fieldV ag n off x) = aggGetK ag n off H (ρ x) := by
  simp only [aop]
  cases ρ x <;> first | rfl | exact map_pair _ _
theorem aggGetK_agg (ag n off cs) : aggGetK ag n off H (.agg cs) = pairK H (get1 ag n (cs.drop off)) := rfl
def strIdxK (x : AVal) (H : Heap) : AVal → Option (AVal × Heap)
  | .lit (.int _ n) => if 0 ≤ n then (match x with
    | .lit (.string s) => (s.toList[n.toNat]?).map fun b => (vint .u8 b.toNat, H)
    | _ => none) else none
  | _ => none
theorem aop_idxStr (x i) : aop c ρ H (.idxStr x i) = strIdxK (ρ x) H (ρ i) := by
  show (asNat (ρ i)).bind _ = _
  rw [bind_asNat]
  cases ρ i with
  | lit v => cases v <;> first | rfl | (simp only [natK, strIdxK]; rfl)
  | _ => rfl
def makeK (fl : Bool) (sz bytes : Nat) (zero : List AVal) (H : Heap) : AVal → AVal → Option (AVal × Heap)
  | .lit (.int .i64 l), .lit (.int .i64 c) =>
      if 0 ≤ l ∧ l ≤ c ∧ c ≤ 2 ^ 46 ∧ c * bytes ≤ 2 ^ 46 then some (.own H.length l.toNat sz 0 l.toNat, H ++ [.arr fl false false sz (List.replicate l.toNat zero)]) else none
  | _, _ => none
theorem aop_make (fl sz b z l k) : aop c ρ H (.make fl sz b z l k) = makeK fl sz b z H (ρ l) (ρ k) := by
  simp only [aop]
  unfold makeK
  split <;> split <;> simp_all
theorem makeK_int (fl sz bytes zero l c) : makeK fl sz bytes zero H (.lit (.int .i64 l)) (.lit (.int .i64 c)) = if 0 ≤ l ∧ l ≤ c ∧ c ≤ 2 ^ 46 ∧ c * bytes ≤ 2 ^ 46 then some (.own H.length l.toNat sz 0 l.toNat, H ++ [.arr fl false false sz (List.replicate l.toNat zero)]) else none := rfl
def lenStrK (H : Heap) : AVal → Option (AVal × Heap)
  | .lit (.string s) => some (.lit (.int .i64 s.size), H)
  | _ => none
theorem aop_lenStr (x) : aop c ρ H (.lenStr x) = lenStrK H (ρ x) := by
  simp only [aop]
  cases ρ x with
  | lit v => cases v <;> rfl
  | _ => rfl
theorem lenStrK_str (s) : lenStrK H (.lit (.string s)) = some (.lit (.int .i64 s.size), H) := rfl
def nilChkK (H : Heap) : AVal → Option (AVal × Heap)
  | .ptr i k => some (.ptr i k, H)
  | .iptr fl es j k => some (.iptr fl es j k, H)
  | .func fn a b => match fn with
    | .func f => some (.func (.func f) a b, H)
    | _ => none
  | .yld i => some (.yld i, H)
  | _ => none
theorem aop_nilCheck (x) : aop c ρ H (.nilCheck x) = nilChkK H (ρ x) := by
  simp only [aop]
  cases ρ x with
  | func fn a b => cases fn <;> rfl
  | _ => rfl
end
attribute [go_sem] aop_idxA idxAK_int aop_fieldV aggGetK_agg aop_idxStr strIdxK aop_make makeK_int aop_lenStr lenStrK_str aop_nilCheck nilChkK
end Go.AM
namespace Go.AM
open Go
section
variable (E : Nat → Option IFn)
/-! ### Loops that a function drives -/
noncomputable def afterK (m i : Nat) (k : List Item) (τ : Tmps) (H : Heap) : Option Entry → Option (Option Jump × Tmps × Heap)
  | some (.loop st pend _ _ _ _) =>
    if st = 1 then none else
    match pend with
    | none => run E m k τ (H.set i .dead)
    | some .ret => some (some .ret, τ, H.set i .dead)
    | some (.exit id) => exitK E m id τ (H.set i .dead) (exitTo id k)
  | _ => none
noncomputable def rangeK (m i : Nat) (k : List Item) (τ : Tmps) : Option (AVal × Heap) → Option (Option Jump × Tmps × Heap)
  | some r => afterK E m i k τ r.2 r.2[i]?
  | none => none
theorem afterA_some {n m i k τ H r} (h : afterA E n m i k τ H = some r) : afterK E m i k τ H H[i]? = some r := by
  unfold afterA at h
  unfold afterK
  split at h
  · rename_i st pend s ps a b he
    rw [he]
    simp only
    split at h
    · cases h
    · rename_i hst
      rw [if_neg hst]
      split at h
      · exact (run_iff E).2 ⟨n, h⟩
      · exact h
      · rename_i id
        simp only
        split at h
        · rename_i k' hk
          rw [hk]
          exact (run_iff E).2 ⟨n, h⟩
        · rename_i hk
          rw [hk]; exact h
  · cases h
theorem afterK_some {m i k τ H r} (h : afterK E m i k τ H H[i]? = some r) : ∃ n, ∀ n', n ≤ n' → afterA E n' m i k τ H = some r := by
  unfold afterK at h
  unfold afterA
  split at h
  · rename_i st pend s ps a b he
    rw [he]
    simp only
    split at h
    · cases h
    · rename_i hst
      simp only [if_neg hst]
      split at h
      · obtain ⟨n, hn⟩ := (run_iff E).1 h
        refine ⟨n, fun n' hn' => ?_⟩
        have := arun_add E (k := n' - n) hn
        rwa [Nat.add_sub_cancel' hn'] at this
      · exact ⟨0, fun _ _ => h⟩
      · rename_i id
        simp only
        cases hk : exitTo id k with
        | none => rw [hk] at h; exact ⟨0, fun _ _ => h⟩
        | some k' =>
          rw [hk] at h
          obtain ⟨n, hn⟩ := (run_iff E).1 h
          refine ⟨n, fun n' hn' => ?_⟩
          have := arun_add E (k := n' - n) hn
          rwa [Nat.add_sub_cancel' hn'] at this
  · cases h
theorem run_range (m f u ps a b k τ H) : run E m (.code (.range f u ps a b) :: k) τ H =
    rangeK E m H.length k τ (withCall (call E) (ev τ f) [.yld H.length] (H ++ [.loop 0 none (keep τ u) ps a b])) := by
  refine opt_ext fun r => ?_
  rw [run_iff]
  constructor
  · rintro ⟨n, hn⟩
    cases n with
    | zero => simp [arun] at hn
    | succ n =>
      rw [arun_range, Option.bind_eq_some_iff] at hn
      obtain ⟨x, hx, hr⟩ := hn
      rw [withCall_le (le_call E n) hx]
      exact afterA_some E hr
  · intro h
    cases hw : withCall (call E) (ev τ f) [.yld H.length] (H ++ [.loop 0 none (keep τ u) ps a b]) with
    | none => rw [hw] at h; cases h
    | some x =>
      rw [hw] at h
      obtain ⟨n1, h1⟩ := withCall_fin E hw
      obtain ⟨n2, h2⟩ := afterK_some E h
      refine ⟨max n1 n2 + 1, ?_⟩
      rw [arun_range, withCall_le (le_acall E (Nat.le_max_left n1 n2)) h1, Option.bind_some]
      exact h2 _ (Nat.le_max_right n1 n2)
theorem rangeK_some (m i k τ v H) : rangeK E m i k τ (some (v, H)) = afterK E m i k τ H H[i]? := rfl
theorem afterK_none (m i k τ H st s ps a b) : afterK E m i k τ H (some (.loop st none s ps a b)) = if st = 1 then none else run E m k τ (H.set i .dead) := rfl
theorem afterK_ret (m i k τ H st s ps a b) : afterK E m i k τ H (some (.loop st (some .ret) s ps a b)) = if st = 1 then none else some (some .ret, τ, H.set i .dead) := rfl
theorem afterK_exit (m i k τ H st id s ps a b) : afterK E m i k τ H (some (.loop st (some (.exit id)) s ps a b)) = if st = 1 then none else exitK E m id τ (H.set i .dead) (exitTo id k) := rfl

def endK2 (m i : Nat) (j : Option Jump) (H : Heap) : Option Entry → Option (AVal × Heap)
  | some (.loop _ _ snap ps a b) => gcRet m (vbool j.isNone) (H.set i (.loop (if j.isNone then 0 else 2) j snap ps a b))
  | _ => none
def endK (m i : Nat) : Option (Option Jump × Tmps × Heap) → Option (AVal × Heap)
  | some (j, _, H) => endK2 m i j H H[i]?
  | none => none
noncomputable def bodyK2 (m i : Nat) (b : ICode) (τ : Tmps) (H : Heap) : Option Entry → Option (AVal × Heap)
  | some (.loop st p snap ps a' b') => if st = 0 then endK m i (run E m [.code b] τ (H.set i (.loop 1 p snap ps a' b'))) else none
  | _ => none
noncomputable def bodyK (m i : Nat) (b : ICode) : Option (Option Jump × Tmps × Heap) → Option (AVal × Heap)
  | some (none, τ, H) => bodyK2 E m i b τ H H[i]?
  | _ => none
noncomputable def yldK (i : Nat) (args : List AVal) (H : Heap) : Option Entry → Option (AVal × Heap)
  | some (.loop st _ snap ps a b) => if st = 0 then (if args.length ≠ ps.length then none else bodyK E H.length i b (run E H.length [.code a] (ps.zip args ++ snap) H)) else none
  | _ => none
theorem roundEnd_eq (m i u) : roundEnd m i u = endK m i (some u) := by
  obtain ⟨j, τ, H⟩ := u
  simp only [roundEnd, endK, endK2]
  cases H[i]? with
  | none => rfl
  | some e => cases e <;> rfl
theorem roundBody_some {n m i b s r} (h : roundBody E n m i b s = some r) : bodyK E m i b (some s) = some r := by
  obtain ⟨j, τ, H⟩ := s
  cases j with
  | some j => simp [roundBody] at h
  | none =>
    simp only [roundBody] at h
    simp only [bodyK, bodyK2]
    split at h
    · rename_i p sn ps a b' he
      rw [he]
      simp only [Option.bind_eq_some_iff] at h
      obtain ⟨u, hu, hr⟩ := h
      simp only [if_true]
      rw [(run_iff E).2 ⟨n, hu⟩, ← roundEnd_eq]; exact hr
    · cases h
theorem roundBody_of {m i b s r} (h : bodyK E m i b (some s) = some r) : ∃ n, ∀ n', n ≤ n' → roundBody E n' m i b s = some r := by
  obtain ⟨j, τ, H⟩ := s
  cases j with
  | some j => simp [bodyK] at h
  | none =>
    simp only [bodyK, bodyK2] at h
    cases he : H[i]? with
    | none => rw [he] at h; simp at h
    | some e =>
      rw [he] at h
      cases e with
      | loop st p sn ps a b' =>
        simp only at h
        split at h
        · rename_i hst
          subst hst
          cases hu : run E m [.code b] τ (H.set i (.loop 1 p sn ps a b')) with
          | none => rw [hu] at h; simp [endK] at h
          | some u =>
            rw [hu, ← roundEnd_eq] at h
            obtain ⟨n, hn⟩ := (run_iff E).1 hu
            refine ⟨n, fun n' hn' => ?_⟩
            have := arun_add E (k := n' - n) hn
            rw [Nat.add_sub_cancel' hn'] at this
            simp only [roundBody, he, this, Option.bind_some, h]
        · cases h
      | _ => simp at h
theorem call_yld (i args H) : call E (.yld i) args H = yldK E i args H H[i]? := by
  refine opt_ext fun r => ?_
  rw [call_iff]
  constructor
  · rintro ⟨n, hn⟩
    cases n with
    | zero => simp [acall] at hn
    | succ n =>
      rw [acall_yld] at hn
      split at hn
      · rename_i p sn ps a b he
        rw [he]
        simp only [yldK, if_true]
        split at hn
        · cases hn
        · rename_i hl
          rw [if_neg hl]
          simp only [Option.bind_eq_some_iff] at hn
          obtain ⟨s, hs, hr⟩ := hn
          rw [(run_iff E).2 ⟨n, hs⟩]
          exact roundBody_some E hr
      · cases hn
  · intro h
    cases he : H[i]? with
    | none => rw [he] at h; simp [yldK] at h
    | some e =>
      rw [he] at h
      cases e with
      | loop st p sn ps a b =>
        simp only [yldK] at h
        split at h
        · rename_i hst
          subst hst
          split at h
          · cases h
          · rename_i hl
            cases hs : run E H.length [.code a] (ps.zip args ++ sn) H with
            | none => rw [hs] at h; simp [bodyK] at h
            | some s =>
              rw [hs] at h
              obtain ⟨n1, h1⟩ := (run_iff E).1 hs
              obtain ⟨n2, h2⟩ := roundBody_of E h
              refine ⟨max n1 n2 + 1, ?_⟩
              have h1' := arun_add E (k := max n1 n2 - n1) h1
              rw [Nat.add_sub_cancel' (Nat.le_max_left n1 n2)] at h1'
              rw [acall_yld, he]
              simp only [if_neg hl, h1', Option.bind_some]
              exact h2 _ (Nat.le_max_right n1 n2)
        · cases h
      | _ => simp [yldK] at h
theorem yldK_loop (i args H p sn ps a b) : yldK E i args H (some (.loop 0 p sn ps a b)) = if args.length ≠ ps.length then none else bodyK E H.length i b (run E H.length [.code a] (ps.zip args ++ sn) H) := rfl
theorem bodyK_none (m i b τ H) : bodyK E m i b (some (none, τ, H)) = bodyK2 E m i b τ H H[i]? := rfl
theorem bodyK2_loop (m i b τ H p sn ps a' b') : bodyK2 E m i b τ H (some (.loop 0 p sn ps a' b')) = endK m i (run E m [.code b] τ (H.set i (.loop 1 p sn ps a' b'))) := rfl
theorem endK_some (m i j τ H) : endK m i (some (j, τ, H)) = endK2 m i j H H[i]? := rfl
theorem endK2_loop (m i j H st p sn ps a b) : endK2 m i j H (some (.loop st p sn ps a b)) = gcRet m (vbool j.isNone) (H.set i (.loop (if j.isNone then 0 else 2) j sn ps a b)) := rfl

/-! ### Regions with checks -/
theorem run_reg1 (m ops c chk k τ H) : run E m (.code (.reg ops (c :: chk) []) :: k) τ H =
    if (c :: chk).all (calm (call E) ops (hist (call E) ops τ H)) = true then runK E m k (aops (call E) ops τ H) else none := by
  rw [run_reg]
  show (if ((c :: chk).all (calm (call E) ops (hist (call E) ops τ H)) && [].all (aside (call E) ops (hist (call E) ops τ H))) = true then aops (call E) ops τ H else none).bind _ = _
  rw [List.all_nil, Bool.and_true]
  split
  · cases aops (call E) ops τ H <;> rfl
  · rfl
end
def histK (c : Callee) (d : Option Nat) (r : List IOper) (τ : Tmps) : Option (AVal × Heap) → List (Tmps × Heap)
  | some x => hist c r (put d x.1 τ) x.2
  | none => []
theorem hist_nil (c τ H) : hist c [] τ H = [(τ, H)] := rfl
theorem hist_cons (c d op r τ H) : hist c (⟨none, d, op⟩ :: r) τ H = (τ, H) :: histK c d r τ (aop c (ev τ) H op) := by
  show (τ, H) :: _ = _
  congr 1
theorem hist_g (c t w d op r τ H) : hist c (⟨some (t, w), d, op⟩ :: r) τ H = (τ, H) :: histK c d r τ (guardK c w (ev τ) H op (lk t τ)) := by
  show (τ, H) :: _ = _
  congr 1
theorem histK_some (c d r τ v H) : histK c d r τ (some (v, H)) = hist c r (put d v τ) H := rfl
noncomputable def calm3 : Option (AVal × Heap) → Option (AVal × Heap) → Option (AVal × Heap) → Bool
  | some x, some y, some z => decide (x.1 = y.1) && decide (x.1 = z.1)
  | _, _, _ => false
noncomputable def calm4 (c : Callee) : Option IOper → Option (Tmps × Heap) → Option (Tmps × Heap) → Option (Tmps × Heap) → Bool
  | some o, some s, some a, some b => calm3 (aval c o s.1 s.2) (aval c o s.1 a.2) (aval c o s.1 b.2)
  | _, _, _, _ => false
theorem calm_eq (c ops hs i j) : calm c ops hs (i, j) = calm4 c ops[i]? hs[i]? hs[j]? hs[j + 1]? := by
  unfold calm calm4
  simp only
  cases ops[i]? with
  | none => rfl
  | some o =>
    cases hs[i]? with
    | none => rfl
    | some s =>
      cases hs[j]? with
      | none => rfl
      | some a =>
        cases hs[j + 1]? with
        | none => rfl
        | some b =>
          obtain ⟨τ, H⟩ := s
          obtain ⟨τa, Ha⟩ := a
          obtain ⟨τb, Hb⟩ := b
          simp only [calm3]
          cases aval c o τ H with
          | none => rfl
          | some x => cases aval c o τ Ha with
            | none => rfl
            | some y => cases aval c o τ Hb <;> rfl
theorem calm4_some (c o s a b) : calm4 c (some o) (some s) (some a) (some b) = calm3 (aval c o s.1 s.2) (aval c o s.1 a.2) (aval c o s.1 b.2) := rfl
theorem calm3_some (x y z) : calm3 (some x) (some y) (some z) = (decide (x.1 = y.1) && decide (x.1 = z.1)) := rfl
theorem aval_0 (c d op τ H) : aval c ⟨none, d, op⟩ τ H = aop c (ev τ) H op := rfl
theorem aval_g (c t w d op τ H) : aval c ⟨some (t, w), d, op⟩ τ H = guardK c w (ev τ) H op (lk t τ) := rfl
theorem exitK_none (E : Nat → Option IFn) (m id τ H) : exitK E m id τ H none = some (some (.exit id), τ, H) := rfl
attribute [go_sem ↓] run_range run_reg1
attribute [go_sem] exitK_none
attribute [go_sem] rangeK_some afterK_none afterK_ret afterK_exit call_yld yldK_loop bodyK_none bodyK2_loop endK_some endK2_loop
  hist_nil hist_cons hist_g histK_some calm_eq calm4_some calm3_some aval_0 aval_g

section
variable (c : Callee) (ρ : Opd → AVal) (H : Heap)
def strK (H : Heap) : Option (List UInt8) → Option (AVal × Heap)
  | some l => some (.lit (.string (ByteArray.mk l.toArray)), H)
  | none => none
def toStrK (H : Heap) : AVal → Option (AVal × Heap)
  | .lit (.string s) => some (.lit (.string s), H)
  | v => strK H ((content H v).bind fun r => bytesOf r.2)
theorem aop_toStr (x) : aop c ρ H (.toStr x) = toStrK H (ρ x) := by
  have h : ∀ v : AVal, ((content H v).bind fun r => (bytesOf r.2).map fun l => (AVal.lit (.string (ByteArray.mk l.toArray)), H)) = strK H ((content H v).bind fun r => bytesOf r.2) := by
    intro v
    cases content H v with
    | none => rfl
    | some r => simp only [Option.bind_some]; cases bytesOf r.2 <;> rfl
  simp only [aop, toStrK]
  split
  · rename_i s hs; rw [hs]
  · rename_i hs
    rw [h]
    split
    · rename_i s hs2; exact absurd hs2 (fun e => hs s e)
    · rfl
theorem toStrK_imm (n fu fl es) : toStrK H (.imm n fu fl es) = strK H (bytesOf es) := rfl
theorem toStrK_own (i l z o n) : toStrK H (.own i l z o n) = strK H ((contK l z o n H[i]?).bind fun r => bytesOf r.2) := by
  show strK H ((content H (.own i l z o n)).bind fun r => bytesOf r.2) = _
  rw [content_own]
theorem toStrK_str (s) : toStrK H (.lit (.string s)) = some (.lit (.string s), H) := rfl
theorem strK_some (l) : strK H (some l) = some (.lit (.string (ByteArray.mk l.toArray)), H) := rfl
end
theorem abin_seql (x y : ByteArray) : abin .eql (.lit (.string x)) (.lit (.string y)) = some (.lit (.bool (x.toList == y.toList))) := rfl
theorem abin_sneq (x y : ByteArray) : abin .neq (.lit (.string x)) (.lit (.string y)) = some (.lit (.bool (!(x.toList == y.toList)))) := rfl
attribute [go_sem] aop_toStr toStrK_imm toStrK_own toStrK_str strK_some abin_seql abin_sneq
end Go.AM
