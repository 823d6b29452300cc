/- The rules of the calculus: control flow, pure operations, loads, calls, new blocks, stores. General: any program P. No condition. -/
import Derived.Test.YtlboppiogeaicaaDoorEng
namespace Go.Eng
open Go.RowKit
set_option linter.unusedVariables false
set_option linter.unusedSimpArgs false

/-! ### Judgements -/

/-- where the operation is wanted it yields v and leaves the world in its class -/
structure Pev (P : Program) (n : Nat) (l : Env) (C : World → Prop) (o : Oper) (c : Bool) (v : Value) : Prop where
  run : c = true → ∀ a w, Sees n l a → C w → Oper.quietUpon P C w v ((execOp a.eval o).run P w)
structure QL (P : Program) (n : Nat) (ops : Array Oper) (C : World → Prop) (K : Act → Prop) (rest : List Oper) (l : Env) : Prop where
  run : ∀ a, Sees n l a → wpQuiet P ops C K rest a
structure OL (P : Program) (n : Nat) (ops : Array Oper) (Q : Exit → Act → World → Prop) (rest : List Oper) (l : Env) (C : World → Prop) : Prop where
  run : ∀ a w, Sees n l a → C w → wpList P ops Q rest a w
structure W (P : Program) (n : Nat) (c : Code) (Q : Exit → Act → World → Prop) (l : Env) (C : World → Prop) : Prop where
  run : ∀ a w, Sees n l a → C w → c.wp P Q a w
structure At (n : Nat) (Q : Exit → Act → World → Prop) (e : Exit) (l : Env) (C : World → Prop) : Prop where
  run : ∀ a w, Sees n l a → C w → Q e a w

section
variable {P : Program} {n : Nat} {l l' : Env} {C : World → Prop} {ops : Array Oper} {Q : Exit → Act → World → Prop} {rest : List Oper} {o : Oper} {K : Act → Prop}

/-! ### Control flow -/

theorem W.seq {x y : Code} (h : W P n x (Exit.then (y.wp P Q) Q) l C) : W P n (.seq x y) Q l C := ⟨fun a w hs hc => wp_seq (h.run a w hs hc)⟩
theorem W.reg {id : Nat} {l0 : List Oper} (h : OL P n l0.toArray Q l0 l C) : W P n (.region id l0.toArray false) Q l C := ⟨fun a w hs hc => wp_region_lit (h.run a w hs hc)⟩
theorem W.regd {id : Nat} {l0 : List Oper} (hm : P.follows .mixedOrders = true) (hB : Region.lexB .any l0.toArray = true) (hC : ∀ w, C w → C { w with drawn := w.drawn + 1 })
    (h : QL P n l0.toArray C (fun a' => ∀ w', C w' → Q .normal a' w') l0 l) : W P n (.region id l0.toArray true) Q l C :=
  ⟨fun a w hs hc => wp_region_quiet (C := C) hm hB (hC w hc) (by simpa using h.run a hs)⟩
theorem W.cond {x : Operand} {y z : Code} {b : Bool} (hx : evl l x = some (true, .bool b)) (ht : b = true → W P n y Q l C) (hf : b = false → W P n z Q l C) : W P n (.cond x y z) Q l C :=
  ⟨fun a w hs hc => wp_cond_split (hs.eval hx rfl) (fun h => (ht h).run a w hs hc) (fun h => (hf h).run a w hs hc)⟩
theorem W.block {id : Nat} {c : Code} (h : W P n c (Exit.inBlock id Q) l C) : W P n (.block id c) Q l C := ⟨fun a w hs hc => wp_block (h.run a w hs hc)⟩
theorem W.skip (h : At n Q .normal l C) : W P n .skip Q l C := ⟨fun a w hs hc => wp_skip (h.run a w hs hc)⟩
theorem W.exit {id : Nat} (h : At n Q (.exit id) l C) : W P n (.exit id) Q l C := ⟨fun a w hs hc => wp_exit (h.run a w hs hc)⟩
theorem W.ret (h : At n Q .ret l C) : W P n .ret Q l C := ⟨fun a w hs hc => wp_ret (h.run a w hs hc)⟩
theorem W.label {i : Nat} (h : At n Q .normal l C) : W P n (.label i) Q l C := ⟨fun a w hs hc => wp_label (h.run a w hs hc)⟩

theorem W.sub {c : Code} {C' : World → Prop} (hs : Sub l l') (hc : ∀ w, C w → C' w) (h : W P n c Q l' C') : W P n c Q l C := ⟨fun a w s c => h.run a w (s.sub hs) (hc w c)⟩
theorem At.sub {e : Exit} {C' : World → Prop} (hs : Sub l l') (hc : ∀ w, C w → C' w) (h : At n Q e l' C') : At n Q e l C := ⟨fun a w s c => h.run a w (s.sub hs) (hc w c)⟩

theorem At.next {y : Code} (h : W P n y Q l C) : At n (Exit.then (y.wp P Q) Q) .normal l C := ⟨h.run⟩
theorem At.then_ret {k : Act → World → Prop} (h : At n Q .ret l C) : At n (Exit.then k Q) .ret l C := ⟨h.run⟩
theorem At.then_exit {k : Act → World → Prop} {id : Nat} (h : At n Q (.exit id) l C) : At n (Exit.then k Q) (.exit id) l C := ⟨h.run⟩
theorem At.in_ret {id : Nat} (h : At n Q .ret l C) : At n (Exit.inBlock id Q) .ret l C := ⟨h.run⟩
theorem At.in_normal {id : Nat} (h : At n Q .normal l C) : At n (Exit.inBlock id Q) .normal l C := ⟨h.run⟩
theorem At.in_exit {id : Nat} (h : At n Q .normal l C) : At n (Exit.inBlock id Q) (.exit id) l C := ⟨fun a w hs hc => by
  show if id = id then Q .normal a w else Q (.exit id) a w
  rw [if_pos rfl]; exact h.run a w hs hc⟩
theorem At.in_other {id id' : Nat} (hne : Nat.beq id' id = false) (h : At n Q (.exit id') l C) : At n (Exit.inBlock id Q) (.exit id') l C := ⟨fun a w hs hc => by
  show if id' = id then Q .normal a w else Q (.exit id') a w
  rw [if_neg (fun e => by rw [e, Nat.beq_refl] at hne; cases hne)]; exact h.run a w hs hc⟩

/-- a loop: 'g' is what the round's head is told by; each round lowers the measure -/
def Again (n : Nat) {G : Type} (Φ : G → Prop) (μ : G → Nat) (lg : G → Env) (Cg : G → World → Prop) (g : G) (a : Act) (w : World) : Prop :=
  ∃ g', Φ g' ∧ μ g' < μ g ∧ Sees n (lg g') a ∧ Cg g' w

theorem W.loop {c : Code} {G : Type} (Φ : G → Prop) (μ : G → Nat) (lg : G → Env) (Cg : G → World → Prop) (g0 : G) (h0 : Φ g0) (hs0 : Sub l (lg g0)) (hc0 : ∀ w, C w → Cg g0 w)
    (body : ∀ g, Φ g → W P n c (Exit.then (Again n Φ μ lg Cg g) Q) (lg g) (Cg g)) : W P n (.loop c) Q l C := by
  have key : ∀ m g, μ g < m → Φ g → ∀ a w, Sees n (lg g) a → Cg g w → Code.rounds P c Q m a w := by
    intro m
    induction m with
    | zero => intro g h; omega
    | succ m ih =>
      intro g hm hg a w hs hc
      rw [rounds_succ]
      refine wp_mono ((body g hg).run a w hs hc) fun e a' w' hq => ?_
      cases e with
      | normal =>
        obtain ⟨g', hg', hlt, hs', hc'⟩ := hq
        exact ih g' (by omega) hg' a' w' hs' hc'
      | _ => exact hq
  exact ⟨fun a w hs hc => wp_loop_rounds _ (key (μ g0 + 1) g0 (by omega) h0 a w (hs.sub hs0) (hc0 w hc))⟩

theorem At.again {G : Type} {Φ : G → Prop} {μ : G → Nat} {lg : G → Env} {Cg : G → World → Prop} {g : G} (g' : G) (hg : Φ g') (hm : μ g' < μ g) (hs : Sub l (lg g')) (hc : ∀ w, C w → Cg g' w) :
    At n (Exit.then (Again n Φ μ lg Cg g) Q) .normal l C := ⟨fun a w s c => ⟨g', hg, hm, s.sub hs, hc w c⟩⟩

/-! ### Entering and leaving a function -/

def argEnv : Nat → List Value → Env
  | _, [] => []
  | i, v :: r => (i, true, v) :: argEnv (i + 1) r

theorem look_argEnv : ∀ (vs : List Value) (i t : Nat) (c : Bool) (v : Value), look (argEnv i vs) t = some (c, v) → c = true ∧ i ≤ t ∧ vs[t - i]? = some v := by
  intro vs
  induction vs with
  | nil => intro i t c v h; cases h
  | cons u r ih =>
    intro i t c v h
    simp only [argEnv, look] at h
    by_cases e : i = t
    · subst e
      rw [Nat.beq_refl, cond_true] at h
      simp only [Option.some.injEq, Prod.mk.injEq] at h
      exact ⟨h.1.symm, Nat.le_refl _, by simp [h.2]⟩
    · rw [show Nat.beq i t = false from by rw [Bool.eq_false_iff]; intro hb; exact e (Nat.eq_of_beq_eq_true hb), cond_false] at h
      obtain ⟨h1, h2, h3⟩ := ih (i + 1) t c v h
      refine ⟨h1, by omega, ?_⟩
      rw [show t - i = (t - (i + 1)) + 1 from by omega, List.getElem?_cons_succ]; exact h3

theorem sees_args {n : Nat} {args : Array Value} (h : args.size ≤ n) : Sees n (argEnv 0 args.toList) { tmps := args ++ Array.replicate (n - args.size) undef, defers := [] } := by
  refine ⟨rfl, by simp; omega, fun t c v ht => ?_⟩
  obtain ⟨rfl, _, h3⟩ := look_argEnv _ 0 t c v ht
  have h4 : args[t]? = some v := by simpa using h3
  have h5 : t < args.size := by
    rcases Nat.lt_or_ge t args.size with hl | hl
    · exact hl
    · rw [Array.getElem?_eq_none hl] at h4; cases h4
  show (args ++ _)[t]? = some v
  rw [Array.getElem?_append_left h5]; exact h4

theorem enter {f : FuncId} {fn : Func} {c : Code} {args : List Value} {R : Ending → World → Prop} {w : World} {m : Nat} (hf : P.funcs[f]? = some fn) (hb : fn.body = some c) (hn : fn.ntmps = m) (ha : Nat.ble args.length m = true)
    (hC : C w) (h : W P m c (bodyPost P fn R) (argEnv 0 args) C) : Calls P f args.toArray w R := by
  subst hn
  exact calls_of_wp hf hb (h.run _ w (by have := sees_args (args := args.toArray) (n := fn.ntmps) (by simpa using Nat.le_of_ble_eq_true ha); simpa using this) hC)

theorem At.fin0 {fn : Func} {R : Ending → World → Prop} (hr : fn.results = #[]) (h : ∀ w, C w → R (.returned (.tuple #[])) w) : At n (bodyPost P fn R) .ret l C :=
  ⟨fun a w hs hc => ⟨hs.df, .tuple #[], by simp [results, hr], h w hc⟩⟩
theorem At.fin1 {fn : Func} {R : Ending → World → Prop} {t : Nat} {v : Value} (hr : fn.results = #[.tmp t]) (ht : look l t = some (true, v)) (h : ∀ w, C w → R (.returned v) w) : At n (bodyPost P fn R) .ret l C :=
  ⟨fun a w hs hc => ⟨hs.df, v, by have := hs.at_ t true v ht; simp [results, hr, Array.getD_eq_getD_getElem?, this], h w hc⟩⟩
theorem At.fin2 {fn : Func} {R : Ending → World → Prop} {t u : Nat} {v v' : Value} (hr : fn.results = #[.tmp t, .tmp u]) (ht : look l t = some (true, v)) (hu : look l u = some (true, v'))
    (h : ∀ w, C w → R (.returned (.tuple #[v, v'])) w) : At n (bodyPost P fn R) .ret l C :=
  ⟨fun a w hs hc => ⟨hs.df, .tuple #[v, v'], by have h1 := hs.at_ t true v ht; have h2 := hs.at_ u true v' hu; simp [results, hr, Array.getD_eq_getD_getElem?, h1, h2], h w hc⟩⟩
theorem At.fin3 {fn : Func} {R : Ending → World → Prop} {t u x : Nat} {v v' v'' : Value} (hr : fn.results = #[.tmp t, .tmp u, .tmp x]) (ht : look l t = some (true, v)) (hu : look l u = some (true, v'))
    (hx : look l x = some (true, v'')) (h : ∀ w, C w → R (.returned (.tuple #[v, v', v''])) w) : At n (bodyPost P fn R) .ret l C :=
  ⟨fun a w hs hc => ⟨hs.df, .tuple #[v, v', v''], by have h1 := hs.at_ t true v ht; have h2 := hs.at_ u true v' hu; have h3 := hs.at_ x true v'' hx; simp [results, hr, Array.getD_eq_getD_getElem?, h1, h2, h3], h w hc⟩⟩
theorem At.end_ {fn : Func} {R : Ending → World → Prop} (h : At n (bodyPost P fn R) .ret l C) : At n (bodyPost P fn R) .normal l C := ⟨h.run⟩

/-! ### Lists of operations -/

theorem QL.nil (h : At n Q .normal l C) : QL P n ops C (fun a' => ∀ w', C w' → Q .normal a' w') [] l := ⟨fun a hs w hc => h.run a w hs hc⟩
theorem OL.nil (h : At n Q .normal l C) : OL P n ops Q [] l C := ⟨fun a w hs hc => h.run a w hs hc⟩

theorem QL.op {d : Nat} {c : Bool} {v : Value} (hg : Guard l ops o.guard c) (hd : o.dst = some d) (hn : Nat.ble (d + 1) n = true) (hv : Pev P n l C o c v)
    (k : QL P n ops C K rest ((d, c, v) :: l)) : QL P n ops C K (o :: rest) l := by
  have hn' := Nat.le_of_ble_eq_true hn
  refine ⟨fun a hs => ?_⟩
  unfold wpQuiet
  rw [hg.wanted hs]
  cases c with
  | true => exact ⟨v, fun w hw => hv.run rfl a w hs hw, by rw [hd]; exact k.run _ (hs.put hn' true v)⟩
  | false => rw [hd]; exact k.run _ (hs.put hn' false v)

theorem OL.op {d : Nat} {c : Bool} {v : Value} (hg : Guard l ops o.guard c) (hd : o.dst = some d) (hn : Nat.ble (d + 1) n = true) (hv : Pev P n l C o c v)
    (k : OL P n ops Q rest ((d, c, v) :: l) C) : OL P n ops Q (o :: rest) l C := by
  have hn' := Nat.le_of_ble_eq_true hn
  refine ⟨fun a w hs hc => ?_⟩
  unfold wpList
  rw [hg.wanted hs]
  cases c with
  | true =>
    refine .inl (Oper.wp_of_quiet (C := C) (K := fun a' => ∀ w', C w' → wpList P ops Q rest a' w') hc (fun a' w' hw' h => h w' hw') ⟨v, fun w hw => hv.run rfl a w hs hw, fun w' hw' => ?_⟩)
    rw [hd]; exact k.run _ w' (hs.put hn' true v) hw'
  | false => rw [hd]; exact k.run _ w (hs.put hn' false v) hc

/-- a store: no value -/
theorem OL.store_ {C' : World → Prop} (hg : o.guard = none) (hd : o.dst = none) (hv : ∀ a w, Sees n l a → C w → ∃ w', (execOp a.eval o).run P w = .ok .skip w' ∧ C' w')
    (k : OL P n ops Q rest l C') : OL P n ops Q (o :: rest) l C := by
  refine ⟨fun a w hs hc => ?_⟩
  refine wpList_plain hg fun K hK => ?_
  obtain ⟨w', hr, hc'⟩ := hv a w hs hc
  show Oper.upon P o a K Q ((execOp a.eval o).run P w)
  rw [hr]
  show K (a.put o.dst undef) w'
  rw [hd]
  exact hK _ _ (k.run a w' hs hc')
end
end Go.Eng
