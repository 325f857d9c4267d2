/-
  A range over a function, by resources: the loop owns what it says, the iterator reads what it needs; whatever else stays apart.
-/
import Derived.Test.YtbkjkiaicaopoaaSep
import Derived.RangeFuncNested
import Derived.RangeFuncLeaves
import Derived.RangeFuncIn
import Derived.Shelf.Abstract
import Derived.OwnWalkIn
import Derived.TacticsInMore
import Derived.LoopNIn
import Derived.LoopIn
import Derived.CallsIn
namespace Go.Proofs.Ytbkjkiaicaopoaa
open Go.RowKit Go.Shelf

theorem sat.putObj {E w : World} {g : Nat} {o : Obj} {L : List HP} (H : sat E w (objr g o :: L)) (o' : Obj) : sat E (w.putObj g o') (objr g o' :: L) := by
  have hg := H.obj
  have hlt : g < w.heap.size := (Array.getElem?_eq_some_iff.1 hg).1
  refine H.turn rfl rfl rfl (by simp) fun h1 w1 hA => ⟨fun k => if k = g then some o' else none, ?_, ?_, ?_, ?_⟩
  · intro k x e
    dsimp only at e
    split at e
    · subst k; cases e; exact World.putObj_heap_same hlt
    · cases e
  · show (if g = g then _ else _) = _; rw [if_pos rfl]
  · intro k x hk e
    dsimp only at e
    split at e
    · subst k; exact ⟨_, hA⟩
    · cases e
  · intro k hk e
    refine World.putObj_heap_other ?_
    rintro rfl
    rw [hA] at e; cases e

/-- An iterator's word: it hands over the things xs, each as values vs with Y x vs beside them, to whatever loop whose state J gives it what it reads. -/
def SeqS {α : Type} (P : Program) (gf : Nat) (lb : Array Value) (Y : α → Array Value → HP) (xs : List α) (Rd : World → Prop) : Prop :=
  ∀ (n l : Nat) (E : World) (J Jx : List α → HP),
    (∀ pre W L, sat E W (J pre :: L) → Rd W) →
    (∀ pre x rest vs W L, xs = pre ++ x :: rest → sat E W (J pre :: Y x vs :: L) → YieldAt Fence.wide n P l vs W fun e W' =>
      (e = .returned (.bool true) ∧ sat E W' (J (pre ++ [x]) :: L)) ∨ (e = .returned (.bool false) ∧ sat E W' (Jx (pre ++ [x]) :: L))) →
    ∀ W L, sat E W (J [] :: L) →
      CallsIn Fence.wide (n + 1) P gf (#[.func (.yield l) #[] #[]] ++ lb) W fun e W' => (∃ v, e = .returned v) ∧ (sat E W' (J xs :: L) ∨ ∃ pre x rest, xs = pre ++ x :: rest ∧ sat E W' (Jx (pre ++ [x]) :: L))

/-- How a round may be left. -/
def rndPost {α : Type} (E : World) (I : List α → HP) (Ix : Code → List α → HP) (xs : List α) (L : List HP) : Exit → Act → World → Prop
  | .normal, _, W' => sat E W' (I xs :: L)
  | .ret, _, W' => sat E W' (Ix .ret xs :: L)
  | .exit id, _, W' => sat E W' (Ix (.exit id) xs :: L)
  | .goto t, _, W' => sat E W' (Ix (.goto t) xs :: L)
  | .panic _, _, _ => False
  | .outgrown, _, _ => False

def markOf (D : Nat) : Deferred := { target := .collected D, args := #[] }
def defr (D : Nat) : HP := objr D (.deferred (some []))

theorem wp_range_s {α : Type} {P : Program} {g : Operand} {ps : Array Tmp} {assign body : Code} {Q : Exit → Act → World → Prop} {a : Act} {w : World}
    {gf : Nat} {lb : Array Value} (hg : a.eval g = .func (.func gf) #[] lb) (eg : ∀ args w, (callFunc gf args).run P w = .ok (.enter gf args) w)
    {Y : α → Array Value → HP} {xs : List α} {Rd : World → Prop} (hseq : SeqS P gf lb Y xs Rd) (hps : ∀ x vs h, Y x vs h → vs.size = ps.size)
    {E : World} {L : List HP} (I : List α → HP) (Ix : Code → List α → HP) (H : sat E w (I [] :: L)) (hRd : ∀ pre W L, sat E W (I pre :: L) → Rd W)
    (n : Nat)
    (hround : ∀ l pre x rest vs W L, xs = pre ++ x :: rest → sat E W (I pre :: Y x vs :: L) →
      ∀ K : Act → World → Prop, (∀ a₁ W₁ A, sat E W₁ (A :: L) → (∀ W₂ L₂, sat E W₂ (A :: L₂) → body.wpIn (Fence.wide.inRound l) n P (rndPost E I Ix (pre ++ [x]) L₂) a₁ W₂) → K a₁ W₁) →
      assign.wpIn (Fence.wide.inRound l) n P (Exit.then K (fun _ _ _ => False)) { tmps := (ps.zip vs).foldl (fun t (p, v) => t.setIfInBounds p v) a.tmps, defers := [] } W)
    (hdone : ∀ D W, sat E W (I xs :: defr D :: L) → Q .normal { a with defers := markOf D :: a.defers } W)
    (hstop : ∀ D c pre x rest W, xs = pre ++ x :: rest → sat E W (Ix c (pre ++ [x]) :: defr D :: L) → c.wp P Q { a with defers := markOf D :: a.defers } W) :
    (Code.rangeFunc g ps assign body).wp P Q a w := by
  refine (wpIn_wide (n := n + 2)).1 (wpIn_rangeFunc ?_)
  intro fn _
  obtain ⟨rec, hrec⟩ : ∃ rec : LoopState → Option Code → Loop, rec = fun st pe => { state := st, pending := pe, fn, tmps := a.tmps, params := ps, assign, body, defers := w.heap.size } := ⟨_, rfl⟩
  obtain ⟨W1, hW1⟩ : ∃ W1, (w.alloc (.deferred (some []))).alloc (.loop (rec .ready none)) = W1 := ⟨_, rfl⟩
  obtain ⟨l, hl⟩ : ∃ l, l = w.heap.size + 1 := ⟨_, rfl⟩
  have H1 : sat E W1 (I [] :: objr l (.loop (rec .ready none)) :: defr w.heap.size :: L) := by
    have h := (H.allocObj (.deferred (some []))).allocObj (.loop (rec .ready none))
    rw [World.size_alloc, ← hl, hW1] at h
    exact h.pull2
  refine ⟨l, [markOf w.heap.size], W1, { target := .fn (.func gf) lb, args := #[.func (.yield l) #[] #[]] }, W1, gf, #[.func (.yield l) #[] #[]] ++ lb, W1, ?_, ?_, ?_, ?_, fun h => (by cases h), ?_⟩
  · rw [← hW1, hrec, hl]; exact run_enterLoop_outer _ _ _ _ _
  · simp only [resolve, hg]
    simp [go_sem]
  · exact fun _ _ => trivial
  · simp [invoke, go_sem, eg]
  · refine (hseq n l E (fun pre => star [I pre, objr l (.loop (rec .ready none)), defr w.heap.size]) (fun pre h => ∃ c, star [Ix c pre, objr l (.loop (rec .done (some c))), defr w.heap.size] h) ?_ ?_ W1 L (H1.fold (L := [_, _, _]))).mono ?_
    · exact fun pre W L' h => hRd pre W _ h.flat
    · intro pre x rest vs W L' hx h
      replace h : sat E W (I pre :: objr l (.loop (rec .ready none)) :: defr w.heap.size :: Y x vs :: L') := h.flat
      have hlp := h.pull1.obj
      have hvs : vs.size = ps.size := h.pull3.look fun k _ hk => hps x vs k hk
      have hy := run_yield (P := P) (args := vs) hlp (by rw [hrec]; exact hvs)
      rw [hrec] at hy
      have h2 : sat E W (I pre :: Y x vs :: objr l (.loop (rec .ready none)) :: defr w.heap.size :: L') := h.pull3.pull1
      refine ⟨fn, _, assign, body, hy, roundIn_of_wpIn trivial (hround l pre x rest vs W _ hx h2 _ fun a₁ W₁ A hB hbody => ?_)⟩
      have hB1 := hB.pull1
      refine ⟨_, run_beginRound hB1.obj (by rw [hrec]), ?_⟩
      have hB2 := (hB1.putObj (.loop { rec .ready none with state := .busy })).pull1
      refine wpIn_mono (hbody _ _ hB2) ?_
      rintro e a3 W3 hp
      have fin : ∀ (jump : Option Code) (A : HP), sat E W3 (A :: objr l (.loop { rec .ready none with state := .busy }) :: defr w.heap.size :: L') →
          (Instr.endRound l jump).run P W3 = .ok (.bool jump.isNone) (W3.putObj l (.loop (rec (if jump.isNone then .ready else .done) jump))) ∧
          sat E (W3.putObj l (.loop (rec (if jump.isNone then .ready else .done) jump))) (A :: objr l (.loop (rec (if jump.isNone then .ready else .done) jump)) :: defr w.heap.size :: L') := fun jump A hA => by
        have := run_endRound (P := P) jump hA.pull1.obj
        rw [hrec] at this ⊢
        exact ⟨this, (hA.pull1.putObj _).pull1⟩
      cases e with
      | normal =>
        obtain ⟨hr, h4⟩ := fin none _ hp
        exact ⟨_, _, hr, .inl ⟨rfl, h4.fold (L := [_, _, _])⟩⟩
      | ret =>
        obtain ⟨hr, h4⟩ := fin (some .ret) _ hp
        exact ⟨_, _, hr, .inr ⟨rfl, sat.shut_ex (A := fun c => star [Ix c (pre ++ [x]), objr l (.loop (rec .done (some c))), defr w.heap.size]) .ret (h4.fold (L := [_, _, _]))⟩⟩
      | exit id =>
        obtain ⟨hr, h4⟩ := fin (some (.exit id)) _ hp
        exact ⟨_, _, hr, .inr ⟨rfl, sat.shut_ex (A := fun c => star [Ix c (pre ++ [x]), objr l (.loop (rec .done (some c))), defr w.heap.size]) (.exit id) (h4.fold (L := [_, _, _]))⟩⟩
      | goto t =>
        obtain ⟨hr, h4⟩ := fin (some (.goto t)) _ hp
        exact ⟨_, _, hr, .inr ⟨rfl, sat.shut_ex (A := fun c => star [Ix c (pre ++ [x]), objr l (.loop (rec .done (some c))), defr w.heap.size]) (.goto t) (h4.fold (L := [_, _, _]))⟩⟩
      | panic ch => exact hp.elim
      | outgrown => exact hp.elim
    · rintro e W2 ⟨⟨v, rfl⟩, h | ⟨pre, x, rest, hx, h⟩⟩
      · replace h : sat E W2 (I xs :: objr l (.loop (rec .ready none)) :: defr w.heap.size :: L) := h.flat
        refine ⟨none, _, by have := run_endLoop (P := P) h.pull1.obj (by rw [hrec]; simp); rw [hrec] at this; exact this, hdone _ _ ?_⟩
        exact (h.pull1.putObj _).tail
      · obtain ⟨c, h⟩ := h.open_ex
        replace h : sat E W2 (Ix c (pre ++ [x]) :: objr l (.loop (rec .done (some c))) :: defr w.heap.size :: L) := h.flat
        refine ⟨some c, _, by have := run_endLoop (P := P) h.pull1.obj (by rw [hrec]; simp); rw [hrec] at this; exact this, ?_⟩
        exact wpIn_wide.2 (hstop _ c pre x rest _ hx (h.pull1.putObj _).tail)

/-- A function's contract where its body holds a range over a function. -/
theorem calls_of_marks {P : Program} {f : FuncId} {fn : Func} {c : Code} {args : Array Value} {w : World} {R : Ending → World → Prop} (hf : P.funcs[f]? = some fn) (hb : fn.body = some c)
    (h : c.wp P (bodyPostM Fence.wide 9 P fn R) { tmps := args ++ Array.replicate (fn.ntmps - args.size) undef, defers := [] } w) : Calls P f args w R :=
  (callsIn_wide (n := 9)).1 (callsIn_of_wp_marks hf hb trivial (wpIn_wide.2 h))
theorem leave_marks {P : Program} {fn : Func} {tmps : Array Value} {R : Ending → World → Prop} {n : Nat} {E : World} {L : List HP} : ∀ (Ds : List Nat) (w : World), sat E w (Ds.map defr ++ L) →
    (∀ w', sat E w' L → ∃ v, (results fn tmps).run P w' = .ok v w' ∧ R (.returned v) w') → LeavesInM Fence.wide n P fn tmps R (Ds.map markOf) .returning w
  | [], w, H, h => h w H
  | D :: Ds, w, H, h => by
    have hD : sat E w (objr D (.deferred (some [])) :: (Ds.map defr ++ L)) := H
    exact ⟨by simp, .inl ⟨D, _, rfl, run_takeDeferred hD.obj, leave_marks Ds _ (hD.putObj _).tail h⟩⟩
/-- At the return of a function that held one such loop. -/
theorem leave_mark1 {P : Program} {fn : Func} {a : Act} {R : Ending → World → Prop} {n : Nat} {E : World} {L : List HP} {D : Nat} {w : World} (hd : a.defers = [markOf D]) (H : sat E w (defr D :: L))
    (h : ∀ w', sat E w' L → ∃ v, (results fn a.tmps).run P w' = .ok v w' ∧ R (.returned v) w') : bodyPostM Fence.wide n P fn R .ret a w := by
  show LeavesInM Fence.wide n P fn a.tmps R a.defers .returning w
  rw [hd]
  exact leave_marks [D] w H h
theorem leave_mark0 {P : Program} {fn : Func} {a : Act} {R : Ending → World → Prop} {n : Nat} {w : World} (hd : a.defers = []) {v : Value} (h1 : (results fn a.tmps).run P w = .ok v w) (h2 : R (.returned v) w) : bodyPostM Fence.wide n P fn R .ret a w := by
  show LeavesInM Fence.wide n P fn a.tmps R a.defers .returning w
  rw [hd]
  exact ⟨v, h1, h2⟩

section laws
variable {P : Program} {ops : Array Oper} {rest : List Oper} {o : Oper} {a : Act} {Q : Exit → Act → World → Prop} {F : Fence} {k : Nat}
theorem wpListIn_run (hF : ∀ f, F.fn f) (hw : Region.wanted o (yielded ops a.tmps) = true) (hnd : ∀ c, o.op ≠ .defer c) {v : Value} {w w' : World} (h : (execOp a.eval o).run P w = .ok (.value v) w') (hK : wpListIn F k P ops Q rest (a.put o.dst v) w') : wpListIn F k P ops Q (o :: rest) a w := by
  refine wpListIn_step fun K hK' => ?_
  rw [if_pos hw]
  unfold Oper.wpIn
  refine ⟨fun f _ => hF f, ?_⟩
  rw [Oper.semAt_plain F _ _ hnd, h]
  exact hK' _ _ hK
theorem wpListIn_app1 (hF : ∀ f, F.fn f) (hw : Region.wanted o (yielded ops a.tmps) = true) (s x : Operand) (t : TypeId) (ho : o.op = .call { callee := .builtin .append, args := #[s, x], argTypes := #[t, t] })
    {e : TypeId} {z : Value} {bytes : Nat} (hinf : (P.info? e).map (fun i => (i.zero, i.size, i.bytes)) = some (some z, 1, bytes)) (ht : P.underlying t = some (.slice e)) (hzs : z.cells.size = 1) (hby : bytes ≤ 64)
    {α : Type} {enc : α → Value} {E W : World} {A : Option Addr} {n c : Nat} {l : List α} {L : List HP} (H : sat E W (vec e enc A n c l :: L)) (y : α) {u : Value} (hu : u = enc y) (hs : a.eval s = .slice A n c) {B : Nat} (hx : a.eval x = .slice (some ⟨B, 0, none⟩) 1 1) (hB : B = W.heap.size)
    (h1 : (enc y).oneCell' = true) (hl : n < 1099511627776)
    (h : ∀ A' c' w', sat E w' (vec e enc A' (n + 1) c' (l ++ [y]) :: L) → wpListIn F k P ops Q rest (a.put o.dst (.slice A' (n + 1) c')) w') : wpListIn F k P ops Q (o :: rest) a (W.alloc (.cells #[u] e)) := by
  obtain ⟨A', c', w', hr, h2⟩ := run_app1 s x t ho hinf ht hzs hby H y hu hs hx hB h1 hl
  exact wpListIn_run hF hw (by rw [ho]; intro c hc; cases hc) hr (h A' c' w' h2)
theorem wpListIn_appS (hF : ∀ f, F.fn f) (hw : Region.wanted o (yielded ops a.tmps) = true) (s x : Operand) (t : TypeId) (ho : o.op = .call { callee := .builtin .append, args := #[s, x], argTypes := #[t, t] })
    {e : TypeId} {z : Value} {bytes : Nat} (hinf : (P.info? e).map (fun i => (i.zero, i.size, i.bytes)) = some (some z, 1, bytes)) (ht : P.underlying t = some (.slice e)) (hzs : z.cells.size = 1) (hby : bytes ≤ 64)
    {α : Type} {enc : α → Value} {E W : World} {A : Option Addr} {n c : Nat} {l : List α} {L : List HP} (H : sat E W (vec e enc A n c l :: L)) (hs : a.eval s = .slice A n c) {B : Option Addr} {m d : Nat} {ys : List α} (hx : a.eval x = .slice B m d) (hm : ys.length = m) (hy : Sl enc W B ys)
    (h1 : ∀ y, (enc y).oneCell' = true) (hl : n + m ≤ 1099511627776)
    (h : ∀ A' c' w', sat E w' (vec e enc A' (n + m) c' (l ++ ys) :: L) → wpListIn F k P ops Q rest (a.put o.dst (.slice A' (n + m) c')) w') : wpListIn F k P ops Q (o :: rest) a W := by
  obtain ⟨A', c', w', hr, h2⟩ := run_appS s x t ho hinf ht hzs hby H hs hx hm hy h1 hl
  exact wpListIn_run hF hw (by rw [ho]; intro c hc; cases hc) hr (h A' c' w' h2)
end laws
end Go.Proofs.Ytbkjkiaicaopoaa
