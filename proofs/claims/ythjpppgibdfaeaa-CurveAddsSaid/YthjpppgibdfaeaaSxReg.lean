/- SxReg: a part of the proof: lemmas alone, of no statement. -/
import Derived.Test.YthjpppgibdfaeaaSxBuild
namespace Go.SX
open Go.RowKit

section
variable {P : Program} {Γ : TyEnv}

/-- == and != -/
def opEq (Γ : TyEnv) (neg : Bool) (T : Nat) (x y : Option SV) : Out :=
  match Γ T, x, y with
  | some ⟨.bool, _, _⟩, some (.v (.bool a)), some (.v (.bool b)) => .val (.one (.v (.bool (if neg then !(a == b) else a == b)))) True
  | some ⟨.array len E, _, _⟩, some (.g cs), some (.g ds) => match Γ E, plainL cs, plainL ds with
    | some ⟨.int k, 1, _⟩, some xs, some ys =>
      .val (.one (.v (.bool (if neg then !(decide (xs.map toI = ys.map toI)) else decide (xs.map toI = ys.map toI)))))
        (xs.length = len ∧ ys.length = len ∧ (∀ x ∈ xs, isI k x) ∧ (∀ y ∈ ys, isI k y))
    | _, _, _ => .bad
  | _, _, _ => .bad
theorem opEq_spec (hΓ : TyOK P Γ) {M : Nat → Prop} {w0 w : World} {σ : SSt} {ρ : Rho} {a : Act} (h : Sat M w0 σ ρ a w) {T : Nat} {neg : Bool} {x y : Operand} {s : SS} {side : Prop}
    (ho : opEq Γ neg T (rd σ x) (rd σ y) = .val s side) (hside : side) :
    (do eqGuard (if neg then .neq else .eql) T x y (a.eval x) (a.eval y); binOp (if neg then .neq else .eql) T (a.eval x) (a.eval y)).run P w = .ok (s.den ρ) w ∧ s.ok σ.dom := by
  unfold opEq at ho
  split at ho
  · rename_i sz z p q hT hx hy
    obtain ⟨he, _⟩ := rd_spec h hx
    obtain ⟨hf, _⟩ := rd_spec h hy
    simp only [Out.val.injEq] at ho
    obtain ⟨rfl, _⟩ := ho
    have hu := (hΓ _ _ hT).und
    simp only at hu
    refine ⟨?_, trivial⟩
    rw [he, hf]
    cases neg <;> simp [eqGuard, binOp, Op.equal, Op.maxDepth, SV.den, SS.den, run_equalIn_bool' w 9999 T p q hu]
  · rename_i len E sz z cs ds hT hx hy
    obtain ⟨he, _⟩ := rd_spec h hx
    obtain ⟨hf, _⟩ := rd_spec h hy
    split at ho
    · rename_i k z' xs ys hE hcs hds
      simp only [Out.val.injEq] at ho
      obtain ⟨rfl, rfl⟩ := ho
      obtain ⟨h1, h2, h3, h4⟩ := hside
      have hT' := hΓ _ _ hT
      have hE' := hΓ _ _ hE
      have hu := hT'.und
      have hv := hE'.und
      have hs := hE'.info
      simp only at hu hv hs
      refine ⟨?_, trivial⟩
      rw [he, hf]
      simp only [SV.den, plainL_spec (ρ := ρ) cs xs hcs, plainL_spec (ρ := ρ) ds ys hds]
      rw [Sem.run_bind, run_eqGuard_agg (hm := hT'.guard len E rfl)]
      simp only [Result.andThen_ok]
      have key := run_equalIn_ints hu hv hs h1 h2 h3 h4 w
      cases neg
      · simp only [Bool.false_eq_true, if_false]; rw [run_eql_struct, key]; rfl
      · simp only [if_true]; rw [run_neq_struct, key]; rfl
    · cases ho
  · cases ho

def opBin (Γ : TyEnv) (op : BinOp) (T : Nat) (x y : Option SV) : Out :=
  match x, y with
  | some (.v (.int k a)), some (.v (.int k' b)) => match binV op (.int k a) (.int k' b) with
    | some (v, side) => .val (.one (.v v)) side
    | none => .bad
  | _, _ => match op with
    | .eql => opEq Γ false T x y
    | .neq => opEq Γ true T x y
    | _ => .bad
theorem opBin_spec (hΓ : TyOK P Γ) {M : Nat → Prop} {w0 w : World} {σ : SSt} {ρ : Rho} {a : Act} (h : Sat M w0 σ ρ a w) {T : Nat} {op : BinOp} {x y : Operand} {s : SS} {side : Prop}
    (ho : opBin Γ op T (rd σ x) (rd σ y) = .val s side) (hside : side) :
    (do eqGuard op T x y (a.eval x) (a.eval y); binOp op T (a.eval x) (a.eval y)).run P w = .ok (s.den ρ) w ∧ s.ok σ.dom := by
  unfold opBin at ho
  split at ho
  · rename_i k p k' q hx hy
    obtain ⟨he, _⟩ := rd_spec h hx
    obtain ⟨hf, _⟩ := rd_spec h hy
    split at ho
    · rename_i v side' hb
      simp only [Out.val.injEq] at ho
      obtain ⟨rfl, rfl⟩ := ho
      obtain ⟨h1, _⟩ := binV_spec (P := P) (T := T) hb hside w
      refine ⟨?_, trivial⟩
      rw [he, hf]
      have hg : (eqGuard op T x y (.int k p) (.int k' q)).run P w = .ok () w := by
        unfold eqGuard; split <;> simp
      simp only [SV.den, Sem.run_bind, hg, Result.andThen_ok, h1, SS.den]
    · cases ho
  · split at ho
    · exact opEq_spec (neg := false) hΓ h ho hside
    · exact opEq_spec (neg := true) hΓ h ho hside
    · cases ho

def rdAll (σ : SSt) : List Operand → Option (List SV)
  | [] => some []
  | x :: xs => match rd σ x, rdAll σ xs with
    | some s, some l => some (s :: l)
    | _, _ => none
theorem rdAll_spec {M : Nat → Prop} {w0 w : World} {σ : SSt} {ρ : Rho} {a : Act} (h : Sat M w0 σ ρ a w) : ∀ {xs : List Operand} {l : List SV}, rdAll σ xs = some l → xs.map a.eval = l.map (SV.den ρ) ∧ ∀ s ∈ l, s.ok σ.dom
  | [], l, hl => by simp only [rdAll, Option.some.injEq] at hl; subst hl; simp
  | x :: xs, l, hl => by
    simp only [rdAll] at hl
    split at hl
    · rename_i s l' h1 h2
      simp only [Option.some.injEq] at hl; subst hl
      obtain ⟨e1, e2⟩ := rd_spec h h1
      obtain ⟨e3, e4⟩ := rdAll_spec h h2
      exact ⟨by simp [e1, e3], fun t ht => by
        rcases List.mem_cons.1 ht with rfl | ht
        · exact e2
        · exact e4 t ht⟩
    · cases hl

def opLen (Γ : TyEnv) (T : Option Nat) (x : Option SV) : Out :=
  match T with
  | some t => match Γ t, x with
    | some ⟨.slice _, _, _⟩, some (.s _ _ _ len _) => .val (.one (.v (.int .i64 len))) True
    | some ⟨.slice _, _, _⟩, some (.v (.slice _ len _)) => .val (.one (.v (.int .i64 len))) True
    | some ⟨.string, _, _⟩, some (.v (.string s)) => .val (.one (.v (.int .i64 s.size))) True
    | some ⟨.array n _, _, _⟩, some _ => .val (.one (.v (.int .i64 n))) True
    | _, _ => .bad
  | none => .bad

def opOther (σ : SSt) (o : Op) : Out :=
  match rdAll σ o.operands.toList with
  | some l => .call (.op o) l
  | none => .bad
def opSem (Γ : TyEnv) (σ : SSt) (o : Op) : Out :=
  match o with
  | .move x => match rdS σ x with
    | some s => .val s True
    | none => .bad
  | .assign x => match rdS σ x with
    | some s => .val s True
    | none => .bad
  | .pick c x y => match rd σ c, rd σ x, rd σ y with
    | some (.v (.bool t)), some sx, some sy => .val (.one (match t with | true => sx | false => sy)) True
    | _, _, _ => .bad
  | .alloc T => match Γ T with
    | some i => .new i.zero true True
    | none => .bad
  | .box _ x => match rd σ x with
    | some s => .new (toC s).1 true (toC s).2
    | none => .bad
  | .load T x => opLoad Γ σ T (rd σ x)
  | .store T x y => opStore Γ σ T (rd σ x) (rd σ y)
  | .nilCheck x => match rd σ x with
    | some (.p k off) => .val (.one (.p k off)) True
    | some (.e k b j) => .val (.one (.e k b j)) True
    | _ => .bad
  | .binOp op T x y _ => opBin Γ op T (rd σ x) (rd σ y)
  | .unOp op _ x => match rd σ x with
    | some (.v x) => match unV op x with
      | some v => .val (.one (.v v)) True
      | none => .bad
    | _ => .bad
  | .convert S D x => opConvert Γ S D (rd σ x)
  | .sliceToArrayPointer T x => opArrayAt Γ T (rd σ x)
  | .slice T x lo hi mx => opSlice Γ σ T (rd σ x) lo hi mx
  | .fieldAddr T x f => opFieldAddr Γ T (rd σ x) f
  | .field T x f => opField Γ T (rd σ x) f
  | .indexAddr T x i => opIndexAddr Γ σ T (rd σ x) i
  | .index T x i => opIndex Γ T (rd σ x) (rd σ i)
  | .extract x i => match rdS σ x with
    | some (.tup l) => match l[i]? with
      | some s => .val (.one s) True
      | none => .bad
    | _ => .bad
  | .call c => match c.callee with
    | .value (.func f) => match rdAll σ c.args.toList with
      | some l => .call (.fn f) l
      | none => .bad
    | .builtin .len => match c.args.toList with
      | [x] => opLen Γ c.argTypes[0]? (rd σ x)
      | _ => .bad
    | _ => opOther σ (.call c)
  | .build T parts => opBuild Γ T (rdParts σ parts.toList)
  | o => opOther σ o

/-- what an operation's outcome promises -/
def OutOK (P : Program) (σ : SSt) (ρ : Rho) (a : Act) (w : World) (o : Oper) : Out → Prop
  | .val s side => side → (execOp a.eval o).run P w = .ok (.value (s.den ρ)) w ∧ s.ok σ.dom
  | .new cs _ side => side → okC σ.dom cs ∧ ∃ T, (execOp a.eval o).run P w = .ok (.value (.pointer (some ⟨w.heap.size, 0, none⟩))) (w.alloc (.cells (flat ρ cs).toArray T (0, 0)))
  | .set k cs side => side → ∃ B E, σ.blks k = some B ∧ B.rw = true ∧ okC σ.dom cs ∧ (flat ρ cs).length = (flat ρ B.cs).length ∧
      (execOp a.eval o).run P w = .ok .skip (withBlock w (ρ k).1 (.cells (flat ρ cs).toArray E (0, 0)))
  | .call f args => (match f with
    | .fn f => (execOp a.eval o).run P w = (callFunc f (args.map (SV.den ρ)).toArray).run P w
    | .op p => p = o.op ∧ p.operands.toList.map a.eval = args.map (SV.den ρ)) ∧ ∀ s ∈ args, s.ok σ.dom
  | .bad => True

theorem run_newVar {T : Nat} (v : Value) (l : List Value) (hv : v.cells.toList = l) (w : World) :
    (newVar T v).run P w = .ok ⟨w.heap.size, 0, none⟩ (w.alloc (.cells l.toArray T (0, 0))) := by
  subst hv
  simp only [newVar, newRow, newObj, Sem.run_bind, Sem.run_pure]
  rfl

theorem opOther_spec {M : Nat → Prop} {w0 w : World} {σ : SSt} {ρ : Rho} {a : Act} (h : Sat M w0 σ ρ a w) (o : Oper) : OutOK P σ ρ a w o (opOther σ o.op) := by
  unfold opOther
  split
  · rename_i l hl
    obtain ⟨h1, h2⟩ := rdAll_spec h hl
    exact ⟨⟨rfl, h1⟩, h2⟩
  · trivial

theorem opSem_spec (hΓ : TyOK P Γ) {M : Nat → Prop} {w0 w : World} {σ : SSt} {ρ : Rho} {a : Act} (h : Sat M w0 σ ρ a w) (o : Oper) : OutOK P σ ρ a w o (opSem Γ σ o.op) := by
  obtain ⟨dst, op, type, pos, after, guard⟩ := o
  cases op <;> try (exact opOther_spec h ⟨dst, _, type, pos, after, guard⟩)
  case move x =>
    simp only [opSem]
    split
    · rename_i s hs
      obtain ⟨h1, h2⟩ := rdS_spec h hs
      exact fun _ => ⟨by simp [execOp, h1], h2⟩
    · trivial
  case assign x =>
    simp only [opSem]
    split
    · rename_i s hs
      obtain ⟨h1, h2⟩ := rdS_spec h hs
      exact fun _ => ⟨by simp [execOp, h1], h2⟩
    · trivial
  case pick c x y =>
    simp only [opSem]
    split
    · rename_i t sx sy hc hx hy
      obtain ⟨h1, _⟩ := rd_spec h hc
      obtain ⟨h2, k2⟩ := rd_spec h hx
      obtain ⟨h3, k3⟩ := rd_spec h hy
      intro _
      cases t
      · exact ⟨by simp [execOp, h1, h3, SV.den, asBool, SS.den], k3⟩
      · exact ⟨by simp [execOp, h1, h2, SV.den, asBool, SS.den], k2⟩
    · trivial
  case alloc T =>
    simp only [opSem]
    split
    · rename_i i hT
      intro _
      obtain ⟨z, hz, hz'⟩ := run_zeroValue (hΓ _ _ hT) w ρ
      refine ⟨(hΓ _ _ hT).okz _, T, ?_⟩
      simp only [execOp, Instr.alloc, Sem.run_bind, hz, Result.andThen_ok, run_newVar z _ hz', Sem.run_pure]
    · trivial
  case box T x =>
    simp only [opSem]
    split
    · rename_i s hs
      intro hside
      obtain ⟨h1, h2⟩ := rd_spec h hs
      obtain ⟨k1, k2⟩ := toC_spec (ρ := ρ) h2 hside
      refine ⟨k1, T, ?_⟩
      simp only [execOp, Instr.box, Sem.run_bind, h1, run_newVar _ _ k2, Result.andThen_ok, Sem.run_pure]
    · trivial
  case load T x =>
    simp only [opSem]
    generalize ho : opLoad Γ σ T (rd σ x) = out
    cases out with
    | val s side =>
      intro hside
      obtain ⟨h1, h2⟩ := opLoad_spec hΓ h ho hside
      exact ⟨by simp only [execOp, Sem.run_bind, h1, Result.andThen_ok, Sem.run_pure], h2⟩
    | bad => trivial
    | _ => exfalso; revert ho; unfold opLoad; repeat' (split <;> try simp)
  case store T x y =>
    simp only [opSem]
    generalize ho : opStore Γ σ T (rd σ x) (rd σ y) = out
    cases out with
    | set k cs side =>
      intro hside
      obtain ⟨B, E, h1, h2, h3, h4, h5⟩ := opStore_spec hΓ h ho hside
      exact ⟨B, E, h1, h2, h3, h4, by simp only [execOp, Sem.run_bind, h5, Result.andThen_ok, Sem.run_pure]⟩
    | bad => trivial
    | _ => exfalso; revert ho; unfold opStore; repeat' (split <;> try simp)
  case nilCheck x =>
    simp only [opSem]
    split
    · rename_i k off hs
      obtain ⟨h1, h2⟩ := rd_spec h hs
      exact fun _ => ⟨by simp [execOp, h1, SV.den, SS.den], h2⟩
    · rename_i k b j hs
      obtain ⟨h1, h2⟩ := rd_spec h hs
      exact fun _ => ⟨by simp [execOp, h1, SV.den, SS.den], h2⟩
    · trivial
  case binOp op T x y yT =>
    simp only [opSem]
    generalize ho : opBin Γ op T (rd σ x) (rd σ y) = out
    cases out with
    | val s side =>
      intro hside
      obtain ⟨h1, h2⟩ := opBin_spec hΓ h ho hside
      refine ⟨?_, h2⟩
      simp only [Sem.run_bind] at h1
      simp only [execOp, Sem.run_bind, h1, Result.andThen_ok, Sem.run_pure]
    | bad => trivial
    | _ => exfalso; revert ho; unfold opBin opEq; repeat' (split <;> try simp)
  case unOp op T x =>
    simp only [opSem]
    split
    · rename_i x' hs
      obtain ⟨h1, _⟩ := rd_spec h hs
      split
      · rename_i v hv
        exact fun _ => ⟨by simp [execOp, h1, SV.den, SS.den, unV_spec hv], trivial⟩
      · trivial
    · trivial
  case convert S D x =>
    simp only [opSem]
    generalize ho : opConvert Γ S D (rd σ x) = out
    cases out with
    | val s side =>
      intro hside
      obtain ⟨h1, h2⟩ := opConvert_spec hΓ h ho
      exact ⟨by simp only [execOp, Sem.run_bind, h1, Result.andThen_ok, Sem.run_pure], h2⟩
    | bad => trivial
    | _ => exfalso; revert ho; unfold opConvert; repeat' (split <;> try simp)
  case sliceToArrayPointer T x =>
    simp only [opSem]
    generalize ho : opArrayAt Γ T (rd σ x) = out
    cases out with
    | val s side =>
      intro hside
      obtain ⟨h1, h2⟩ := opArrayAt_spec hΓ h ho hside
      exact ⟨by simp only [execOp, Sem.run_bind, h1, Result.andThen_ok, Sem.run_pure], h2⟩
    | bad => trivial
    | _ => exfalso; revert ho; unfold opArrayAt; repeat' (split <;> try simp)
  case slice T x lo hi mx =>
    simp only [opSem]
    generalize ho : opSlice Γ σ T (rd σ x) lo hi mx = out
    cases out with
    | val s side =>
      intro hside
      obtain ⟨h1, h2⟩ := opSlice_spec hΓ h ho hside
      exact ⟨by simp only [execOp, Sem.run_bind, h1, Result.andThen_ok, Sem.run_pure], h2⟩
    | bad => trivial
    | _ => exfalso; revert ho; unfold opSlice; repeat' (split <;> try simp)
  case fieldAddr T x f =>
    simp only [opSem]
    generalize ho : opFieldAddr Γ T (rd σ x) f = out
    cases out with
    | val s side =>
      intro hside
      obtain ⟨h1, h2⟩ := opFieldAddr_spec hΓ h ho hside
      exact ⟨by simp only [execOp, Sem.run_bind, h1, Result.andThen_ok, Sem.run_pure], h2⟩
    | bad => trivial
    | _ => exfalso; revert ho; unfold opFieldAddr; repeat' (split <;> try simp)
  case field T x f =>
    simp only [opSem]
    generalize ho : opField Γ T (rd σ x) f = out
    cases out with
    | val s side =>
      intro hside
      obtain ⟨h1, h2⟩ := opField_spec hΓ h ho
      exact ⟨by simp only [execOp, Sem.run_bind, h1, Result.andThen_ok, Sem.run_pure], h2⟩
    | bad => trivial
    | _ => exfalso; revert ho; unfold opField opPart; repeat' (split <;> try simp)
  case indexAddr T x i =>
    simp only [opSem]
    generalize ho : opIndexAddr Γ σ T (rd σ x) i = out
    cases out with
    | val s side =>
      intro hside
      obtain ⟨h1, h2⟩ := opIndexAddr_spec hΓ h ho hside
      exact ⟨by simp only [execOp, Sem.run_bind, h1, Result.andThen_ok, Sem.run_pure], h2⟩
    | bad => trivial
    | _ => exfalso; revert ho; unfold opIndexAddr; simp only [idxOut_eq]; repeat' (split <;> try simp)
  case index T x i =>
    simp only [opSem]
    generalize ho : opIndex Γ T (rd σ x) (rd σ i) = out
    cases out with
    | val s side =>
      intro hside
      obtain ⟨h1, h2⟩ := opIndex_spec hΓ h ho hside
      exact ⟨by simp only [execOp, Sem.run_bind, h1, Result.andThen_ok, Sem.run_pure], h2⟩
    | bad => trivial
    | _ => exfalso; revert ho; unfold opIndex; simp only [idxOut_eq]; repeat' (split <;> try simp)
  case extract x i =>
    simp only [opSem]
    split
    · rename_i l hs
      obtain ⟨h1, h2⟩ := rdS_spec h hs
      split
      · rename_i s hl
        refine fun _ => ⟨?_, h2 s (List.mem_of_getElem? hl)⟩
        simp [execOp, h1, SS.den, Instr.extract, hl]
      · trivial
    · trivial
  case call c =>
    obtain ⟨callee, args, argTypes⟩ := c
    simp only [opSem]
    split
    · rename_i _ f
      split
      · rename_i l hl
        obtain ⟨h1, h2⟩ := rdAll_spec h hl
        refine ⟨?_, h2⟩
        have : args.map a.eval = (l.map (SV.den ρ)).toArray := by
          apply Array.toList_inj.1; simpa using h1
        simp [execOp, resolve, Deferred.ofValue, invoke, this, Act.eval]
      · trivial
    · split
      · rename_i x hx
        generalize ho : opLen Γ argTypes[0]? (rd σ x) = out
        have hargs : args = #[x] := by apply Array.toList_inj.1; simpa using hx
        subst hargs
        unfold opLen at ho
        split at ho
        · rename_i t ht
          split at ho
          · rename_i E sz z k b st len cap hT hr
            subst ho
            obtain ⟨he, _⟩ := rd_spec h hr
            have hu := (hΓ _ _ hT).und
            simp only at hu
            exact fun _ => ⟨by simp [execOp, resolve, invoke, builtin, Builtin.len_, ht, he, SV.den, run_underlying hu, goInt, SS.den], trivial⟩
          · rename_i E sz z A len cap hT hr
            subst ho
            obtain ⟨he, _⟩ := rd_spec h hr
            have hu := (hΓ _ _ hT).und
            simp only at hu
            exact fun _ => ⟨by simp [execOp, resolve, invoke, builtin, Builtin.len_, ht, he, SV.den, run_underlying hu, goInt, SS.den], trivial⟩
          · rename_i sz z s hT hr
            subst ho
            obtain ⟨he, _⟩ := rd_spec h hr
            have hu := (hΓ _ _ hT).und
            simp only at hu
            exact fun _ => ⟨by simp [execOp, resolve, invoke, builtin, Builtin.len_, ht, he, SV.den, run_underlying hu, goInt, SS.den], trivial⟩
          · rename_i n E sz z s hT hr
            subst ho
            obtain ⟨he, _⟩ := rd_spec h hr
            have hu := (hΓ _ _ hT).und
            simp only at hu
            exact fun _ => ⟨by simp [execOp, resolve, invoke, builtin, Builtin.len_, ht, he, run_underlying hu, goInt, SS.den, SV.den], trivial⟩
          · subst ho; trivial
        · subst ho; trivial
      · trivial
    · exact opOther_spec h ⟨dst, .call ⟨callee, args, argTypes⟩, type, pos, after, guard⟩
  case build T parts =>
    simp only [opSem]
    generalize ho : opBuild Γ T (rdParts σ parts.toList) = out
    cases out with
    | val s side =>
      intro hside
      obtain ⟨h1, h2⟩ := opBuild_spec hΓ h ho hside
      exact ⟨by simp only [execOp, Sem.run_bind, h1, Result.andThen_ok, Sem.run_pure], h2⟩
    | bad => trivial
    | _ => exfalso; revert ho; unfold opBuild; repeat' (split <;> try simp)
end
end Go.SX
