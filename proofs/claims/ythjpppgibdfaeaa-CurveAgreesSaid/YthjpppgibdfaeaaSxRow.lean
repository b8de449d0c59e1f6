/- SxRow: a part of the proof: lemmas alone, of no statement. -/
import Derived.Test.YthjpppgibdfaeaaSxThree
import Derived.WalkKit
import Derived.ProofKit
import Derived.OpenShut
import Derived.ChangeOld
import Derived.Below
/- From a symbolic walk to a given row. -/
namespace Go.SX
open Go.ChangeShapes Go.WideShapes Go.ChangeAt Go.RowKit
section
variable {H : Type} {enc : TypeId × Value → H} {P : Program} {w : World} {base : Nat} {spare : Nat → Bool} {held : Bool}

theorem wf_u8 {n : Int} (h : (Lit.int .u8 n).wf = true) : 0 ≤ n ∧ n < 256 := by
  have h2 := bounds_u8 h
  omega
/-- an array of bytes, opened -/
theorem open_u8s {r : Reach} {b0 T E n : Nat} {v : Value} {d : DataW H} {p : List MemPlace} (hT : P.underlying T = some (.array n E)) (hE : P.underlying E = some (.int .u8)) (hc : P.cellsOf E = 1) (hn : P.cellsOf T = n)
    (hv : Value.okWide P w r b0 T v) (h : DataW.Trod enc P w base spare held T v d p) :
    ∃ f : Nat → Nat, (∀ i, f i < 256) ∧ v = .agg ((List.range n).map fun i => Value.int .u8 (f i : Int)).toArray := by
  simp only [Value.okWide, hT] at hv
  obtain ⟨cs, rfl, hsz, _⟩ := hv
  rw [hn] at hsz
  obtain ⟨fuel, hf⟩ := h
  obtain ⟨xs, m, _, _, _, hl, hel⟩ := DataW.trod_array hT hf
  have each : ∀ i, i < n → ∃ z : Int, cs[i]? = some (.int .u8 z) ∧ 0 ≤ z ∧ z < 256 := by
    intro i hi
    have hE' := hel i hi
    rw [hc, Nat.mul_one, List.getElem?_eq_getElem (by omega)] at hE'
    obtain ⟨z, e1, _, e3⟩ := DataW.trod_int hE hE'
    refine ⟨z, ?_, wf_u8 e3⟩
    have h0 : ((cs.toList.drop i).take 1)[0]? = some (.int .u8 z) := by
      simp only [Value.cells] at e1
      rw [e1]; rfl
    simpa using h0
  refine ⟨fun i => match cs[i]? with | some (.int _ z) => if 0 ≤ z ∧ z < 256 then z.toNat else 0 | _ => 0, fun i => ?_, ?_⟩
  · dsimp only
    split
    · split
      · omega
      · omega
    · omega
  · congr 1
    apply Array.ext_getElem?
    intro i
    by_cases hi : i < n
    · obtain ⟨z, hz, h1, h2⟩ := each i hi
      simp only [hz, List.getElem?_toArray, List.getElem?_map, List.getElem?_range hi, Option.map_some, h1, h2, and_self, if_true]
      rw [Int.toNat_of_nonneg h1]
    · rw [Array.getElem?_eq_none (by omega), Array.getElem?_eq_none (by simp; omega)]
/-- a slice of bytes, opened: it is empty, or it leads to a row -/
theorem open_u8row {r : Reach} {b0 T E : Nat} {v : Value} {d : DataW H} {p : List MemPlace} (hT : P.underlying T = some (.slice E)) (hE : P.underlying E = some (.int .u8)) (hc : P.cellsOf E = 1)
    (hv : Value.okWide P w r b0 T v) (h : DataW.Trod enc P w base (fun _ => true) held T v d p) :
    (∃ a, v = .slice a 0 0) ∨ ∃ (b off len cap : Nat) (f : Nat → Nat), v = .slice (some ⟨b, off, none⟩) len cap ∧ len ≤ cap ∧ cap ≤ maxLen ∧ (∀ i, f i < 256) ∧
      ∀ (ρ : Rho) (k : Nat), ρ k = (b, off) → BlkSat ρ k ⟨[.many cap ((List.range cap).map fun i => Value.int .u8 (f i : Int))], false⟩ w := by
  obtain ⟨a0, len0, cap0, rfl⟩ := okWide_slice hT hv
  obtain ⟨fuel, hf⟩ := h
  rcases open_ints hT hE hc hf with ⟨hcs, _⟩ | ⟨x, l, c, zs, hcs, _, hl, hm, hz, _, hcell, hwz⟩
  · simp [Value.cells] at hcs
    obtain ⟨rfl, rfl, rfl⟩ := hcs
    exact .inl ⟨none, rfl⟩
  · simp [Value.cells] at hcs
    obtain ⟨rfl, rfl, rfl⟩ := hcs
    simp only [if_true] at hz
    by_cases h0 : cap0 = 0
    · subst h0
      obtain rfl : len0 = 0 := by omega
      exact .inl ⟨_, rfl⟩
    · right
      obtain ⟨b, off, spot⟩ := x
      have hc0 := hcell 0 (by omega)
      have hspot : spot = none := by simpa [Addr.add] using World.cell?_spot hc0
      subst hspot
      have hcell' : ∀ i, i < cap0 → w.cell? ⟨b, off + i, none⟩ = some (.int .u8 (zs.getD i 0)) := fun i hi => by
        have := hcell i (by omega)
        rwa [add_none] at this
      obtain ⟨c, Tb, fz, hb⟩ : ∃ c Tb fz, w.heap[b]? = some (.cells c Tb fz) := by
        have h1 := hcell' 0 (by omega)
        unfold World.cell? at h1
        split at h1
        · rename_i c Tb fz hh; exact ⟨c, Tb, fz, hh⟩
        · cases h1
      have hbd : ∀ i, 0 ≤ zs.getD i 0 ∧ zs.getD i 0 < 256 := by
        intro i
        by_cases hi : i < zs.length
        · rw [List.getD_eq_getElem?_getD, List.getElem?_eq_getElem hi]
          exact wf_u8 (hwz _ (List.getElem_mem hi))
        · rw [List.getD_eq_getElem?_getD, List.getElem?_eq_none (by omega)]; simp
      refine ⟨b, off, len0, cap0, fun i => (zs.getD i 0).toNat, rfl, hl, hm, fun i => ?_, fun ρ k hρ => ?_⟩
      · have := hbd i; simp only; omega
      · refine ⟨c, Tb, fz, by rw [hρ]; exact hb, fun i hi => ?_, fun hf => by cases hf⟩
        simp only [flat, List.flatMap_cons, List.flatMap_nil, CV.den, List.append_nil, List.length_map, List.length_range] at hi ⊢
        have h1 := hcell' i hi
        rw [cell_of hb] at h1
        rw [hρ]
        simp only
        rw [h1]
        have := hbd i
        rw [List.getElem?_map, List.getElem?_range hi]
        simp only [Option.map_some]
        rw [Int.toNat_of_nonneg this.1]

/-- the law's call, out of its walk -/
theorem law_calls {Γ : TyEnv} (hΓ : TyOK P Γ) {f : FuncId} {fn : Func} {c : Code} (hf : P.funcs[f]? = some fn) (hb : fn.body = some c) {rs : List ResultVar} (hrs : fn.results = rs.toArray)
    {args : List SV} {m : List (Nat × Blk)} {next : Nat} {ρ : Rho} {vals : Array Value} (hvals : (args.map (SV.den ρ)).toArray = vals) (hn : args.length ≤ fn.ntmps) (hok : OkAll (fun k => (look m k).isSome = true) args)
    (hm : ∀ k B, look m k = some B → k < next ∧ okC (fun _ => False) B.cs ∧ BlkSat ρ k B w ∧ B.rw = false)
    (hvc : VC P (fun _ => False) w c (mkSt (argSlots 0 args) m next fn.ntmps) (endS Γ rs fun _ r => r = [.v (.bool true)])) :
    Calls P f vals w (fun e w' => e = .returned (.bool true) ∧ Below w.heap.size w w') := by
  subst hvals
  refine (calls_of_vc (M := fun _ => False) (R := fun v w' => v = .bool true ∧ Frame' (fun _ => False) w w') hΓ hf hb hrs hn (okAll_mem hok) (fun k B hk => ?_) (fun k l B C _ hk _ hrw => ?_) (fun σ r ρ' a w' hr hs => ?_) hvc).mono fun e w' ⟨v, he, hv, hfr⟩ => ⟨by rw [he, hv], hfr.below⟩
  · obtain ⟨h1, h2, h3, h4⟩ := hm k B hk
    exact ⟨h1, okC_mono (fun _ hf => hf.elim) h2, h3, fun h => by rw [h4] at h; cases h⟩
  · obtain ⟨_, _, _, h4⟩ := hm k B hk
    rw [h4] at hrw; cases hrw
  · subst hr
    exact ⟨rfl, hs.grow⟩
def rowRho (vs : List View) : Rho := fun j => match vs[j]? with
  | some (b, off, _) => (b, off)
  | none => (0, 0)
def RowsOK (w : World) : List View → Prop
  | [] => True
  | (b, off, ds) :: vs => (okC (fun _ => False) ds ∧ ∀ (ρ : Rho) (k : Nat), ρ k = (b, off) → BlkSat ρ k ⟨ds, false⟩ w) ∧ RowsOK w vs
theorem RowsOK.get : ∀ {vs : List View}, RowsOK w vs → ∀ v ∈ vs, okC (fun _ => False) v.2.2 ∧ ∀ (ρ : Rho) (k : Nat), ρ k = (v.1, v.2.1) → BlkSat ρ k ⟨v.2.2, false⟩ w
  | (b, off, ds) :: vs, h, v, hv => by
    rcases List.mem_cons.1 hv with rfl | hv
    · exact h.1
    · exact RowsOK.get h.2 v hv
theorem viewBlks_dom : ∀ (vs : List View) (i j : Nat), i ≤ j → j < i + vs.length → (look (viewBlks i vs) j).isSome = true
  | [], i, j, h1, h2 => by simp at h2; omega
  | (k, off, ds) :: vs, i, j, h1, h2 => by
    simp only [viewBlks, look]
    cases hb : Nat.beq j i with
    | true => rfl
    | false =>
      have : j ≠ i := fun e => by subst e; simp at hb
      exact viewBlks_dom vs (i + 1) j (by omega) (by simp at h2; omega)
/-- the law's call, where it is shown rows -/
theorem law_rows {Γ : TyEnv} (hΓ : TyOK P Γ) {f : FuncId} {fn : Func} {c : Code} (hf : P.funcs[f]? = some fn) (hb : fn.body = some c) {rs : List ResultVar} (hrs : fn.results = rs.toArray)
    {args : List SV} (vs : List View) {vals : Array Value} (hvals : (args.map (SV.den (rowRho vs))).toArray = vals) (hn : args.length ≤ fn.ntmps) (hok : OkAll (fun k => k < vs.length) args) (hrows : RowsOK w vs)
    (hvc : VC P (fun _ => False) w c (mkSt (argSlots 0 args) (viewBlks 0 vs) vs.length fn.ntmps) (endS Γ rs fun _ r => r = [.v (.bool true)])) :
    Calls P f vals w (fun e w' => e = .returned (.bool true) ∧ Below w.heap.size w w') := by
  have hok' : ∀ l : List SV, OkAll (fun k => k < vs.length) l → OkAll (fun k => (look (viewBlks 0 vs) k).isSome = true) l := by
    intro l
    induction l with
    | nil => intro _; trivial
    | cons s l ih => intro h; exact ⟨SV.ok_mono (fun k hk => viewBlks_dom vs 0 k (Nat.zero_le _) (by omega)) h.1, ih h.2⟩
  refine law_calls hΓ hf hb hrs (ρ := rowRho vs) hvals hn (hok' _ hok) (fun k B hk => ?_) hvc
  obtain ⟨v, h1, h2, rfl⟩ := viewBlks_get hk
  simp only [Nat.sub_zero] at h1
  obtain ⟨h3, h4⟩ := hrows.get v (List.mem_of_getElem? h1)
  exact ⟨(List.getElem?_eq_some_iff.1 h1).1, h3, h4 _ _ (by simp [rowRho, h1]), rfl⟩
end
end Go.SX
