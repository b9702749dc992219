/- The row's last step where nothing that lay there has turned. -/
import Derived.Test.YtaicecnfodhlcaaPane
import Derived.Test.YtaicecnfodhlcaaRows
import Derived.WalkKit
import Derived.ProofKit
import Derived.OpenShut
import Derived.JoinedCond
import Derived.Below
import Derived.Carry
import Derived.ChangeOld
import Derived.ChangeSame
import Derived.Deep.Slices
import Derived.Deep.Fields
set_option linter.unusedVariables false
set_option linter.unusedSimpArgs false
namespace Go.Proofs.Ytaicecnfodhlcaa
open Go.RowKit Go.ChangeShapes Go.WideShapes Go.WideElems Go.Deep

theorem has_lt {P : Program} {W : World} {r : Reach} {b0 : Nat} {t e : TypeId} {A : Option Addr} {len cap : Nat} (ht : P.underlying t = some (.slice e)) (h : Value.okWide P W r b0 t (.slice A len cap)) : Under W.heap.size A := by
  intro g off sp hA
  subst hA
  simp only [Value.okWide, ht, Cell.okWide, Cell.ok] at h
  obtain ⟨_, _, _, _, row, cells, hsh, _⟩ := h
  unfold World.shape? at hsh
  cases hb : W.heap[g]? with
  | none => simp only [hb] at hsh; cases hsh
  | some o => exact (Array.getElem?_eq_some_iff.1 hb).1

/-- Arguments read as they did where nothing below the old size has turned. -/
theorem stays_all {H : Type} {enc : TypeId × Value → H} {P : Program} (hl : laidOutB P = true) {W W' : World} (hb : Below W.heap.size W W') {sp' : Nat → Bool} :
    ∀ {ts : List TypeId} {vs : List Value} {ds : List (DataW H)} {ps : List MemPlace}, (ts.all fun t => P.readableRec t && decide (t < P.types.size)) = true → DataW.TrodAll enc P W 0 (fun _ => true) true ts vs ds ps → (∀ p ∈ ps, sp' p.block = true) →
      DataW.TrodAll enc P W' 0 sp' true ts vs ds ps
  | [], [], [], _, _, h, _ => h
  | t :: ts, v :: vs, d :: ds, ps, hv, h, hs => by
    have hlt := h.lt
    obtain ⟨p, q, ⟨n, h1⟩, h2, e⟩ := h
    simp only [List.all_cons, Bool.and_eq_true, decide_eq_true_eq] at hv
    exact ⟨p, q, ⟨n, DataW.trod_stays (kids_book hl hv.1.1) (book_sized hv.1.1) (fun h => by cases h) ⟨hv.1.2, book_self t⟩ h1 (fun x hx => hb.same (hlt x (by rw [e]; exact List.mem_append_left _ hx))) (fun x hx => hs x (by rw [e]; exact List.mem_append_left _ hx))⟩,
      stays_all hl hb hv.2 h2 (fun x hx => hs x (by rw [e]; exact List.mem_append_right _ hx)), e⟩
/-- THE ROW's LAST STEP: a law of plain data (no variables) that answered true; nothing that lay there when the call began has turned. -/
theorem post_true {H : Type} {enc : TypeId × Value → H} {f : Func} {s : ChangeSpec} {apart : Bool} {W W' : World} {args : Array Value} {ds gs : List (DataW H)} {before : List MemPlace}
    (hW : DataW.Whole enc Try.prog f.params.toList s.vars apart W args.toList ds gs before) (hvs : s.vars = []) (hr : f.resultTypes = #[4])
    (hfn : s.fn H ds = { results := [.lit (.bool true)], args := ds }) (hts : (f.params.toList.all fun t => Try.prog.readableRec t && decide (t < Try.prog.types.size)) = true) (hl : laidOutB Try.prog = true)
    (hb : Below W.heap.size W W') : s.post enc Try.prog f apart true false false W args (.bool true) W' := by
  have hW' := hW
  have hlt : ∀ p ∈ before, p.block < W.heap.size := fun p hp => hW.lt p hp
  obtain ⟨pa, pv, hA, hV, hps, hz, hn⟩ := hW
  rw [hvs] at hV
  obtain ⟨rfl, rfl⟩ := trodVars_none hV
  have hA0 : DataW.TrodAll enc Try.prog W 0 (fun _ => true) true f.params.toList args.toList ds pa := hA
  have hps' : before = pa := by rw [hps, List.append_nil]
  have hspec : s.fn H (ds ++ []) = { results := [.lit (.bool true)], args := ds } := by rw [List.append_nil]; exact hfn
  have hsp : ∀ sp : Nat → Bool, (∀ p ∈ before, sp p.block = true) → DataW.TrodAll enc Try.prog W' 0 sp true f.params.toList args.toList ds pa := fun sp hs => stays_all hl hb hts hA0 (fun p hp => hs p (by rw [hps']; exact hp))
  have hold : ∀ p ∈ before, (fun b => decide (b < W.heap.size)) p.block = true := fun p hp => by simpa using hlt p hp
  have hvv : ∀ sp, DataW.TrodVars enc Try.prog W' sp s.vars ([] : List (DataW H)) [] := fun sp => by rw [hvs]; exact rfl
  have hres : ∀ (b : Nat) (sp : Nat → Bool) (hd : Bool), DataW.TrodAll enc Try.prog W' b sp hd f.resultTypes.toList ((Value.bool true).resultList f.resultTypes.size) (s.fn H (ds ++ [])).results [] := fun b sp hd => by
    rw [hspec, hr]
    exact trodAll_cons_mk (shut_bool Try.underlying4 _) trodAll_mk0
  refine ⟨ds, [], before, [], pa, [], hW', hres _ _ _, by rw [hspec]; exact hsp _ hold, by rw [hspec]; exact hvv _, World.keptBut_mono (fun p hp => ⟨hp, Or.inr (Or.inl (by rw [← hps']; exact hp))⟩) (hb.frame (· ∈ before)), fun h => by cases h⟩
end Go.Proofs.Ytaicecnfodhlcaa
