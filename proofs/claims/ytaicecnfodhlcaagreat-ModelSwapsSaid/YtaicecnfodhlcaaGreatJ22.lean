/- How much a model can hold behind so many operations. -/
import Derived.Test.YtaicecnfodhlcaaGreatJ18
import Derived.Test.YtaicecnfodhlcaaGreatJ19
import Derived.Test.YtaicecnfodhlcaaGreatJ09
import Derived.Test.YtaicecnfodhlcaaGreatJ21
import Derived.Test.YtaicecnfodhlcaaGreatJ03
import Derived.Test.YtaicecnfodhlcaaGreatJ05
import Derived.BigQuiet
import Derived.Test.YtaicecnfodhlcaaGreatJ14
set_option linter.unusedVariables false
set_option linter.unusedSimpArgs false
namespace Go.Proofs.YtaicecnfodhlcaaGreat
open Go.RowKit Go.Deep

/-- So many operations at most lie behind it. -/
structure Mst.Few (S : Mst) (n : Nat) : Prop where
  L : S.L.length ≤ 256 * n
  sl : ∀ e L, S.seals e = some L → L.length ≤ 256 * n
  ct : S.cnt.t ≤ n
  cl : S.cnt.l ≤ n
  co : S.cnt.o ≤ n
  cf : S.cnt.f ≤ n
  now : S.now ≤ n + 1
  td : ∀ l ∈ S.told, l.length ≤ n
theorem Mst.Few.mono {S : Mst} {n m : Nat} (h : S.Few n) (hm : n ≤ m) : S.Few m :=
  ⟨by have := h.L; omega, fun e L hL => by have := h.sl e L hL; omega, by have := h.ct; omega, by have := h.cl; omega, by have := h.co; omega, by have := h.cf; omega, by have := h.now; omega, fun l hl => by have := h.td l hl; omega⟩
theorem Mst.Few.new (c : Cfg) : (Mst.new c).Few 0 :=
  ⟨Nat.zero_le _, fun _ _ h => (nomatch h), Int.le_refl _, Int.le_refl _, Int.le_refl _, Int.le_refl _, by show (1 : Int) ≤ _; omega, fun l hl => by rw [List.eq_of_mem_replicate hl]; exact Nat.zero_le _⟩
theorem Mst.Few.event {S : Mst} {n : Nat} (h : S.Few n) (hi : S.Inv) (mk : Bool) (k : ByteArray) (t v : Int) (full : Bool) : (S.event mk k t v full).1.Few (n + 1) := by
  have h1 := h.mono (Nat.le_succ n)
  unfold Mst.event
  split; · exact h1
  split; · exact h1
  split; · exact h1
  split; · exact h1
  split; · exact h1
  split; · exact ⟨h1.L, h1.sl, h1.ct, by have := h.cl; show S.cnt.l + 1 ≤ _; omega, h1.co, h1.cf, h1.now, h1.td⟩
  split; · exact ⟨h1.L, h1.sl, h1.ct, h1.cl, by have := h.co; show S.cnt.o + 1 ≤ _; omega, h1.cf, h1.now, h1.td⟩
  split; · exact ⟨h1.L, h1.sl, h1.ct, h1.cl, h1.co, by have := h.cf; show S.cnt.f + 1 ≤ _; omega, h1.now, h1.td⟩
  refine ⟨?_, h1.sl, by have := h.ct; show S.cnt.t + 1 ≤ _; omega, h1.cl, h1.co, h1.cf, h1.now, h1.td⟩
  show (putRows S.L (S.puts k t v)).length ≤ _
  have e1 := putRows_len S.L (S.puts k t v)
  have e2 : (S.puts k t v).length = (S.openL k t).length := by unfold Mst.puts; rw [List.length_map]
  have e3 := Mst.openL_len hi k t
  have e4 := h.L
  omega
theorem Mst.Few.mark {S : Mst} {n : Nat} (h : S.Few n) (o s t : Int) : (S.mark o s t).1.Few (n + 1) := by
  have h1 := h.mono (Nat.le_succ n)
  unfold Mst.mark
  split; · exact h1
  split; · exact h1
  split; · exact h1
  refine ⟨h1.L, h1.sl, h1.ct, h1.cl, h1.co, h1.cf, h1.now, fun l hl => ?_⟩
  rcases List.mem_or_eq_of_mem_set hl with hl | rfl
  · exact h1.td l hl
  · rw [List.length_append]
    by_cases hlt : o.toNat < S.told.length
    · have := h.td _ (List.getElem_mem hlt)
      simp [hlt]
      exact this
    · simp [hlt]
theorem Mst.Few.kill {S : Mst} {n : Nat} (h : S.Few n) (c : Cell) : (S.kill c).1.Few n := by
  unfold Mst.kill
  split
  · split
    · split
      · refine ⟨?_, h.sl, h.ct, h.cl, h.co, h.cf, h.now, h.td⟩
        show (S.L.filter _).length ≤ _
        exact Nat.le_trans (List.length_filter_le _ _) h.L
      · exact h
    · exact h
  · exact h
theorem Mst.Few.sealed {S : Mst} {n : Nat} (h : S.Few n) : S.sealed.Few (n + 1) := by
  have h1 := h.mono (Nat.le_succ n)
  exact ⟨h1.L, h1.sl, h1.ct, h1.cl, h1.co, h1.cf, by have := h.now; show S.now + 1 ≤ _; omega, h1.td⟩
theorem Mst.Few.hold {S : Mst} {n : Nat} (h : S.Few n) (s e : Int) : (S.hold s e).Few n := ⟨h.L, h.sl, h.ct, h.cl, h.co, h.cf, h.now, h.td⟩
theorem Mst.Few.kept {S : Mst} {n : Nat} (h : S.Few n) (e : Int) (L : List Rw) (hL : L.length ≤ 256 * n) : (S.kept e L).Few n :=
  ⟨h.L, fun e' L' he => by
    have he : (if e' = e then some L else S.seals e') = some L' := he
    split at he
    · cases he; exact hL
    · exact h.sl e' L' he, h.ct, h.cl, h.co, h.cf, h.now, h.td⟩
theorem Mst.Few.pinned {S : Mst} {n : Nat} (h : S.Few n) (s : Int) : (S.pinned s).Few (n + 1) :=
  Mst.Few.hold (h.sealed.kept S.now S.L (by have := h.L; omega)) s S.now
theorem Mst.Few.drop {S : Mst} {n : Nat} (h : S.Few n) (s e : Int) : (S.drop s e).Few n := by
  unfold Mst.drop
  split
  · exact ⟨h.L, h.sl, h.ct, h.cl, h.co, h.cf, h.now, h.td⟩
  · refine ⟨h.L, fun e' L' he => ?_, h.ct, h.cl, h.co, h.cf, h.now, h.td⟩
    have he : (if e' = e then none else S.seals e') = some L' := he
    split at he
    · cases he
    · exact h.sl e' L' he
theorem Mst.Few.leave {S : Mst} {n : Nat} (h : S.Few n) (s : Int) : (S.leave s).Few n := by
  refine ⟨h.L, fun e' L' he => ?_, h.ct, h.cl, h.co, h.cf, h.now, h.td⟩
  have he : (if S.holds s e' = true ∧ S.others s e' = false then none else S.seals e') = some L' := he
  split at he
  · cases he
  · exact h.sl e' L' he
theorem Mst.Few.read {S : Mst} {n : Nat} (h : S.Few n) (s : Int) (q : Rq) : (S.read s q).1.Few (n + 1) := by
  have h1 := h.mono (Nat.le_succ n)
  unfold Mst.read
  split
  · exact h1
  · split
    · split
      · split
        · exact h1
        · exact h.sealed
      · exact h1
    · exact h1
theorem Mst.Few.inner {S : Mst} {n : Nat} (h : S.Few n) (s : Int) (q : Rq) : (S.inner s q).1.Few (n + 1) := by
  have h1 := h.mono (Nat.le_succ n)
  unfold Mst.inner
  split
  · unfold Mst.pin
    split
    · exact h1
    · split
      · exact h1
      · exact h.pinned s
  split
  · unfold Mst.join
    split
    · split
      · exact h1
      · split
        · exact h1
        · exact h1.hold _ _
    · exact h1
  split
  · unfold Mst.release
    split
    · exact h1.drop _ _
    · exact h1
  split
  · exact h1
  exact h.read s q
theorem answered_fst (i : Int) (x : Mst × Int × Rsp) : (answered i x).1 = x.1 := by unfold answered; split <;> rfl
theorem Mst.Few.ask {S : Mst} {n : Nat} (h : S.Few n) (s : Int) (q : Rq) (r : Int) : (S.ask s q r).1.Few (n + 1) := by
  have h1 := h.mono (Nat.le_succ n)
  unfold Mst.ask
  split; · exact h1
  split; · exact h1
  split; · exact h1
  split; · exact h1
  rw [answered_fst]
  exact h.inner s q

/-- An operation of the laws. -/
structure Opx where
  k : Int
  im : Bool
  ik : ByteArray
  it : Int
  iv : Int
  full : Bool
  o : Int
  s : Int
  t : Int
  c : Cell
  se : Int
  q : Rq
  qa : Option Addr
  qc : Nat
  r : Int
abbrev opL (x : Opx) : List Value := [.int .i64 x.k, .bool x.im, .string x.ik, .int .i64 x.it, .int .i64 x.iv, .bool x.full, .int .i64 x.o, .int .i64 x.s, .int .i64 x.t, .int .i64 x.c.v, .string x.c.k, .int .i64 x.c.s, .int .i64 x.se,
  .int .i64 x.q.k, .int .i64 x.q.i, .int .i64 x.q.ep, .slice x.qa x.q.cells.length x.qc, .int .i64 x.q.f.v, .string x.q.f.k, .int .i64 x.q.f.s, .int .i64 x.q.t.v, .string x.q.t.k, .int .i64 x.q.t.s, .int .i64 x.q.lim, .int .i64 x.r]
structure OpOk (w : World) (x : Opx) : Prop where
  cells : Sl 3 cellL w x.qa x.q.cells
  key : x.ik.size ≤ maxLen
  val : is64 x.iv
  len : x.q.cells.length ≤ x.qc
  cap : x.qc ≤ maxLen
theorem OpOk.below {w w' : World} {x : Opx} (h : OpOk w x) (hb : Below w.heap.size w w') : OpOk w' x := ⟨h.cells.below hb, h.key, h.val, h.len, h.cap⟩
def Mst.killAll (S : Mst) (cs : List Cell) : Mst := cs.foldl (fun S c => (S.kill c).1) S
theorem Mst.killAll_snoc (S : Mst) (cs : List Cell) (c : Cell) : S.killAll (cs ++ [c]) = ((S.killAll cs).kill c).1 := by simp [Mst.killAll]
theorem Mst.killAll_le : ∀ (cs : List Cell) (S : Mst), (S.killAll cs).L.length ≤ S.L.length
  | [], _ => Nat.le_refl _
  | c :: cs, S => by
    refine Nat.le_trans (Mst.killAll_le cs (S.kill c).1) ?_
    unfold Mst.kill
    split
    · split
      · split
        · exact List.length_filter_le _ _
        · exact Nat.le_refl _
      · exact Nat.le_refl _
    · exact Nat.le_refl _
theorem Mst.Few.killAll {n : Nat} : ∀ (cs : List Cell) {S : Mst}, S.Few n → (S.killAll cs).Few n
  | [], _, h => h
  | c :: cs, S, h => Mst.Few.killAll cs (h.kill c)
/-- An operation, whatever it is. -/
def Mst.act (S : Mst) (x : Opx) : Mst :=
  if x.k = 1 then (S.event x.im x.ik x.it x.iv x.full).1
  else if x.k = 2 then (S.mark x.o x.s x.t).1
  else if x.k = 3 then (S.kill x.c).1
  else if x.k = 4 then (S.ask x.se x.q x.r).1
  else if x.k = 5 then S.leave x.se
  else if x.k = 6 then S.killAll (S.L.map (·.cell))
  else S
theorem Mst.Few.act {S : Mst} {n : Nat} (h : S.Few n) (hi : S.Inv) (x : Opx) : (S.act x).Few (n + 1) := by
  unfold Mst.act
  split; · exact h.event hi _ _ _ _ _
  split; · exact h.mark _ _ _
  split; · exact (h.kill _).mono (Nat.le_succ n)
  split; · exact h.ask _ _ _
  split; · exact (h.leave _).mono (Nat.le_succ n)
  split; · exact Mst.Few.killAll _ (h.mono (Nat.le_succ n))
  exact h.mono (Nat.le_succ n)
end Go.Proofs.YtaicecnfodhlcaaGreat
/- small, act. -/
set_option linter.unusedVariables false
set_option linter.unusedSimpArgs false
namespace Go.Proofs.YtaicecnfodhlcaaGreat
open Go.RowKit Go.Deep

abbrev opV (x : Opx) : Value := .agg #[.int .i64 x.k, .bool x.im, .string x.ik, .int .i64 x.it, .int .i64 x.iv, .bool x.full, .int .i64 x.o, .int .i64 x.s, .int .i64 x.t, .int .i64 x.c.v, .string x.c.k, .int .i64 x.c.s, .int .i64 x.se,
  .int .i64 x.q.k, .int .i64 x.q.i, .int .i64 x.q.ep, .slice x.qa x.q.cells.length x.qc, .int .i64 x.q.f.v, .string x.q.f.k, .int .i64 x.q.f.s, .int .i64 x.q.t.v, .string x.q.t.k, .int .i64 x.q.t.s, .int .i64 x.q.lim, .int .i64 x.r]
set_option maxHeartbeats 2000000 in
theorem small2_any (x : Opx) (w : World) : Calls Tryz.prog 13 #[opV x] w fun e w' => e = .returned (.bool (decide (x.q.cells.length ≤ 100))) ∧ Below w.heap.size w w' := by
  obtain ⟨k, mk, ik, it, iv, full, o, s, t, ⟨cv, ck, cs⟩, se, ⟨qk, qi, qe, cells, ⟨fv, fk, fs⟩, ⟨tv, tk, ts⟩, lim⟩, qa, qc, r⟩ := x
  dsimp only [opV]
  go_enter Tryz.func13, Tryz.ntmps13
  go_wp2_with fail
  go_ret
  exact ⟨ret_bool (by rw [Bool.eq_iff_iff]; simp; omega), (Below.refl _ _).alloc (Nat.le_refl _) _⟩
/-- The blocks of the caller's own stay. -/
theorem Own.turn {w w' : World} {B B' : MB} {E : Nat} {v : Value} {xs : List Rw} (h : Own 93 7 rowL E w v xs) (hT : Turn w w' B B') (hn : ∀ g, v.ownBlock = some g → B.lab g = .no) : Own 93 7 rowL E w' v xs :=
  h.keep fun g hg hlt => hT.chg.block g hlt (fun hx => hx (hn g hg))
theorem Own.no {w : World} {B : MB} {S : Mst} {w0 : World} {v : Value} {xs : List Rw} (h : IsModel w0 B S) (ho : Own 93 7 rowL w0.heap.size w v xs) : ∀ g, v.ownBlock = some g → B.lab g = .no := fun g hg => by
  refine Decidable.byContradiction fun hn => ?_
  have h1 := h.lt g hn
  have h2 := (ho.ge hg).1
  omega
theorem Own.at7 {w : World} {E g cap n : Nat} {xs : List Rw} (h : Own 93 7 rowL E w (.slice (some ⟨g, 0, none⟩) n cap) xs) {i : Nat} (hi : i < xs.length) :
    w.cell? ⟨g, i * 7, none⟩ = some (.int .i64 xs[i].cell.v) ∧ w.cell? ⟨g, i * 7 + 1, none⟩ = some (.string xs[i].cell.k) ∧ w.cell? ⟨g, i * 7 + 2, none⟩ = some (.int .i64 xs[i].cell.s) := by
  obtain ⟨b, off, e, _, hc⟩ := (h.sl0 (fun _ => rfl)) i hi
  injection e with e
  injection e with e1 e2
  subst e1
  subst e2
  have h0 := hc 0 _ rfl
  have h1 := hc 1 _ rfl
  have h2 := hc 2 _ rfl
  simp only [Nat.zero_add, Nat.add_zero] at h0 h1 h2
  exact ⟨h0, h1, h2⟩

set_option maxRecDepth 100000 in
set_option maxHeartbeats 4000000 in
theorem act_1 {w : World} {B : MB} {S : Mst} (h : IsModel w B S) (mk : Bool) (ik : ByteArray) (it iv : Int) (full : Bool) (o s t cv : Int) (ck : ByteArray) (cs se qk qi qe : Int) (qa : Option Addr) (cells : List Cell) (qc : Nat) (fv : Int) (fk : ByteArray) (fs tv : Int) (tk : ByteArray) (ts lim r : Int) (hk : ik.size ≤ maxLen) (hv : is64 iv) (hmax : S.L.length ≤ 100000000) (hcn : S.cnt.t ≤ 100000000 ∧ S.cnt.l ≤ 100000000 ∧ S.cnt.o ≤ 100000000 ∧ S.cnt.f ≤ 100000000) :
    Calls Tryz.prog 14 #[.pointer (some ⟨B.mp, 0, none⟩), .agg #[.int .i64 1, .bool mk, .string ik, .int .i64 it, .int .i64 iv, .bool full, .int .i64 o, .int .i64 s, .int .i64 t, .int .i64 cv, .string ck, .int .i64 cs, .int .i64 se, .int .i64 qk, .int .i64 qi, .int .i64 qe, .slice qa cells.length qc, .int .i64 fv, .string fk, .int .i64 fs, .int .i64 tv, .string tk, .int .i64 ts, .int .i64 lim, .int .i64 r]] w fun e w' => e = .returned (.tuple #[]) ∧ ∃ B', IsModel w' B' (S.event mk ik it iv full).1 ∧ Turn w w' B B' := by
  have hb0 : Below w.heap.size w (w.alloc (.cells #[.int .i64 1, .bool mk, .string ik, .int .i64 it, .int .i64 iv, .bool full, .int .i64 o, .int .i64 s, .int .i64 t, .int .i64 cv, .string ck, .int .i64 cs, .int .i64 se, .int .i64 qk, .int .i64 qi, .int .i64 qe, .slice qa cells.length qc, .int .i64 fv, .string fk, .int .i64 fs, .int .i64 tv, .string tk, .int .i64 ts, .int .i64 lim, .int .i64 r] 41)) := (Below.refl _ _).alloc (Nat.le_refl _) _
  have hc := event_any (h.below hb0) mk full ik it iv hk hv hmax hcn
  clear hk hv hmax hcn
  have Hb0 := Lib.hid hb0
  have Hh := Lib.hid h
  clear h hb0
  go_enter Tryz.func14, Tryz.ntmps14
  go_wp2_with fail
  refine hc.mono ?_
  rintro e w1 ⟨rfl, hM, hT⟩
  have HM := Lib.hid hM
  have HT := Lib.hid hT
  clear hc hM hT
  go_wp2_with fail
  go_end0
  exact ⟨rfl, B, HM.out, (Turn.of_below B Hb0.out).trans HT.out⟩

set_option maxRecDepth 100000 in
set_option maxHeartbeats 4000000 in
theorem act_2 {w : World} {B : MB} {S : Mst} (h : IsModel w B S) (mk : Bool) (ik : ByteArray) (it iv : Int) (full : Bool) (o s t cv : Int) (ck : ByteArray) (cs se qk qi qe : Int) (qa : Option Addr) (cells : List Cell) (qc : Nat) (fv : Int) (fk : ByteArray) (fs tv : Int) (tk : ByteArray) (ts lim r : Int) (hmax : S.L.length ≤ 100000000) (htl : ∀ l ∈ S.told, l.length ≤ 100000000) :
    Calls Tryz.prog 14 #[.pointer (some ⟨B.mp, 0, none⟩), .agg #[.int .i64 2, .bool mk, .string ik, .int .i64 it, .int .i64 iv, .bool full, .int .i64 o, .int .i64 s, .int .i64 t, .int .i64 cv, .string ck, .int .i64 cs, .int .i64 se, .int .i64 qk, .int .i64 qi, .int .i64 qe, .slice qa cells.length qc, .int .i64 fv, .string fk, .int .i64 fs, .int .i64 tv, .string tk, .int .i64 ts, .int .i64 lim, .int .i64 r]] w fun e w' => e = .returned (.tuple #[]) ∧ ∃ B', IsModel w' B' (S.mark o s t).1 ∧ Turn w w' B B' := by
  have hb0 : Below w.heap.size w (w.alloc (.cells #[.int .i64 2, .bool mk, .string ik, .int .i64 it, .int .i64 iv, .bool full, .int .i64 o, .int .i64 s, .int .i64 t, .int .i64 cv, .string ck, .int .i64 cs, .int .i64 se, .int .i64 qk, .int .i64 qi, .int .i64 qe, .slice qa cells.length qc, .int .i64 fv, .string fk, .int .i64 fs, .int .i64 tv, .string tk, .int .i64 ts, .int .i64 lim, .int .i64 r] 41)) := (Below.refl _ _).alloc (Nat.le_refl _) _
  have hc := mark_any (h.below hb0) o s t hmax htl
  clear hmax htl
  have Hb0 := Lib.hid hb0
  have Hh := Lib.hid h
  clear h hb0
  go_enter Tryz.func14, Tryz.ntmps14
  go_wp2_with fail
  refine hc.mono ?_
  rintro e w1 ⟨rfl, B', hM, hT⟩
  have HM := Lib.hid hM
  have HT := Lib.hid hT
  clear hc hM hT
  go_wp2_with fail
  go_end0
  exact ⟨rfl, B', HM.out, (Turn.of_below B Hb0.out).trans HT.out⟩

set_option maxRecDepth 100000 in
set_option maxHeartbeats 4000000 in
theorem act_3 {w : World} {B : MB} {S : Mst} (h : IsModel w B S) (mk : Bool) (ik : ByteArray) (it iv : Int) (full : Bool) (o s t cv : Int) (ck : ByteArray) (cs se qk qi qe : Int) (qa : Option Addr) (cells : List Cell) (qc : Nat) (fv : Int) (fk : ByteArray) (fs tv : Int) (tk : ByteArray) (ts lim r : Int) (hmax : S.L.length ≤ 100000000) :
    Calls Tryz.prog 14 #[.pointer (some ⟨B.mp, 0, none⟩), .agg #[.int .i64 3, .bool mk, .string ik, .int .i64 it, .int .i64 iv, .bool full, .int .i64 o, .int .i64 s, .int .i64 t, .int .i64 cv, .string ck, .int .i64 cs, .int .i64 se, .int .i64 qk, .int .i64 qi, .int .i64 qe, .slice qa cells.length qc, .int .i64 fv, .string fk, .int .i64 fs, .int .i64 tv, .string tk, .int .i64 ts, .int .i64 lim, .int .i64 r]] w fun e w' => e = .returned (.tuple #[]) ∧ ∃ B', IsModel w' B' (S.kill ⟨cv, ck, cs⟩).1 ∧ Turn w w' B B' := by
  have hb0 : Below w.heap.size w (w.alloc (.cells #[.int .i64 3, .bool mk, .string ik, .int .i64 it, .int .i64 iv, .bool full, .int .i64 o, .int .i64 s, .int .i64 t, .int .i64 cv, .string ck, .int .i64 cs, .int .i64 se, .int .i64 qk, .int .i64 qi, .int .i64 qe, .slice qa cells.length qc, .int .i64 fv, .string fk, .int .i64 fs, .int .i64 tv, .string tk, .int .i64 ts, .int .i64 lim, .int .i64 r] 41)) := (Below.refl _ _).alloc (Nat.le_refl _) _
  have hc := kill_any (h.below hb0) ⟨cv, ck, cs⟩ hmax
  clear hmax
  dsimp only at hc
  have Hb0 := Lib.hid hb0
  have Hh := Lib.hid h
  clear h hb0
  go_enter Tryz.func14, Tryz.ntmps14
  go_wp2_with fail
  refine hc.mono ?_
  rintro e w1 ⟨rfl, hM, hT⟩
  have HM := Lib.hid hM
  have HT := Lib.hid hT
  clear hc hM hT
  go_wp2_with fail
  go_end0
  exact ⟨rfl, B, HM.out, (Turn.of_below B Hb0.out).trans HT.out⟩

set_option maxRecDepth 100000 in
set_option maxHeartbeats 4000000 in
theorem act_4 {w : World} {B : MB} {S : Mst} (h : IsModel w B S) (mk : Bool) (ik : ByteArray) (it iv : Int) (full : Bool) (o s t cv : Int) (ck : ByteArray) (cs se qk qi qe : Int) (qa : Option Addr) (cells : List Cell) (qc : Nat) (fv : Int) (fk : ByteArray) (fs tv : Int) (tk : ByteArray) (ts lim r : Int) (hq : Sl 3 cellL w qa cells) (hl : cells.length ≤ 100000000) (hmax : S.L.length ≤ 100000000) (hmaxE : ∀ L, S.seals qe = some L → L.length ≤ 100000000) :
    Calls Tryz.prog 14 #[.pointer (some ⟨B.mp, 0, none⟩), .agg #[.int .i64 4, .bool mk, .string ik, .int .i64 it, .int .i64 iv, .bool full, .int .i64 o, .int .i64 s, .int .i64 t, .int .i64 cv, .string ck, .int .i64 cs, .int .i64 se, .int .i64 qk, .int .i64 qi, .int .i64 qe, .slice qa cells.length qc, .int .i64 fv, .string fk, .int .i64 fs, .int .i64 tv, .string tk, .int .i64 ts, .int .i64 lim, .int .i64 r]] w fun e w' => e = .returned (.tuple #[]) ∧ ∃ B', IsModel w' B' (S.ask se ⟨qk, qi, qe, cells, ⟨fv, fk, fs⟩, ⟨tv, tk, ts⟩, lim⟩ r).1 ∧ Turn w w' B B' := by
  have hb0 : Below w.heap.size w (w.alloc (.cells #[.int .i64 4, .bool mk, .string ik, .int .i64 it, .int .i64 iv, .bool full, .int .i64 o, .int .i64 s, .int .i64 t, .int .i64 cv, .string ck, .int .i64 cs, .int .i64 se, .int .i64 qk, .int .i64 qi, .int .i64 qe, .slice qa cells.length qc, .int .i64 fv, .string fk, .int .i64 fs, .int .i64 tv, .string tk, .int .i64 ts, .int .i64 lim, .int .i64 r] 41)) := (Below.refl _ _).alloc (Nat.le_refl _) _
  have hc := ask_any (h.below hb0) se ⟨qk, qi, qe, cells, ⟨fv, fk, fs⟩, ⟨tv, tk, ts⟩, lim⟩ qa qc r (hq.below hb0) hl hmax hmaxE
  clear hmax hmaxE hq hl
  dsimp only [Rq.at] at hc
  have Hb0 := Lib.hid hb0
  have Hh := Lib.hid h
  clear h hb0
  go_enter Tryz.func14, Tryz.ntmps14
  go_wp2_with fail
  refine hc.mono ?_
  rintro e w1 ⟨v, B', rfl, _, hM, hT, _⟩
  have HM := Lib.hid hM
  have HT := Lib.hid hT
  clear hc hM hT
  go_wp2_with fail
  go_end0
  exact ⟨rfl, B', HM.out, (Turn.of_below B Hb0.out).trans HT.out⟩

set_option maxRecDepth 100000 in
set_option maxHeartbeats 4000000 in
theorem act_5 {w : World} {B : MB} {S : Mst} (h : IsModel w B S) (mk : Bool) (ik : ByteArray) (it iv : Int) (full : Bool) (o s t cv : Int) (ck : ByteArray) (cs se qk qi qe : Int) (qa : Option Addr) (cells : List Cell) (qc : Nat) (fv : Int) (fk : ByteArray) (fs tv : Int) (tk : ByteArray) (ts lim r : Int) (hn : S.now ≤ 1000000000) :
    Calls Tryz.prog 14 #[.pointer (some ⟨B.mp, 0, none⟩), .agg #[.int .i64 5, .bool mk, .string ik, .int .i64 it, .int .i64 iv, .bool full, .int .i64 o, .int .i64 s, .int .i64 t, .int .i64 cv, .string ck, .int .i64 cs, .int .i64 se, .int .i64 qk, .int .i64 qi, .int .i64 qe, .slice qa cells.length qc, .int .i64 fv, .string fk, .int .i64 fs, .int .i64 tv, .string tk, .int .i64 ts, .int .i64 lim, .int .i64 r]] w fun e w' => e = .returned (.tuple #[]) ∧ ∃ B', IsModel w' B' (S.leave se) ∧ Turn w w' B B' := by
  have hb0 : Below w.heap.size w (w.alloc (.cells #[.int .i64 5, .bool mk, .string ik, .int .i64 it, .int .i64 iv, .bool full, .int .i64 o, .int .i64 s, .int .i64 t, .int .i64 cv, .string ck, .int .i64 cs, .int .i64 se, .int .i64 qk, .int .i64 qi, .int .i64 qe, .slice qa cells.length qc, .int .i64 fv, .string fk, .int .i64 fs, .int .i64 tv, .string tk, .int .i64 ts, .int .i64 lim, .int .i64 r] 41)) := (Below.refl _ _).alloc (Nat.le_refl _) _
  have hc := leave_full (h.below hb0) se hn
  clear hn
  have Hb0 := Lib.hid hb0
  have Hh := Lib.hid h
  clear h hb0
  go_enter Tryz.func14, Tryz.ntmps14
  go_wp2_with fail
  refine hc.mono ?_
  rintro e w1 ⟨rfl, hM, hT⟩
  have HM := Lib.hid hM
  have HT := Lib.hid hT
  clear hc hM hT
  go_wp2_with fail
  go_end0
  exact ⟨rfl, B, HM.out, (Turn.of_below B Hb0.out).trans HT.out⟩

set_option maxRecDepth 100000 in
set_option maxHeartbeats 4000000 in
theorem act_6 {w : World} {B : MB} {S : Mst} (h : IsModel w B S) (mk : Bool) (ik : ByteArray) (it iv : Int) (full : Bool) (o s t cv : Int) (ck : ByteArray) (cs se qk qi qe : Int) (qa : Option Addr) (cells : List Cell) (qc : Nat) (fv : Int) (fk : ByteArray) (fs tv : Int) (tk : ByteArray) (ts lim r : Int) (hmax : S.L.length ≤ 100000000) :
    Calls Tryz.prog 14 #[.pointer (some ⟨B.mp, 0, none⟩), .agg #[.int .i64 6, .bool mk, .string ik, .int .i64 it, .int .i64 iv, .bool full, .int .i64 o, .int .i64 s, .int .i64 t, .int .i64 cv, .string ck, .int .i64 cs, .int .i64 se, .int .i64 qk, .int .i64 qi, .int .i64 qe, .slice qa cells.length qc, .int .i64 fv, .string fk, .int .i64 fs, .int .i64 tv, .string tk, .int .i64 ts, .int .i64 lim, .int .i64 r]] w fun e w' => e = .returned (.tuple #[]) ∧ ∃ B', IsModel w' B' (S.killAll (S.L.map (·.cell))) ∧ Turn w w' B B' := by
  have hb0 : Below w.heap.size w (w.alloc (.cells #[.int .i64 6, .bool mk, .string ik, .int .i64 it, .int .i64 iv, .bool full, .int .i64 o, .int .i64 s, .int .i64 t, .int .i64 cv, .string ck, .int .i64 cs, .int .i64 se, .int .i64 qk, .int .i64 qi, .int .i64 qe, .slice qa cells.length qc, .int .i64 fv, .string fk, .int .i64 fs, .int .i64 tv, .string tk, .int .i64 ts, .int .i64 lim, .int .i64 r] 41)) := (Below.refl _ _).alloc (Nat.le_refl _) _
  have hc := mMap_any (h.below hb0) hmax
  have Hb0 := Lib.hid hb0
  have Hh := Lib.hid h
  have Hmax := Lib.hid hmax
  clear h hb0 hmax
  go_enter Tryz.func14, Tryz.ntmps14
  go_wp2_with fail
  refine hc.mono ?_
  rintro e w1 ⟨v, rfl, ho, hb1⟩
  obtain ⟨oa, oc, rfl, _⟩ := ho.sl fun _ => rfl
  have hM1 := (Hh.out.below Hb0.out).below hb1
  have hno := Own.no (Hh.out.below Hb0.out) ho
  have Hb01 := Lib.hid (Hb0.out.trans (hb1.mono Hb0.out.size))
  have HM1 := Lib.hid hM1
  have Ho := Lib.hid ho
  have Hno := Lib.hid hno
  clear hc ho hb1 hM1 hno
  go_wp2_with fail
  go_loopg [5] S.L.length (fun g i wr => ∃ j : Nat, j + g = S.L.length ∧ i = .int .i64 j ∧ IsModel wr B (S.killAll ((S.L.take j).map (·.cell))) ∧ Turn w1 wr B B)
  case atStart => exact ⟨0, by omega, rfl, HM1.out, Turn.of_below B (Below.refl _ _)⟩
  case round =>
    obtain ⟨j, hj, rfl, hM, hT⟩ := hrel
    have Hj := Lib.hid hj
    have HM := Lib.hid hM
    have HT := Lib.hid hT
    by_cases hlt : j < S.L.length
    · obtain ⟨g, rfl, _, _⟩ := Ho.out.pos (by omega)
      obtain ⟨x0, x1, x2⟩ := (Ho.out.turn hT Hno.out).at7 hlt
      have hkl := (kill_any hM S.L[j].cell (by
        have h1 : (S.killAll ((S.L.take j).map (·.cell))).L.length ≤ S.L.length := Mst.killAll_le _ S
        have h2 := Hmax.out
        omega))
      have hst : S.killAll ((S.L.take (j + 1)).map (·.cell)) = ((S.killAll ((S.L.take j).map (·.cell))).kill S.L[j].cell).1 := by
        rw [List.take_add_one, List.getElem?_eq_getElem hlt, List.map_append]
        exact Mst.killAll_snoc S _ _
      have Hst := Lib.hid hst
      have hjl : (j : Int) < (S.L.length : Int) := by omega
      have hnb := Hmax.out
      clear hM hT hj hst
      generalize S.L[j].cell = c at *
      obtain ⟨dv, dk, ds⟩ := c
      dsimp only at *
      generalize S.killAll (List.map (fun x => x.cell) (List.take j S.L)) = T at *
      generalize S.L.length = n at *
      go_wp2_with fail
      refine hkl.mono ?_
      rintro e w2 ⟨rfl, hM2, hT2⟩
      have HM2 := Lib.hid hM2
      have HT2 := Lib.hid hT2
      clear hkl hM2 hT2 x0 x1 x2
      go_wp2_with fail
      go_roundg (gk - 1)
      case measure => have := Hj.out; omega
      case rel => exact ⟨j + 1, by have := Hj.out; omega, by go_num, by rw [Hst.out]; exact HM2.out, HT.out.trans HT2.out⟩
    · have hjn : j = S.L.length := by omega
      subst hjn
      have hlg : ¬ ((S.L.length : Int) < (S.L.length : Int)) := by omega
      clear hM hT hj
      go_wp2_with fail
      go_end0
      refine ⟨rfl, B, ?_, (Turn.of_below B Hb01.out).trans HT.out⟩
      have := HM.out
      rw [List.take_length] at this
      exact this

set_option maxRecDepth 100000 in
set_option maxHeartbeats 4000000 in
theorem act_0 {w : World} {B : MB} {S : Mst} (h : IsModel w B S) (k : Int) (mk : Bool) (ik : ByteArray) (it iv : Int) (full : Bool) (o s t cv : Int) (ck : ByteArray) (cs se qk qi qe : Int) (qa : Option Addr) (cells : List Cell) (qc : Nat) (fv : Int) (fk : ByteArray) (fs tv : Int) (tk : ByteArray) (ts lim r : Int) (h1 : k ≠ 1) (h2 : k ≠ 2) (h3 : k ≠ 3) (h4 : k ≠ 4) (h5 : k ≠ 5) (h6 : k ≠ 6) :
    Calls Tryz.prog 14 #[.pointer (some ⟨B.mp, 0, none⟩), .agg #[.int .i64 k, .bool mk, .string ik, .int .i64 it, .int .i64 iv, .bool full, .int .i64 o, .int .i64 s, .int .i64 t, .int .i64 cv, .string ck, .int .i64 cs, .int .i64 se, .int .i64 qk, .int .i64 qi, .int .i64 qe, .slice qa cells.length qc, .int .i64 fv, .string fk, .int .i64 fs, .int .i64 tv, .string tk, .int .i64 ts, .int .i64 lim, .int .i64 r]] w fun e w' => e = .returned (.tuple #[]) ∧ ∃ B', IsModel w' B' S ∧ Turn w w' B B' := by
  have hb0 : Below w.heap.size w (w.alloc (.cells #[.int .i64 k, .bool mk, .string ik, .int .i64 it, .int .i64 iv, .bool full, .int .i64 o, .int .i64 s, .int .i64 t, .int .i64 cv, .string ck, .int .i64 cs, .int .i64 se, .int .i64 qk, .int .i64 qi, .int .i64 qe, .slice qa cells.length qc, .int .i64 fv, .string fk, .int .i64 fs, .int .i64 tv, .string tk, .int .i64 ts, .int .i64 lim, .int .i64 r] 41)) := (Below.refl _ _).alloc (Nat.le_refl _) _
  have e1 : (k == 1) = false := by simpa using h1
  have e2 : (k == 2) = false := by simpa using h2
  have e3 : (k == 3) = false := by simpa using h3
  have e4 : (k == 4) = false := by simpa using h4
  have e5 : (k == 5) = false := by simpa using h5
  have e6 : (k == 6) = false := by simpa using h6
  have Hb0 := Lib.hid hb0
  have Hh := Lib.hid h
  clear h hb0
  go_enter Tryz.func14, Tryz.ntmps14
  go_wp2_with fail
  go_end0
  exact ⟨rfl, B, Hh.out.below Hb0.out, Turn.of_below B Hb0.out⟩

/-- An operation, whatever it is. -/
theorem act_any {w : World} {B : MB} {S : Mst} (h : IsModel w B S) {n : Nat} (hf : S.Few n) (hn : n ≤ 100000) (x : Opx) (hx : OpOk w x) (hs : x.q.cells.length ≤ 100) :
    Calls Tryz.prog 14 #[.pointer (some ⟨B.mp, 0, none⟩), opV x] w fun e w' => e = .returned (.tuple #[]) ∧ ∃ B', IsModel w' B' (S.act x) ∧ Turn w w' B B' := by
  obtain ⟨k, mk, ik, it, iv, full, o, s, t, ⟨cv, ck, cs⟩, se, ⟨qk, qi, qe, cells, ⟨fv, fk, fs⟩, ⟨tv, tk, ts⟩, lim⟩, qa, qc, r⟩ := x
  obtain ⟨hq, hk, hv, _, _⟩ := hx
  dsimp only at hq hk hv hs
  have b1 := hf.L
  have b2 := hf.ct
  have b3 := hf.cl
  have b4 := hf.co
  have b5 := hf.cf
  have b6 := hf.now
  have b7 : ∀ l ∈ S.told, l.length ≤ 100000000 := fun l hl => by have := hf.td l hl; omega
  have b8 : ∀ e L, S.seals e = some L → L.length ≤ 100000000 := fun e L hL => by have := hf.sl e L hL; omega
  unfold Mst.act
  dsimp only [opV]
  by_cases h1 : k = 1
  · subst h1; rw [if_pos rfl]; exact act_1 h mk ik it iv full o s t cv ck cs se qk qi qe qa cells qc fv fk fs tv tk ts lim r hk hv (by omega) ⟨by omega, by omega, by omega, by omega⟩
  rw [if_neg h1]
  by_cases h2 : k = 2
  · subst h2; rw [if_pos rfl]; exact act_2 h mk ik it iv full o s t cv ck cs se qk qi qe qa cells qc fv fk fs tv tk ts lim r (by omega) b7
  rw [if_neg h2]
  by_cases h3 : k = 3
  · subst h3; rw [if_pos rfl]; exact act_3 h mk ik it iv full o s t cv ck cs se qk qi qe qa cells qc fv fk fs tv tk ts lim r (by omega)
  rw [if_neg h3]
  by_cases h4 : k = 4
  · subst h4; rw [if_pos rfl]; exact act_4 h mk ik it iv full o s t cv ck cs se qk qi qe qa cells qc fv fk fs tv tk ts lim r hq (by omega) (by omega) (b8 _)
  rw [if_neg h4]
  by_cases h5 : k = 5
  · subst h5; rw [if_pos rfl]; exact act_5 h mk ik it iv full o s t cv ck cs se qk qi qe qa cells qc fv fk fs tv tk ts lim r (by omega)
  rw [if_neg h5]
  by_cases h6 : k = 6
  · subst h6; rw [if_pos rfl]; exact act_6 h mk ik it iv full o s t cv ck cs se qk qi qe qa cells qc fv fk fs tv tk ts lim r (by omega)
  rw [if_neg h6]
  exact act_0 h k mk ik it iv full o s t cv ck cs se qk qi qe qa cells qc fv fk fs tv tk ts lim r h1 h2 h3 h4 h5 h6
end Go.Proofs.YtaicecnfodhlcaaGreat
/- Equality of rows and of counts; SameRows. -/
set_option linter.unusedVariables false
set_option linter.unusedSimpArgs false
namespace Go.Proofs.YtaicecnfodhlcaaGreat
open Go.RowKit Go.Deep

abbrev agA (c s m x : Int) : Array Value := #[.int .i64 c, .int .i64 s, .int .i64 m, .int .i64 x]
abbrev rowA (r : Rw) : Array Value := #[.int .i64 r.cell.v, .string r.cell.k, .int .i64 r.cell.s, .int .i64 r.agg.c, .int .i64 r.agg.s, .int .i64 r.agg.mn, .int .i64 r.agg.mx]
theorem equal_ag (n : Nat) (c1 s1 m1 x1 c2 s2 m2 x2 : Int) (w : World) : (Op.equalIn (n + 2) 91 (.agg (agA c1 s1 m1 x1)) (.agg (agA c2 s2 m2 x2))).run Tryz.prog w = .ok (decide ((⟨c1, s1, m1, x1⟩ : Ag) = ⟨c2, s2, m2, x2⟩)) w := by
  have e : decide ((⟨c1, s1, m1, x1⟩ : Ag) = ⟨c2, s2, m2, x2⟩) = ((c1 == c2) && ((s1 == s2) && ((m1 == m2) && (x1 == x2)))) := by
    rw [Bool.eq_iff_iff]
    simp
  rw [e]
  refine eq_struct Tryz.underlying91 (by kernel_rfl) ?_
  refine fields_cons (by rfl) (by go_simp; rfl) (by go_simp; rfl) (by go_simp) ?_
  refine fields_cons (by rfl) (by go_simp; rfl) (by go_simp; rfl) (by go_simp) ?_
  refine fields_cons (by rfl) (by go_simp; rfl) (by go_simp; rfl) (by go_simp) ?_
  exact fields_last (by rfl) (by go_simp; rfl) (by go_simp; rfl) (by go_simp)
theorem equal_row (n : Nat) (a b : Rw) (w : World) : (Op.equalIn (n + 4) 93 (.agg (rowA a)) (.agg (rowA b))).run Tryz.prog w = .ok (decide (a = b)) w := by
  have e : decide (a = b) = (decide (a.cell = b.cell) && decide (a.agg = b.agg)) := by
    rw [Bool.eq_iff_iff]
    obtain ⟨ac, aa⟩ := a
    obtain ⟨bc, ba⟩ := b
    simp
  rw [e]
  refine eq_struct Tryz.underlying93 (by kernel_rfl) ?_
  refine fields_cons (by rfl) (by kernel_rfl) (by kernel_rfl) (equal_cell (n + 1) _ _ _ _ _ _ w) ?_
  exact fields_last (by rfl) (by kernel_rfl) (by kernel_rfl) (equal_ag (n + 1) _ _ _ _ _ _ _ _ w)
theorem equal_stats (n : Nat) (t1 l1 o1 f1 c1 n1 t2 l2 o2 f2 c2 n2 : Int) (w : World) : (Op.equalIn (n + 2) 46 (statV t1 l1 o1 f1 c1 n1) (statV t2 l2 o2 f2 c2 n2)).run Tryz.prog w = .ok (decide ((t1, l1, o1, f1, c1, n1) = (t2, l2, o2, f2, c2, n2))) w := by
  have e : decide ((t1, l1, o1, f1, c1, n1) = (t2, l2, o2, f2, c2, n2)) = ((t1 == t2) && ((l1 == l2) && ((o1 == o2) && ((f1 == f2) && ((c1 == c2) && (n1 == n2)))))) := by
    rw [Bool.eq_iff_iff]
    simp
  rw [e]
  refine eq_struct Tryz.underlying46 (by kernel_rfl) ?_
  refine fields_cons (by rfl) (by go_simp; rfl) (by go_simp; rfl) (by go_simp) ?_
  refine fields_cons (by rfl) (by go_simp; rfl) (by go_simp; rfl) (by go_simp) ?_
  refine fields_cons (by rfl) (by go_simp; rfl) (by go_simp; rfl) (by go_simp) ?_
  refine fields_cons (by rfl) (by go_simp; rfl) (by go_simp; rfl) (by go_simp) ?_
  refine fields_cons (by rfl) (by go_simp; rfl) (by go_simp; rfl) (by go_simp) ?_
  exact fields_last (by rfl) (by go_simp; rfl) (by go_simp; rfl) (by go_simp)
theorem run_neq_row (a b : Rw) (w : World) : (binOp .neq 93 (.agg (rowA a)) (.agg (rowA b))).run Tryz.prog w = .ok (.bool (!decide (a = b))) w := by
  rw [run_neq_struct, equal_row]; rfl
theorem run_eql_ag (c1 s1 m1 x1 c2 s2 m2 x2 : Int) (w : World) : (binOp .eql 91 (.agg (agA c1 s1 m1 x1)) (.agg (agA c2 s2 m2 x2))).run Tryz.prog w = .ok (.bool (decide ((⟨c1, s1, m1, x1⟩ : Ag) = ⟨c2, s2, m2, x2⟩))) w := by
  rw [run_eql_struct, equal_ag]; rfl
theorem run_eql_stats (t1 l1 o1 f1 c1 n1 t2 l2 o2 f2 c2 n2 : Int) (w : World) : (binOp .eql 46 (statV t1 l1 o1 f1 c1 n1) (statV t2 l2 o2 f2 c2 n2)).run Tryz.prog w = .ok (.bool (decide ((t1, l1, o1, f1, c1, n1) = (t2, l2, o2, f2, c2, n2)))) w := by
  rw [run_eql_struct, equal_stats]; rfl
theorem run_neq_stats (t1 l1 o1 f1 c1 n1 t2 l2 o2 f2 c2 n2 : Int) (w : World) : (binOp .neq 46 (statV t1 l1 o1 f1 c1 n1) (statV t2 l2 o2 f2 c2 n2)).run Tryz.prog w = .ok (.bool (!decide ((t1, l1, o1, f1, c1, n1) = (t2, l2, o2, f2, c2, n2)))) w := by
  rw [run_neq_struct, equal_stats]; rfl
end Go.Proofs.YtaicecnfodhlcaaGreat
/- SameRows. -/
set_option linter.unusedVariables false
set_option linter.unusedSimpArgs false
namespace Go.Proofs.YtaicecnfodhlcaaGreat
open Go.RowKit Go.Deep

theorem list_extL {α : Type} {xs ys : List α} (hl : xs.length = ys.length) (h : ∀ i (h1 : i < xs.length) (h2 : i < ys.length), xs[i] = ys[i]) : xs = ys := List.ext_getElem hl h
theorem Sl.at7 {w : World} {a : Option Addr} {xs : List Rw} (h : Sl 7 rowL w a xs) {i : Nat} (hi : i < xs.length) :
    ∃ b off, a = some ⟨b, off, none⟩ ∧ b < w.heap.size ∧ w.cell? ⟨b, off + i * 7, none⟩ = some (.int .i64 xs[i].cell.v) ∧ w.cell? ⟨b, off + i * 7 + 1, none⟩ = some (.string xs[i].cell.k) ∧ w.cell? ⟨b, off + i * 7 + 2, none⟩ = some (.int .i64 xs[i].cell.s) ∧ w.cell? ⟨b, off + i * 7 + 3, none⟩ = some (.int .i64 xs[i].agg.c) ∧ w.cell? ⟨b, off + i * 7 + 4, none⟩ = some (.int .i64 xs[i].agg.s) ∧ w.cell? ⟨b, off + i * 7 + 5, none⟩ = some (.int .i64 xs[i].agg.mn) ∧ w.cell? ⟨b, off + i * 7 + 6, none⟩ = some (.int .i64 xs[i].agg.mx) := by
  obtain ⟨b, off, e, hb, hc⟩ := h i hi
  exact ⟨b, off, e, hb, hc 0 _ rfl, hc 1 _ rfl, hc 2 _ rfl, hc 3 _ rfl, hc 4 _ rfl, hc 5 _ rfl, hc 6 _ rfl⟩
set_option maxRecDepth 100000 in
set_option maxHeartbeats 2000000 in
theorem sameRows_any (a : Option Addr) (ca : Nat) (xs : List Rw) (b : Option Addr) (cb : Nat) (ys : List Rw) (w : World) (hx : Sl 7 rowL w a xs) (hy : Sl 7 rowL w b ys) (hm : xs.length ≤ 4611686018427387904) :
    Calls Tryz.prog 20 #[.slice a xs.length ca, .slice b ys.length cb] w fun e w' => e = .returned (.bool (decide (xs = ys))) ∧ Below w.heap.size w w' := by
  by_cases hl : xs.length = ys.length
  · have g1 : ((xs.length : Int) != (ys.length : Int)) = false := by simp [hl]
    go_enter Tryz.func20, Tryz.ntmps20
    go_wp2_with fail
    go_loopg [5] xs.length (fun g i wr => ∃ j : Nat, j + g = xs.length ∧ i = .int .i64 j ∧ (∀ i (h1 : i < xs.length) (h2 : i < ys.length), i < j → xs[i] = ys[i]) ∧ Below w.heap.size w wr)
    case atStart => exact ⟨0, by omega, rfl, fun i _ _ h => absurd h (Nat.not_lt_zero _), Below.refl _ _⟩
    case round =>
      obtain ⟨j, hj, rfl, hall, hb⟩ := hrel
      have Hj := Lib.hid hj
      have Hall := Lib.hid hall
      have Hl := Lib.hid hl
      clear hj hall
      by_cases hlt : j < xs.length
      · have hlt2 : j < ys.length := by omega
        obtain ⟨xb, xo, rfl, hxb, x0, x1, x2, x3, x4, x5, x6⟩ := hx.at7 hlt
        obtain ⟨yb, yo, rfl, hyb, y0, y1, y2, y3, y4, y5, y6⟩ := hy.at7 hlt2
        have d0 := (hb.cell (p := ⟨xb, _, none⟩) hxb).trans x0
        have d1 := (hb.cell (p := ⟨xb, _, none⟩) hxb).trans x1
        have d2 := (hb.cell (p := ⟨xb, _, none⟩) hxb).trans x2
        have d3 := (hb.cell (p := ⟨xb, _, none⟩) hxb).trans x3
        have d4 := (hb.cell (p := ⟨xb, _, none⟩) hxb).trans x4
        have d5 := (hb.cell (p := ⟨xb, _, none⟩) hxb).trans x5
        have d6 := (hb.cell (p := ⟨xb, _, none⟩) hxb).trans x6
        have f0 := (hb.cell (p := ⟨yb, _, none⟩) hyb).trans y0
        have f1 := (hb.cell (p := ⟨yb, _, none⟩) hyb).trans y1
        have f2 := (hb.cell (p := ⟨yb, _, none⟩) hyb).trans y2
        have f3 := (hb.cell (p := ⟨yb, _, none⟩) hyb).trans y3
        have f4 := (hb.cell (p := ⟨yb, _, none⟩) hyb).trans y4
        have f5 := (hb.cell (p := ⟨yb, _, none⟩) hyb).trans y5
        have f6 := (hb.cell (p := ⟨yb, _, none⟩) hyb).trans y6
        have hne := fun W => run_neq_row xs[j] ys[j] W
        clear x0 y0 x1 y1 x2 y2 x3 y3 x4 y4 x5 y5 x6 y6 hl
        by_cases hq : xs[j] = ys[j]
        · rw [decide_eq_true hq] at hne
          have Hq := Lib.hid hq
          clear hq
          unfold rowA at hne
          generalize xs[j].cell.v = p0 at *
          generalize xs[j].cell.k = p1 at *
          generalize xs[j].cell.s = p2 at *
          generalize xs[j].agg.c = p3 at *
          generalize xs[j].agg.s = p4 at *
          generalize xs[j].agg.mn = p5 at *
          generalize xs[j].agg.mx = p6 at *
          generalize ys[j].cell.v = q0 at *
          generalize ys[j].cell.k = q1 at *
          generalize ys[j].cell.s = q2 at *
          generalize ys[j].agg.c = q3 at *
          generalize ys[j].agg.s = q4 at *
          generalize ys[j].agg.mn = q5 at *
          generalize ys[j].agg.mx = q6 at *
          go_wp2_with fail
          go_quiet (fail)
          go_wp2_with fail
          go_roundg (gk - 1)
          case measure => have := Hj.out; omega
          case rel =>
            refine ⟨j + 1, by have := Hj.out; omega, by go_num, fun i h1 h2 hij => ?_, Below.drewN hb _⟩
            by_cases e : i = j
            · subst e; exact Hq.out
            · exact Hall.out i h1 h2 (by omega)
        · rw [decide_eq_false hq] at hne
          have hfin : decide (xs = ys) = false := by
            rw [decide_eq_false_iff_not]
            rintro rfl
            exact hq rfl
          have Hfin := Lib.hid hfin
          clear hq hfin
          unfold rowA at hne
          generalize xs[j].cell.v = p0 at *
          generalize xs[j].cell.k = p1 at *
          generalize xs[j].cell.s = p2 at *
          generalize xs[j].agg.c = p3 at *
          generalize xs[j].agg.s = p4 at *
          generalize xs[j].agg.mn = p5 at *
          generalize xs[j].agg.mx = p6 at *
          generalize ys[j].cell.v = q0 at *
          generalize ys[j].cell.k = q1 at *
          generalize ys[j].cell.s = q2 at *
          generalize ys[j].agg.c = q3 at *
          generalize ys[j].agg.s = q4 at *
          generalize ys[j].agg.mn = q5 at *
          generalize ys[j].agg.mx = q6 at *
          go_wp2_with fail
          go_quiet (fail)
          go_wp2_with fail
          go_ret
          exact ⟨by rw [Hfin.out]; rfl, Below.drewN hb _⟩
      · have hfin : decide (xs = ys) = true := by
          rw [decide_eq_true_iff]
          exact list_extL hl (fun i h1 h2 => Hall.out i h1 h2 (by have := Hj.out; omega))
        have Hfin := Lib.hid hfin
        clear hfin hl
        go_wp2_with fail
        go_ret
        exact ⟨by rw [Hfin.out]; rfl, hb⟩
  · have g1 : ((xs.length : Int) != (ys.length : Int)) = true := by simp; omega
    have hfin : decide (xs = ys) = false := by
      rw [decide_eq_false_iff_not]
      rintro rfl
      exact hl rfl
    rw [hfin]
    clear hfin hl
    go_enter Tryz.func20, Tryz.ntmps20
    go_wp2_with fail
    go_ret
    exact ⟨rfl, Below.refl _ _⟩
end Go.Proofs.YtaicecnfodhlcaaGreat
/- counted. -/
set_option linter.unusedVariables false
set_option linter.unusedSimpArgs false
namespace Go.Proofs.YtaicecnfodhlcaaGreat
open Go.RowKit Go.Deep

/-- One more of a fate. -/
def Cnt.more (c : Cnt) (f : Int) : Cnt := if f = 1 then { c with t := c.t + 1 } else if f = 2 then { c with l := c.l + 1 } else if f = 3 then { c with o := c.o + 1 } else if f = 4 then { c with f := c.f + 1 } else c

set_option maxHeartbeats 2000000 in
theorem counted_1 (t l o f c n : Int) (w : World) (h0 : 0 ≤ t) (h1 : t ≤ 1000000000) : Calls Tryz.prog 22 #[statV t l o f c n, .int .i64 1] w fun e w' => e = .returned (statV (t + 1) l o f c n) ∧ Below w.heap.size w w' := by
  go_enter Tryz.func22, Tryz.ntmps22
  go_wp2_with fail
  refine bodyPost_stat (g := w.heap.size + 1) (x1 := t + 1) (x2 := l) (x3 := o) (x4 := f) (x5 := c) (x6 := n) rfl rfl ?_ rfl ⟨rfl, ?_⟩
  · exact blk_at (by simp)
  · exact ((Below.refl _ _).alloc (Nat.le_refl _) _).alloc (by simp) _

set_option maxHeartbeats 2000000 in
theorem counted_2 (t l o f c n : Int) (w : World) (h0 : 0 ≤ l) (h1 : l ≤ 1000000000) : Calls Tryz.prog 22 #[statV t l o f c n, .int .i64 2] w fun e w' => e = .returned (statV t (l + 1) o f c n) ∧ Below w.heap.size w w' := by
  go_enter Tryz.func22, Tryz.ntmps22
  go_wp2_with fail
  refine bodyPost_stat (g := w.heap.size + 1) (x1 := t) (x2 := l + 1) (x3 := o) (x4 := f) (x5 := c) (x6 := n) rfl rfl ?_ rfl ⟨rfl, ?_⟩
  · exact blk_at (by simp)
  · exact ((Below.refl _ _).alloc (Nat.le_refl _) _).alloc (by simp) _

set_option maxHeartbeats 2000000 in
theorem counted_3 (t l o f c n : Int) (w : World) (h0 : 0 ≤ o) (h1 : o ≤ 1000000000) : Calls Tryz.prog 22 #[statV t l o f c n, .int .i64 3] w fun e w' => e = .returned (statV t l (o + 1) f c n) ∧ Below w.heap.size w w' := by
  go_enter Tryz.func22, Tryz.ntmps22
  go_wp2_with fail
  refine bodyPost_stat (g := w.heap.size + 1) (x1 := t) (x2 := l) (x3 := o + 1) (x4 := f) (x5 := c) (x6 := n) rfl rfl ?_ rfl ⟨rfl, ?_⟩
  · exact blk_at (by simp)
  · exact ((Below.refl _ _).alloc (Nat.le_refl _) _).alloc (by simp) _

set_option maxHeartbeats 2000000 in
theorem counted_4 (t l o f c n : Int) (w : World) (h0 : 0 ≤ f) (h1 : f ≤ 1000000000) : Calls Tryz.prog 22 #[statV t l o f c n, .int .i64 4] w fun e w' => e = .returned (statV t l o (f + 1) c n) ∧ Below w.heap.size w w' := by
  go_enter Tryz.func22, Tryz.ntmps22
  go_wp2_with fail
  refine bodyPost_stat (g := w.heap.size + 1) (x1 := t) (x2 := l) (x3 := o) (x4 := f + 1) (x5 := c) (x6 := n) rfl rfl ?_ rfl ⟨rfl, ?_⟩
  · exact blk_at (by simp)
  · exact ((Below.refl _ _).alloc (Nat.le_refl _) _).alloc (by simp) _

theorem counted_any (x : Cnt) (fa c n : Int) (w : World) (hf : 1 ≤ fa ∧ fa ≤ 4) (h0 : 0 ≤ x.t ∧ 0 ≤ x.l ∧ 0 ≤ x.o ∧ 0 ≤ x.f) (h1 : x.t ≤ 1000000000 ∧ x.l ≤ 1000000000 ∧ x.o ≤ 1000000000 ∧ x.f ≤ 1000000000) :
    Calls Tryz.prog 22 #[statV x.t x.l x.o x.f c n, .int .i64 fa] w fun e w' => e = .returned (statV (x.more fa).t (x.more fa).l (x.more fa).o (x.more fa).f c n) ∧ Below w.heap.size w w' := by
  have h : fa = 1 ∨ fa = 2 ∨ fa = 3 ∨ fa = 4 := by omega
  rcases h with rfl | rfl | rfl | rfl
  · exact counted_1 x.t x.l x.o x.f c n w h0.1 h1.1
  · exact counted_2 x.t x.l x.o x.f c n w h0.2.1 h1.2.1
  · exact counted_3 x.t x.l x.o x.f c n w h0.2.2.1 h1.2.2.1
  · exact counted_4 x.t x.l x.o x.f c n w h0.2.2.2 h1.2.2.2
end Go.Proofs.YtaicecnfodhlcaaGreat
/- How the laws' arguments lie: slices of views, of cells, of operations; requests, items, configurations. -/
set_option linter.unusedVariables false
set_option linter.unusedSimpArgs false
namespace Go.Proofs.YtaicecnfodhlcaaGreat
open Go.RowKit Go.ChangeShapes Go.WideShapes Go.WideElems Go.Deep

namespace bulks
theorem one_le {H : Type} (d : DataW H) : 1 ≤ Rows.uptoBulk d := by
  cases d with
  | lit l => cases l <;> simp [Rows.uptoBulk]
  | nil => simp [Rows.uptoBulk]
  | ptr d => simp [Rows.uptoBulk]
  | slice elems spare => simp [Rows.uptoBulk]
  | agg parts => simp [Rows.uptoBulk]
  | iface t d => simp [Rows.uptoBulk]
  | map entries => simp [Rows.uptoBulk]
  | held h => simp [Rows.uptoBulk]
theorem length_le {H : Type} (l : List (DataW H)) : l.length ≤ Rows.uptoBulkAll l := by
  induction l with
  | nil => simp [Rows.uptoBulkAll]
  | cons x r ih => have := one_le x; simp only [Rows.uptoBulkAll, List.length_cons]; omega
theorem slice_le {H : Type} (elems spare : List (DataW H)) : elems.length + spare.length + 1 ≤ Rows.uptoBulk (.slice elems spare) := by
  have h1 := length_le elems
  have h2 := length_le spare
  simp only [Rows.uptoBulk]
  omega
end bulks
section
variable {H : Type} {enc : TypeId × Value → H} {w : World} {base : Nat} {spare : Nat → Bool} {held : Bool}

theorem cell_spot {W : World} {a : Addr} {v : Value} (h : W.cell? a = some v) : a.spot = none ∧ a.block < W.heap.size := by
  unfold World.cell? at h
  cases hb : W.heap[a.block]? with
  | none => rw [hb] at h; cases h
  | some o =>
    rw [hb] at h
    refine ⟨?_, (Array.getElem?_eq_some_iff.1 hb).1⟩
    cases o <;> simp at h
    cases hs : a.spot with
    | none => rfl
    | some x => rw [hs] at h; simp at h

/-- Elements of so many one-cell fields each, read off memory. -/
theorem open_slice_fields {P : Program} {t e : TypeId} {fs : Array Field} {fuel : Nat} {cs : List Value} {x : DataW H × List MemPlace} (ht : P.underlying t = some (.slice e)) (he : P.underlying e = some (.struct fs))
    (hone : oneCellFields P fs = true) (hC : P.cellsOf e = fs.size) (h : DataW.trod enc P w base spare held fuel t cs = some x) :
    (cs = [.slice none 0 0] ∧ x.1 = .nil) ∨
    ∃ (a : Addr) (len cap m : Nat) (D : Nat → DataW H), cs = [.slice (some a) len cap] ∧ len ≤ cap ∧ cap ≤ maxLen ∧ len ≤ m ∧
      x.1 = (.slice ((List.range len).map D) ((List.range (m - len)).map fun j => D (len + j))) ∧
      ∀ i, i < len → ∃ (ys : List (DataW H × List MemPlace)) (n : Nat), D i = .agg (ys.map (·.1)) ∧ ys.length = fs.size ∧
        ∀ (j : Nat) (f : Field), fs[j]? = some f → ∃ (v : Value) (y : DataW H × List MemPlace), w.cell? (a.add (i * fs.size + j)) = some v ∧ ys[j]? = some y ∧ DataW.trod enc P w base spare held n f.type [v] = some y := by
  rcases open_slice ht h with ⟨h0, h1⟩ | ⟨a, len, cap, m, n, D, Pl, hcs, hb, hl, hm, hmm, hx, hi⟩
  · exact .inl ⟨h0, by rw [h1]⟩
  · have hlm : len ≤ m := by rw [hmm]; split <;> omega
    refine .inr ⟨a, len, cap, m, D, hcs, hl, hm, hlm, by rw [hx], fun i him => ?_⟩
    obtain ⟨cs', hc, ht'⟩ := hi i (by omega)
    rw [hC] at hc
    obtain ⟨ys, n', hn', hy, hlen, hyl, hf⟩ := DataW.trod_struct he ht'
    obtain ⟨_, hcl, hat⟩ := World.cells?_some hc
    simp only [Prod.mk.injEq] at hy
    refine ⟨ys, n', hy.1, hyl, fun j f hj => ?_⟩
    obtain ⟨ho, hk⟩ := hone_of hone j f hj
    have hjl : j < fs.size := (Array.getElem?_eq_some_iff.1 hj).1
    have hcell := hat j hjl
    have hv : cs'[j]? = some (cs'[j]'(by omega)) := List.getElem?_eq_getElem (by omega)
    have h1 := hf j f hj
    rw [ho, hk] at h1
    have hone' : (cs'.drop j).take 1 = [cs'[j]'(by omega)] := by
      rw [List.drop_eq_getElem_cons (by omega)]
      rfl
    rw [hone'] at h1
    have hys : ys[j]? = some (ys[j]'(by omega)) := List.getElem?_eq_getElem (by omega)
    refine ⟨_, _, ?_, hys, h1.trans hys⟩
    rw [← Go.Deep.add_add, hcell, hv]

theorem list_of {α : Type} (n : Nat) (p : Nat → α → Prop) (h : ∀ i, i < n → ∃ a, p i a) : ∃ l : List α, l.length = n ∧ ∀ i (hi : i < l.length), p i l[i] := by
  induction n with
  | zero => exact ⟨[], rfl, fun i hi => absurd hi (Nat.not_lt_zero _)⟩
  | succ n ih =>
    obtain ⟨l, hl, hp⟩ := ih (fun i hi => h i (by omega))
    obtain ⟨a, ha⟩ := h n (by omega)
    refine ⟨l ++ [a], by simp [hl], fun i hi => ?_⟩
    by_cases e : i < l.length
    · rw [List.getElem_append_left e]
      exact hp i e
    · have e2 : i = l.length := by simp at hi; omega
      subst e2
      rw [List.getElem_append_right (Nat.le_refl _)]
      simp only [Nat.sub_self, List.getElem_cons_zero]
      rw [hl]
      exact ha

theorem sl_of {α : Type} {sz : Nat} {en : α → List Value} {a : Addr} {l : List α} (hsz : ∀ x, 0 < (en x).length) (h : ∀ i (hi : i < l.length), ∀ j u, (en l[i])[j]? = some u → w.cell? (a.add (i * sz + j)) = some u) :
    Sl sz en w (some a) l ∧ (l ≠ [] → Under w.heap.size (some a)) := by
  have hk : l ≠ [] → a.spot = none ∧ a.block < w.heap.size := fun hne => by
    have h0 : 0 < l.length := List.length_pos_iff.2 hne
    have := cell_spot (h 0 h0 0 _ (List.getElem?_eq_getElem (hsz _)))
    have e : a.add (0 * sz + 0) = a := by simp [Addr.add]
    rw [e] at this
    exact this
  refine ⟨fun i hi => ?_, fun hne g off sp e => ?_⟩
  · obtain ⟨k1, k2⟩ := hk (fun e => by rw [e] at hi; exact absurd hi (Nat.not_lt_zero _))
    obtain ⟨b, off, spt⟩ := a
    cases k1
    refine ⟨b, off, rfl, k2, fun j u hu => ?_⟩
    have := h i hi j u hu
    have e : (⟨b, off, none⟩ : Addr).add (i * sz + j) = ⟨b, off + i * sz + j, none⟩ := by
      unfold Addr.add
      split
      · simp_all
      · simp [Nat.add_assoc]
    rw [e] at this
    exact this
  · cases e
    exact (hk hne).2

theorem views_of {fuel : Nat} {cs : List Value} {x : DataW H × List MemPlace} (h : DataW.trod enc Tryz.prog w base spare held fuel 22 cs = some x) :
    ∃ (A : Option Addr) (cap : Nat) (vs : List View), cs = [.slice A vs.length cap] ∧ Sl 3 viewL w A vs ∧ (vs ≠ [] → Under w.heap.size A) ∧ vs.length ≤ cap ∧ cap ≤ maxLen ∧ vs.length ≤ Rows.uptoBulk x.1 := by
  rcases open_slice_fields Tryz.underlying22 Tryz.underlying88 (by kernel_rfl) (by kernel_rfl) h with ⟨rfl, _⟩ | ⟨a, len, cap, m, D, rfl, hl, hm, hlm, hx, hi⟩
  · exact ⟨none, 0, [], rfl, Sl.nil _ _ _ _, fun h => absurd rfl h, Nat.le_refl _, Nat.zero_le _, Nat.zero_le _⟩
  · obtain ⟨l, rfl, hp⟩ := list_of len (fun i (v : View) => ∀ j u, (viewL v)[j]? = some u → w.cell? (a.add (i * 3 + j)) = some u) (fun i him => by
      obtain ⟨ys, n, _, _, hf⟩ := hi i him
      obtain ⟨v0, y0, c0, _, t0⟩ := hf 0 _ rfl
      obtain ⟨v1, y1, c1, _, t1⟩ := hf 1 _ rfl
      obtain ⟨v2, y2, c2, _, t2⟩ := hf 2 _ rfl
      obtain ⟨n0, e0, _, _⟩ := DataW.trod_int Tryz.underlying2 t0
      obtain ⟨n1, e1, _, _⟩ := DataW.trod_int Tryz.underlying2 t1
      obtain ⟨n2, e2, _, _⟩ := DataW.trod_int Tryz.underlying2 t2
      cases e0; cases e1; cases e2
      refine ⟨⟨n0, n1, n2⟩, fun j u hu => ?_⟩
      match j, hu with
      | 0, hu => cases hu; exact c0
      | 1, hu => cases hu; exact c1
      | 2, hu => cases hu; exact c2
      | j + 3, hu => cases hu)
    have hs := sl_of (w := w) (en := viewL) (a := a) (l := l) (fun _ => by simp) hp
    exact ⟨some a, cap, l, rfl, hs.1, hs.2, hl, hm, by rw [hx]; have := bulks.slice_le ((List.range l.length).map D) ((List.range (m - l.length)).map fun j => D (l.length + j)); simp at this ⊢; omega⟩

theorem cells_of {fuel : Nat} {cs : List Value} {x : DataW H × List MemPlace} (h : DataW.trod enc Tryz.prog w base spare held fuel 26 cs = some x) :
    ∃ (A : Option Addr) (cap : Nat) (vs : List Cell), cs = [.slice A vs.length cap] ∧ Sl 3 cellL w A vs ∧ (vs ≠ [] → Under w.heap.size A) ∧ vs.length ≤ cap ∧ cap ≤ maxLen := by
  rcases open_slice_fields Tryz.underlying26 Tryz.underlying28 (by kernel_rfl) (by kernel_rfl) h with ⟨rfl, _⟩ | ⟨a, len, cap, m, D, rfl, hl, hm, hlm, hx, hi⟩
  · exact ⟨none, 0, [], rfl, Sl.nil _ _ _ _, fun h => absurd rfl h, Nat.le_refl _, Nat.zero_le _⟩
  · obtain ⟨l, rfl, hp⟩ := list_of len (fun i (v : Cell) => ∀ j u, (cellL v)[j]? = some u → w.cell? (a.add (i * 3 + j)) = some u) (fun i him => by
      obtain ⟨ys, n, _, _, hf⟩ := hi i him
      obtain ⟨v0, y0, c0, _, t0⟩ := hf 0 _ rfl
      obtain ⟨v1, y1, c1, _, t1⟩ := hf 1 _ rfl
      obtain ⟨v2, y2, c2, _, t2⟩ := hf 2 _ rfl
      obtain ⟨n0, e0, _, _⟩ := DataW.trod_int Tryz.underlying3 t0
      obtain ⟨n1, e1, _, _⟩ := DataW.trod_string Tryz.underlying9 t1
      obtain ⟨n2, e2, _, _⟩ := DataW.trod_int Tryz.underlying2 t2
      cases e0; cases e1; cases e2
      refine ⟨⟨n0, n1, n2⟩, fun j u hu => ?_⟩
      match j, hu with
      | 0, hu => cases hu; exact c0
      | 1, hu => cases hu; exact c1
      | 2, hu => cases hu; exact c2
      | j + 3, hu => cases hu)
    have hs := sl_of (w := w) (en := cellL) (a := a) (l := l) (fun _ => by simp) hp
    exact ⟨some a, cap, l, rfl, hs.1, hs.2, hl, hm⟩


theorem wf64 {n : Int} (h : (Lit.int .i64 n).wf = true) : is64 n := by simpa [Lit.wf, IntKind.min, IntKind.max, IntKind.signed, IntKind.bits, is64] using h
theorem len3 {cs : List Value} (h : cs.length = 3) : ∃ c0 c1 c2, cs = [c0, c1, c2] := by
  match cs, h with
  | [c0, c1, c2], _ => exact ⟨c0, c1, c2, rfl⟩
theorem len4 {cs : List Value} (h : cs.length = 4) : ∃ c0 c1 c2 c3, cs = [c0, c1, c2, c3] := by
  match cs, h with
  | [c0, c1, c2, c3], _ => exact ⟨c0, c1, c2, c3, rfl⟩
theorem len11 {cs : List Value} (h : cs.length = 11) : ∃ c0 c1 c2 c3 c4 c5 c6 c7 c8 c9 c10, cs = [c0, c1, c2, c3, c4, c5, c6, c7, c8, c9, c10] := by
  match cs, h with
  | [c0, c1, c2, c3, c4, c5, c6, c7, c8, c9, c10], _ => exact ⟨c0, c1, c2, c3, c4, c5, c6, c7, c8, c9, c10, rfl⟩
theorem len12 {cs : List Value} (h : cs.length = 12) : ∃ c0 c1 c2 c3 c4 c5 c6 c7 c8 c9 c10 c11, cs = [c0, c1, c2, c3, c4, c5, c6, c7, c8, c9, c10, c11] := by
  match cs, h with
  | [c0, c1, c2, c3, c4, c5, c6, c7, c8, c9, c10, c11], _ => exact ⟨c0, c1, c2, c3, c4, c5, c6, c7, c8, c9, c10, c11, rfl⟩
theorem len25 {cs : List Value} (h : cs.length = 25) : ∃ c0 c1 c2 c3 c4 c5 c6 c7 c8 c9 c10 c11 c12 c13 c14 c15 c16 c17 c18 c19 c20 c21 c22 c23 c24, cs = [c0, c1, c2, c3, c4, c5, c6, c7, c8, c9, c10, c11, c12, c13, c14, c15, c16, c17, c18, c19, c20, c21, c22, c23, c24] := by
  match cs, h with
  | [c0, c1, c2, c3, c4, c5, c6, c7, c8, c9, c10, c11, c12, c13, c14, c15, c16, c17, c18, c19, c20, c21, c22, c23, c24], _ => exact ⟨c0, c1, c2, c3, c4, c5, c6, c7, c8, c9, c10, c11, c12, c13, c14, c15, c16, c17, c18, c19, c20, c21, c22, c23, c24, rfl⟩
/-- One field of a struct, read off memory. -/
theorem trod_field {P : Program} {fs : Array Field} {xs : List (DataW H × List MemPlace)} {n : Nat} {cs : List Value} (hl : xs.length = fs.size)
    (hf : ∀ (i : Nat) (f : Field), fs[i]? = some f → DataW.trod enc P w base spare held n f.type ((cs.drop f.offset).take (P.cellsOf f.type)) = xs[i]?) (i : Nat) (f : Field) (h : fs[i]? = some f) (m : Nat) (hm : P.cellsOf f.type = m) :
    ∃ y, DataW.trod enc P w base spare held n f.type ((cs.drop f.offset).take m) = some y := by
  have h1 := hf i f h
  rw [hm] at h1
  have hi : i < fs.size := (Array.getElem?_eq_some_iff.1 h).1
  rw [List.getElem?_eq_getElem (by omega)] at h1
  exact ⟨_, h1⟩
theorem cell_of {fuel : Nat} {cs : List Value} {x : DataW H × List MemPlace} (h : DataW.trod enc Tryz.prog w base spare held fuel 28 cs = some x) : ∃ c : Cell, cs = cellL c := by
  obtain ⟨xs, n, _, rfl, hl, hlen, hf⟩ := DataW.trod_struct Tryz.underlying28 h
  rw [show Tryz.prog.cellsOf 28 = 3 by kernel_rfl] at hl
  obtain ⟨c0, c1, c2, rfl⟩ := len3 hl
  obtain ⟨y0, t0⟩ := trod_field hlen hf 0 _ rfl 1 (by kernel_rfl)
  obtain ⟨y1, t1⟩ := trod_field hlen hf 1 _ rfl 1 (by kernel_rfl)
  obtain ⟨y2, t2⟩ := trod_field hlen hf 2 _ rfl 1 (by kernel_rfl)
  obtain ⟨n0, e0, _, _⟩ := DataW.trod_int Tryz.underlying3 t0
  obtain ⟨n1, e1, _, _⟩ := DataW.trod_string Tryz.underlying9 t1
  obtain ⟨n2, e2, _, _⟩ := DataW.trod_int Tryz.underlying2 t2
  cases e0; cases e1; cases e2
  exact ⟨⟨n0, n1, n2⟩, rfl⟩
theorem item_of {fuel : Nat} {cs : List Value} {x : DataW H × List MemPlace} (h : DataW.trod enc Tryz.prog w base spare held fuel 32 cs = some x) :
    ∃ (mk : Bool) (k : ByteArray) (t v : Int), cs = [.bool mk, .string k, .int .i64 t, .int .i64 v] ∧ k.size ≤ maxLen ∧ is64 v := by
  obtain ⟨xs, n, _, rfl, hl, hlen, hf⟩ := DataW.trod_struct Tryz.underlying32 h
  rw [show Tryz.prog.cellsOf 32 = 4 by kernel_rfl] at hl
  obtain ⟨c0, c1, c2, c3, rfl⟩ := len4 hl
  obtain ⟨y0, t0⟩ := trod_field hlen hf 0 _ rfl 1 (by kernel_rfl)
  obtain ⟨y1, t1⟩ := trod_field hlen hf 1 _ rfl 1 (by kernel_rfl)
  obtain ⟨y2, t2⟩ := trod_field hlen hf 2 _ rfl 1 (by kernel_rfl)
  obtain ⟨y3, t3⟩ := trod_field hlen hf 3 _ rfl 1 (by kernel_rfl)
  obtain ⟨n0, e0, _⟩ := DataW.trod_bool Tryz.underlying4 t0
  obtain ⟨n1, e1, _, w1⟩ := DataW.trod_string Tryz.underlying9 t1
  obtain ⟨n2, e2, _, _⟩ := DataW.trod_int Tryz.underlying2 t2
  obtain ⟨n3, e3, _, w3⟩ := DataW.trod_int Tryz.underlying2 t3
  cases e0; cases e1; cases e2; cases e3
  exact ⟨n0, n1, n2, n3, rfl, w1, wf64 w3⟩
theorem rq_of {fuel : Nat} {cs : List Value} {x : DataW H × List MemPlace} (h : DataW.trod enc Tryz.prog w base spare held fuel 30 cs = some x) :
    ∃ (q : Rq) (qa : Option Addr) (qc : Nat), cs = (q.at qa qc).toList ∧ Sl 3 cellL w qa q.cells ∧ q.cells.length ≤ qc ∧ qc ≤ maxLen := by
  obtain ⟨xs, n, _, rfl, hl, hlen, hf⟩ := DataW.trod_struct Tryz.underlying30 h
  rw [show Tryz.prog.cellsOf 30 = 11 by kernel_rfl] at hl
  obtain ⟨c0, c1, c2, c3, c4, c5, c6, c7, c8, c9, c10, rfl⟩ := len11 hl
  obtain ⟨y0, t0⟩ := trod_field hlen hf 0 _ rfl 1 (by kernel_rfl)
  obtain ⟨y1, t1⟩ := trod_field hlen hf 1 _ rfl 1 (by kernel_rfl)
  obtain ⟨y2, t2⟩ := trod_field hlen hf 2 _ rfl 1 (by kernel_rfl)
  obtain ⟨y3, t3⟩ := trod_field hlen hf 3 _ rfl 1 (by kernel_rfl)
  obtain ⟨y4, t4⟩ := trod_field hlen hf 4 _ rfl 3 (by kernel_rfl)
  obtain ⟨y5, t5⟩ := trod_field hlen hf 5 _ rfl 3 (by kernel_rfl)
  obtain ⟨y6, t6⟩ := trod_field hlen hf 6 _ rfl 1 (by kernel_rfl)
  obtain ⟨n0, e0, _, _⟩ := DataW.trod_int Tryz.underlying3 t0
  obtain ⟨n1, e1, _, _⟩ := DataW.trod_int Tryz.underlying3 t1
  obtain ⟨n2, e2, _, _⟩ := DataW.trod_int Tryz.underlying3 t2
  obtain ⟨A3, cap3, l3, e3, s3, u3, k3, m3⟩ := cells_of t3
  obtain ⟨n4, e4⟩ := cell_of t4
  obtain ⟨n5, e5⟩ := cell_of t5
  obtain ⟨n6, e6, _, _⟩ := DataW.trod_int Tryz.underlying3 t6
  cases e0; cases e1; cases e2; cases e3; cases e4; cases e5; cases e6
  exact ⟨⟨n0, n1, n2, l3, n4, n5, n6⟩, A3, cap3, rfl, s3, k3, m3⟩
theorem cfg_of {fuel : Nat} {cs : List Value} {x : DataW H × List MemPlace} (h : DataW.trod enc Tryz.prog w base spare held fuel 24 cs = some x) :
    ∃ (c : Cfg) (a : Option Addr) (cap : Nat), cs = [.slice a c.vs.length cap, .int .i64 c.so, .int .i64 c.op, .int .i64 c.sh, .int .i64 c.sl, .int .i64 c.bx, .int .i64 c.ad, .int .i64 c.pi, .int .i64 c.ch, .int .i64 c.fr, .int .i64 c.inn, .int .i64 c.out] ∧ Sl 3 viewL w a c.vs ∧ c.vs.length ≤ cap ∧ cap ≤ maxLen := by
  obtain ⟨xs, n, _, rfl, hl, hlen, hf⟩ := DataW.trod_struct Tryz.underlying24 h
  rw [show Tryz.prog.cellsOf 24 = 12 by kernel_rfl] at hl
  obtain ⟨c0, c1, c2, c3, c4, c5, c6, c7, c8, c9, c10, c11, rfl⟩ := len12 hl
  obtain ⟨y0, t0⟩ := trod_field hlen hf 0 _ rfl 1 (by kernel_rfl)
  obtain ⟨y1, t1⟩ := trod_field hlen hf 1 _ rfl 1 (by kernel_rfl)
  obtain ⟨y2, t2⟩ := trod_field hlen hf 2 _ rfl 1 (by kernel_rfl)
  obtain ⟨y3, t3⟩ := trod_field hlen hf 3 _ rfl 1 (by kernel_rfl)
  obtain ⟨y4, t4⟩ := trod_field hlen hf 4 _ rfl 1 (by kernel_rfl)
  obtain ⟨y5, t5⟩ := trod_field hlen hf 5 _ rfl 1 (by kernel_rfl)
  obtain ⟨y6, t6⟩ := trod_field hlen hf 6 _ rfl 1 (by kernel_rfl)
  obtain ⟨y7, t7⟩ := trod_field hlen hf 7 _ rfl 1 (by kernel_rfl)
  obtain ⟨y8, t8⟩ := trod_field hlen hf 8 _ rfl 1 (by kernel_rfl)
  obtain ⟨y9, t9⟩ := trod_field hlen hf 9 _ rfl 1 (by kernel_rfl)
  obtain ⟨y10, t10⟩ := trod_field hlen hf 10 _ rfl 1 (by kernel_rfl)
  obtain ⟨y11, t11⟩ := trod_field hlen hf 11 _ rfl 1 (by kernel_rfl)
  obtain ⟨A0, cap0, l0, e0, s0, u0, k0, m0, _⟩ := views_of t0
  obtain ⟨n1, e1, _, _⟩ := DataW.trod_int Tryz.underlying3 t1
  obtain ⟨n2, e2, _, _⟩ := DataW.trod_int Tryz.underlying3 t2
  obtain ⟨n3, e3, _, _⟩ := DataW.trod_int Tryz.underlying3 t3
  obtain ⟨n4, e4, _, _⟩ := DataW.trod_int Tryz.underlying3 t4
  obtain ⟨n5, e5, _, _⟩ := DataW.trod_int Tryz.underlying3 t5
  obtain ⟨n6, e6, _, _⟩ := DataW.trod_int Tryz.underlying3 t6
  obtain ⟨n7, e7, _, _⟩ := DataW.trod_int Tryz.underlying3 t7
  obtain ⟨n8, e8, _, _⟩ := DataW.trod_int Tryz.underlying3 t8
  obtain ⟨n9, e9, _, _⟩ := DataW.trod_int Tryz.underlying3 t9
  obtain ⟨n10, e10, _, _⟩ := DataW.trod_int Tryz.underlying3 t10
  obtain ⟨n11, e11, _, _⟩ := DataW.trod_int Tryz.underlying3 t11
  cases e0; cases e1; cases e2; cases e3; cases e4; cases e5; cases e6; cases e7; cases e8; cases e9; cases e10; cases e11
  exact ⟨⟨l0, n1, n2, n3, n4, n5, n6, n7, n8, n9, n10, n11⟩, A0, cap0, rfl, s0, k0, m0⟩
theorem op_of {fuel : Nat} {cs : List Value} {x : DataW H × List MemPlace} (h : DataW.trod enc Tryz.prog w base spare held fuel 41 cs = some x) :
    ∃ o : Opx, cs = opL o ∧ OpOk w o := by
  obtain ⟨xs, n, _, rfl, hl, hlen, hf⟩ := DataW.trod_struct Tryz.underlying41 h
  rw [show Tryz.prog.cellsOf 41 = 25 by kernel_rfl] at hl
  obtain ⟨c0, c1, c2, c3, c4, c5, c6, c7, c8, c9, c10, c11, c12, c13, c14, c15, c16, c17, c18, c19, c20, c21, c22, c23, c24, rfl⟩ := len25 hl
  obtain ⟨y0, t0⟩ := trod_field hlen hf 0 _ rfl 1 (by kernel_rfl)
  obtain ⟨y1, t1⟩ := trod_field hlen hf 1 _ rfl 4 (by kernel_rfl)
  obtain ⟨y2, t2⟩ := trod_field hlen hf 2 _ rfl 1 (by kernel_rfl)
  obtain ⟨y3, t3⟩ := trod_field hlen hf 3 _ rfl 1 (by kernel_rfl)
  obtain ⟨y4, t4⟩ := trod_field hlen hf 4 _ rfl 1 (by kernel_rfl)
  obtain ⟨y5, t5⟩ := trod_field hlen hf 5 _ rfl 1 (by kernel_rfl)
  obtain ⟨y6, t6⟩ := trod_field hlen hf 6 _ rfl 3 (by kernel_rfl)
  obtain ⟨y7, t7⟩ := trod_field hlen hf 7 _ rfl 1 (by kernel_rfl)
  obtain ⟨y8, t8⟩ := trod_field hlen hf 8 _ rfl 11 (by kernel_rfl)
  obtain ⟨y9, t9⟩ := trod_field hlen hf 9 _ rfl 1 (by kernel_rfl)
  obtain ⟨n0, e0, _, _⟩ := DataW.trod_int Tryz.underlying3 t0
  obtain ⟨mk, ik, it, iv, e1, k1, v1⟩ := item_of t1
  obtain ⟨n2, e2, _⟩ := DataW.trod_bool Tryz.underlying4 t2
  obtain ⟨n3, e3, _, _⟩ := DataW.trod_int Tryz.underlying3 t3
  obtain ⟨n4, e4, _, _⟩ := DataW.trod_int Tryz.underlying3 t4
  obtain ⟨n5, e5, _, _⟩ := DataW.trod_int Tryz.underlying2 t5
  obtain ⟨n6, e6⟩ := cell_of t6
  obtain ⟨n7, e7, _, _⟩ := DataW.trod_int Tryz.underlying3 t7
  obtain ⟨q, qa, qc, e8, s8, k8, m8⟩ := rq_of t8
  obtain ⟨n9, e9, _, _⟩ := DataW.trod_int Tryz.underlying3 t9
  cases e0; cases e1; cases e2; cases e3; cases e4; cases e5; cases e6; cases e7; cases e8; cases e9
  exact ⟨⟨n0, mk, ik, it, iv, n2, n3, n4, n5, n6, n7, q, qa, qc, n9⟩, rfl, s8, k1, v1, k8, m8⟩
theorem ops_of {fuel : Nat} {cs : List Value} {x : DataW H × List MemPlace} (h : DataW.trod enc Tryz.prog w base spare held fuel 25 cs = some x) :
    ∃ (A : Option Addr) (cap : Nat) (l : List Opx), cs = [.slice A l.length cap] ∧ Sl 25 opL w A l ∧ (∀ o ∈ l, OpOk w o) ∧ l.length ≤ cap ∧ cap ≤ maxLen := by
  rcases open_slice Tryz.underlying25 h with ⟨rfl, _⟩ | ⟨a, len, cap, m, n, D, Pl, rfl, hb, hl, hm, hmm, hx, hi⟩
  · exact ⟨none, 0, [], rfl, Sl.nil _ _ _ _, fun _ h => absurd h List.not_mem_nil, Nat.le_refl _, Nat.zero_le _⟩
  · have hlm : len ≤ m := by rw [hmm]; split <;> omega
    obtain ⟨l, rfl, hp⟩ := list_of len (fun i (o : Opx) => (∀ j u, (opL o)[j]? = some u → w.cell? (a.add (i * 25 + j)) = some u) ∧ OpOk w o) (fun i him => by
      obtain ⟨cs', hc, ht'⟩ := hi i (by omega)
      rw [show Tryz.prog.cellsOf 41 = 25 by kernel_rfl] at hc
      obtain ⟨o, rfl, hok⟩ := op_of ht'
      obtain ⟨_, hcl, hat⟩ := World.cells?_some hc
      refine ⟨o, fun j u hu => ?_, hok⟩
      have hj : j < 25 := by have := (List.getElem?_eq_some_iff.1 hu).1; simpa using this
      have hcell := hat j hj
      rw [← Go.Deep.add_add, hcell, hu])
    have hs := sl_of (w := w) (en := opL) (a := a) (l := l) (fun _ => by simp) (fun i hi => (hp i hi).1)
    refine ⟨some a, cap, l, rfl, hs.1, fun o ho => ?_, hl, hm⟩
    obtain ⟨i, hi, rfl⟩ := List.getElem_of_mem ho
    exact (hp i hi).2
end
end Go.Proofs.YtaicecnfodhlcaaGreat
