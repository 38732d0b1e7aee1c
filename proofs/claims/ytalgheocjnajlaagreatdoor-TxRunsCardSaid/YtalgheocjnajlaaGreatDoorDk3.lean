/-
  THE DISK (sector), in memory: Fall.
-/
import Derived.Test.YtalgheocjnajlaaGreatDoorLg2
namespace Go.Proofs.YtalgheocjnajlaaGreatDoor
open Go.RowKit Go.MapKept
attribute [local go_sem] gives givesH
set_option maxRecDepth 100000

theorem kept_snoc (p : Puts) (x : Int × ByteArray) (keep : List Bool) : kept (p ++ [x]) keep = kept p keep ++ if keep.getD p.length false then [x] else [] := by
  induction p generalizing keep with
  | nil =>
    cases keep with
    | nil => rfl
    | cons b l => cases b <;> simp [kept]
  | cons y p ih =>
    cases keep with
    | nil => simp [kept]
    | cons b l =>
      have := ih l
      unfold kept at this ⊢
      cases b <;> simp [this]
theorem writeCells_row (p : Puts) (k : Nat) (x : Int × ByteArray) (h : p[k]? = some x) : (writeCells p)[k * 2]? = some (.int .i64 x.1) ∧ (writeCells p)[k * 2 + 1]? = some (.string x.2) := by
  induction p generalizing k with
  | nil => simp at h
  | cons y p ih =>
    have e : writeCells (y :: p) = .int .i64 y.1 :: .string y.2 :: writeCells p := rfl
    rw [e]
    cases k with
    | zero =>
      simp at h
      subst h
      exact ⟨rfl, rfl⟩
    | succ k =>
      have := ih k (by simpa using h)
      rw [show (k + 1) * 2 = k * 2 + 1 + 1 by omega]
      simpa using this
theorem Keep.cell {S : Nat → Prop} {w w' : World} (h : Keep S w w') {p : Addr} (hlt : p.block < w.heap.size) (hn : ¬ S p.block) : w'.cell? p = w.cell? p := by
  unfold World.cell?
  rw [h.block p.block hlt hn]
/-- the firm map after some of the loose writes -/
def fellG (D : DiskS) (p : Puts) : Int → Option ByteArray := fun i => (lastOf p i).or (D.firm i)
theorem fellG_snoc (D : DiskS) (p : Puts) (x : Int × ByteArray) : strs (fellG D (p ++ [x])) = putAt (strs (fellG D p)) x.1 (.string x.2) := by
  funext i
  unfold putAt strs fellG
  rw [lastOf_snoc]
  by_cases h : i = x.1
  · subst h; simp
  · rw [if_neg h, if_neg (fun e => h e.symm)]
theorem fell_disk {w u : World} {bd : Nat} {D : DiskS} {d : Dk} {p : Puts} {nf : Nat} (h : DiskAt w bd D) (hd : DkOf D d) (hp : ∀ x ∈ p, x ∈ d.writes) (hm : IMap u D.bf (strs (fellG D p)) nf) (hk : Keep (· = D.bf) w u) :
    DiskStep bd w D u { D with firm := fellG D p, nf := nf } := by
  obtain ⟨a1, a2, a3, a4, a5, a6⟩ := h.apart
  refine ⟨⟨h.size, hk.at h.cells a1, hm, h.now.keep hk (fun e => a3 e.symm), hk.ownsRow h.loose (fun k hk2 e => a5 (e ▸ hk2)), ⟨a1, a2, a3, a4, a5, a6⟩, fun i s hs => ?_, h.s512.2⟩, rfl, rfl, rfl, hk.mono (fun k _ e => .inr (.inl e)), fun k hk => .inl hk⟩
  have hs2 : (lastOf p i).or (D.firm i) = some s := hs
  cases hn : lastOf p i with
  | none => rw [hn] at hs2; exact h.s512.1 i s hs2
  | some t => rw [hn] at hs2; exact (Option.some.inj hs2) ▸ (hd.ins _ (hp _ (lastOf_mem hn))).2.2
end Go.Proofs.YtalgheocjnajlaaGreatDoor

