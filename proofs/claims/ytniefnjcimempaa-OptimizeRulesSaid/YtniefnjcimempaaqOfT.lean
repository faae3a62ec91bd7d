/- types.Of, for an expression that a law or a plan holds. -/
import Derived.Test.YtniefnjcimempaaqRx4
import Derived.Test.YtniefnjcimempaaqRj
namespace Go.Proofs.Ytniefnjcimempaa
open Go.RowKit
theorem of_tx (τ : Tx) (cs : List Value) (w : World) (h : NodeV w (fun i => i < w.heap.size) τ cs) (hsz : τ.size ≤ 900000) (hsh : τ.all (shortT 9223372036854775807) = true) :
    Calls Try.prog 29 #[.agg cs.toArray] w fun e w' => e = .returned (ofT τ) ∧ Below w.heap.size w w' := by
  obtain ⟨A, c, l, h1, h2, h3⟩ := h
  obtain ⟨k, t, n, args⟩ := τ
  have h2 : erL l = args := h2
  have hn : args.length = l.length := by rw [← h2, erL_length]
  have her : (Lx.node ⟨w.heap.size, 0, none⟩ k t n l).er = .node k t n args := by rw [Lx.er, h2]
  have hs : sizeXL l ≤ 900000 := by
    rw [sizeXL_er, h2]
    have : 1 + sizeTL args ≤ 900000 := hsz
    omega
  have hof := tof_any w k n t A c l h3 hs (fun x hx => short_sub (by rw [her]; exact hsh) x hx)
  rw [h1]
  show Calls _ _ #[.agg #[.int .i64 k, .string ⟨t.toArray⟩, .int .i64 n, .slice A args.length c]] _ _
  rw [hn]
  refine hof.mono ?_
  rintro e w' ⟨hb, h⟩
  refine ⟨?_, hb⟩
  rw [all_er isN isNT isN_er, typX_er, her] at h
  unfold ofT
  rcases h with ⟨h4, rfl⟩ | ⟨h4, ⟨ty, h5, rfl⟩ | ⟨u, h5, rfl⟩⟩
  · rw [if_neg (by rw [h4]; simp)]
  · rw [if_pos h4, h5]
  · rw [if_pos h4, h5]
end Go.Proofs.Ytniefnjcimempaa
