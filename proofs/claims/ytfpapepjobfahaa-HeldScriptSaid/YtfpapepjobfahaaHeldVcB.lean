/- Holders: what the laws come to (printed by wip/Vc.lean; checked by the kernel in the next text). -/
import Derived.Test.YtfpapepjobfahaaHeldSpecB
namespace Go.Proofs.Ytfpapepjobfahaa.Held
open Go Go.Proofs.Ytfpapepjobfahaa.Sx

def vcSome : List Act → Prop :=
  fun (xs : List Act) =>
  ((0 : Int) ≤ (0 : Int) ∧ (0 : Int) ≤ mn (↑xs.length : Int) (60 : Int) ∧ mn (↑xs.length : Int) (60 : Int) ≤ (↑xs.length : Int)) ∧
    (∃ (g : Nat),
        g.le (headS xs (60 : Int)).length ∧
          List.drop (0 : Nat) (List.take (mn (↑xs.length : Int) (60 : Int)).toNat xs) = List.drop (0 : Nat) (List.take (mn (↑xs.length : Int) (60 : Int)).toNat xs) ∧
            (↑(List.drop (0 : Nat) (List.take (mn (↑xs.length : Int) (60 : Int)).toNat xs)).length : Int) = (↑(List.drop (0 : Nat) (List.take (mn (↑xs.length : Int) (60 : Int)).toNat xs)).length : Int) ∧
              (0 : Int) = (↑g : Int) ∧ someAt (headS xs (60 : Int)) g = []) ∧
      ∀ (g : Nat),
        g.le (headS xs (60 : Int)).length →
          (decide ((↑g : Int) < (↑(List.drop (0 : Nat) (List.take (mn (↑xs.length : Int) (60 : Int)).toNat xs)).length : Int)) = true →
              ((0 : Int) ≤ (↑g : Int) ∧ (↑g : Int) < (↑(List.drop (0 : Nat) (List.take (mn (↑xs.length : Int) (60 : Int)).toNat xs)).length : Int)) ∧
                (0 : Int) ≤ ((List.drop (0 : Nat) (List.take (mn (↑xs.length : Int) (60 : Int)).toNat xs)).getD (↑g : Int).toNat (u.dflt (58 : Nat))).owner ∧
                  (((someAt (headS xs (60 : Int)) g).length ≤ (1000000 : Nat) ∧
                        ∀ (i j : Nat), i < j → j < (someAt (headS xs (60 : Int)) g).length → (getH (someAt (headS xs (60 : Int)) g) i).addr < (getH (someAt (headS xs (60 : Int)) g) j).addr) ∧
                      (holderA
                                  { take := ((List.drop (0 : Nat) (List.take (mn (↑xs.length : Int) (60 : Int)).toNat xs)).getD (↑g : Int).toNat (u.dflt (58 : Nat))).take,
                                    addr := ((List.drop (0 : Nat) (List.take (mn (↑xs.length : Int) (60 : Int)).toNat xs)).getD (↑g : Int).toNat (u.dflt (58 : Nat))).addr,
                                    owner := ((List.drop (0 : Nat) (List.take (mn (↑xs.length : Int) (60 : Int)).toNat xs)).getD (↑g : Int).toNat (u.dflt (58 : Nat))).owner,
                                    who := ((List.drop (0 : Nat) (List.take (mn (↑xs.length : Int) (60 : Int)).toNat xs)).getD (↑g : Int).toNat (u.dflt (58 : Nat))).who,
                                    any := ((List.drop (0 : Nat) (List.take (mn (↑xs.length : Int) (60 : Int)).toNat xs)).getD (↑g : Int).toNat (u.dflt (58 : Nat))).any : Act }).owner.size.succ.le
                        (9223372036854775808 : Nat)) ∧
                    ((putE (someAt (headS xs (60 : Int)) g)
                                {
                                  addr :=
                                    (holderA
                                        { take := ((List.drop (0 : Nat) (List.take (mn (↑xs.length : Int) (60 : Int)).toNat xs)).getD (↑g : Int).toNat (u.dflt (58 : Nat))).take,
                                          addr := ((List.drop (0 : Nat) (List.take (mn (↑xs.length : Int) (60 : Int)).toNat xs)).getD (↑g : Int).toNat (u.dflt (58 : Nat))).addr,
                                          owner := ((List.drop (0 : Nat) (List.take (mn (↑xs.length : Int) (60 : Int)).toNat xs)).getD (↑g : Int).toNat (u.dflt (58 : Nat))).owner,
                                          who := ((List.drop (0 : Nat) (List.take (mn (↑xs.length : Int) (60 : Int)).toNat xs)).getD (↑g : Int).toNat (u.dflt (58 : Nat))).who,
                                          any := ((List.drop (0 : Nat) (List.take (mn (↑xs.length : Int) (60 : Int)).toNat xs)).getD (↑g : Int).toNat (u.dflt (58 : Nat))).any : Act }).addr,
                                  owner :=
                                    (holderA
                                        { take := ((List.drop (0 : Nat) (List.take (mn (↑xs.length : Int) (60 : Int)).toNat xs)).getD (↑g : Int).toNat (u.dflt (58 : Nat))).take,
                                          addr := ((List.drop (0 : Nat) (List.take (mn (↑xs.length : Int) (60 : Int)).toNat xs)).getD (↑g : Int).toNat (u.dflt (58 : Nat))).addr,
                                          owner := ((List.drop (0 : Nat) (List.take (mn (↑xs.length : Int) (60 : Int)).toNat xs)).getD (↑g : Int).toNat (u.dflt (58 : Nat))).owner,
                                          who := ((List.drop (0 : Nat) (List.take (mn (↑xs.length : Int) (60 : Int)).toNat xs)).getD (↑g : Int).toNat (u.dflt (58 : Nat))).who,
                                          any := ((List.drop (0 : Nat) (List.take (mn (↑xs.length : Int) (60 : Int)).toNat xs)).getD (↑g : Int).toNat (u.dflt (58 : Nat))).any : Act }).owner,
                                  mac :=
                                    {
                                      m0 :=
                                        (holderA
                                              { take := ((List.drop (0 : Nat) (List.take (mn (↑xs.length : Int) (60 : Int)).toNat xs)).getD (↑g : Int).toNat (u.dflt (58 : Nat))).take,
                                                addr := ((List.drop (0 : Nat) (List.take (mn (↑xs.length : Int) (60 : Int)).toNat xs)).getD (↑g : Int).toNat (u.dflt (58 : Nat))).addr,
                                                owner := ((List.drop (0 : Nat) (List.take (mn (↑xs.length : Int) (60 : Int)).toNat xs)).getD (↑g : Int).toNat (u.dflt (58 : Nat))).owner,
                                                who := ((List.drop (0 : Nat) (List.take (mn (↑xs.length : Int) (60 : Int)).toNat xs)).getD (↑g : Int).toNat (u.dflt (58 : Nat))).who,
                                                any := ((List.drop (0 : Nat) (List.take (mn (↑xs.length : Int) (60 : Int)).toNat xs)).getD (↑g : Int).toNat (u.dflt (58 : Nat))).any : Act }).mac.m0,
                                      m1 :=
                                        (holderA
                                              { take := ((List.drop (0 : Nat) (List.take (mn (↑xs.length : Int) (60 : Int)).toNat xs)).getD (↑g : Int).toNat (u.dflt (58 : Nat))).take,
                                                addr := ((List.drop (0 : Nat) (List.take (mn (↑xs.length : Int) (60 : Int)).toNat xs)).getD (↑g : Int).toNat (u.dflt (58 : Nat))).addr,
                                                owner := ((List.drop (0 : Nat) (List.take (mn (↑xs.length : Int) (60 : Int)).toNat xs)).getD (↑g : Int).toNat (u.dflt (58 : Nat))).owner,
                                                who := ((List.drop (0 : Nat) (List.take (mn (↑xs.length : Int) (60 : Int)).toNat xs)).getD (↑g : Int).toNat (u.dflt (58 : Nat))).who,
                                                any := ((List.drop (0 : Nat) (List.take (mn (↑xs.length : Int) (60 : Int)).toNat xs)).getD (↑g : Int).toNat (u.dflt (58 : Nat))).any : Act }).mac.m1,
                                      m2 :=
                                        (holderA
                                              { take := ((List.drop (0 : Nat) (List.take (mn (↑xs.length : Int) (60 : Int)).toNat xs)).getD (↑g : Int).toNat (u.dflt (58 : Nat))).take,
                                                addr := ((List.drop (0 : Nat) (List.take (mn (↑xs.length : Int) (60 : Int)).toNat xs)).getD (↑g : Int).toNat (u.dflt (58 : Nat))).addr,
                                                owner := ((List.drop (0 : Nat) (List.take (mn (↑xs.length : Int) (60 : Int)).toNat xs)).getD (↑g : Int).toNat (u.dflt (58 : Nat))).owner,
                                                who := ((List.drop (0 : Nat) (List.take (mn (↑xs.length : Int) (60 : Int)).toNat xs)).getD (↑g : Int).toNat (u.dflt (58 : Nat))).who,
                                                any := ((List.drop (0 : Nat) (List.take (mn (↑xs.length : Int) (60 : Int)).toNat xs)).getD (↑g : Int).toNat (u.dflt (58 : Nat))).any : Act }).mac.m2,
                                      m3 :=
                                        (holderA
                                              { take := ((List.drop (0 : Nat) (List.take (mn (↑xs.length : Int) (60 : Int)).toNat xs)).getD (↑g : Int).toNat (u.dflt (58 : Nat))).take,
                                                addr := ((List.drop (0 : Nat) (List.take (mn (↑xs.length : Int) (60 : Int)).toNat xs)).getD (↑g : Int).toNat (u.dflt (58 : Nat))).addr,
                                                owner := ((List.drop (0 : Nat) (List.take (mn (↑xs.length : Int) (60 : Int)).toNat xs)).getD (↑g : Int).toNat (u.dflt (58 : Nat))).owner,
                                                who := ((List.drop (0 : Nat) (List.take (mn (↑xs.length : Int) (60 : Int)).toNat xs)).getD (↑g : Int).toNat (u.dflt (58 : Nat))).who,
                                                any := ((List.drop (0 : Nat) (List.take (mn (↑xs.length : Int) (60 : Int)).toNat xs)).getD (↑g : Int).toNat (u.dflt (58 : Nat))).any : Act }).mac.m3,
                                      m4 :=
                                        (holderA
                                              { take := ((List.drop (0 : Nat) (List.take (mn (↑xs.length : Int) (60 : Int)).toNat xs)).getD (↑g : Int).toNat (u.dflt (58 : Nat))).take,
                                                addr := ((List.drop (0 : Nat) (List.take (mn (↑xs.length : Int) (60 : Int)).toNat xs)).getD (↑g : Int).toNat (u.dflt (58 : Nat))).addr,
                                                owner := ((List.drop (0 : Nat) (List.take (mn (↑xs.length : Int) (60 : Int)).toNat xs)).getD (↑g : Int).toNat (u.dflt (58 : Nat))).owner,
                                                who := ((List.drop (0 : Nat) (List.take (mn (↑xs.length : Int) (60 : Int)).toNat xs)).getD (↑g : Int).toNat (u.dflt (58 : Nat))).who,
                                                any := ((List.drop (0 : Nat) (List.take (mn (↑xs.length : Int) (60 : Int)).toNat xs)).getD (↑g : Int).toNat (u.dflt (58 : Nat))).any : Act }).mac.m4,
                                      m5 :=
                                        (holderA
                                              { take := ((List.drop (0 : Nat) (List.take (mn (↑xs.length : Int) (60 : Int)).toNat xs)).getD (↑g : Int).toNat (u.dflt (58 : Nat))).take,
                                                addr := ((List.drop (0 : Nat) (List.take (mn (↑xs.length : Int) (60 : Int)).toNat xs)).getD (↑g : Int).toNat (u.dflt (58 : Nat))).addr,
                                                owner := ((List.drop (0 : Nat) (List.take (mn (↑xs.length : Int) (60 : Int)).toNat xs)).getD (↑g : Int).toNat (u.dflt (58 : Nat))).owner,
                                                who := ((List.drop (0 : Nat) (List.take (mn (↑xs.length : Int) (60 : Int)).toNat xs)).getD (↑g : Int).toNat (u.dflt (58 : Nat))).who,
                                                any := ((List.drop (0 : Nat) (List.take (mn (↑xs.length : Int) (60 : Int)).toNat xs)).getD (↑g : Int).toNat (u.dflt (58 : Nat))).any : Act }).mac.m5 :
                                      Mac } :
                                  Holder } ==
                              (0 : Int) &&
                            !((List.drop (0 : Nat) (List.take (mn (↑xs.length : Int) (60 : Int)).toNat xs)).getD (↑g : Int).toNat (u.dflt (58 : Nat))).take) =
                          true →
                        True) ∧
                      ((putE (someAt (headS xs (60 : Int)) g)
                                  {
                                    addr :=
                                      (holderA
                                          { take := ((List.drop (0 : Nat) (List.take (mn (↑xs.length : Int) (60 : Int)).toNat xs)).getD (↑g : Int).toNat (u.dflt (58 : Nat))).take,
                                            addr := ((List.drop (0 : Nat) (List.take (mn (↑xs.length : Int) (60 : Int)).toNat xs)).getD (↑g : Int).toNat (u.dflt (58 : Nat))).addr,
                                            owner := ((List.drop (0 : Nat) (List.take (mn (↑xs.length : Int) (60 : Int)).toNat xs)).getD (↑g : Int).toNat (u.dflt (58 : Nat))).owner,
                                            who := ((List.drop (0 : Nat) (List.take (mn (↑xs.length : Int) (60 : Int)).toNat xs)).getD (↑g : Int).toNat (u.dflt (58 : Nat))).who,
                                            any := ((List.drop (0 : Nat) (List.take (mn (↑xs.length : Int) (60 : Int)).toNat xs)).getD (↑g : Int).toNat (u.dflt (58 : Nat))).any : Act }).addr,
                                    owner :=
                                      (holderA
                                          { take := ((List.drop (0 : Nat) (List.take (mn (↑xs.length : Int) (60 : Int)).toNat xs)).getD (↑g : Int).toNat (u.dflt (58 : Nat))).take,
                                            addr := ((List.drop (0 : Nat) (List.take (mn (↑xs.length : Int) (60 : Int)).toNat xs)).getD (↑g : Int).toNat (u.dflt (58 : Nat))).addr,
                                            owner := ((List.drop (0 : Nat) (List.take (mn (↑xs.length : Int) (60 : Int)).toNat xs)).getD (↑g : Int).toNat (u.dflt (58 : Nat))).owner,
                                            who := ((List.drop (0 : Nat) (List.take (mn (↑xs.length : Int) (60 : Int)).toNat xs)).getD (↑g : Int).toNat (u.dflt (58 : Nat))).who,
                                            any := ((List.drop (0 : Nat) (List.take (mn (↑xs.length : Int) (60 : Int)).toNat xs)).getD (↑g : Int).toNat (u.dflt (58 : Nat))).any : Act }).owner,
                                    mac :=
                                      {
                                        m0 :=
                                          (holderA
                                                { take := ((List.drop (0 : Nat) (List.take (mn (↑xs.length : Int) (60 : Int)).toNat xs)).getD (↑g : Int).toNat (u.dflt (58 : Nat))).take,
                                                  addr := ((List.drop (0 : Nat) (List.take (mn (↑xs.length : Int) (60 : Int)).toNat xs)).getD (↑g : Int).toNat (u.dflt (58 : Nat))).addr,
                                                  owner := ((List.drop (0 : Nat) (List.take (mn (↑xs.length : Int) (60 : Int)).toNat xs)).getD (↑g : Int).toNat (u.dflt (58 : Nat))).owner,
                                                  who := ((List.drop (0 : Nat) (List.take (mn (↑xs.length : Int) (60 : Int)).toNat xs)).getD (↑g : Int).toNat (u.dflt (58 : Nat))).who,
                                                  any := ((List.drop (0 : Nat) (List.take (mn (↑xs.length : Int) (60 : Int)).toNat xs)).getD (↑g : Int).toNat (u.dflt (58 : Nat))).any : Act }).mac.m0,
                                        m1 :=
                                          (holderA
                                                { take := ((List.drop (0 : Nat) (List.take (mn (↑xs.length : Int) (60 : Int)).toNat xs)).getD (↑g : Int).toNat (u.dflt (58 : Nat))).take,
                                                  addr := ((List.drop (0 : Nat) (List.take (mn (↑xs.length : Int) (60 : Int)).toNat xs)).getD (↑g : Int).toNat (u.dflt (58 : Nat))).addr,
                                                  owner := ((List.drop (0 : Nat) (List.take (mn (↑xs.length : Int) (60 : Int)).toNat xs)).getD (↑g : Int).toNat (u.dflt (58 : Nat))).owner,
                                                  who := ((List.drop (0 : Nat) (List.take (mn (↑xs.length : Int) (60 : Int)).toNat xs)).getD (↑g : Int).toNat (u.dflt (58 : Nat))).who,
                                                  any := ((List.drop (0 : Nat) (List.take (mn (↑xs.length : Int) (60 : Int)).toNat xs)).getD (↑g : Int).toNat (u.dflt (58 : Nat))).any : Act }).mac.m1,
                                        m2 :=
                                          (holderA
                                                { take := ((List.drop (0 : Nat) (List.take (mn (↑xs.length : Int) (60 : Int)).toNat xs)).getD (↑g : Int).toNat (u.dflt (58 : Nat))).take,
                                                  addr := ((List.drop (0 : Nat) (List.take (mn (↑xs.length : Int) (60 : Int)).toNat xs)).getD (↑g : Int).toNat (u.dflt (58 : Nat))).addr,
                                                  owner := ((List.drop (0 : Nat) (List.take (mn (↑xs.length : Int) (60 : Int)).toNat xs)).getD (↑g : Int).toNat (u.dflt (58 : Nat))).owner,
                                                  who := ((List.drop (0 : Nat) (List.take (mn (↑xs.length : Int) (60 : Int)).toNat xs)).getD (↑g : Int).toNat (u.dflt (58 : Nat))).who,
                                                  any := ((List.drop (0 : Nat) (List.take (mn (↑xs.length : Int) (60 : Int)).toNat xs)).getD (↑g : Int).toNat (u.dflt (58 : Nat))).any : Act }).mac.m2,
                                        m3 :=
                                          (holderA
                                                { take := ((List.drop (0 : Nat) (List.take (mn (↑xs.length : Int) (60 : Int)).toNat xs)).getD (↑g : Int).toNat (u.dflt (58 : Nat))).take,
                                                  addr := ((List.drop (0 : Nat) (List.take (mn (↑xs.length : Int) (60 : Int)).toNat xs)).getD (↑g : Int).toNat (u.dflt (58 : Nat))).addr,
                                                  owner := ((List.drop (0 : Nat) (List.take (mn (↑xs.length : Int) (60 : Int)).toNat xs)).getD (↑g : Int).toNat (u.dflt (58 : Nat))).owner,
                                                  who := ((List.drop (0 : Nat) (List.take (mn (↑xs.length : Int) (60 : Int)).toNat xs)).getD (↑g : Int).toNat (u.dflt (58 : Nat))).who,
                                                  any := ((List.drop (0 : Nat) (List.take (mn (↑xs.length : Int) (60 : Int)).toNat xs)).getD (↑g : Int).toNat (u.dflt (58 : Nat))).any : Act }).mac.m3,
                                        m4 :=
                                          (holderA
                                                { take := ((List.drop (0 : Nat) (List.take (mn (↑xs.length : Int) (60 : Int)).toNat xs)).getD (↑g : Int).toNat (u.dflt (58 : Nat))).take,
                                                  addr := ((List.drop (0 : Nat) (List.take (mn (↑xs.length : Int) (60 : Int)).toNat xs)).getD (↑g : Int).toNat (u.dflt (58 : Nat))).addr,
                                                  owner := ((List.drop (0 : Nat) (List.take (mn (↑xs.length : Int) (60 : Int)).toNat xs)).getD (↑g : Int).toNat (u.dflt (58 : Nat))).owner,
                                                  who := ((List.drop (0 : Nat) (List.take (mn (↑xs.length : Int) (60 : Int)).toNat xs)).getD (↑g : Int).toNat (u.dflt (58 : Nat))).who,
                                                  any := ((List.drop (0 : Nat) (List.take (mn (↑xs.length : Int) (60 : Int)).toNat xs)).getD (↑g : Int).toNat (u.dflt (58 : Nat))).any : Act }).mac.m4,
                                        m5 :=
                                          (holderA
                                                { take := ((List.drop (0 : Nat) (List.take (mn (↑xs.length : Int) (60 : Int)).toNat xs)).getD (↑g : Int).toNat (u.dflt (58 : Nat))).take,
                                                  addr := ((List.drop (0 : Nat) (List.take (mn (↑xs.length : Int) (60 : Int)).toNat xs)).getD (↑g : Int).toNat (u.dflt (58 : Nat))).addr,
                                                  owner := ((List.drop (0 : Nat) (List.take (mn (↑xs.length : Int) (60 : Int)).toNat xs)).getD (↑g : Int).toNat (u.dflt (58 : Nat))).owner,
                                                  who := ((List.drop (0 : Nat) (List.take (mn (↑xs.length : Int) (60 : Int)).toNat xs)).getD (↑g : Int).toNat (u.dflt (58 : Nat))).who,
                                                  any := ((List.drop (0 : Nat) (List.take (mn (↑xs.length : Int) (60 : Int)).toNat xs)).getD (↑g : Int).toNat (u.dflt (58 : Nat))).any : Act }).mac.m5 :
                                        Mac } :
                                    Holder } ==
                                (0 : Int) &&
                              !((List.drop (0 : Nat) (List.take (mn (↑xs.length : Int) (60 : Int)).toNat xs)).getD (↑g : Int).toNat (u.dflt (58 : Nat))).take) =
                            false →
                          True) ∧
                        ∀ (v : List Holder),
                          (v =
                              if
                                  (putE (someAt (headS xs (60 : Int)) g)
                                          {
                                            addr :=
                                              (holderA
                                                  { take := ((List.drop (0 : Nat) (List.take (mn (↑xs.length : Int) (60 : Int)).toNat xs)).getD (↑g : Int).toNat (u.dflt (58 : Nat))).take,
                                                    addr := ((List.drop (0 : Nat) (List.take (mn (↑xs.length : Int) (60 : Int)).toNat xs)).getD (↑g : Int).toNat (u.dflt (58 : Nat))).addr,
                                                    owner := ((List.drop (0 : Nat) (List.take (mn (↑xs.length : Int) (60 : Int)).toNat xs)).getD (↑g : Int).toNat (u.dflt (58 : Nat))).owner,
                                                    who := ((List.drop (0 : Nat) (List.take (mn (↑xs.length : Int) (60 : Int)).toNat xs)).getD (↑g : Int).toNat (u.dflt (58 : Nat))).who,
                                                    any := ((List.drop (0 : Nat) (List.take (mn (↑xs.length : Int) (60 : Int)).toNat xs)).getD (↑g : Int).toNat (u.dflt (58 : Nat))).any : Act }).addr,
                                            owner :=
                                              (holderA
                                                  { take := ((List.drop (0 : Nat) (List.take (mn (↑xs.length : Int) (60 : Int)).toNat xs)).getD (↑g : Int).toNat (u.dflt (58 : Nat))).take,
                                                    addr := ((List.drop (0 : Nat) (List.take (mn (↑xs.length : Int) (60 : Int)).toNat xs)).getD (↑g : Int).toNat (u.dflt (58 : Nat))).addr,
                                                    owner := ((List.drop (0 : Nat) (List.take (mn (↑xs.length : Int) (60 : Int)).toNat xs)).getD (↑g : Int).toNat (u.dflt (58 : Nat))).owner,
                                                    who := ((List.drop (0 : Nat) (List.take (mn (↑xs.length : Int) (60 : Int)).toNat xs)).getD (↑g : Int).toNat (u.dflt (58 : Nat))).who,
                                                    any := ((List.drop (0 : Nat) (List.take (mn (↑xs.length : Int) (60 : Int)).toNat xs)).getD (↑g : Int).toNat (u.dflt (58 : Nat))).any : Act }).owner,
                                            mac :=
                                              {
                                                m0 :=
                                                  (holderA
                                                        { take := ((List.drop (0 : Nat) (List.take (mn (↑xs.length : Int) (60 : Int)).toNat xs)).getD (↑g : Int).toNat (u.dflt (58 : Nat))).take,
                                                          addr := ((List.drop (0 : Nat) (List.take (mn (↑xs.length : Int) (60 : Int)).toNat xs)).getD (↑g : Int).toNat (u.dflt (58 : Nat))).addr,
                                                          owner := ((List.drop (0 : Nat) (List.take (mn (↑xs.length : Int) (60 : Int)).toNat xs)).getD (↑g : Int).toNat (u.dflt (58 : Nat))).owner,
                                                          who := ((List.drop (0 : Nat) (List.take (mn (↑xs.length : Int) (60 : Int)).toNat xs)).getD (↑g : Int).toNat (u.dflt (58 : Nat))).who,
                                                          any := ((List.drop (0 : Nat) (List.take (mn (↑xs.length : Int) (60 : Int)).toNat xs)).getD (↑g : Int).toNat (u.dflt (58 : Nat))).any : Act }).mac.m0,
                                                m1 :=
                                                  (holderA
                                                        { take := ((List.drop (0 : Nat) (List.take (mn (↑xs.length : Int) (60 : Int)).toNat xs)).getD (↑g : Int).toNat (u.dflt (58 : Nat))).take,
                                                          addr := ((List.drop (0 : Nat) (List.take (mn (↑xs.length : Int) (60 : Int)).toNat xs)).getD (↑g : Int).toNat (u.dflt (58 : Nat))).addr,
                                                          owner := ((List.drop (0 : Nat) (List.take (mn (↑xs.length : Int) (60 : Int)).toNat xs)).getD (↑g : Int).toNat (u.dflt (58 : Nat))).owner,
                                                          who := ((List.drop (0 : Nat) (List.take (mn (↑xs.length : Int) (60 : Int)).toNat xs)).getD (↑g : Int).toNat (u.dflt (58 : Nat))).who,
                                                          any := ((List.drop (0 : Nat) (List.take (mn (↑xs.length : Int) (60 : Int)).toNat xs)).getD (↑g : Int).toNat (u.dflt (58 : Nat))).any : Act }).mac.m1,
                                                m2 :=
                                                  (holderA
                                                        { take := ((List.drop (0 : Nat) (List.take (mn (↑xs.length : Int) (60 : Int)).toNat xs)).getD (↑g : Int).toNat (u.dflt (58 : Nat))).take,
                                                          addr := ((List.drop (0 : Nat) (List.take (mn (↑xs.length : Int) (60 : Int)).toNat xs)).getD (↑g : Int).toNat (u.dflt (58 : Nat))).addr,
                                                          owner := ((List.drop (0 : Nat) (List.take (mn (↑xs.length : Int) (60 : Int)).toNat xs)).getD (↑g : Int).toNat (u.dflt (58 : Nat))).owner,
                                                          who := ((List.drop (0 : Nat) (List.take (mn (↑xs.length : Int) (60 : Int)).toNat xs)).getD (↑g : Int).toNat (u.dflt (58 : Nat))).who,
                                                          any := ((List.drop (0 : Nat) (List.take (mn (↑xs.length : Int) (60 : Int)).toNat xs)).getD (↑g : Int).toNat (u.dflt (58 : Nat))).any : Act }).mac.m2,
                                                m3 :=
                                                  (holderA
                                                        { take := ((List.drop (0 : Nat) (List.take (mn (↑xs.length : Int) (60 : Int)).toNat xs)).getD (↑g : Int).toNat (u.dflt (58 : Nat))).take,
                                                          addr := ((List.drop (0 : Nat) (List.take (mn (↑xs.length : Int) (60 : Int)).toNat xs)).getD (↑g : Int).toNat (u.dflt (58 : Nat))).addr,
                                                          owner := ((List.drop (0 : Nat) (List.take (mn (↑xs.length : Int) (60 : Int)).toNat xs)).getD (↑g : Int).toNat (u.dflt (58 : Nat))).owner,
                                                          who := ((List.drop (0 : Nat) (List.take (mn (↑xs.length : Int) (60 : Int)).toNat xs)).getD (↑g : Int).toNat (u.dflt (58 : Nat))).who,
                                                          any := ((List.drop (0 : Nat) (List.take (mn (↑xs.length : Int) (60 : Int)).toNat xs)).getD (↑g : Int).toNat (u.dflt (58 : Nat))).any : Act }).mac.m3,
                                                m4 :=
                                                  (holderA
                                                        { take := ((List.drop (0 : Nat) (List.take (mn (↑xs.length : Int) (60 : Int)).toNat xs)).getD (↑g : Int).toNat (u.dflt (58 : Nat))).take,
                                                          addr := ((List.drop (0 : Nat) (List.take (mn (↑xs.length : Int) (60 : Int)).toNat xs)).getD (↑g : Int).toNat (u.dflt (58 : Nat))).addr,
                                                          owner := ((List.drop (0 : Nat) (List.take (mn (↑xs.length : Int) (60 : Int)).toNat xs)).getD (↑g : Int).toNat (u.dflt (58 : Nat))).owner,
                                                          who := ((List.drop (0 : Nat) (List.take (mn (↑xs.length : Int) (60 : Int)).toNat xs)).getD (↑g : Int).toNat (u.dflt (58 : Nat))).who,
                                                          any := ((List.drop (0 : Nat) (List.take (mn (↑xs.length : Int) (60 : Int)).toNat xs)).getD (↑g : Int).toNat (u.dflt (58 : Nat))).any : Act }).mac.m4,
                                                m5 :=
                                                  (holderA
                                                        { take := ((List.drop (0 : Nat) (List.take (mn (↑xs.length : Int) (60 : Int)).toNat xs)).getD (↑g : Int).toNat (u.dflt (58 : Nat))).take,
                                                          addr := ((List.drop (0 : Nat) (List.take (mn (↑xs.length : Int) (60 : Int)).toNat xs)).getD (↑g : Int).toNat (u.dflt (58 : Nat))).addr,
                                                          owner := ((List.drop (0 : Nat) (List.take (mn (↑xs.length : Int) (60 : Int)).toNat xs)).getD (↑g : Int).toNat (u.dflt (58 : Nat))).owner,
                                                          who := ((List.drop (0 : Nat) (List.take (mn (↑xs.length : Int) (60 : Int)).toNat xs)).getD (↑g : Int).toNat (u.dflt (58 : Nat))).who,
                                                          any := ((List.drop (0 : Nat) (List.take (mn (↑xs.length : Int) (60 : Int)).toNat xs)).getD (↑g : Int).toNat (u.dflt (58 : Nat))).any : Act }).mac.m5 :
                                                Mac } :
                                            Holder } ==
                                        (0 : Int) &&
                                      !((List.drop (0 : Nat) (List.take (mn (↑xs.length : Int) (60 : Int)).toNat xs)).getD (↑g : Int).toNat (u.dflt (58 : Nat))).take) =
                                    true then
                                putL (someAt (headS xs (60 : Int)) g)
                                  {
                                    addr :=
                                      (holderA
                                          { take := ((List.drop (0 : Nat) (List.take (mn (↑xs.length : Int) (60 : Int)).toNat xs)).getD (↑g : Int).toNat (u.dflt (58 : Nat))).take,
                                            addr := ((List.drop (0 : Nat) (List.take (mn (↑xs.length : Int) (60 : Int)).toNat xs)).getD (↑g : Int).toNat (u.dflt (58 : Nat))).addr,
                                            owner := ((List.drop (0 : Nat) (List.take (mn (↑xs.length : Int) (60 : Int)).toNat xs)).getD (↑g : Int).toNat (u.dflt (58 : Nat))).owner,
                                            who := ((List.drop (0 : Nat) (List.take (mn (↑xs.length : Int) (60 : Int)).toNat xs)).getD (↑g : Int).toNat (u.dflt (58 : Nat))).who,
                                            any := ((List.drop (0 : Nat) (List.take (mn (↑xs.length : Int) (60 : Int)).toNat xs)).getD (↑g : Int).toNat (u.dflt (58 : Nat))).any : Act }).addr,
                                    owner :=
                                      (holderA
                                          { take := ((List.drop (0 : Nat) (List.take (mn (↑xs.length : Int) (60 : Int)).toNat xs)).getD (↑g : Int).toNat (u.dflt (58 : Nat))).take,
                                            addr := ((List.drop (0 : Nat) (List.take (mn (↑xs.length : Int) (60 : Int)).toNat xs)).getD (↑g : Int).toNat (u.dflt (58 : Nat))).addr,
                                            owner := ((List.drop (0 : Nat) (List.take (mn (↑xs.length : Int) (60 : Int)).toNat xs)).getD (↑g : Int).toNat (u.dflt (58 : Nat))).owner,
                                            who := ((List.drop (0 : Nat) (List.take (mn (↑xs.length : Int) (60 : Int)).toNat xs)).getD (↑g : Int).toNat (u.dflt (58 : Nat))).who,
                                            any := ((List.drop (0 : Nat) (List.take (mn (↑xs.length : Int) (60 : Int)).toNat xs)).getD (↑g : Int).toNat (u.dflt (58 : Nat))).any : Act }).owner,
                                    mac :=
                                      {
                                        m0 :=
                                          (holderA
                                                { take := ((List.drop (0 : Nat) (List.take (mn (↑xs.length : Int) (60 : Int)).toNat xs)).getD (↑g : Int).toNat (u.dflt (58 : Nat))).take,
                                                  addr := ((List.drop (0 : Nat) (List.take (mn (↑xs.length : Int) (60 : Int)).toNat xs)).getD (↑g : Int).toNat (u.dflt (58 : Nat))).addr,
                                                  owner := ((List.drop (0 : Nat) (List.take (mn (↑xs.length : Int) (60 : Int)).toNat xs)).getD (↑g : Int).toNat (u.dflt (58 : Nat))).owner,
                                                  who := ((List.drop (0 : Nat) (List.take (mn (↑xs.length : Int) (60 : Int)).toNat xs)).getD (↑g : Int).toNat (u.dflt (58 : Nat))).who,
                                                  any := ((List.drop (0 : Nat) (List.take (mn (↑xs.length : Int) (60 : Int)).toNat xs)).getD (↑g : Int).toNat (u.dflt (58 : Nat))).any : Act }).mac.m0,
                                        m1 :=
                                          (holderA
                                                { take := ((List.drop (0 : Nat) (List.take (mn (↑xs.length : Int) (60 : Int)).toNat xs)).getD (↑g : Int).toNat (u.dflt (58 : Nat))).take,
                                                  addr := ((List.drop (0 : Nat) (List.take (mn (↑xs.length : Int) (60 : Int)).toNat xs)).getD (↑g : Int).toNat (u.dflt (58 : Nat))).addr,
                                                  owner := ((List.drop (0 : Nat) (List.take (mn (↑xs.length : Int) (60 : Int)).toNat xs)).getD (↑g : Int).toNat (u.dflt (58 : Nat))).owner,
                                                  who := ((List.drop (0 : Nat) (List.take (mn (↑xs.length : Int) (60 : Int)).toNat xs)).getD (↑g : Int).toNat (u.dflt (58 : Nat))).who,
                                                  any := ((List.drop (0 : Nat) (List.take (mn (↑xs.length : Int) (60 : Int)).toNat xs)).getD (↑g : Int).toNat (u.dflt (58 : Nat))).any : Act }).mac.m1,
                                        m2 :=
                                          (holderA
                                                { take := ((List.drop (0 : Nat) (List.take (mn (↑xs.length : Int) (60 : Int)).toNat xs)).getD (↑g : Int).toNat (u.dflt (58 : Nat))).take,
                                                  addr := ((List.drop (0 : Nat) (List.take (mn (↑xs.length : Int) (60 : Int)).toNat xs)).getD (↑g : Int).toNat (u.dflt (58 : Nat))).addr,
                                                  owner := ((List.drop (0 : Nat) (List.take (mn (↑xs.length : Int) (60 : Int)).toNat xs)).getD (↑g : Int).toNat (u.dflt (58 : Nat))).owner,
                                                  who := ((List.drop (0 : Nat) (List.take (mn (↑xs.length : Int) (60 : Int)).toNat xs)).getD (↑g : Int).toNat (u.dflt (58 : Nat))).who,
                                                  any := ((List.drop (0 : Nat) (List.take (mn (↑xs.length : Int) (60 : Int)).toNat xs)).getD (↑g : Int).toNat (u.dflt (58 : Nat))).any : Act }).mac.m2,
                                        m3 :=
                                          (holderA
                                                { take := ((List.drop (0 : Nat) (List.take (mn (↑xs.length : Int) (60 : Int)).toNat xs)).getD (↑g : Int).toNat (u.dflt (58 : Nat))).take,
                                                  addr := ((List.drop (0 : Nat) (List.take (mn (↑xs.length : Int) (60 : Int)).toNat xs)).getD (↑g : Int).toNat (u.dflt (58 : Nat))).addr,
                                                  owner := ((List.drop (0 : Nat) (List.take (mn (↑xs.length : Int) (60 : Int)).toNat xs)).getD (↑g : Int).toNat (u.dflt (58 : Nat))).owner,
                                                  who := ((List.drop (0 : Nat) (List.take (mn (↑xs.length : Int) (60 : Int)).toNat xs)).getD (↑g : Int).toNat (u.dflt (58 : Nat))).who,
                                                  any := ((List.drop (0 : Nat) (List.take (mn (↑xs.length : Int) (60 : Int)).toNat xs)).getD (↑g : Int).toNat (u.dflt (58 : Nat))).any : Act }).mac.m3,
                                        m4 :=
                                          (holderA
                                                { take := ((List.drop (0 : Nat) (List.take (mn (↑xs.length : Int) (60 : Int)).toNat xs)).getD (↑g : Int).toNat (u.dflt (58 : Nat))).take,
                                                  addr := ((List.drop (0 : Nat) (List.take (mn (↑xs.length : Int) (60 : Int)).toNat xs)).getD (↑g : Int).toNat (u.dflt (58 : Nat))).addr,
                                                  owner := ((List.drop (0 : Nat) (List.take (mn (↑xs.length : Int) (60 : Int)).toNat xs)).getD (↑g : Int).toNat (u.dflt (58 : Nat))).owner,
                                                  who := ((List.drop (0 : Nat) (List.take (mn (↑xs.length : Int) (60 : Int)).toNat xs)).getD (↑g : Int).toNat (u.dflt (58 : Nat))).who,
                                                  any := ((List.drop (0 : Nat) (List.take (mn (↑xs.length : Int) (60 : Int)).toNat xs)).getD (↑g : Int).toNat (u.dflt (58 : Nat))).any : Act }).mac.m4,
                                        m5 :=
                                          (holderA
                                                { take := ((List.drop (0 : Nat) (List.take (mn (↑xs.length : Int) (60 : Int)).toNat xs)).getD (↑g : Int).toNat (u.dflt (58 : Nat))).take,
                                                  addr := ((List.drop (0 : Nat) (List.take (mn (↑xs.length : Int) (60 : Int)).toNat xs)).getD (↑g : Int).toNat (u.dflt (58 : Nat))).addr,
                                                  owner := ((List.drop (0 : Nat) (List.take (mn (↑xs.length : Int) (60 : Int)).toNat xs)).getD (↑g : Int).toNat (u.dflt (58 : Nat))).owner,
                                                  who := ((List.drop (0 : Nat) (List.take (mn (↑xs.length : Int) (60 : Int)).toNat xs)).getD (↑g : Int).toNat (u.dflt (58 : Nat))).who,
                                                  any := ((List.drop (0 : Nat) (List.take (mn (↑xs.length : Int) (60 : Int)).toNat xs)).getD (↑g : Int).toNat (u.dflt (58 : Nat))).any : Act }).mac.m5 :
                                        Mac } :
                                    Holder }
                              else someAt (headS xs (60 : Int)) g) →
                            ∃ (g_1 : Nat),
                              g_1.le (headS xs (60 : Int)).length ∧
                                (annSome (headS xs (60 : Int))).μ g_1 < (annSome (headS xs (60 : Int))).μ g ∧
                                  List.drop (0 : Nat) (List.take (mn (↑xs.length : Int) (60 : Int)).toNat xs) = List.drop (0 : Nat) (List.take (mn (↑xs.length : Int) (60 : Int)).toNat xs) ∧
                                    (↑(List.drop (0 : Nat) (List.take (mn (↑xs.length : Int) (60 : Int)).toNat xs)).length : Int) =
                                        (↑(List.drop (0 : Nat) (List.take (mn (↑xs.length : Int) (60 : Int)).toNat xs)).length : Int) ∧
                                      IntKind.i64.wrap ((↑g : Int) + (1 : Int)) = (↑g_1 : Int) ∧ v = someAt (headS xs (60 : Int)) g_1) ∧
            (decide ((↑g : Int) < (↑(List.drop (0 : Nat) (List.take (mn (↑xs.length : Int) (60 : Int)).toNat xs)).length : Int)) = false → someAt (headS xs (60 : Int)) g = someL xs)

def vcLMay : ByteArray → Int → Prop :=
  fun (s : ByteArray) (n : Int) =>
  ((!true) = true → false = true) ∧
    ((!true) = false →
      (12 : Int) ≠ (0 : Int) ∧
        ((0 : Int) ≤ (0 : Int) ∧ (0 : Int) ≤ n.tmod (12 : Int) ∧ n.tmod (12 : Int) ≤ (16 : Int)) ∧
          s.size.succ.le (9223372036854775808 : Nat) ∧
            s.size.succ.le (9223372036854775808 : Nat) ∧
              ((mayB s == mayL s) = true →
                  ({
                                data :=
                                  #[(97 : UInt8), (98 : UInt8), (99 : UInt8), (100 : UInt8), (101 : UInt8), (102 : UInt8), (103 : UInt8), (104 : UInt8), (105 : UInt8), (106 : UInt8), (107 : UInt8), (108 : UInt8),
                                    (109 : UInt8), (110 : UInt8), (111 : UInt8), (112 : UInt8)] :
                                ByteArray }.extract
                            (0 : Nat) (n.tmod (12 : Int)).toNat).size.succ.le
                    (9223372036854775808 : Nat)) ∧
                ((mayB s == mayL s) = true → (12 : Int) ≠ (0 : Int)) ∧
                  ((mayB s == mayL s) = true → decide (n.tmod (12 : Int) > (0 : Int)) = true → (12 : Int) ≠ (0 : Int)) ∧
                    (mayB s == mayL s &&
                        mayB
                            ({
                                  data :=
                                    #[(97 : UInt8), (98 : UInt8), (99 : UInt8), (100 : UInt8), (101 : UInt8), (102 : UInt8), (103 : UInt8), (104 : UInt8), (105 : UInt8), (106 : UInt8), (107 : UInt8), (108 : UInt8),
                                      (109 : UInt8), (110 : UInt8), (111 : UInt8), (112 : UInt8)] :
                                  ByteArray }.extract
                              (0 : Nat) (n.tmod (12 : Int)).toNat) ==
                          (decide (n.tmod (12 : Int) > (0 : Int)) && decide (n.tmod (12 : Int) < (9 : Int)))) =
                      true)

def vcLTurns : List Act → Int → Prop :=
  fun (xs : List Act) (n : Int) =>
  ((!true) = true → false = true) ∧
    ((!true) = false →
      (xs.length.succ.le (9223372036854775808 : Nat) ∧ ∀ (a : Act), a ∈ xs → (0 : Int) ≤ a.addr ∧ (0 : Int) ≤ a.owner) ∧
        (((someL xs).length ≤ (1000000 : Nat) ∧ ∀ (i j : Nat), i < j → j < (someL xs).length → (getH (someL xs) i).addr < (getH (someL xs) j).addr) ∧ Nat.le (4 : Nat) (9223372036854775808 : Nat)) ∧
          ((putE (someL xs)
                    { addr := nearA n, owner := { data := #[(110 : UInt8), (101 : UInt8), (119 : UInt8)] : ByteArray },
                      mac := { m0 := (0 : Int), m1 := (0 : Int), m2 := (0 : Int), m3 := (0 : Int), m4 := (0 : Int), m5 := (0 : Int) : Mac } : Holder } !=
                  (0 : Int)) =
                true →
              ((someL xs).length ≤ (1000000 : Nat) ∧ ∀ (i j : Nat), i < j → j < (someL xs).length → (getH (someL xs) i).addr < (getH (someL xs) j).addr) ∧
                (putE (someL xs)
                          { addr := nearA n, owner := { data := #[(110 : UInt8), (101 : UInt8), (119 : UInt8)] : ByteArray },
                            mac := { m0 := (0 : Int), m1 := (0 : Int), m2 := (0 : Int), m3 := (0 : Int), m4 := (0 : Int), m5 := (0 : Int) : Mac } : Holder } ==
                        (6 : Int) &&
                      hasH (someL xs) (nearA n) ||
                    putE (someL xs)
                          { addr := nearA n, owner := { data := #[(110 : UInt8), (101 : UInt8), (119 : UInt8)] : ByteArray },
                            mac := { m0 := (0 : Int), m1 := (0 : Int), m2 := (0 : Int), m3 := (0 : Int), m4 := (0 : Int), m5 := (0 : Int) : Mac } : Holder } ==
                        (4 : Int) &&
                      (↑(someL xs).length : Int) == (48 : Int)) =
                  true) ∧
            ((putE (someL xs)
                    { addr := nearA n, owner := { data := #[(110 : UInt8), (101 : UInt8), (119 : UInt8)] : ByteArray },
                      mac := { m0 := (0 : Int), m1 := (0 : Int), m2 := (0 : Int), m3 := (0 : Int), m4 := (0 : Int), m5 := (0 : Int) : Mac } : Holder } !=
                  (0 : Int)) =
                false →
              ((putL (someL xs)
                        { addr := nearA n, owner := { data := #[(110 : UInt8), (101 : UInt8), (119 : UInt8)] : ByteArray },
                          mac := { m0 := (0 : Int), m1 := (0 : Int), m2 := (0 : Int), m3 := (0 : Int), m4 := (0 : Int), m5 := (0 : Int) : Mac } : Holder }).length ≤
                    (1000000 : Nat) ∧
                  ∀ (i j : Nat),
                    i < j →
                      j <
                          (putL (someL xs)
                              { addr := nearA n, owner := { data := #[(110 : UInt8), (101 : UInt8), (119 : UInt8)] : ByteArray },
                                mac := { m0 := (0 : Int), m1 := (0 : Int), m2 := (0 : Int), m3 := (0 : Int), m4 := (0 : Int), m5 := (0 : Int) : Mac } : Holder }).length →
                        (getH
                              (putL (someL xs)
                                { addr := nearA n, owner := { data := #[(110 : UInt8), (101 : UInt8), (119 : UInt8)] : ByteArray },
                                  mac := { m0 := (0 : Int), m1 := (0 : Int), m2 := (0 : Int), m3 := (0 : Int), m4 := (0 : Int), m5 := (0 : Int) : Mac } : Holder })
                              i).addr <
                          (getH
                              (putL (someL xs)
                                { addr := nearA n, owner := { data := #[(110 : UInt8), (101 : UInt8), (119 : UInt8)] : ByteArray },
                                  mac := { m0 := (0 : Int), m1 := (0 : Int), m2 := (0 : Int), m3 := (0 : Int), m4 := (0 : Int), m5 := (0 : Int) : Mac } : Holder })
                              j).addr) ∧
                ((takeE
                              (putL (someL xs)
                                { addr := nearA n, owner := { data := #[(110 : UInt8), (101 : UInt8), (119 : UInt8)] : ByteArray },
                                  mac := { m0 := (0 : Int), m1 := (0 : Int), m2 := (0 : Int), m3 := (0 : Int), m4 := (0 : Int), m5 := (0 : Int) : Mac } : Holder })
                              (nearA n) !=
                            (0 : Int) ||
                          (↑(takeL
                                    (putL (someL xs)
                                      { addr := nearA n, owner := { data := #[(110 : UInt8), (101 : UInt8), (119 : UInt8)] : ByteArray },
                                        mac := { m0 := (0 : Int), m1 := (0 : Int), m2 := (0 : Int), m3 := (0 : Int), m4 := (0 : Int), m5 := (0 : Int) : Mac } : Holder })
                                    (nearA n)).length :
                              Int) !=
                            (↑(someL xs).length : Int) ||
                        (↑(putL (someL xs)
                                  { addr := nearA n, owner := { data := #[(110 : UInt8), (101 : UInt8), (119 : UInt8)] : ByteArray },
                                    mac := { m0 := (0 : Int), m1 := (0 : Int), m2 := (0 : Int), m3 := (0 : Int), m4 := (0 : Int), m5 := (0 : Int) : Mac } : Holder }).length :
                            Int) !=
                          IntKind.i64.wrap ((↑(someL xs).length : Int) + (1 : Int))) =
                      true →
                    false = true) ∧
                  ((takeE
                              (putL (someL xs)
                                { addr := nearA n, owner := { data := #[(110 : UInt8), (101 : UInt8), (119 : UInt8)] : ByteArray },
                                  mac := { m0 := (0 : Int), m1 := (0 : Int), m2 := (0 : Int), m3 := (0 : Int), m4 := (0 : Int), m5 := (0 : Int) : Mac } : Holder })
                              (nearA n) !=
                            (0 : Int) ||
                          (↑(takeL
                                    (putL (someL xs)
                                      { addr := nearA n, owner := { data := #[(110 : UInt8), (101 : UInt8), (119 : UInt8)] : ByteArray },
                                        mac := { m0 := (0 : Int), m1 := (0 : Int), m2 := (0 : Int), m3 := (0 : Int), m4 := (0 : Int), m5 := (0 : Int) : Mac } : Holder })
                                    (nearA n)).length :
                              Int) !=
                            (↑(someL xs).length : Int) ||
                        (↑(putL (someL xs)
                                  { addr := nearA n, owner := { data := #[(110 : UInt8), (101 : UInt8), (119 : UInt8)] : ByteArray },
                                    mac := { m0 := (0 : Int), m1 := (0 : Int), m2 := (0 : Int), m3 := (0 : Int), m4 := (0 : Int), m5 := (0 : Int) : Mac } : Holder }).length :
                            Int) !=
                          IntKind.i64.wrap ((↑(someL xs).length : Int) + (1 : Int))) =
                      false →
                    (∃ (g : Nat),
                        g.le (someL xs).length ∧
                          someL xs = someL xs ∧
                            putL (someL xs)
                                  { addr := nearA n, owner := { data := #[(110 : UInt8), (101 : UInt8), (119 : UInt8)] : ByteArray },
                                    mac := { m0 := (0 : Int), m1 := (0 : Int), m2 := (0 : Int), m3 := (0 : Int), m4 := (0 : Int), m5 := (0 : Int) : Mac } : Holder } =
                                putL (someL xs)
                                  { addr := nearA n, owner := { data := #[(110 : UInt8), (101 : UInt8), (119 : UInt8)] : ByteArray },
                                    mac := { m0 := (0 : Int), m1 := (0 : Int), m2 := (0 : Int), m3 := (0 : Int), m4 := (0 : Int), m5 := (0 : Int) : Mac } : Holder } ∧
                              takeL
                                    (putL (someL xs)
                                      { addr := nearA n, owner := { data := #[(110 : UInt8), (101 : UInt8), (119 : UInt8)] : ByteArray },
                                        mac := { m0 := (0 : Int), m1 := (0 : Int), m2 := (0 : Int), m3 := (0 : Int), m4 := (0 : Int), m5 := (0 : Int) : Mac } : Holder })
                                    (nearA n) =
                                  takeL
                                    (putL (someL xs)
                                      { addr := nearA n, owner := { data := #[(110 : UInt8), (101 : UInt8), (119 : UInt8)] : ByteArray },
                                        mac := { m0 := (0 : Int), m1 := (0 : Int), m2 := (0 : Int), m3 := (0 : Int), m4 := (0 : Int), m5 := (0 : Int) : Mac } : Holder })
                                    (nearA n) ∧
                                (↑(someL xs).length : Int) = (↑(someL xs).length : Int) ∧ (0 : Int) = (↑g : Int)) ∧
                      ∀ (g : Nat),
                        g.le (someL xs).length →
                          (decide ((↑g : Int) < (↑(someL xs).length : Int)) = true →
                              ((0 : Int) ≤ (↑g : Int) ∧ (↑g : Int) < (↑(someL xs).length : Int)) ∧
                                ((putL (someL xs)
                                          { addr := nearA n, owner := { data := #[(110 : UInt8), (101 : UInt8), (119 : UInt8)] : ByteArray },
                                            mac := { m0 := (0 : Int), m1 := (0 : Int), m2 := (0 : Int), m3 := (0 : Int), m4 := (0 : Int), m5 := (0 : Int) : Mac } : Holder }).length ≤
                                      (1000000 : Nat) ∧
                                    ∀ (i j : Nat),
                                      i < j →
                                        j <
                                            (putL (someL xs)
                                                { addr := nearA n, owner := { data := #[(110 : UInt8), (101 : UInt8), (119 : UInt8)] : ByteArray },
                                                  mac := { m0 := (0 : Int), m1 := (0 : Int), m2 := (0 : Int), m3 := (0 : Int), m4 := (0 : Int), m5 := (0 : Int) : Mac } : Holder }).length →
                                          (getH
                                                (putL (someL xs)
                                                  { addr := nearA n, owner := { data := #[(110 : UInt8), (101 : UInt8), (119 : UInt8)] : ByteArray },
                                                    mac := { m0 := (0 : Int), m1 := (0 : Int), m2 := (0 : Int), m3 := (0 : Int), m4 := (0 : Int), m5 := (0 : Int) : Mac } : Holder })
                                                i).addr <
                                            (getH
                                                (putL (someL xs)
                                                  { addr := nearA n, owner := { data := #[(110 : UInt8), (101 : UInt8), (119 : UInt8)] : ByteArray },
                                                    mac := { m0 := (0 : Int), m1 := (0 : Int), m2 := (0 : Int), m3 := (0 : Int), m4 := (0 : Int), m5 := (0 : Int) : Mac } : Holder })
                                                j).addr) ∧
                                  ((0 : Int) ≤ (↑g : Int) ∧
                                      (↑g : Int) <
                                        (↑(takeL
                                                (putL (someL xs)
                                                  { addr := nearA n, owner := { data := #[(110 : UInt8), (101 : UInt8), (119 : UInt8)] : ByteArray },
                                                    mac := { m0 := (0 : Int), m1 := (0 : Int), m2 := (0 : Int), m3 := (0 : Int), m4 := (0 : Int), m5 := (0 : Int) : Mac } : Holder })
                                                (nearA n)).length :
                                          Int)) ∧
                                    ((0 : Int) ≤ (↑g : Int) ∧ (↑g : Int) < (↑(someL xs).length : Int)) ∧
                                      ((!(((takeL
                                                            (putL (someL xs)
                                                              { addr := nearA n, owner := { data := #[(110 : UInt8), (101 : UInt8), (119 : UInt8)] : ByteArray },
                                                                mac := { m0 := (0 : Int), m1 := (0 : Int), m2 := (0 : Int), m3 := (0 : Int), m4 := (0 : Int), m5 := (0 : Int) : Mac } : Holder })
                                                            (nearA n)).getD
                                                        (↑g : Int).toNat (u.dflt (36 : Nat))).addr ==
                                                    ((someL xs).getD (↑g : Int).toNat (u.dflt (36 : Nat))).addr &&
                                                  (((takeL
                                                                (putL (someL xs)
                                                                  { addr := nearA n, owner := { data := #[(110 : UInt8), (101 : UInt8), (119 : UInt8)] : ByteArray },
                                                                    mac := { m0 := (0 : Int), m1 := (0 : Int), m2 := (0 : Int), m3 := (0 : Int), m4 := (0 : Int), m5 := (0 : Int) : Mac } : Holder })
                                                                (nearA n)).getD
                                                            (↑g : Int).toNat (u.dflt (36 : Nat))).owner.toList ==
                                                      ((someL xs).getD (↑g : Int).toNat (u.dflt (36 : Nat))).owner.toList &&
                                                    (((takeL
                                                                    (putL (someL xs)
                                                                      { addr := nearA n, owner := { data := #[(110 : UInt8), (101 : UInt8), (119 : UInt8)] : ByteArray },
                                                                        mac := { m0 := (0 : Int), m1 := (0 : Int), m2 := (0 : Int), m3 := (0 : Int), m4 := (0 : Int), m5 := (0 : Int) : Mac } : Holder })
                                                                    (nearA n)).getD
                                                                (↑g : Int).toNat (u.dflt (36 : Nat))).mac.m0 ==
                                                          ((someL xs).getD (↑g : Int).toNat (u.dflt (36 : Nat))).mac.m0 &&
                                                        (((takeL
                                                                      (putL (someL xs)
                                                                        { addr := nearA n, owner := { data := #[(110 : UInt8), (101 : UInt8), (119 : UInt8)] : ByteArray },
                                                                          mac := { m0 := (0 : Int), m1 := (0 : Int), m2 := (0 : Int), m3 := (0 : Int), m4 := (0 : Int), m5 := (0 : Int) : Mac } : Holder })
                                                                      (nearA n)).getD
                                                                  (↑g : Int).toNat (u.dflt (36 : Nat))).mac.m1 ==
                                                            ((someL xs).getD (↑g : Int).toNat (u.dflt (36 : Nat))).mac.m1 &&
                                                          (((takeL
                                                                        (putL (someL xs)
                                                                          { addr := nearA n, owner := { data := #[(110 : UInt8), (101 : UInt8), (119 : UInt8)] : ByteArray },
                                                                            mac := { m0 := (0 : Int), m1 := (0 : Int), m2 := (0 : Int), m3 := (0 : Int), m4 := (0 : Int), m5 := (0 : Int) : Mac } : Holder })
                                                                        (nearA n)).getD
                                                                    (↑g : Int).toNat (u.dflt (36 : Nat))).mac.m2 ==
                                                              ((someL xs).getD (↑g : Int).toNat (u.dflt (36 : Nat))).mac.m2 &&
                                                            (((takeL
                                                                          (putL (someL xs)
                                                                            { addr := nearA n, owner := { data := #[(110 : UInt8), (101 : UInt8), (119 : UInt8)] : ByteArray },
                                                                              mac := { m0 := (0 : Int), m1 := (0 : Int), m2 := (0 : Int), m3 := (0 : Int), m4 := (0 : Int), m5 := (0 : Int) : Mac } : Holder })
                                                                          (nearA n)).getD
                                                                      (↑g : Int).toNat (u.dflt (36 : Nat))).mac.m3 ==
                                                                ((someL xs).getD (↑g : Int).toNat (u.dflt (36 : Nat))).mac.m3 &&
                                                              (((takeL
                                                                            (putL (someL xs)
                                                                              { addr := nearA n, owner := { data := #[(110 : UInt8), (101 : UInt8), (119 : UInt8)] : ByteArray },
                                                                                mac := { m0 := (0 : Int), m1 := (0 : Int), m2 := (0 : Int), m3 := (0 : Int), m4 := (0 : Int), m5 := (0 : Int) : Mac } : Holder })
                                                                            (nearA n)).getD
                                                                        (↑g : Int).toNat (u.dflt (36 : Nat))).mac.m4 ==
                                                                  ((someL xs).getD (↑g : Int).toNat (u.dflt (36 : Nat))).mac.m4 &&
                                                                (((takeL
                                                                              (putL (someL xs)
                                                                                { addr := nearA n, owner := { data := #[(110 : UInt8), (101 : UInt8), (119 : UInt8)] : ByteArray },
                                                                                  mac := { m0 := (0 : Int), m1 := (0 : Int), m2 := (0 : Int), m3 := (0 : Int), m4 := (0 : Int), m5 := (0 : Int) : Mac } : Holder })
                                                                              (nearA n)).getD
                                                                          (↑g : Int).toNat (u.dflt (36 : Nat))).mac.m5 ==
                                                                    ((someL xs).getD (↑g : Int).toNat (u.dflt (36 : Nat))).mac.m5 &&
                                                                  true))))) &&
                                                      true))) ||
                                              !hasH
                                                  (putL (someL xs)
                                                    { addr := nearA n, owner := { data := #[(110 : UInt8), (101 : UInt8), (119 : UInt8)] : ByteArray },
                                                      mac := { m0 := (0 : Int), m1 := (0 : Int), m2 := (0 : Int), m3 := (0 : Int), m4 := (0 : Int), m5 := (0 : Int) : Mac } : Holder })
                                                  ((someL xs).getD (↑g : Int).toNat (u.dflt (36 : Nat))).addr) =
                                            false →
                                          (0 : Int) ≤ (↑g : Int) ∧ (↑g : Int) < (↑(someL xs).length : Int)) ∧
                                        ((!(((takeL
                                                                (putL (someL xs)
                                                                  { addr := nearA n, owner := { data := #[(110 : UInt8), (101 : UInt8), (119 : UInt8)] : ByteArray },
                                                                    mac := { m0 := (0 : Int), m1 := (0 : Int), m2 := (0 : Int), m3 := (0 : Int), m4 := (0 : Int), m5 := (0 : Int) : Mac } : Holder })
                                                                (nearA n)).getD
                                                            (↑g : Int).toNat (u.dflt (36 : Nat))).addr ==
                                                        ((someL xs).getD (↑g : Int).toNat (u.dflt (36 : Nat))).addr &&
                                                      (((takeL
                                                                    (putL (someL xs)
                                                                      { addr := nearA n, owner := { data := #[(110 : UInt8), (101 : UInt8), (119 : UInt8)] : ByteArray },
                                                                        mac := { m0 := (0 : Int), m1 := (0 : Int), m2 := (0 : Int), m3 := (0 : Int), m4 := (0 : Int), m5 := (0 : Int) : Mac } : Holder })
                                                                    (nearA n)).getD
                                                                (↑g : Int).toNat (u.dflt (36 : Nat))).owner.toList ==
                                                          ((someL xs).getD (↑g : Int).toNat (u.dflt (36 : Nat))).owner.toList &&
                                                        (((takeL
                                                                        (putL (someL xs)
                                                                          { addr := nearA n, owner := { data := #[(110 : UInt8), (101 : UInt8), (119 : UInt8)] : ByteArray },
                                                                            mac := { m0 := (0 : Int), m1 := (0 : Int), m2 := (0 : Int), m3 := (0 : Int), m4 := (0 : Int), m5 := (0 : Int) : Mac } : Holder })
                                                                        (nearA n)).getD
                                                                    (↑g : Int).toNat (u.dflt (36 : Nat))).mac.m0 ==
                                                              ((someL xs).getD (↑g : Int).toNat (u.dflt (36 : Nat))).mac.m0 &&
                                                            (((takeL
                                                                          (putL (someL xs)
                                                                            { addr := nearA n, owner := { data := #[(110 : UInt8), (101 : UInt8), (119 : UInt8)] : ByteArray },
                                                                              mac := { m0 := (0 : Int), m1 := (0 : Int), m2 := (0 : Int), m3 := (0 : Int), m4 := (0 : Int), m5 := (0 : Int) : Mac } : Holder })
                                                                          (nearA n)).getD
                                                                      (↑g : Int).toNat (u.dflt (36 : Nat))).mac.m1 ==
                                                                ((someL xs).getD (↑g : Int).toNat (u.dflt (36 : Nat))).mac.m1 &&
                                                              (((takeL
                                                                            (putL (someL xs)
                                                                              { addr := nearA n, owner := { data := #[(110 : UInt8), (101 : UInt8), (119 : UInt8)] : ByteArray },
                                                                                mac := { m0 := (0 : Int), m1 := (0 : Int), m2 := (0 : Int), m3 := (0 : Int), m4 := (0 : Int), m5 := (0 : Int) : Mac } : Holder })
                                                                            (nearA n)).getD
                                                                        (↑g : Int).toNat (u.dflt (36 : Nat))).mac.m2 ==
                                                                  ((someL xs).getD (↑g : Int).toNat (u.dflt (36 : Nat))).mac.m2 &&
                                                                (((takeL
                                                                              (putL (someL xs)
                                                                                { addr := nearA n, owner := { data := #[(110 : UInt8), (101 : UInt8), (119 : UInt8)] : ByteArray },
                                                                                  mac := { m0 := (0 : Int), m1 := (0 : Int), m2 := (0 : Int), m3 := (0 : Int), m4 := (0 : Int), m5 := (0 : Int) : Mac } : Holder })
                                                                              (nearA n)).getD
                                                                          (↑g : Int).toNat (u.dflt (36 : Nat))).mac.m3 ==
                                                                    ((someL xs).getD (↑g : Int).toNat (u.dflt (36 : Nat))).mac.m3 &&
                                                                  (((takeL
                                                                                (putL (someL xs)
                                                                                  { addr := nearA n, owner := { data := #[(110 : UInt8), (101 : UInt8), (119 : UInt8)] : ByteArray },
                                                                                    mac := { m0 := (0 : Int), m1 := (0 : Int), m2 := (0 : Int), m3 := (0 : Int), m4 := (0 : Int), m5 := (0 : Int) : Mac } : Holder })
                                                                                (nearA n)).getD
                                                                            (↑g : Int).toNat (u.dflt (36 : Nat))).mac.m4 ==
                                                                      ((someL xs).getD (↑g : Int).toNat (u.dflt (36 : Nat))).mac.m4 &&
                                                                    (((takeL
                                                                                  (putL (someL xs)
                                                                                    { addr := nearA n, owner := { data := #[(110 : UInt8), (101 : UInt8), (119 : UInt8)] : ByteArray },
                                                                                      mac := { m0 := (0 : Int), m1 := (0 : Int), m2 := (0 : Int), m3 := (0 : Int), m4 := (0 : Int), m5 := (0 : Int) : Mac } : Holder })
                                                                                  (nearA n)).getD
                                                                              (↑g : Int).toNat (u.dflt (36 : Nat))).mac.m5 ==
                                                                        ((someL xs).getD (↑g : Int).toNat (u.dflt (36 : Nat))).mac.m5 &&
                                                                      true))))) &&
                                                          true))) ||
                                                  !hasH
                                                      (putL (someL xs)
                                                        { addr := nearA n, owner := { data := #[(110 : UInt8), (101 : UInt8), (119 : UInt8)] : ByteArray },
                                                          mac := { m0 := (0 : Int), m1 := (0 : Int), m2 := (0 : Int), m3 := (0 : Int), m4 := (0 : Int), m5 := (0 : Int) : Mac } : Holder })
                                                      ((someL xs).getD (↑g : Int).toNat (u.dflt (36 : Nat))).addr ||
                                                !((getL
                                                          (putL (someL xs)
                                                            { addr := nearA n, owner := { data := #[(110 : UInt8), (101 : UInt8), (119 : UInt8)] : ByteArray },
                                                              mac := { m0 := (0 : Int), m1 := (0 : Int), m2 := (0 : Int), m3 := (0 : Int), m4 := (0 : Int), m5 := (0 : Int) : Mac } : Holder })
                                                          ((someL xs).getD (↑g : Int).toNat (u.dflt (36 : Nat))).addr).addr ==
                                                      ((someL xs).getD (↑g : Int).toNat (u.dflt (36 : Nat))).addr &&
                                                    ((getL
                                                              (putL (someL xs)
                                                                { addr := nearA n, owner := { data := #[(110 : UInt8), (101 : UInt8), (119 : UInt8)] : ByteArray },
                                                                  mac := { m0 := (0 : Int), m1 := (0 : Int), m2 := (0 : Int), m3 := (0 : Int), m4 := (0 : Int), m5 := (0 : Int) : Mac } : Holder })
                                                              ((someL xs).getD (↑g : Int).toNat (u.dflt (36 : Nat))).addr).owner.toList ==
                                                        ((someL xs).getD (↑g : Int).toNat (u.dflt (36 : Nat))).owner.toList &&
                                                      ((getL
                                                                  (putL (someL xs)
                                                                    { addr := nearA n, owner := { data := #[(110 : UInt8), (101 : UInt8), (119 : UInt8)] : ByteArray },
                                                                      mac := { m0 := (0 : Int), m1 := (0 : Int), m2 := (0 : Int), m3 := (0 : Int), m4 := (0 : Int), m5 := (0 : Int) : Mac } : Holder })
                                                                  ((someL xs).getD (↑g : Int).toNat (u.dflt (36 : Nat))).addr).mac.m0 ==
                                                            ((someL xs).getD (↑g : Int).toNat (u.dflt (36 : Nat))).mac.m0 &&
                                                          ((getL
                                                                    (putL (someL xs)
                                                                      { addr := nearA n, owner := { data := #[(110 : UInt8), (101 : UInt8), (119 : UInt8)] : ByteArray },
                                                                        mac := { m0 := (0 : Int), m1 := (0 : Int), m2 := (0 : Int), m3 := (0 : Int), m4 := (0 : Int), m5 := (0 : Int) : Mac } : Holder })
                                                                    ((someL xs).getD (↑g : Int).toNat (u.dflt (36 : Nat))).addr).mac.m1 ==
                                                              ((someL xs).getD (↑g : Int).toNat (u.dflt (36 : Nat))).mac.m1 &&
                                                            ((getL
                                                                      (putL (someL xs)
                                                                        { addr := nearA n, owner := { data := #[(110 : UInt8), (101 : UInt8), (119 : UInt8)] : ByteArray },
                                                                          mac := { m0 := (0 : Int), m1 := (0 : Int), m2 := (0 : Int), m3 := (0 : Int), m4 := (0 : Int), m5 := (0 : Int) : Mac } : Holder })
                                                                      ((someL xs).getD (↑g : Int).toNat (u.dflt (36 : Nat))).addr).mac.m2 ==
                                                                ((someL xs).getD (↑g : Int).toNat (u.dflt (36 : Nat))).mac.m2 &&
                                                              ((getL
                                                                        (putL (someL xs)
                                                                          { addr := nearA n, owner := { data := #[(110 : UInt8), (101 : UInt8), (119 : UInt8)] : ByteArray },
                                                                            mac := { m0 := (0 : Int), m1 := (0 : Int), m2 := (0 : Int), m3 := (0 : Int), m4 := (0 : Int), m5 := (0 : Int) : Mac } : Holder })
                                                                        ((someL xs).getD (↑g : Int).toNat (u.dflt (36 : Nat))).addr).mac.m3 ==
                                                                  ((someL xs).getD (↑g : Int).toNat (u.dflt (36 : Nat))).mac.m3 &&
                                                                ((getL
                                                                          (putL (someL xs)
                                                                            { addr := nearA n, owner := { data := #[(110 : UInt8), (101 : UInt8), (119 : UInt8)] : ByteArray },
                                                                              mac := { m0 := (0 : Int), m1 := (0 : Int), m2 := (0 : Int), m3 := (0 : Int), m4 := (0 : Int), m5 := (0 : Int) : Mac } : Holder })
                                                                          ((someL xs).getD (↑g : Int).toNat (u.dflt (36 : Nat))).addr).mac.m4 ==
                                                                    ((someL xs).getD (↑g : Int).toNat (u.dflt (36 : Nat))).mac.m4 &&
                                                                  ((getL
                                                                            (putL (someL xs)
                                                                              { addr := nearA n, owner := { data := #[(110 : UInt8), (101 : UInt8), (119 : UInt8)] : ByteArray },
                                                                                mac := { m0 := (0 : Int), m1 := (0 : Int), m2 := (0 : Int), m3 := (0 : Int), m4 := (0 : Int), m5 := (0 : Int) : Mac } : Holder })
                                                                            ((someL xs).getD (↑g : Int).toNat (u.dflt (36 : Nat))).addr).mac.m5 ==
                                                                      ((someL xs).getD (↑g : Int).toNat (u.dflt (36 : Nat))).mac.m5 &&
                                                                    true))))) &&
                                                        true)))) =
                                              true →
                                            false = true) ∧
                                          ((!(((takeL
                                                                (putL (someL xs)
                                                                  { addr := nearA n, owner := { data := #[(110 : UInt8), (101 : UInt8), (119 : UInt8)] : ByteArray },
                                                                    mac := { m0 := (0 : Int), m1 := (0 : Int), m2 := (0 : Int), m3 := (0 : Int), m4 := (0 : Int), m5 := (0 : Int) : Mac } : Holder })
                                                                (nearA n)).getD
                                                            (↑g : Int).toNat (u.dflt (36 : Nat))).addr ==
                                                        ((someL xs).getD (↑g : Int).toNat (u.dflt (36 : Nat))).addr &&
                                                      (((takeL
                                                                    (putL (someL xs)
                                                                      { addr := nearA n, owner := { data := #[(110 : UInt8), (101 : UInt8), (119 : UInt8)] : ByteArray },
                                                                        mac := { m0 := (0 : Int), m1 := (0 : Int), m2 := (0 : Int), m3 := (0 : Int), m4 := (0 : Int), m5 := (0 : Int) : Mac } : Holder })
                                                                    (nearA n)).getD
                                                                (↑g : Int).toNat (u.dflt (36 : Nat))).owner.toList ==
                                                          ((someL xs).getD (↑g : Int).toNat (u.dflt (36 : Nat))).owner.toList &&
                                                        (((takeL
                                                                        (putL (someL xs)
                                                                          { addr := nearA n, owner := { data := #[(110 : UInt8), (101 : UInt8), (119 : UInt8)] : ByteArray },
                                                                            mac := { m0 := (0 : Int), m1 := (0 : Int), m2 := (0 : Int), m3 := (0 : Int), m4 := (0 : Int), m5 := (0 : Int) : Mac } : Holder })
                                                                        (nearA n)).getD
                                                                    (↑g : Int).toNat (u.dflt (36 : Nat))).mac.m0 ==
                                                              ((someL xs).getD (↑g : Int).toNat (u.dflt (36 : Nat))).mac.m0 &&
                                                            (((takeL
                                                                          (putL (someL xs)
                                                                            { addr := nearA n, owner := { data := #[(110 : UInt8), (101 : UInt8), (119 : UInt8)] : ByteArray },
                                                                              mac := { m0 := (0 : Int), m1 := (0 : Int), m2 := (0 : Int), m3 := (0 : Int), m4 := (0 : Int), m5 := (0 : Int) : Mac } : Holder })
                                                                          (nearA n)).getD
                                                                      (↑g : Int).toNat (u.dflt (36 : Nat))).mac.m1 ==
                                                                ((someL xs).getD (↑g : Int).toNat (u.dflt (36 : Nat))).mac.m1 &&
                                                              (((takeL
                                                                            (putL (someL xs)
                                                                              { addr := nearA n, owner := { data := #[(110 : UInt8), (101 : UInt8), (119 : UInt8)] : ByteArray },
                                                                                mac := { m0 := (0 : Int), m1 := (0 : Int), m2 := (0 : Int), m3 := (0 : Int), m4 := (0 : Int), m5 := (0 : Int) : Mac } : Holder })
                                                                            (nearA n)).getD
                                                                        (↑g : Int).toNat (u.dflt (36 : Nat))).mac.m2 ==
                                                                  ((someL xs).getD (↑g : Int).toNat (u.dflt (36 : Nat))).mac.m2 &&
                                                                (((takeL
                                                                              (putL (someL xs)
                                                                                { addr := nearA n, owner := { data := #[(110 : UInt8), (101 : UInt8), (119 : UInt8)] : ByteArray },
                                                                                  mac := { m0 := (0 : Int), m1 := (0 : Int), m2 := (0 : Int), m3 := (0 : Int), m4 := (0 : Int), m5 := (0 : Int) : Mac } : Holder })
                                                                              (nearA n)).getD
                                                                          (↑g : Int).toNat (u.dflt (36 : Nat))).mac.m3 ==
                                                                    ((someL xs).getD (↑g : Int).toNat (u.dflt (36 : Nat))).mac.m3 &&
                                                                  (((takeL
                                                                                (putL (someL xs)
                                                                                  { addr := nearA n, owner := { data := #[(110 : UInt8), (101 : UInt8), (119 : UInt8)] : ByteArray },
                                                                                    mac := { m0 := (0 : Int), m1 := (0 : Int), m2 := (0 : Int), m3 := (0 : Int), m4 := (0 : Int), m5 := (0 : Int) : Mac } : Holder })
                                                                                (nearA n)).getD
                                                                            (↑g : Int).toNat (u.dflt (36 : Nat))).mac.m4 ==
                                                                      ((someL xs).getD (↑g : Int).toNat (u.dflt (36 : Nat))).mac.m4 &&
                                                                    (((takeL
                                                                                  (putL (someL xs)
                                                                                    { addr := nearA n, owner := { data := #[(110 : UInt8), (101 : UInt8), (119 : UInt8)] : ByteArray },
                                                                                      mac := { m0 := (0 : Int), m1 := (0 : Int), m2 := (0 : Int), m3 := (0 : Int), m4 := (0 : Int), m5 := (0 : Int) : Mac } : Holder })
                                                                                  (nearA n)).getD
                                                                              (↑g : Int).toNat (u.dflt (36 : Nat))).mac.m5 ==
                                                                        ((someL xs).getD (↑g : Int).toNat (u.dflt (36 : Nat))).mac.m5 &&
                                                                      true))))) &&
                                                          true))) ||
                                                  !hasH
                                                      (putL (someL xs)
                                                        { addr := nearA n, owner := { data := #[(110 : UInt8), (101 : UInt8), (119 : UInt8)] : ByteArray },
                                                          mac := { m0 := (0 : Int), m1 := (0 : Int), m2 := (0 : Int), m3 := (0 : Int), m4 := (0 : Int), m5 := (0 : Int) : Mac } : Holder })
                                                      ((someL xs).getD (↑g : Int).toNat (u.dflt (36 : Nat))).addr ||
                                                !((getL
                                                          (putL (someL xs)
                                                            { addr := nearA n, owner := { data := #[(110 : UInt8), (101 : UInt8), (119 : UInt8)] : ByteArray },
                                                              mac := { m0 := (0 : Int), m1 := (0 : Int), m2 := (0 : Int), m3 := (0 : Int), m4 := (0 : Int), m5 := (0 : Int) : Mac } : Holder })
                                                          ((someL xs).getD (↑g : Int).toNat (u.dflt (36 : Nat))).addr).addr ==
                                                      ((someL xs).getD (↑g : Int).toNat (u.dflt (36 : Nat))).addr &&
                                                    ((getL
                                                              (putL (someL xs)
                                                                { addr := nearA n, owner := { data := #[(110 : UInt8), (101 : UInt8), (119 : UInt8)] : ByteArray },
                                                                  mac := { m0 := (0 : Int), m1 := (0 : Int), m2 := (0 : Int), m3 := (0 : Int), m4 := (0 : Int), m5 := (0 : Int) : Mac } : Holder })
                                                              ((someL xs).getD (↑g : Int).toNat (u.dflt (36 : Nat))).addr).owner.toList ==
                                                        ((someL xs).getD (↑g : Int).toNat (u.dflt (36 : Nat))).owner.toList &&
                                                      ((getL
                                                                  (putL (someL xs)
                                                                    { addr := nearA n, owner := { data := #[(110 : UInt8), (101 : UInt8), (119 : UInt8)] : ByteArray },
                                                                      mac := { m0 := (0 : Int), m1 := (0 : Int), m2 := (0 : Int), m3 := (0 : Int), m4 := (0 : Int), m5 := (0 : Int) : Mac } : Holder })
                                                                  ((someL xs).getD (↑g : Int).toNat (u.dflt (36 : Nat))).addr).mac.m0 ==
                                                            ((someL xs).getD (↑g : Int).toNat (u.dflt (36 : Nat))).mac.m0 &&
                                                          ((getL
                                                                    (putL (someL xs)
                                                                      { addr := nearA n, owner := { data := #[(110 : UInt8), (101 : UInt8), (119 : UInt8)] : ByteArray },
                                                                        mac := { m0 := (0 : Int), m1 := (0 : Int), m2 := (0 : Int), m3 := (0 : Int), m4 := (0 : Int), m5 := (0 : Int) : Mac } : Holder })
                                                                    ((someL xs).getD (↑g : Int).toNat (u.dflt (36 : Nat))).addr).mac.m1 ==
                                                              ((someL xs).getD (↑g : Int).toNat (u.dflt (36 : Nat))).mac.m1 &&
                                                            ((getL
                                                                      (putL (someL xs)
                                                                        { addr := nearA n, owner := { data := #[(110 : UInt8), (101 : UInt8), (119 : UInt8)] : ByteArray },
                                                                          mac := { m0 := (0 : Int), m1 := (0 : Int), m2 := (0 : Int), m3 := (0 : Int), m4 := (0 : Int), m5 := (0 : Int) : Mac } : Holder })
                                                                      ((someL xs).getD (↑g : Int).toNat (u.dflt (36 : Nat))).addr).mac.m2 ==
                                                                ((someL xs).getD (↑g : Int).toNat (u.dflt (36 : Nat))).mac.m2 &&
                                                              ((getL
                                                                        (putL (someL xs)
                                                                          { addr := nearA n, owner := { data := #[(110 : UInt8), (101 : UInt8), (119 : UInt8)] : ByteArray },
                                                                            mac := { m0 := (0 : Int), m1 := (0 : Int), m2 := (0 : Int), m3 := (0 : Int), m4 := (0 : Int), m5 := (0 : Int) : Mac } : Holder })
                                                                        ((someL xs).getD (↑g : Int).toNat (u.dflt (36 : Nat))).addr).mac.m3 ==
                                                                  ((someL xs).getD (↑g : Int).toNat (u.dflt (36 : Nat))).mac.m3 &&
                                                                ((getL
                                                                          (putL (someL xs)
                                                                            { addr := nearA n, owner := { data := #[(110 : UInt8), (101 : UInt8), (119 : UInt8)] : ByteArray },
                                                                              mac := { m0 := (0 : Int), m1 := (0 : Int), m2 := (0 : Int), m3 := (0 : Int), m4 := (0 : Int), m5 := (0 : Int) : Mac } : Holder })
                                                                          ((someL xs).getD (↑g : Int).toNat (u.dflt (36 : Nat))).addr).mac.m4 ==
                                                                    ((someL xs).getD (↑g : Int).toNat (u.dflt (36 : Nat))).mac.m4 &&
                                                                  ((getL
                                                                            (putL (someL xs)
                                                                              { addr := nearA n, owner := { data := #[(110 : UInt8), (101 : UInt8), (119 : UInt8)] : ByteArray },
                                                                                mac := { m0 := (0 : Int), m1 := (0 : Int), m2 := (0 : Int), m3 := (0 : Int), m4 := (0 : Int), m5 := (0 : Int) : Mac } : Holder })
                                                                            ((someL xs).getD (↑g : Int).toNat (u.dflt (36 : Nat))).addr).mac.m5 ==
                                                                      ((someL xs).getD (↑g : Int).toNat (u.dflt (36 : Nat))).mac.m5 &&
                                                                    true))))) &&
                                                        true)))) =
                                              false →
                                            ∃ (g_1 : Nat),
                                              g_1.le (someL xs).length ∧
                                                (annTurns xs).μ g_1 < (annTurns xs).μ g ∧
                                                  someL xs = someL xs ∧
                                                    putL (someL xs)
                                                          { addr := nearA n, owner := { data := #[(110 : UInt8), (101 : UInt8), (119 : UInt8)] : ByteArray },
                                                            mac := { m0 := (0 : Int), m1 := (0 : Int), m2 := (0 : Int), m3 := (0 : Int), m4 := (0 : Int), m5 := (0 : Int) : Mac } : Holder } =
                                                        putL (someL xs)
                                                          { addr := nearA n, owner := { data := #[(110 : UInt8), (101 : UInt8), (119 : UInt8)] : ByteArray },
                                                            mac := { m0 := (0 : Int), m1 := (0 : Int), m2 := (0 : Int), m3 := (0 : Int), m4 := (0 : Int), m5 := (0 : Int) : Mac } : Holder } ∧
                                                      takeL
                                                            (putL (someL xs)
                                                              { addr := nearA n, owner := { data := #[(110 : UInt8), (101 : UInt8), (119 : UInt8)] : ByteArray },
                                                                mac := { m0 := (0 : Int), m1 := (0 : Int), m2 := (0 : Int), m3 := (0 : Int), m4 := (0 : Int), m5 := (0 : Int) : Mac } : Holder })
                                                            (nearA n) =
                                                          takeL
                                                            (putL (someL xs)
                                                              { addr := nearA n, owner := { data := #[(110 : UInt8), (101 : UInt8), (119 : UInt8)] : ByteArray },
                                                                mac := { m0 := (0 : Int), m1 := (0 : Int), m2 := (0 : Int), m3 := (0 : Int), m4 := (0 : Int), m5 := (0 : Int) : Mac } : Holder })
                                                            (nearA n) ∧
                                                        (↑(someL xs).length : Int) = (↑(someL xs).length : Int) ∧ IntKind.i64.wrap ((↑g : Int) + (1 : Int)) = (↑g_1 : Int))) ∧
                            (decide ((↑g : Int) < (↑(someL xs).length : Int)) = false → true = true))))

def vcLUsed : List Act → Int → Int → Prop :=
  fun (xs : List Act) (a b : Int) =>
  ((!true) = true → false = true) ∧
    ((!true) = false →
      (xs.length.succ.le (9223372036854775808 : Nat) ∧ ∀ (a : Act), a ∈ xs → (0 : Int) ≤ a.addr ∧ (0 : Int) ≤ a.owner) ∧
        (6 : Int) ≠ (0 : Int) ∧
          (0 : Int) ≤ IntKind.i64.wrap ((32 : Int) - IntKind.i64.wrap ((26 : Int) + IntKind.i64.wrap (b.tmod (6 : Int)))) ∧
            (0 : Int) ≤ IntKind.i64.wrap ((32 : Int) - IntKind.i64.wrap ((26 : Int) + IntKind.i64.wrap (b.tmod (6 : Int)))) ∧
              (halfB
                      (shl IntKind.u32 (shr IntKind.u32 (nearA a) (IntKind.i64.wrap ((32 : Int) - IntKind.i64.wrap ((26 : Int) + IntKind.i64.wrap (b.tmod (6 : Int))))))
                        (IntKind.i64.wrap ((32 : Int) - IntKind.i64.wrap ((26 : Int) + IntKind.i64.wrap (b.tmod (6 : Int))))))
                      (IntKind.i64.wrap ((26 : Int) + IntKind.i64.wrap (b.tmod (6 : Int)))) =
                    true →
                  (someL xs).length.succ.le (9223372036854775808 : Nat)) ∧
                (halfB
                        (shl IntKind.u32 (shr IntKind.u32 (nearA a) (IntKind.i64.wrap ((32 : Int) - IntKind.i64.wrap ((26 : Int) + IntKind.i64.wrap (b.tmod (6 : Int))))))
                          (IntKind.i64.wrap ((32 : Int) - IntKind.i64.wrap ((26 : Int) + IntKind.i64.wrap (b.tmod (6 : Int))))))
                        (IntKind.i64.wrap ((26 : Int) + IntKind.i64.wrap (b.tmod (6 : Int)))) =
                      true →
                    (someL xs).length.succ.le (9223372036854775808 : Nat)) ∧
                  (halfB
                          (shl IntKind.u32 (shr IntKind.u32 (nearA a) (IntKind.i64.wrap ((32 : Int) - IntKind.i64.wrap ((26 : Int) + IntKind.i64.wrap (b.tmod (6 : Int))))))
                            (IntKind.i64.wrap ((32 : Int) - IntKind.i64.wrap ((26 : Int) + IntKind.i64.wrap (b.tmod (6 : Int))))))
                          (IntKind.i64.wrap ((26 : Int) + IntKind.i64.wrap (b.tmod (6 : Int)))) =
                        true →
                      (someL xs).length.succ.le (9223372036854775808 : Nat)) ∧
                    ((halfB
                              (shl IntKind.u32 (shr IntKind.u32 (nearA a) (IntKind.i64.wrap ((32 : Int) - IntKind.i64.wrap ((26 : Int) + IntKind.i64.wrap (b.tmod (6 : Int))))))
                                (IntKind.i64.wrap ((32 : Int) - IntKind.i64.wrap ((26 : Int) + IntKind.i64.wrap (b.tmod (6 : Int))))))
                              (IntKind.i64.wrap ((26 : Int) + IntKind.i64.wrap (b.tmod (6 : Int)))) &&
                            IntKind.i64.wrap
                                (usedL
                                    (if
                                        halfB
                                            (shl IntKind.u32 (shr IntKind.u32 (nearA a) (IntKind.i64.wrap ((32 : Int) - IntKind.i64.wrap ((26 : Int) + IntKind.i64.wrap (b.tmod (6 : Int))))))
                                              (IntKind.i64.wrap ((32 : Int) - IntKind.i64.wrap ((26 : Int) + IntKind.i64.wrap (b.tmod (6 : Int))))))
                                            (IntKind.i64.wrap ((26 : Int) + IntKind.i64.wrap (b.tmod (6 : Int)))) =
                                          true then
                                      shl IntKind.u32 (shr IntKind.u32 (nearA a) (IntKind.i64.wrap ((32 : Int) - IntKind.i64.wrap ((26 : Int) + IntKind.i64.wrap (b.tmod (6 : Int))))))
                                        (IntKind.i64.wrap ((32 : Int) - IntKind.i64.wrap ((26 : Int) + IntKind.i64.wrap (b.tmod (6 : Int)))))
                                    else (0 : Int))
                                    (if
                                        halfB
                                            (shl IntKind.u32 (shr IntKind.u32 (nearA a) (IntKind.i64.wrap ((32 : Int) - IntKind.i64.wrap ((26 : Int) + IntKind.i64.wrap (b.tmod (6 : Int))))))
                                              (IntKind.i64.wrap ((32 : Int) - IntKind.i64.wrap ((26 : Int) + IntKind.i64.wrap (b.tmod (6 : Int))))))
                                            (IntKind.i64.wrap ((26 : Int) + IntKind.i64.wrap (b.tmod (6 : Int)))) =
                                          true then
                                      halfN (IntKind.i64.wrap ((26 : Int) + IntKind.i64.wrap (b.tmod (6 : Int))))
                                    else (0 : Int))
                                    (someL xs) +
                                  usedL
                                    (if
                                        halfB
                                            (shl IntKind.u32 (shr IntKind.u32 (nearA a) (IntKind.i64.wrap ((32 : Int) - IntKind.i64.wrap ((26 : Int) + IntKind.i64.wrap (b.tmod (6 : Int))))))
                                              (IntKind.i64.wrap ((32 : Int) - IntKind.i64.wrap ((26 : Int) + IntKind.i64.wrap (b.tmod (6 : Int))))))
                                            (IntKind.i64.wrap ((26 : Int) + IntKind.i64.wrap (b.tmod (6 : Int)))) =
                                          true then
                                      highA
                                        (shl IntKind.u32 (shr IntKind.u32 (nearA a) (IntKind.i64.wrap ((32 : Int) - IntKind.i64.wrap ((26 : Int) + IntKind.i64.wrap (b.tmod (6 : Int))))))
                                          (IntKind.i64.wrap ((32 : Int) - IntKind.i64.wrap ((26 : Int) + IntKind.i64.wrap (b.tmod (6 : Int))))))
                                        (IntKind.i64.wrap ((26 : Int) + IntKind.i64.wrap (b.tmod (6 : Int))))
                                    else (0 : Int))
                                    (if
                                        halfB
                                            (shl IntKind.u32 (shr IntKind.u32 (nearA a) (IntKind.i64.wrap ((32 : Int) - IntKind.i64.wrap ((26 : Int) + IntKind.i64.wrap (b.tmod (6 : Int))))))
                                              (IntKind.i64.wrap ((32 : Int) - IntKind.i64.wrap ((26 : Int) + IntKind.i64.wrap (b.tmod (6 : Int))))))
                                            (IntKind.i64.wrap ((26 : Int) + IntKind.i64.wrap (b.tmod (6 : Int)))) =
                                          true then
                                      halfN (IntKind.i64.wrap ((26 : Int) + IntKind.i64.wrap (b.tmod (6 : Int))))
                                    else (0 : Int))
                                    (someL xs)) ==
                              usedL
                                (shl IntKind.u32 (shr IntKind.u32 (nearA a) (IntKind.i64.wrap ((32 : Int) - IntKind.i64.wrap ((26 : Int) + IntKind.i64.wrap (b.tmod (6 : Int))))))
                                  (IntKind.i64.wrap ((32 : Int) - IntKind.i64.wrap ((26 : Int) + IntKind.i64.wrap (b.tmod (6 : Int))))))
                                (IntKind.i64.wrap ((26 : Int) + IntKind.i64.wrap (b.tmod (6 : Int)))) (someL xs)) =
                          true →
                        (someL xs).length.succ.le (9223372036854775808 : Nat)) ∧
                      ((halfB
                                  (shl IntKind.u32 (shr IntKind.u32 (nearA a) (IntKind.i64.wrap ((32 : Int) - IntKind.i64.wrap ((26 : Int) + IntKind.i64.wrap (b.tmod (6 : Int))))))
                                    (IntKind.i64.wrap ((32 : Int) - IntKind.i64.wrap ((26 : Int) + IntKind.i64.wrap (b.tmod (6 : Int))))))
                                  (IntKind.i64.wrap ((26 : Int) + IntKind.i64.wrap (b.tmod (6 : Int)))) &&
                                IntKind.i64.wrap
                                    (usedL
                                        (if
                                            halfB
                                                (shl IntKind.u32 (shr IntKind.u32 (nearA a) (IntKind.i64.wrap ((32 : Int) - IntKind.i64.wrap ((26 : Int) + IntKind.i64.wrap (b.tmod (6 : Int))))))
                                                  (IntKind.i64.wrap ((32 : Int) - IntKind.i64.wrap ((26 : Int) + IntKind.i64.wrap (b.tmod (6 : Int))))))
                                                (IntKind.i64.wrap ((26 : Int) + IntKind.i64.wrap (b.tmod (6 : Int)))) =
                                              true then
                                          shl IntKind.u32 (shr IntKind.u32 (nearA a) (IntKind.i64.wrap ((32 : Int) - IntKind.i64.wrap ((26 : Int) + IntKind.i64.wrap (b.tmod (6 : Int))))))
                                            (IntKind.i64.wrap ((32 : Int) - IntKind.i64.wrap ((26 : Int) + IntKind.i64.wrap (b.tmod (6 : Int)))))
                                        else (0 : Int))
                                        (if
                                            halfB
                                                (shl IntKind.u32 (shr IntKind.u32 (nearA a) (IntKind.i64.wrap ((32 : Int) - IntKind.i64.wrap ((26 : Int) + IntKind.i64.wrap (b.tmod (6 : Int))))))
                                                  (IntKind.i64.wrap ((32 : Int) - IntKind.i64.wrap ((26 : Int) + IntKind.i64.wrap (b.tmod (6 : Int))))))
                                                (IntKind.i64.wrap ((26 : Int) + IntKind.i64.wrap (b.tmod (6 : Int)))) =
                                              true then
                                          halfN (IntKind.i64.wrap ((26 : Int) + IntKind.i64.wrap (b.tmod (6 : Int))))
                                        else (0 : Int))
                                        (someL xs) +
                                      usedL
                                        (if
                                            halfB
                                                (shl IntKind.u32 (shr IntKind.u32 (nearA a) (IntKind.i64.wrap ((32 : Int) - IntKind.i64.wrap ((26 : Int) + IntKind.i64.wrap (b.tmod (6 : Int))))))
                                                  (IntKind.i64.wrap ((32 : Int) - IntKind.i64.wrap ((26 : Int) + IntKind.i64.wrap (b.tmod (6 : Int))))))
                                                (IntKind.i64.wrap ((26 : Int) + IntKind.i64.wrap (b.tmod (6 : Int)))) =
                                              true then
                                          highA
                                            (shl IntKind.u32 (shr IntKind.u32 (nearA a) (IntKind.i64.wrap ((32 : Int) - IntKind.i64.wrap ((26 : Int) + IntKind.i64.wrap (b.tmod (6 : Int))))))
                                              (IntKind.i64.wrap ((32 : Int) - IntKind.i64.wrap ((26 : Int) + IntKind.i64.wrap (b.tmod (6 : Int))))))
                                            (IntKind.i64.wrap ((26 : Int) + IntKind.i64.wrap (b.tmod (6 : Int))))
                                        else (0 : Int))
                                        (if
                                            halfB
                                                (shl IntKind.u32 (shr IntKind.u32 (nearA a) (IntKind.i64.wrap ((32 : Int) - IntKind.i64.wrap ((26 : Int) + IntKind.i64.wrap (b.tmod (6 : Int))))))
                                                  (IntKind.i64.wrap ((32 : Int) - IntKind.i64.wrap ((26 : Int) + IntKind.i64.wrap (b.tmod (6 : Int))))))
                                                (IntKind.i64.wrap ((26 : Int) + IntKind.i64.wrap (b.tmod (6 : Int)))) =
                                              true then
                                          halfN (IntKind.i64.wrap ((26 : Int) + IntKind.i64.wrap (b.tmod (6 : Int))))
                                        else (0 : Int))
                                        (someL xs)) ==
                                  usedL
                                    (shl IntKind.u32 (shr IntKind.u32 (nearA a) (IntKind.i64.wrap ((32 : Int) - IntKind.i64.wrap ((26 : Int) + IntKind.i64.wrap (b.tmod (6 : Int))))))
                                      (IntKind.i64.wrap ((32 : Int) - IntKind.i64.wrap ((26 : Int) + IntKind.i64.wrap (b.tmod (6 : Int))))))
                                    (IntKind.i64.wrap ((26 : Int) + IntKind.i64.wrap (b.tmod (6 : Int)))) (someL xs) &&
                              decide
                                (usedL
                                    (shl IntKind.u32 (shr IntKind.u32 (nearA a) (IntKind.i64.wrap ((32 : Int) - IntKind.i64.wrap ((26 : Int) + IntKind.i64.wrap (b.tmod (6 : Int))))))
                                      (IntKind.i64.wrap ((32 : Int) - IntKind.i64.wrap ((26 : Int) + IntKind.i64.wrap (b.tmod (6 : Int))))))
                                    (IntKind.i64.wrap ((26 : Int) + IntKind.i64.wrap (b.tmod (6 : Int)))) (someL xs) ≤
                                  (↑(someL xs).length : Int))) =
                            true →
                          (someL xs).length.succ.le (9223372036854775808 : Nat)) ∧
                        (halfB
                                  (shl IntKind.u32 (shr IntKind.u32 (nearA a) (IntKind.i64.wrap ((32 : Int) - IntKind.i64.wrap ((26 : Int) + IntKind.i64.wrap (b.tmod (6 : Int))))))
                                    (IntKind.i64.wrap ((32 : Int) - IntKind.i64.wrap ((26 : Int) + IntKind.i64.wrap (b.tmod (6 : Int))))))
                                  (IntKind.i64.wrap ((26 : Int) + IntKind.i64.wrap (b.tmod (6 : Int)))) &&
                                IntKind.i64.wrap
                                    (usedL
                                        (if
                                            halfB
                                                (shl IntKind.u32 (shr IntKind.u32 (nearA a) (IntKind.i64.wrap ((32 : Int) - IntKind.i64.wrap ((26 : Int) + IntKind.i64.wrap (b.tmod (6 : Int))))))
                                                  (IntKind.i64.wrap ((32 : Int) - IntKind.i64.wrap ((26 : Int) + IntKind.i64.wrap (b.tmod (6 : Int))))))
                                                (IntKind.i64.wrap ((26 : Int) + IntKind.i64.wrap (b.tmod (6 : Int)))) =
                                              true then
                                          shl IntKind.u32 (shr IntKind.u32 (nearA a) (IntKind.i64.wrap ((32 : Int) - IntKind.i64.wrap ((26 : Int) + IntKind.i64.wrap (b.tmod (6 : Int))))))
                                            (IntKind.i64.wrap ((32 : Int) - IntKind.i64.wrap ((26 : Int) + IntKind.i64.wrap (b.tmod (6 : Int)))))
                                        else (0 : Int))
                                        (if
                                            halfB
                                                (shl IntKind.u32 (shr IntKind.u32 (nearA a) (IntKind.i64.wrap ((32 : Int) - IntKind.i64.wrap ((26 : Int) + IntKind.i64.wrap (b.tmod (6 : Int))))))
                                                  (IntKind.i64.wrap ((32 : Int) - IntKind.i64.wrap ((26 : Int) + IntKind.i64.wrap (b.tmod (6 : Int))))))
                                                (IntKind.i64.wrap ((26 : Int) + IntKind.i64.wrap (b.tmod (6 : Int)))) =
                                              true then
                                          halfN (IntKind.i64.wrap ((26 : Int) + IntKind.i64.wrap (b.tmod (6 : Int))))
                                        else (0 : Int))
                                        (someL xs) +
                                      usedL
                                        (if
                                            halfB
                                                (shl IntKind.u32 (shr IntKind.u32 (nearA a) (IntKind.i64.wrap ((32 : Int) - IntKind.i64.wrap ((26 : Int) + IntKind.i64.wrap (b.tmod (6 : Int))))))
                                                  (IntKind.i64.wrap ((32 : Int) - IntKind.i64.wrap ((26 : Int) + IntKind.i64.wrap (b.tmod (6 : Int))))))
                                                (IntKind.i64.wrap ((26 : Int) + IntKind.i64.wrap (b.tmod (6 : Int)))) =
                                              true then
                                          highA
                                            (shl IntKind.u32 (shr IntKind.u32 (nearA a) (IntKind.i64.wrap ((32 : Int) - IntKind.i64.wrap ((26 : Int) + IntKind.i64.wrap (b.tmod (6 : Int))))))
                                              (IntKind.i64.wrap ((32 : Int) - IntKind.i64.wrap ((26 : Int) + IntKind.i64.wrap (b.tmod (6 : Int))))))
                                            (IntKind.i64.wrap ((26 : Int) + IntKind.i64.wrap (b.tmod (6 : Int))))
                                        else (0 : Int))
                                        (if
                                            halfB
                                                (shl IntKind.u32 (shr IntKind.u32 (nearA a) (IntKind.i64.wrap ((32 : Int) - IntKind.i64.wrap ((26 : Int) + IntKind.i64.wrap (b.tmod (6 : Int))))))
                                                  (IntKind.i64.wrap ((32 : Int) - IntKind.i64.wrap ((26 : Int) + IntKind.i64.wrap (b.tmod (6 : Int))))))
                                                (IntKind.i64.wrap ((26 : Int) + IntKind.i64.wrap (b.tmod (6 : Int)))) =
                                              true then
                                          halfN (IntKind.i64.wrap ((26 : Int) + IntKind.i64.wrap (b.tmod (6 : Int))))
                                        else (0 : Int))
                                        (someL xs)) ==
                                  usedL
                                    (shl IntKind.u32 (shr IntKind.u32 (nearA a) (IntKind.i64.wrap ((32 : Int) - IntKind.i64.wrap ((26 : Int) + IntKind.i64.wrap (b.tmod (6 : Int))))))
                                      (IntKind.i64.wrap ((32 : Int) - IntKind.i64.wrap ((26 : Int) + IntKind.i64.wrap (b.tmod (6 : Int))))))
                                    (IntKind.i64.wrap ((26 : Int) + IntKind.i64.wrap (b.tmod (6 : Int)))) (someL xs) &&
                              decide
                                (usedL
                                    (shl IntKind.u32 (shr IntKind.u32 (nearA a) (IntKind.i64.wrap ((32 : Int) - IntKind.i64.wrap ((26 : Int) + IntKind.i64.wrap (b.tmod (6 : Int))))))
                                      (IntKind.i64.wrap ((32 : Int) - IntKind.i64.wrap ((26 : Int) + IntKind.i64.wrap (b.tmod (6 : Int))))))
                                    (IntKind.i64.wrap ((26 : Int) + IntKind.i64.wrap (b.tmod (6 : Int)))) (someL xs) ≤
                                  (↑(someL xs).length : Int)) &&
                            usedL (0 : Int) (0 : Int) (someL xs) == (↑(someL xs).length : Int)) =
                          true)

def vcLNext : List Act → Int → Int → Int → Int → Prop :=
  fun (xs : List Act) (a b base bits : Int) =>
  ((!true) = true → false = true) ∧
    ((!true) = false →
      (xs.length.succ.le (9223372036854775808 : Nat) ∧ ∀ (a : Act), a ∈ xs → (0 : Int) ≤ a.addr ∧ (0 : Int) ≤ a.owner) ∧
        (7 : Int) ≠ (0 : Int) ∧
          (0 : Int) ≤ IntKind.i64.wrap ((32 : Int) - IntKind.i64.wrap ((26 : Int) + IntKind.i64.wrap (b.tmod (7 : Int)))) ∧
            (0 : Int) ≤ IntKind.i64.wrap ((32 : Int) - IntKind.i64.wrap ((26 : Int) + IntKind.i64.wrap (b.tmod (7 : Int)))) ∧
              (∃ (g : Nat),
                  g.le (sizeN (bitsN b)) ∧
                    (True ∧
                        someL xs = someL xs ∧
                          IntKind.i64.wrap ((26 : Int) + IntKind.i64.wrap (b.tmod (7 : Int))) = IntKind.i64.wrap ((26 : Int) + IntKind.i64.wrap (b.tmod (7 : Int))) ∧
                            True ∧
                              (0 : Int) = (↑g : Int) ∧
                                (0 : Int) = (↑(refAt (someL xs) (baseN a (bitsN b)) g).fst : Int) ∧
                                  (0 : Int) = (refAt (someL xs) (baseN a (bitsN b)) g).snd.fst ∧ false = (refAt (someL xs) (baseN a (bitsN b)) g).snd.snd) ∧
                      (base = base ∧ bits = bits) ∧
                        shl IntKind.u32 (shr IntKind.u32 (nearA a) (IntKind.i64.wrap ((32 : Int) - IntKind.i64.wrap ((26 : Int) + IntKind.i64.wrap (b.tmod (7 : Int))))))
                              (IntKind.i64.wrap ((32 : Int) - IntKind.i64.wrap ((26 : Int) + IntKind.i64.wrap (b.tmod (7 : Int))))) =
                            shl IntKind.u32 (shr IntKind.u32 (nearA a) (IntKind.i64.wrap ((32 : Int) - IntKind.i64.wrap ((26 : Int) + IntKind.i64.wrap (b.tmod (7 : Int))))))
                              (IntKind.i64.wrap ((32 : Int) - IntKind.i64.wrap ((26 : Int) + IntKind.i64.wrap (b.tmod (7 : Int))))) ∧
                          IntKind.i64.wrap ((26 : Int) + IntKind.i64.wrap (b.tmod (7 : Int))) = IntKind.i64.wrap ((26 : Int) + IntKind.i64.wrap (b.tmod (7 : Int)))) ∧
                ∀ (g : Nat),
                  g.le (sizeN (bitsN b)) →
                    (0 : Int) ≤ IntKind.i64.wrap ((32 : Int) - IntKind.i64.wrap ((26 : Int) + IntKind.i64.wrap (b.tmod (7 : Int)))) ∧
                      (decide ((↑g : Int) < shl IntKind.i64 (1 : Int) (IntKind.i64.wrap ((32 : Int) - IntKind.i64.wrap ((26 : Int) + IntKind.i64.wrap (b.tmod (7 : Int)))))) = true →
                          ((someL xs).length ≤ (1000000 : Nat) ∧ ∀ (i j : Nat), i < j → j < (someL xs).length → (getH (someL xs) i).addr < (getH (someL xs) j).addr) ∧
                            (hasH (someL xs)
                                    (IntKind.u32.wrap
                                      (shl IntKind.u32 (shr IntKind.u32 (nearA a) (IntKind.i64.wrap ((32 : Int) - IntKind.i64.wrap ((26 : Int) + IntKind.i64.wrap (b.tmod (7 : Int))))))
                                          (IntKind.i64.wrap ((32 : Int) - IntKind.i64.wrap ((26 : Int) + IntKind.i64.wrap (b.tmod (7 : Int))))) +
                                        IntKind.u32.wrap (↑g : Int))) =
                                  true →
                                ∃ (g_1 : Nat),
                                  g_1.le (sizeN (bitsN b)) ∧
                                    (annNextL (someL xs) (baseN a (bitsN b)) (sizeN (bitsN b))).μ g_1 < (annNextL (someL xs) (baseN a (bitsN b)) (sizeN (bitsN b))).μ g ∧
                                      (True ∧
                                          someL xs = someL xs ∧
                                            IntKind.i64.wrap ((26 : Int) + IntKind.i64.wrap (b.tmod (7 : Int))) = IntKind.i64.wrap ((26 : Int) + IntKind.i64.wrap (b.tmod (7 : Int))) ∧
                                              True ∧
                                                IntKind.i64.wrap ((↑g : Int) + (1 : Int)) = (↑g_1 : Int) ∧
                                                  IntKind.i64.wrap ((↑(refAt (someL xs) (baseN a (bitsN b)) g).fst : Int) + (1 : Int)) = (↑(refAt (someL xs) (baseN a (bitsN b)) g_1).fst : Int) ∧
                                                    (refAt (someL xs) (baseN a (bitsN b)) g).snd.fst = (refAt (someL xs) (baseN a (bitsN b)) g_1).snd.fst ∧
                                                      (refAt (someL xs) (baseN a (bitsN b)) g).snd.snd = (refAt (someL xs) (baseN a (bitsN b)) g_1).snd.snd) ∧
                                        (base = base ∧ bits = bits) ∧
                                          shl IntKind.u32 (shr IntKind.u32 (nearA a) (IntKind.i64.wrap ((32 : Int) - IntKind.i64.wrap ((26 : Int) + IntKind.i64.wrap (b.tmod (7 : Int))))))
                                                (IntKind.i64.wrap ((32 : Int) - IntKind.i64.wrap ((26 : Int) + IntKind.i64.wrap (b.tmod (7 : Int))))) =
                                              shl IntKind.u32 (shr IntKind.u32 (nearA a) (IntKind.i64.wrap ((32 : Int) - IntKind.i64.wrap ((26 : Int) + IntKind.i64.wrap (b.tmod (7 : Int))))))
                                                (IntKind.i64.wrap ((32 : Int) - IntKind.i64.wrap ((26 : Int) + IntKind.i64.wrap (b.tmod (7 : Int))))) ∧
                                            IntKind.i64.wrap ((26 : Int) + IntKind.i64.wrap (b.tmod (7 : Int))) = IntKind.i64.wrap ((26 : Int) + IntKind.i64.wrap (b.tmod (7 : Int)))) ∧
                              (hasH (someL xs)
                                    (IntKind.u32.wrap
                                      (shl IntKind.u32 (shr IntKind.u32 (nearA a) (IntKind.i64.wrap ((32 : Int) - IntKind.i64.wrap ((26 : Int) + IntKind.i64.wrap (b.tmod (7 : Int))))))
                                          (IntKind.i64.wrap ((32 : Int) - IntKind.i64.wrap ((26 : Int) + IntKind.i64.wrap (b.tmod (7 : Int))))) +
                                        IntKind.u32.wrap (↑g : Int))) =
                                  false →
                                ((!(refAt (someL xs) (baseN a (bitsN b)) g).snd.snd) = true → True) ∧
                                  ((!(refAt (someL xs) (baseN a (bitsN b)) g).snd.snd) = false → True) ∧
                                    ∀ (v : Int),
                                      (v =
                                          if (!(refAt (someL xs) (baseN a (bitsN b)) g).snd.snd) = true then
                                            IntKind.u32.wrap
                                              (shl IntKind.u32 (shr IntKind.u32 (nearA a) (IntKind.i64.wrap ((32 : Int) - IntKind.i64.wrap ((26 : Int) + IntKind.i64.wrap (b.tmod (7 : Int))))))
                                                  (IntKind.i64.wrap ((32 : Int) - IntKind.i64.wrap ((26 : Int) + IntKind.i64.wrap (b.tmod (7 : Int))))) +
                                                IntKind.u32.wrap (↑g : Int))
                                          else (refAt (someL xs) (baseN a (bitsN b)) g).snd.fst) →
                                        ∀ (v_1 : Bool),
                                          (v_1 = if (!(refAt (someL xs) (baseN a (bitsN b)) g).snd.snd) = true then true else (refAt (someL xs) (baseN a (bitsN b)) g).snd.snd) →
                                            ∃ (g_1 : Nat),
                                              g_1.le (sizeN (bitsN b)) ∧
                                                (annNextL (someL xs) (baseN a (bitsN b)) (sizeN (bitsN b))).μ g_1 < (annNextL (someL xs) (baseN a (bitsN b)) (sizeN (bitsN b))).μ g ∧
                                                  (True ∧
                                                      someL xs = someL xs ∧
                                                        IntKind.i64.wrap ((26 : Int) + IntKind.i64.wrap (b.tmod (7 : Int))) = IntKind.i64.wrap ((26 : Int) + IntKind.i64.wrap (b.tmod (7 : Int))) ∧
                                                          True ∧
                                                            IntKind.i64.wrap ((↑g : Int) + (1 : Int)) = (↑g_1 : Int) ∧
                                                              (↑(refAt (someL xs) (baseN a (bitsN b)) g).fst : Int) = (↑(refAt (someL xs) (baseN a (bitsN b)) g_1).fst : Int) ∧
                                                                v = (refAt (someL xs) (baseN a (bitsN b)) g_1).snd.fst ∧ v_1 = (refAt (someL xs) (baseN a (bitsN b)) g_1).snd.snd) ∧
                                                    (base = base ∧ bits = bits) ∧
                                                      shl IntKind.u32 (shr IntKind.u32 (nearA a) (IntKind.i64.wrap ((32 : Int) - IntKind.i64.wrap ((26 : Int) + IntKind.i64.wrap (b.tmod (7 : Int))))))
                                                            (IntKind.i64.wrap ((32 : Int) - IntKind.i64.wrap ((26 : Int) + IntKind.i64.wrap (b.tmod (7 : Int))))) =
                                                          shl IntKind.u32 (shr IntKind.u32 (nearA a) (IntKind.i64.wrap ((32 : Int) - IntKind.i64.wrap ((26 : Int) + IntKind.i64.wrap (b.tmod (7 : Int))))))
                                                            (IntKind.i64.wrap ((32 : Int) - IntKind.i64.wrap ((26 : Int) + IntKind.i64.wrap (b.tmod (7 : Int))))) ∧
                                                        IntKind.i64.wrap ((26 : Int) + IntKind.i64.wrap (b.tmod (7 : Int))) = IntKind.i64.wrap ((26 : Int) + IntKind.i64.wrap (b.tmod (7 : Int))))) ∧
                        (decide ((↑g : Int) < shl IntKind.i64 (1 : Int) (IntKind.i64.wrap ((32 : Int) - IntKind.i64.wrap ((26 : Int) + IntKind.i64.wrap (b.tmod (7 : Int)))))) = false →
                          ((someL xs).length ≤ (1000000 : Nat) ∧ ∀ (i j : Nat), i < j → j < (someL xs).length → (getH (someL xs) i).addr < (getH (someL xs) j).addr) ∧
                            ((someL xs).length ≤ (1000000 : Nat) ∧ ∀ (i j : Nat), i < j → j < (someL xs).length → (getH (someL xs) i).addr < (getH (someL xs) j).addr) ∧
                              ((!nextB (someL xs) base bits == rightA base bits && nextB (someL xs) base bits || nextB (someL xs) base bits && !hasA base bits (nextV (someL xs) base bits) ||
                                      !nextB (someL xs) base bits && nextV (someL xs) base bits != (0 : Int)) =
                                    true →
                                  false = true) ∧
                                ((!nextB (someL xs) base bits == rightA base bits && nextB (someL xs) base bits || nextB (someL xs) base bits && !hasA base bits (nextV (someL xs) base bits) ||
                                      !nextB (someL xs) base bits && nextV (someL xs) base bits != (0 : Int)) =
                                    false →
                                  (someL xs).length.succ.le (9223372036854775808 : Nat) ∧
                                    (usedL
                                              (shl IntKind.u32 (shr IntKind.u32 (nearA a) (IntKind.i64.wrap ((32 : Int) - IntKind.i64.wrap ((26 : Int) + IntKind.i64.wrap (b.tmod (7 : Int))))))
                                                (IntKind.i64.wrap ((32 : Int) - IntKind.i64.wrap ((26 : Int) + IntKind.i64.wrap (b.tmod (7 : Int))))))
                                              (IntKind.i64.wrap ((26 : Int) + IntKind.i64.wrap (b.tmod (7 : Int)))) (someL xs) ==
                                            (↑(refAt (someL xs) (baseN a (bitsN b)) g).fst : Int) &&
                                          nextV (someL xs)
                                              (shl IntKind.u32 (shr IntKind.u32 (nearA a) (IntKind.i64.wrap ((32 : Int) - IntKind.i64.wrap ((26 : Int) + IntKind.i64.wrap (b.tmod (7 : Int))))))
                                                (IntKind.i64.wrap ((32 : Int) - IntKind.i64.wrap ((26 : Int) + IntKind.i64.wrap (b.tmod (7 : Int))))))
                                              (IntKind.i64.wrap ((26 : Int) + IntKind.i64.wrap (b.tmod (7 : Int)))) ==
                                            (refAt (someL xs) (baseN a (bitsN b)) g).snd.fst &&
                                        nextB (someL xs)
                                            (shl IntKind.u32 (shr IntKind.u32 (nearA a) (IntKind.i64.wrap ((32 : Int) - IntKind.i64.wrap ((26 : Int) + IntKind.i64.wrap (b.tmod (7 : Int))))))
                                              (IntKind.i64.wrap ((32 : Int) - IntKind.i64.wrap ((26 : Int) + IntKind.i64.wrap (b.tmod (7 : Int))))))
                                            (IntKind.i64.wrap ((26 : Int) + IntKind.i64.wrap (b.tmod (7 : Int)))) ==
                                          (refAt (someL xs) (baseN a (bitsN b)) g).snd.snd) =
                                      true)))

def vcLRight : List Holder → List Act → Int → Prop :=
  fun (hs : List Holder) (xs : List Act) (n : Int) =>
  ((!true) = true → false = true) ∧
    ((!true) = false →
      (xs.length.succ.le (9223372036854775808 : Nat) ∧ ∀ (a : Act), a ∈ xs → (0 : Int) ≤ a.addr ∧ (0 : Int) ≤ a.owner) ∧
        ((someL xs).length < (9223372036854775808 : Nat) ∧ ∀ (x : Holder), x ∈ someL xs → x.owner.size < (9223372036854775808 : Nat)) ∧
          ((!rightB (someL xs)) = true → false = true) ∧
            ((!rightB (someL xs)) = false →
              (decide ((↑(someL xs).length : Int) > (0 : Int)) = true →
                  (someL xs).length * (32 : Nat) ≤ (140737488355328 : Nat) ∧
                    (↑(someL xs).length : Int) ≠ (0 : Int) ∧
                      ((0 : Int) ≤ (IntKind.i64.wrap n).tmod (↑(someL xs).length : Int) ∧ (IntKind.i64.wrap n).tmod (↑(someL xs).length : Int) < (↑(someL xs).length : Int)) ∧
                        (∃ (g : Nat),
                            g.le (2 : Nat) ∧
                              (↑[hs,
                                          (someL xs).set ((IntKind.i64.wrap n).tmod (↑(someL xs).length : Int)).toNat
                                            { addr := nearA n, owner := ((someL xs).getD ((IntKind.i64.wrap n).tmod (↑(someL xs).length : Int)).toNat (u.dflt (36 : Nat))).owner,
                                              mac :=
                                                { m0 := ((someL xs).getD ((IntKind.i64.wrap n).tmod (↑(someL xs).length : Int)).toNat (u.dflt (36 : Nat))).mac.m0,
                                                  m1 := ((someL xs).getD ((IntKind.i64.wrap n).tmod (↑(someL xs).length : Int)).toNat (u.dflt (36 : Nat))).mac.m1,
                                                  m2 := ((someL xs).getD ((IntKind.i64.wrap n).tmod (↑(someL xs).length : Int)).toNat (u.dflt (36 : Nat))).mac.m2,
                                                  m3 := ((someL xs).getD ((IntKind.i64.wrap n).tmod (↑(someL xs).length : Int)).toNat (u.dflt (36 : Nat))).mac.m3,
                                                  m4 := ((someL xs).getD ((IntKind.i64.wrap n).tmod (↑(someL xs).length : Int)).toNat (u.dflt (36 : Nat))).mac.m4,
                                                  m5 := ((someL xs).getD ((IntKind.i64.wrap n).tmod (↑(someL xs).length : Int)).toNat (u.dflt (36 : Nat))).mac.m5 : Mac } :
                                              Holder }].length :
                                    Int) =
                                  (↑[hs,
                                          (someL xs).set ((IntKind.i64.wrap n).tmod (↑(someL xs).length : Int)).toNat
                                            { addr := nearA n, owner := ((someL xs).getD ((IntKind.i64.wrap n).tmod (↑(someL xs).length : Int)).toNat (u.dflt (36 : Nat))).owner,
                                              mac :=
                                                { m0 := ((someL xs).getD ((IntKind.i64.wrap n).tmod (↑(someL xs).length : Int)).toNat (u.dflt (36 : Nat))).mac.m0,
                                                  m1 := ((someL xs).getD ((IntKind.i64.wrap n).tmod (↑(someL xs).length : Int)).toNat (u.dflt (36 : Nat))).mac.m1,
                                                  m2 := ((someL xs).getD ((IntKind.i64.wrap n).tmod (↑(someL xs).length : Int)).toNat (u.dflt (36 : Nat))).mac.m2,
                                                  m3 := ((someL xs).getD ((IntKind.i64.wrap n).tmod (↑(someL xs).length : Int)).toNat (u.dflt (36 : Nat))).mac.m3,
                                                  m4 := ((someL xs).getD ((IntKind.i64.wrap n).tmod (↑(someL xs).length : Int)).toNat (u.dflt (36 : Nat))).mac.m4,
                                                  m5 := ((someL xs).getD ((IntKind.i64.wrap n).tmod (↑(someL xs).length : Int)).toNat (u.dflt (36 : Nat))).mac.m5 : Mac } :
                                              Holder }].length :
                                    Int) ∧
                                [hs,
                                      (someL xs).set ((IntKind.i64.wrap n).tmod (↑(someL xs).length : Int)).toNat
                                        { addr := nearA n, owner := ((someL xs).getD ((IntKind.i64.wrap n).tmod (↑(someL xs).length : Int)).toNat (u.dflt (36 : Nat))).owner,
                                          mac :=
                                            { m0 := ((someL xs).getD ((IntKind.i64.wrap n).tmod (↑(someL xs).length : Int)).toNat (u.dflt (36 : Nat))).mac.m0,
                                              m1 := ((someL xs).getD ((IntKind.i64.wrap n).tmod (↑(someL xs).length : Int)).toNat (u.dflt (36 : Nat))).mac.m1,
                                              m2 := ((someL xs).getD ((IntKind.i64.wrap n).tmod (↑(someL xs).length : Int)).toNat (u.dflt (36 : Nat))).mac.m2,
                                              m3 := ((someL xs).getD ((IntKind.i64.wrap n).tmod (↑(someL xs).length : Int)).toNat (u.dflt (36 : Nat))).mac.m3,
                                              m4 := ((someL xs).getD ((IntKind.i64.wrap n).tmod (↑(someL xs).length : Int)).toNat (u.dflt (36 : Nat))).mac.m4,
                                              m5 := ((someL xs).getD ((IntKind.i64.wrap n).tmod (↑(someL xs).length : Int)).toNat (u.dflt (36 : Nat))).mac.m5 : Mac } :
                                          Holder }] =
                                    [hs, turnA (someL xs) n] ∧
                                  (0 : Int) = (↑g : Int)) ∧
                          ∀ (g : Nat),
                            g.le (2 : Nat) →
                              (decide
                                      ((↑g : Int) <
                                        (↑[hs,
                                                (someL xs).set ((IntKind.i64.wrap n).tmod (↑(someL xs).length : Int)).toNat
                                                  { addr := nearA n, owner := ((someL xs).getD ((IntKind.i64.wrap n).tmod (↑(someL xs).length : Int)).toNat (u.dflt (36 : Nat))).owner,
                                                    mac :=
                                                      { m0 := ((someL xs).getD ((IntKind.i64.wrap n).tmod (↑(someL xs).length : Int)).toNat (u.dflt (36 : Nat))).mac.m0,
                                                        m1 := ((someL xs).getD ((IntKind.i64.wrap n).tmod (↑(someL xs).length : Int)).toNat (u.dflt (36 : Nat))).mac.m1,
                                                        m2 := ((someL xs).getD ((IntKind.i64.wrap n).tmod (↑(someL xs).length : Int)).toNat (u.dflt (36 : Nat))).mac.m2,
                                                        m3 := ((someL xs).getD ((IntKind.i64.wrap n).tmod (↑(someL xs).length : Int)).toNat (u.dflt (36 : Nat))).mac.m3,
                                                        m4 := ((someL xs).getD ((IntKind.i64.wrap n).tmod (↑(someL xs).length : Int)).toNat (u.dflt (36 : Nat))).mac.m4,
                                                        m5 := ((someL xs).getD ((IntKind.i64.wrap n).tmod (↑(someL xs).length : Int)).toNat (u.dflt (36 : Nat))).mac.m5 : Mac } :
                                                    Holder }].length :
                                          Int)) =
                                    true →
                                  ((0 : Int) ≤ (↑g : Int) ∧ (↑g : Int) < (↑[hs, turnA (someL xs) n].length : Int)) ∧
                                    (∃ (g_1 : Nat),
                                        g_1.le (pickL hs (turnA (someL xs) n) g).length ∧
                                          [hs, turnA (someL xs) n].getD (↑g : Int).toNat (u.dflt (30 : Nat)) = [hs, turnA (someL xs) n].getD (↑g : Int).toNat (u.dflt (30 : Nat)) ∧
                                            [hs, turnA (someL xs) n] = [hs, turnA (someL xs) n] ∧
                                              (↑[hs,
                                                          (someL xs).set ((IntKind.i64.wrap n).tmod (↑(someL xs).length : Int)).toNat
                                                            { addr := nearA n, owner := ((someL xs).getD ((IntKind.i64.wrap n).tmod (↑(someL xs).length : Int)).toNat (u.dflt (36 : Nat))).owner,
                                                              mac :=
                                                                { m0 := ((someL xs).getD ((IntKind.i64.wrap n).tmod (↑(someL xs).length : Int)).toNat (u.dflt (36 : Nat))).mac.m0,
                                                                  m1 := ((someL xs).getD ((IntKind.i64.wrap n).tmod (↑(someL xs).length : Int)).toNat (u.dflt (36 : Nat))).mac.m1,
                                                                  m2 := ((someL xs).getD ((IntKind.i64.wrap n).tmod (↑(someL xs).length : Int)).toNat (u.dflt (36 : Nat))).mac.m2,
                                                                  m3 := ((someL xs).getD ((IntKind.i64.wrap n).tmod (↑(someL xs).length : Int)).toNat (u.dflt (36 : Nat))).mac.m3,
                                                                  m4 := ((someL xs).getD ((IntKind.i64.wrap n).tmod (↑(someL xs).length : Int)).toNat (u.dflt (36 : Nat))).mac.m4,
                                                                  m5 := ((someL xs).getD ((IntKind.i64.wrap n).tmod (↑(someL xs).length : Int)).toNat (u.dflt (36 : Nat))).mac.m5 : Mac } :
                                                              Holder }].length :
                                                    Int) =
                                                  (↑[hs,
                                                          (someL xs).set ((IntKind.i64.wrap n).tmod (↑(someL xs).length : Int)).toNat
                                                            { addr := nearA n, owner := ((someL xs).getD ((IntKind.i64.wrap n).tmod (↑(someL xs).length : Int)).toNat (u.dflt (36 : Nat))).owner,
                                                              mac :=
                                                                { m0 := ((someL xs).getD ((IntKind.i64.wrap n).tmod (↑(someL xs).length : Int)).toNat (u.dflt (36 : Nat))).mac.m0,
                                                                  m1 := ((someL xs).getD ((IntKind.i64.wrap n).tmod (↑(someL xs).length : Int)).toNat (u.dflt (36 : Nat))).mac.m1,
                                                                  m2 := ((someL xs).getD ((IntKind.i64.wrap n).tmod (↑(someL xs).length : Int)).toNat (u.dflt (36 : Nat))).mac.m2,
                                                                  m3 := ((someL xs).getD ((IntKind.i64.wrap n).tmod (↑(someL xs).length : Int)).toNat (u.dflt (36 : Nat))).mac.m3,
                                                                  m4 := ((someL xs).getD ((IntKind.i64.wrap n).tmod (↑(someL xs).length : Int)).toNat (u.dflt (36 : Nat))).mac.m4,
                                                                  m5 := ((someL xs).getD ((IntKind.i64.wrap n).tmod (↑(someL xs).length : Int)).toNat (u.dflt (36 : Nat))).mac.m5 : Mac } :
                                                              Holder }].length :
                                                    Int) ∧
                                                (↑g : Int) = (↑g : Int) ∧
                                                  [hs, turnA (someL xs) n].getD (↑g : Int).toNat (u.dflt (30 : Nat)) = [hs, turnA (someL xs) n].getD (↑g : Int).toNat (u.dflt (30 : Nat)) ∧
                                                    (↑(List.length ([hs, turnA (someL xs) n].getD (↑g : Int).toNat (u.dflt (30 : Nat)))) : Int) =
                                                        (↑(List.length ([hs, turnA (someL xs) n].getD (↑g : Int).toNat (u.dflt (30 : Nat)))) : Int) ∧
                                                      (0 : Int) = (↑g_1 : Int) ∧
                                                        decide ((↑(List.length ([hs, turnA (someL xs) n].getD (↑g : Int).toNat (u.dflt (30 : Nat)))) : Int) ≤ (48 : Int)) = okToL (pickL hs (turnA (someL xs) n) g) g_1) ∧
                                      ∀ (g_1 : Nat),
                                        g_1.le (pickL hs (turnA (someL xs) n) g).length →
                                          (decide ((↑g_1 : Int) < (↑(List.length ([hs, turnA (someL xs) n].getD (↑g : Int).toNat (u.dflt (30 : Nat)))) : Int)) = true →
                                              ((0 : Int) ≤ (↑g_1 : Int) ∧ (↑g_1 : Int) < (↑(List.length ([hs, turnA (someL xs) n].getD (↑g : Int).toNat (u.dflt (30 : Nat)))) : Int)) ∧
                                                (okToL (pickL hs (turnA (someL xs) n) g) g_1 = true →
                                                    (List.getD ([hs, turnA (someL xs) n].getD (↑g : Int).toNat (u.dflt (30 : Nat))) (↑g_1 : Int).toNat (u.dflt (36 : Nat))).owner.size.succ.le
                                                      (9223372036854775808 : Nat)) ∧
                                                  ((okToL (pickL hs (turnA (someL xs) n) g) g_1 &&
                                                          mayL (List.getD ([hs, turnA (someL xs) n].getD (↑g : Int).toNat (u.dflt (30 : Nat))) (↑g_1 : Int).toNat (u.dflt (36 : Nat))).owner) =
                                                        true →
                                                      ((↑g_1 : Int) == (0 : Int)) = false →
                                                        (0 : Int) ≤ IntKind.i64.wrap ((↑g_1 : Int) - (1 : Int)) ∧
                                                          IntKind.i64.wrap ((↑g_1 : Int) - (1 : Int)) < (↑(List.length ([hs, turnA (someL xs) n].getD (↑g : Int).toNat (u.dflt (30 : Nat)))) : Int)) ∧
                                                    ∃ (g_2 : Nat),
                                                      g_2.le (pickL hs (turnA (someL xs) n) g).length ∧
                                                        (annRightL2 hs (turnA (someL xs) n) g).μ g_2 < (annRightL2 hs (turnA (someL xs) n) g).μ g_1 ∧
                                                          [hs, turnA (someL xs) n].getD (↑g : Int).toNat (u.dflt (30 : Nat)) = [hs, turnA (someL xs) n].getD (↑g : Int).toNat (u.dflt (30 : Nat)) ∧
                                                            [hs, turnA (someL xs) n] = [hs, turnA (someL xs) n] ∧
                                                              (↑[hs,
                                                                          (someL xs).set ((IntKind.i64.wrap n).tmod (↑(someL xs).length : Int)).toNat
                                                                            { addr := nearA n, owner := ((someL xs).getD ((IntKind.i64.wrap n).tmod (↑(someL xs).length : Int)).toNat (u.dflt (36 : Nat))).owner,
                                                                              mac :=
                                                                                { m0 := ((someL xs).getD ((IntKind.i64.wrap n).tmod (↑(someL xs).length : Int)).toNat (u.dflt (36 : Nat))).mac.m0,
                                                                                  m1 := ((someL xs).getD ((IntKind.i64.wrap n).tmod (↑(someL xs).length : Int)).toNat (u.dflt (36 : Nat))).mac.m1,
                                                                                  m2 := ((someL xs).getD ((IntKind.i64.wrap n).tmod (↑(someL xs).length : Int)).toNat (u.dflt (36 : Nat))).mac.m2,
                                                                                  m3 := ((someL xs).getD ((IntKind.i64.wrap n).tmod (↑(someL xs).length : Int)).toNat (u.dflt (36 : Nat))).mac.m3,
                                                                                  m4 := ((someL xs).getD ((IntKind.i64.wrap n).tmod (↑(someL xs).length : Int)).toNat (u.dflt (36 : Nat))).mac.m4,
                                                                                  m5 := ((someL xs).getD ((IntKind.i64.wrap n).tmod (↑(someL xs).length : Int)).toNat (u.dflt (36 : Nat))).mac.m5 : Mac } :
                                                                              Holder }].length :
                                                                    Int) =
                                                                  (↑[hs,
                                                                          (someL xs).set ((IntKind.i64.wrap n).tmod (↑(someL xs).length : Int)).toNat
                                                                            { addr := nearA n, owner := ((someL xs).getD ((IntKind.i64.wrap n).tmod (↑(someL xs).length : Int)).toNat (u.dflt (36 : Nat))).owner,
                                                                              mac :=
                                                                                { m0 := ((someL xs).getD ((IntKind.i64.wrap n).tmod (↑(someL xs).length : Int)).toNat (u.dflt (36 : Nat))).mac.m0,
                                                                                  m1 := ((someL xs).getD ((IntKind.i64.wrap n).tmod (↑(someL xs).length : Int)).toNat (u.dflt (36 : Nat))).mac.m1,
                                                                                  m2 := ((someL xs).getD ((IntKind.i64.wrap n).tmod (↑(someL xs).length : Int)).toNat (u.dflt (36 : Nat))).mac.m2,
                                                                                  m3 := ((someL xs).getD ((IntKind.i64.wrap n).tmod (↑(someL xs).length : Int)).toNat (u.dflt (36 : Nat))).mac.m3,
                                                                                  m4 := ((someL xs).getD ((IntKind.i64.wrap n).tmod (↑(someL xs).length : Int)).toNat (u.dflt (36 : Nat))).mac.m4,
                                                                                  m5 := ((someL xs).getD ((IntKind.i64.wrap n).tmod (↑(someL xs).length : Int)).toNat (u.dflt (36 : Nat))).mac.m5 : Mac } :
                                                                              Holder }].length :
                                                                    Int) ∧
                                                                (↑g : Int) = (↑g : Int) ∧
                                                                  [hs, turnA (someL xs) n].getD (↑g : Int).toNat (u.dflt (30 : Nat)) = [hs, turnA (someL xs) n].getD (↑g : Int).toNat (u.dflt (30 : Nat)) ∧
                                                                    (↑(List.length ([hs, turnA (someL xs) n].getD (↑g : Int).toNat (u.dflt (30 : Nat)))) : Int) =
                                                                        (↑(List.length ([hs, turnA (someL xs) n].getD (↑g : Int).toNat (u.dflt (30 : Nat)))) : Int) ∧
                                                                      IntKind.i64.wrap ((↑g_1 : Int) + (1 : Int)) = (↑g_2 : Int) ∧
                                                                        (okToL (pickL hs (turnA (someL xs) n) g) g_1 &&
                                                                              mayL (List.getD ([hs, turnA (someL xs) n].getD (↑g : Int).toNat (u.dflt (30 : Nat))) (↑g_1 : Int).toNat (u.dflt (36 : Nat))).owner &&
                                                                            ((↑g_1 : Int) == (0 : Int) ||
                                                                              decide
                                                                                ((List.getD ([hs, turnA (someL xs) n].getD (↑g : Int).toNat (u.dflt (30 : Nat))) (IntKind.i64.wrap ((↑g_1 : Int) - (1 : Int))).toNat
                                                                                      (u.dflt (36 : Nat))).addr <
                                                                                  (List.getD ([hs, turnA (someL xs) n].getD (↑g : Int).toNat (u.dflt (30 : Nat))) (↑g_1 : Int).toNat (u.dflt (36 : Nat))).addr))) =
                                                                          okToL (pickL hs (turnA (someL xs) n) g) g_2) ∧
                                            (decide ((↑g_1 : Int) < (↑(List.length ([hs, turnA (someL xs) n].getD (↑g : Int).toNat (u.dflt (30 : Nat)))) : Int)) = false →
                                              (List.length ([hs, turnA (someL xs) n].getD (↑g : Int).toNat (u.dflt (30 : Nat))) < (9223372036854775808 : Nat) ∧
                                                  ∀ (x : Holder), x ∈ [hs, turnA (someL xs) n].getD (↑g : Int).toNat (u.dflt (30 : Nat)) → x.owner.size < (9223372036854775808 : Nat)) ∧
                                                ((!rightB ([hs, turnA (someL xs) n].getD (↑g : Int).toNat (u.dflt (30 : Nat))) == okToL (pickL hs (turnA (someL xs) n) g) g_1) = true → false = true) ∧
                                                  ((!rightB ([hs, turnA (someL xs) n].getD (↑g : Int).toNat (u.dflt (30 : Nat))) == okToL (pickL hs (turnA (someL xs) n) g) g_1) = false →
                                                    ∃ (g_2 : Nat),
                                                      g_2.le (2 : Nat) ∧
                                                        (annRightL hs (turnA (someL xs) n)).μ g_2 < (annRightL hs (turnA (someL xs) n)).μ g ∧
                                                          (↑[hs,
                                                                      (someL xs).set ((IntKind.i64.wrap n).tmod (↑(someL xs).length : Int)).toNat
                                                                        { addr := nearA n, owner := ((someL xs).getD ((IntKind.i64.wrap n).tmod (↑(someL xs).length : Int)).toNat (u.dflt (36 : Nat))).owner,
                                                                          mac :=
                                                                            { m0 := ((someL xs).getD ((IntKind.i64.wrap n).tmod (↑(someL xs).length : Int)).toNat (u.dflt (36 : Nat))).mac.m0,
                                                                              m1 := ((someL xs).getD ((IntKind.i64.wrap n).tmod (↑(someL xs).length : Int)).toNat (u.dflt (36 : Nat))).mac.m1,
                                                                              m2 := ((someL xs).getD ((IntKind.i64.wrap n).tmod (↑(someL xs).length : Int)).toNat (u.dflt (36 : Nat))).mac.m2,
                                                                              m3 := ((someL xs).getD ((IntKind.i64.wrap n).tmod (↑(someL xs).length : Int)).toNat (u.dflt (36 : Nat))).mac.m3,
                                                                              m4 := ((someL xs).getD ((IntKind.i64.wrap n).tmod (↑(someL xs).length : Int)).toNat (u.dflt (36 : Nat))).mac.m4,
                                                                              m5 := ((someL xs).getD ((IntKind.i64.wrap n).tmod (↑(someL xs).length : Int)).toNat (u.dflt (36 : Nat))).mac.m5 : Mac } :
                                                                          Holder }].length :
                                                                Int) =
                                                              (↑[hs,
                                                                      (someL xs).set ((IntKind.i64.wrap n).tmod (↑(someL xs).length : Int)).toNat
                                                                        { addr := nearA n, owner := ((someL xs).getD ((IntKind.i64.wrap n).tmod (↑(someL xs).length : Int)).toNat (u.dflt (36 : Nat))).owner,
                                                                          mac :=
                                                                            { m0 := ((someL xs).getD ((IntKind.i64.wrap n).tmod (↑(someL xs).length : Int)).toNat (u.dflt (36 : Nat))).mac.m0,
                                                                              m1 := ((someL xs).getD ((IntKind.i64.wrap n).tmod (↑(someL xs).length : Int)).toNat (u.dflt (36 : Nat))).mac.m1,
                                                                              m2 := ((someL xs).getD ((IntKind.i64.wrap n).tmod (↑(someL xs).length : Int)).toNat (u.dflt (36 : Nat))).mac.m2,
                                                                              m3 := ((someL xs).getD ((IntKind.i64.wrap n).tmod (↑(someL xs).length : Int)).toNat (u.dflt (36 : Nat))).mac.m3,
                                                                              m4 := ((someL xs).getD ((IntKind.i64.wrap n).tmod (↑(someL xs).length : Int)).toNat (u.dflt (36 : Nat))).mac.m4,
                                                                              m5 := ((someL xs).getD ((IntKind.i64.wrap n).tmod (↑(someL xs).length : Int)).toNat (u.dflt (36 : Nat))).mac.m5 : Mac } :
                                                                          Holder }].length :
                                                                Int) ∧
                                                            [hs, turnA (someL xs) n] = [hs, turnA (someL xs) n] ∧ IntKind.i64.wrap ((↑g : Int) + (1 : Int)) = (↑g_2 : Int)))) ∧
                                (decide
                                      ((↑g : Int) <
                                        (↑[hs,
                                                (someL xs).set ((IntKind.i64.wrap n).tmod (↑(someL xs).length : Int)).toNat
                                                  { addr := nearA n, owner := ((someL xs).getD ((IntKind.i64.wrap n).tmod (↑(someL xs).length : Int)).toNat (u.dflt (36 : Nat))).owner,
                                                    mac :=
                                                      { m0 := ((someL xs).getD ((IntKind.i64.wrap n).tmod (↑(someL xs).length : Int)).toNat (u.dflt (36 : Nat))).mac.m0,
                                                        m1 := ((someL xs).getD ((IntKind.i64.wrap n).tmod (↑(someL xs).length : Int)).toNat (u.dflt (36 : Nat))).mac.m1,
                                                        m2 := ((someL xs).getD ((IntKind.i64.wrap n).tmod (↑(someL xs).length : Int)).toNat (u.dflt (36 : Nat))).mac.m2,
                                                        m3 := ((someL xs).getD ((IntKind.i64.wrap n).tmod (↑(someL xs).length : Int)).toNat (u.dflt (36 : Nat))).mac.m3,
                                                        m4 := ((someL xs).getD ((IntKind.i64.wrap n).tmod (↑(someL xs).length : Int)).toNat (u.dflt (36 : Nat))).mac.m4,
                                                        m5 := ((someL xs).getD ((IntKind.i64.wrap n).tmod (↑(someL xs).length : Int)).toNat (u.dflt (36 : Nat))).mac.m5 : Mac } :
                                                    Holder }].length :
                                          Int)) =
                                    false →
                                  true = true)) ∧
                (decide ((↑(someL xs).length : Int) > (0 : Int)) = false →
                  (∃ (g : Nat), g.le (2 : Nat) ∧ (↑[hs, someL xs].length : Int) = (↑[hs, someL xs].length : Int) ∧ [hs, someL xs] = [hs, turnA (someL xs) n] ∧ (0 : Int) = (↑g : Int)) ∧
                    ∀ (g : Nat),
                      g.le (2 : Nat) →
                        (decide ((↑g : Int) < (↑[hs, someL xs].length : Int)) = true →
                            ((0 : Int) ≤ (↑g : Int) ∧ (↑g : Int) < (↑[hs, turnA (someL xs) n].length : Int)) ∧
                              (∃ (g_1 : Nat),
                                  g_1.le (pickL hs (turnA (someL xs) n) g).length ∧
                                    [hs, turnA (someL xs) n].getD (↑g : Int).toNat (u.dflt (30 : Nat)) = [hs, turnA (someL xs) n].getD (↑g : Int).toNat (u.dflt (30 : Nat)) ∧
                                      [hs, turnA (someL xs) n] = [hs, turnA (someL xs) n] ∧
                                        (↑[hs, someL xs].length : Int) = (↑[hs, someL xs].length : Int) ∧
                                          (↑g : Int) = (↑g : Int) ∧
                                            [hs, turnA (someL xs) n].getD (↑g : Int).toNat (u.dflt (30 : Nat)) = [hs, turnA (someL xs) n].getD (↑g : Int).toNat (u.dflt (30 : Nat)) ∧
                                              (↑(List.length ([hs, turnA (someL xs) n].getD (↑g : Int).toNat (u.dflt (30 : Nat)))) : Int) =
                                                  (↑(List.length ([hs, turnA (someL xs) n].getD (↑g : Int).toNat (u.dflt (30 : Nat)))) : Int) ∧
                                                (0 : Int) = (↑g_1 : Int) ∧
                                                  decide ((↑(List.length ([hs, turnA (someL xs) n].getD (↑g : Int).toNat (u.dflt (30 : Nat)))) : Int) ≤ (48 : Int)) = okToL (pickL hs (turnA (someL xs) n) g) g_1) ∧
                                ∀ (g_1 : Nat),
                                  g_1.le (pickL hs (turnA (someL xs) n) g).length →
                                    (decide ((↑g_1 : Int) < (↑(List.length ([hs, turnA (someL xs) n].getD (↑g : Int).toNat (u.dflt (30 : Nat)))) : Int)) = true →
                                        ((0 : Int) ≤ (↑g_1 : Int) ∧ (↑g_1 : Int) < (↑(List.length ([hs, turnA (someL xs) n].getD (↑g : Int).toNat (u.dflt (30 : Nat)))) : Int)) ∧
                                          (okToL (pickL hs (turnA (someL xs) n) g) g_1 = true →
                                              (List.getD ([hs, turnA (someL xs) n].getD (↑g : Int).toNat (u.dflt (30 : Nat))) (↑g_1 : Int).toNat (u.dflt (36 : Nat))).owner.size.succ.le (9223372036854775808 : Nat)) ∧
                                            ((okToL (pickL hs (turnA (someL xs) n) g) g_1 &&
                                                    mayL (List.getD ([hs, turnA (someL xs) n].getD (↑g : Int).toNat (u.dflt (30 : Nat))) (↑g_1 : Int).toNat (u.dflt (36 : Nat))).owner) =
                                                  true →
                                                ((↑g_1 : Int) == (0 : Int)) = false →
                                                  (0 : Int) ≤ IntKind.i64.wrap ((↑g_1 : Int) - (1 : Int)) ∧
                                                    IntKind.i64.wrap ((↑g_1 : Int) - (1 : Int)) < (↑(List.length ([hs, turnA (someL xs) n].getD (↑g : Int).toNat (u.dflt (30 : Nat)))) : Int)) ∧
                                              ∃ (g_2 : Nat),
                                                g_2.le (pickL hs (turnA (someL xs) n) g).length ∧
                                                  (annRightL2 hs (turnA (someL xs) n) g).μ g_2 < (annRightL2 hs (turnA (someL xs) n) g).μ g_1 ∧
                                                    [hs, turnA (someL xs) n].getD (↑g : Int).toNat (u.dflt (30 : Nat)) = [hs, turnA (someL xs) n].getD (↑g : Int).toNat (u.dflt (30 : Nat)) ∧
                                                      [hs, turnA (someL xs) n] = [hs, turnA (someL xs) n] ∧
                                                        (↑[hs, someL xs].length : Int) = (↑[hs, someL xs].length : Int) ∧
                                                          (↑g : Int) = (↑g : Int) ∧
                                                            [hs, turnA (someL xs) n].getD (↑g : Int).toNat (u.dflt (30 : Nat)) = [hs, turnA (someL xs) n].getD (↑g : Int).toNat (u.dflt (30 : Nat)) ∧
                                                              (↑(List.length ([hs, turnA (someL xs) n].getD (↑g : Int).toNat (u.dflt (30 : Nat)))) : Int) =
                                                                  (↑(List.length ([hs, turnA (someL xs) n].getD (↑g : Int).toNat (u.dflt (30 : Nat)))) : Int) ∧
                                                                IntKind.i64.wrap ((↑g_1 : Int) + (1 : Int)) = (↑g_2 : Int) ∧
                                                                  (okToL (pickL hs (turnA (someL xs) n) g) g_1 &&
                                                                        mayL (List.getD ([hs, turnA (someL xs) n].getD (↑g : Int).toNat (u.dflt (30 : Nat))) (↑g_1 : Int).toNat (u.dflt (36 : Nat))).owner &&
                                                                      ((↑g_1 : Int) == (0 : Int) ||
                                                                        decide
                                                                          ((List.getD ([hs, turnA (someL xs) n].getD (↑g : Int).toNat (u.dflt (30 : Nat))) (IntKind.i64.wrap ((↑g_1 : Int) - (1 : Int))).toNat
                                                                                (u.dflt (36 : Nat))).addr <
                                                                            (List.getD ([hs, turnA (someL xs) n].getD (↑g : Int).toNat (u.dflt (30 : Nat))) (↑g_1 : Int).toNat (u.dflt (36 : Nat))).addr))) =
                                                                    okToL (pickL hs (turnA (someL xs) n) g) g_2) ∧
                                      (decide ((↑g_1 : Int) < (↑(List.length ([hs, turnA (someL xs) n].getD (↑g : Int).toNat (u.dflt (30 : Nat)))) : Int)) = false →
                                        (List.length ([hs, turnA (someL xs) n].getD (↑g : Int).toNat (u.dflt (30 : Nat))) < (9223372036854775808 : Nat) ∧
                                            ∀ (x : Holder), x ∈ [hs, turnA (someL xs) n].getD (↑g : Int).toNat (u.dflt (30 : Nat)) → x.owner.size < (9223372036854775808 : Nat)) ∧
                                          ((!rightB ([hs, turnA (someL xs) n].getD (↑g : Int).toNat (u.dflt (30 : Nat))) == okToL (pickL hs (turnA (someL xs) n) g) g_1) = true → false = true) ∧
                                            ((!rightB ([hs, turnA (someL xs) n].getD (↑g : Int).toNat (u.dflt (30 : Nat))) == okToL (pickL hs (turnA (someL xs) n) g) g_1) = false →
                                              ∃ (g_2 : Nat),
                                                g_2.le (2 : Nat) ∧
                                                  (annRightL hs (turnA (someL xs) n)).μ g_2 < (annRightL hs (turnA (someL xs) n)).μ g ∧
                                                    (↑[hs, someL xs].length : Int) = (↑[hs, someL xs].length : Int) ∧
                                                      [hs, turnA (someL xs) n] = [hs, turnA (someL xs) n] ∧ IntKind.i64.wrap ((↑g : Int) + (1 : Int)) = (↑g_2 : Int)))) ∧
                          (decide ((↑g : Int) < (↑[hs, someL xs].length : Int)) = false → true = true))))


end Go.Proofs.Ytfpapepjobfahaa.Held
