/- The seat: nodes, in the slices. -/
import Derived.Test.YtkalaofppiifcaaSl2
